/- A part of the proof of a row by an interpreter that is proved sound; no conditions of its own. -/
import Derived.Test.YtipfkflogjfbjaaAbSeal
namespace Ab
open Go

variable {P : Program}

/-! ### Values as they are handed over -/

theorem exCell_view {objs objs' : Store} (h : ∀ i off len n, viewA objs' i off len n = viewA objs i off len n) (c : A) : exCell objs' c = exCell objs c := by
  unfold exCell; split <;> simp [h]

theorem exCells_view {objs objs' : Store} (h : ∀ i off len n, viewA objs' i off len n = viewA objs i off len n) : ∀ cs : List A, exCells objs' cs = exCells objs cs
  | [] => rfl
  | c :: cs => by unfold exCells; rw [exCell_view h, exCells_view h cs]

theorem exA_view {objs objs' : Store} (h : ∀ i off len n, viewA objs' i off len n = viewA objs i off len n) (c : A) : exA objs' c = exA objs c := by
  unfold exA; split
  · rw [exCells_view h]
  · rfl
  · exact exCell_view h c

theorem shutA_leaf {objs : Store} {c : A} (h : ∀ id off len n, c ≠ .arr id off len n) (h2 : ∀ cs, c ≠ .agg cs) : shutA objs c = objs := by
  unfold shutA; split
  · exact absurd rfl (h _ _ _ _)
  · exact absurd rfl (h2 _)
  · rfl

theorem exCell_ok {w : World} (c : A) (hc : ∀ cs, c ≠ .agg cs) {C : Cx} {objs : Store} (g : Good C objs w) {v : Value} (r : RelA C objs c v) {y : A} (h : exCell objs c = some y) :
    ∃ C', Sealed C objs w C' (shutA objs c) ∧ RelA C' (shutA objs c) y v := by
  unfold exCell at h
  split at h
  · cases h
    rw [shutA_leaf (by intros; simp) (by intros; simp)]
    cases r with
    | nilsl _ a => exact ⟨C, .refl g, .d (RelD.sl (M := C.M) _ [] a 0 (fun _ _ => undef) (Nat.zero_le _) (by simp) (by simp) (by simp))⟩
  · rename_i id off len n
    split at h
    · rename_i sz es hv
      cases h
      obtain ⟨C', h1, h2⟩ := shut_arr g r
      exact ⟨C', h1, .d (h2 sz es hv)⟩
    · cases h
  · rename_i hne1 hne2
    cases h
    rw [shutA_leaf (fun id off len n e => hne2 id off len n e) hc]
    exact ⟨C, .refl g, r⟩

theorem exCells_ok {w : World} : ∀ (cs : List A) {C : Cx} {objs : Store} (_ : Good C objs w) {vs : List Value} (_ : RelL C objs cs vs) (_ : ∀ c ∈ cs, ∀ ds, c ≠ .agg ds) {ys : List A} (_ : exCells objs cs = some ys),
    ∃ C', Sealed C objs w C' (shutAs objs cs) ∧ RelL C' (shutAs objs cs) ys vs
  | [], C, objs, g, vs, r, _, ys, h => by
    unfold exCells at h; cases h
    rw [r.unnil]
    exact ⟨C, by unfold shutAs; exact .refl g, .nil _ _⟩
  | c :: cs, C, objs, g, vs, r, ha, ys, h => by
    unfold exCells at h
    split at h
    · rename_i x hx
      split at h
      · rename_i y hy
        cases h
        obtain ⟨v, us, rfl, h1, h2⟩ := r.uncons
        obtain ⟨C1, s1, r1⟩ := exCell_ok c (ha c (by simp)) g h1 hx
        obtain ⟨C2, s2, r2⟩ := exCells_ok cs s1.good (h2.adv s1.adv) (fun d hd => ha d (by simp [hd])) (by rw [exCells_view s1.view]; exact hy)
        refine ⟨C2, by unfold shutAs; exact s1.trans s2, ?_⟩
        have e : shutAs objs (c :: cs) = shutAs (shutA objs c) cs := by conv => lhs; unfold shutAs
        rw [e]
        exact .cons (r1.adv s2.adv) r2
      · cases h
    · cases h

theorem exA_ok {w : World} (c : A) (hf : c.flat = true) {C : Cx} {objs : Store} (g : Good C objs w) {v : Value} (r : RelA C objs c v) {y : A} (h : exA objs c = some y) :
    ∃ C', Sealed C objs w C' (shutA objs c) ∧ RelA C' (shutA objs c) y v := by
  unfold exA at h
  split at h
  · rename_i cs
    split at h
    · rename_i ys hy
      cases h
      cases r with
      | agg _ vs hl hr =>
        obtain ⟨C', h1, h2⟩ := exCells_ok cs g (relL_of_array hl hr) (fun d hd ds e => by
          subst e
          simp only [A.flat, List.all_eq_true] at hf
          have := hf _ hd
          simp at this) hy
        refine ⟨C', by unfold shutA; exact h1, ?_⟩
        have := RelA.agg' h2
        unfold shutA
        simpa using this
    · cases h
  · cases h
  · rename_i hne _
    exact exCell_ok c (fun cs e => hne cs e) g r h

theorem exAs_view {objs objs' : Store} (h : ∀ i off len n, viewA objs' i off len n = viewA objs i off len n) : ∀ cs : List A, exAs objs' cs = exAs objs cs
  | [] => rfl
  | c :: cs => by unfold exAs; rw [exA_view h, exAs_view h cs]

theorem exAs_ok {w : World} : ∀ (cs : List A) (_ : cs.all A.flat = true) {C : Cx} {objs : Store} (_ : Good C objs w) {vs : List Value} (_ : RelL C objs cs vs) {ys : List A} (_ : exAs objs cs = some ys),
    ∃ C', Sealed C objs w C' (shutAs objs cs) ∧ RelL C' (shutAs objs cs) ys vs
  | [], _, C, objs, g, vs, r, ys, h => by
    unfold exAs at h; cases h
    rw [r.unnil]
    exact ⟨C, by unfold shutAs; exact .refl g, .nil _ _⟩
  | c :: cs, hf, C, objs, g, vs, r, ys, h => by
    simp only [List.all_cons, Bool.and_eq_true] at hf
    unfold exAs at h
    split at h
    · rename_i x hx
      split at h
      · rename_i y hy
        cases h
        obtain ⟨v, us, rfl, h1, h2⟩ := r.uncons
        obtain ⟨C1, s1, r1⟩ := exA_ok c hf.1 g h1 hx
        obtain ⟨C2, s2, r2⟩ := exAs_ok cs hf.2 s1.good (h2.adv s1.adv) (by rw [exAs_view s1.view]; exact hy)
        refine ⟨C2, by unfold shutAs; exact s1.trans s2, ?_⟩
        have e : shutAs objs (c :: cs) = shutAs (shutA objs c) cs := by conv => lhs; unfold shutAs
        rw [e]
        exact .cons (r1.adv s2.adv) r2
      · cases h
    · cases h

/-! ### Stores -/

theorem setRow_same (w : World) (b : Nat) (cs : Array Value) : (w.setRow b cs).os = w.os ∧ (w.setRow b cs).tape = w.tape ∧ (w.setRow b cs).output = w.output ∧ (w.setRow b cs).heap.size = w.heap.size := by
  simp [World.setRow]

theorem cell_heap {w w' : World} {a : Addr} (h : w'.heap[a.block]? = w.heap[a.block]?) : w'.cell? a = w.cell? a := by simp [World.cell?, h]

/-- A box's cells are written. -/
theorem setBox_ok {C : Cx} {objs : Store} {w : World} (g : Good C objs w) {id b n : Nat} {bs cs : List A} (ho : objs[id]? = some (.box bs)) (hb : C.φ id = some (b, n)) {vs : Array Value} {us : List Value} {t : TypeId}
    (hh : w.heap[b]? = some (.cells vs t (0, 0))) (hr : RelL C objs cs us) (hlen : us.length = bs.length) (hl : cs.all A.leaf = true) :
    Adv C objs w C (objs.set id (.box cs)) (w.setRow b us.toArray) ∧ Good C (objs.set id (.box cs)) (w.setRow b us.toArray) := by
  have hid : id < objs.length := (List.getElem?_eq_some_iff.1 ho).1
  obtain ⟨b', vs', t', h1, h2, h3, h4, h5⟩ := g.obj id _ ho
  rw [hb] at h1; cases h1
  obtain ⟨e1, e2, e3, e4⟩ := setRow_same w b us.toArray
  have hcl : cs.length = bs.length := hr.1.trans hlen
  have adv : Adv C objs w C (objs.set id (.box cs)) (w.setRow b us.toArray) := by
    refine ⟨fun _ _ h => h, by simp, fun j x hx => ?_, e1, e2, e3, by omega, fun k hk hn => ?_, fun _ _ h => .inl h, fun j b n hj hb => .inr ⟨j, n, by simpa using hj, hb⟩⟩
    · by_cases hj : j = id
      · subst hj; rw [ho] at hx; cases hx; exact ⟨rfl, cs, by simp [hid]⟩
      · rw [List.getElem?_set_ne (Ne.symm hj), hx]; exact Becomes.refl C j x
    · exact setRow_other w b k _ fun e => hn id _ hid (e ▸ hb)
  refine ⟨adv, set_good g hid rfl adv (fun a v h => ?_) (fun j b2 m hj hjl hb2 => ⟨?_, fun _ => rfl⟩) ⟨b, us.toArray, t, by rw [hb, hcl], setRow_heap w b vs _ t (0, 0) hh, by simp [hr.1], fun i c hc => ⟨?_, ?_⟩, h5⟩⟩
  · have hs := g.spot h
    have hne : a.block ≠ b := by
      intro e
      have := h5 a.off
      obtain ⟨ab, ao, as⟩ := a
      simp only at e hs
      subst e hs
      rw [h] at this; cases this
    rw [cell_heap (setRow_other w b a.block _ hne)]
    exact g.seal_ a v h
  · refine setRow_other w b b2 _ fun e => ?_
    subst e
    exact hj (g.inj j id _ m _ hjl hid hb2 hb)
  · exact (List.all_eq_true.mp hl) c (List.mem_of_getElem? hc)
  · have := (hr.adv adv).2 i c hc
    rwa [List.getD_eq_getElem?_getD, ← List.getElem?_toArray, ← Array.getD_eq_getD_getElem?] at this

/-- An array's elements are written, or the array grows within its block. -/
theorem setArr_ok {C : Cx} {objs : Store} {w : World} (g : Good C objs w) {id b N sz : Nat} {es es' : List (List D)} {fr fr' : Bool} (ho : objs[id]? = some (.arr sz es fr)) (hb : C.φ id = some (b, N)) {vs : Array Value} {us : List Value} {t : TypeId}
    (hh : w.heap[b]? = some (.cells vs t (0, 0))) (hz : ∀ e ∈ es', e.length = sz) (hlen : us.length = N) (hfit : es'.length * sz ≤ N) (hge : es.length ≤ es'.length)
    (hr : ∀ i e j c, es'[i]? = some e → e[j]? = some c → RelD C.M c (us.getD (i * sz + j) undef))
    (hkeep : fr = true → ∀ k, k < es.length * sz → us.getD k undef = vs.getD k undef) (hfr : fr' = fr) :
    Adv C objs w C (objs.set id (.arr sz es' fr')) (w.setRow b us.toArray) ∧ Good C (objs.set id (.arr sz es' fr')) (w.setRow b us.toArray) := by
  subst hfr
  have hid : id < objs.length := (List.getElem?_eq_some_iff.1 ho).1
  obtain ⟨hz0, ⟨h1, _⟩ | ⟨b', N', vs', t', h1, h2, h3, h4, h5, h6⟩⟩ := g.obj id _ ho
  · rw [hb] at h1; cases h1
  rw [hb] at h1; cases h1
  rw [hh] at h2; cases h2
  obtain ⟨e1, e2, e3, e4⟩ := setRow_same w b us.toArray
  have adv : Adv C objs w C (objs.set id (.arr sz es' fr')) (w.setRow b us.toArray) := by
    refine ⟨fun _ _ h => h, by simp, fun j x hx => ?_, e1, e2, e3, by omega, fun k hk hn => ?_, fun _ _ h => .inl h, fun j b n hj hb => .inr ⟨j, n, by simpa using hj, hb⟩⟩
    · by_cases hj : j = id
      · subst hj; rw [ho] at hx; cases hx
        refine ⟨es', fr', by simp [hid], ?_⟩
        rcases Nat.lt_or_eq_of_le hge with h | h
        · exact .inr h
        · exact .inl ⟨h.symm, rfl⟩
      · rw [List.getElem?_set_ne (Ne.symm hj), hx]; exact Becomes.refl C j x
    · exact setRow_other w b k _ fun e => hn id _ hid (e ▸ hb)
  have hgd : ∀ k, us.toArray.getD k undef = us.getD k undef := fun k => by
    rw [Array.getD_eq_getD_getElem?, List.getElem?_toArray, ← List.getD_eq_getElem?_getD]
  refine ⟨adv, set_good g hid rfl adv (fun a v h => ?_) (fun j b2 m hj hjl hb2 => ⟨?_, fun _ => rfl⟩)
    ⟨hz, .inr ⟨b, N, us.toArray, t, hb, setRow_heap w b vs _ t (0, 0) hh, by simpa using hlen, hfit, fun i e j c he hc => by rw [hgd]; exact hr i e j c he hc, fun k u hu => ?_⟩⟩⟩
  · have hs := g.spot h
    by_cases hne : a.block = b
    · obtain ⟨ab, ao, as⟩ := a
      simp only at hne hs
      subst hne hs
      obtain ⟨hf, hk⟩ := h6 _ _ h
      have hv := g.seal_ _ _ h
      rw [cell_plain hh] at hv
      rw [cell_plain (setRow_heap w _ vs _ t (0, 0) hh), List.getElem?_toArray]
      have hlt : ao < us.length := by omega
      have := hkeep hf ao hk
      rw [List.getD_eq_getElem?_getD, List.getElem?_eq_getElem hlt, Array.getD_eq_getD_getElem?, hv] at this
      rw [List.getElem?_eq_getElem hlt]
      simp only [Option.getD_some] at this
      rw [this]
    · rw [cell_heap (setRow_other w b a.block _ hne)]
      exact g.seal_ a v h
  · refine setRow_other w b b2 _ fun e => ?_
    subst e
    exact hj (g.inj j id _ m _ hjl hid hb2 hb)
  · obtain ⟨hf, hk⟩ := h6 k u hu
    exact ⟨hf, Nat.lt_of_lt_of_le hk (Nat.mul_le_mul_right _ hge)⟩

end Ab
