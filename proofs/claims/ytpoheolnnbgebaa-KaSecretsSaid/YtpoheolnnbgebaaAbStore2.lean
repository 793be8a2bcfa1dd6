/- A part of the proof of a row by an interpreter that is proved sound; no conditions of its own. -/
import Derived.Test.YtpoheolnnbgebaaAbSeal
namespace Ab
open Go

variable {P : Program}

/-! ### Values as they are handed over -/

theorem exCell_view {objs objs' : Store} (h : ∀ i off len n, viewA objs' i off len n = viewA objs i off len n) (c : A) : exCell objs' c = exCell objs c := by
  unfold exCell; split <;> simp [h]

theorem exCells_view {objs objs' : Store} (h : ∀ i off len n, viewA objs' i off len n = viewA objs i off len n) : ∀ cs : List A, exCells objs' cs = exCells objs cs
  | [] => rfl
  | c :: cs => by unfold exCells; rw [exCell_view h, exCells_view h cs]

theorem exA_view {objs objs' : Store} (h : ∀ i off len n, viewA objs' i off len n = viewA objs i off len n) (c : A) : exA objs' c = exA objs c := by
  unfold exA; split
  · rw [exCells_view h]
  · rfl
  · exact exCell_view h c

theorem shutA_leaf {objs : Store} {c : A} (h : ∀ id off len n, c ≠ .arr id off len n) (h2 : ∀ cs, c ≠ .agg cs) : shutA objs c = objs := by
  unfold shutA; split
  · exact absurd rfl (h _ _ _ _)
  · exact absurd rfl (h2 _)
  · rfl

theorem exCell_ok {w : World} (c : A) (hc : ∀ cs, c ≠ .agg cs) {C : Cx} {objs : Store} (g : Good C objs w) {v : Value} (r : RelA C objs c v) {y : A} (h : exCell objs c = some y) :
    ∃ C', Sealed C objs w C' (shutA objs c) ∧ RelA C' (shutA objs c) y v := by
  unfold exCell at h
  split at h
  · cases h
    rw [shutA_leaf (by intros; simp) (by intros; simp)]
    cases r with
    | nilsl _ a => exact ⟨C, .refl g, .d (RelD.sl (M := C.M) _ [] a 0 (fun _ _ => undef) (Nat.zero_le _) (by simp) (by simp) (by simp))⟩
  · rename_i id off len n
    split at h
    · rename_i sz es hv
      cases h
      obtain ⟨C', h1, h2⟩ := shut_arr g r
      exact ⟨C', h1, .d (h2 sz es hv)⟩
    · cases h
  · rename_i hne1 hne2
    cases h
    rw [shutA_leaf (fun id off len n e => hne2 id off len n e) hc]
    exact ⟨C, .refl g, r⟩

theorem exCells_ok {w : World} : ∀ (cs : List A) {C : Cx} {objs : Store} (_ : Good C objs w) {vs : List Value} (_ : RelL C objs cs vs) (_ : ∀ c ∈ cs, ∀ ds, c ≠ .agg ds) {ys : List A} (_ : exCells objs cs = some ys),
    ∃ C', Sealed C objs w C' (shutAs objs cs) ∧ RelL C' (shutAs objs cs) ys vs
  | [], C, objs, g, vs, r, _, ys, h => by
    unfold exCells at h; cases h
    rw [r.unnil]
    exact ⟨C, by unfold shutAs; exact .refl g, .nil _ _⟩
  | c :: cs, C, objs, g, vs, r, ha, ys, h => by
    unfold exCells at h
    split at h
    · rename_i x hx
      split at h
      · rename_i y hy
        cases h
        obtain ⟨v, us, rfl, h1, h2⟩ := r.uncons
        obtain ⟨C1, s1, r1⟩ := exCell_ok c (ha c (by simp)) g h1 hx
        obtain ⟨C2, s2, r2⟩ := exCells_ok cs s1.good (h2.adv s1.adv) (fun d hd => ha d (by simp [hd])) (by rw [exCells_view s1.view]; exact hy)
        refine ⟨C2, by unfold shutAs; exact s1.trans s2, ?_⟩
        have e : shutAs objs (c :: cs) = shutAs (shutA objs c) cs := by conv => lhs; unfold shutAs
        rw [e]
        exact .cons (r1.adv s2.adv) r2
      · cases h
    · cases h

theorem exA_ok {w : World} (c : A) (hf : c.flat = true) {C : Cx} {objs : Store} (g : Good C objs w) {v : Value} (r : RelA C objs c v) {y : A} (h : exA objs c = some y) :
    ∃ C', Sealed C objs w C' (shutA objs c) ∧ RelA C' (shutA objs c) y v := by
  unfold exA at h
  split at h
  · rename_i cs
    split at h
    · rename_i ys hy
      cases h
      cases r with
      | agg _ vs hl hr =>
        obtain ⟨C', h1, h2⟩ := exCells_ok cs g (relL_of_array hl hr) (fun d hd ds e => by
          subst e
          simp only [A.flat, List.all_eq_true] at hf
          have := hf _ hd
          simp at this) hy
        refine ⟨C', by unfold shutA; exact h1, ?_⟩
        have := RelA.agg' h2
        unfold shutA
        simpa using this
    · cases h
  · cases h
  · rename_i hne _
    exact exCell_ok c (fun cs e => hne cs e) g r h

theorem exAs_view {objs objs' : Store} (h : ∀ i off len n, viewA objs' i off len n = viewA objs i off len n) : ∀ cs : List A, exAs objs' cs = exAs objs cs
  | [] => rfl
  | c :: cs => by unfold exAs; rw [exA_view h, exAs_view h cs]

theorem exAs_ok {w : World} : ∀ (cs : List A) (_ : cs.all A.flat = true) {C : Cx} {objs : Store} (_ : Good C objs w) {vs : List Value} (_ : RelL C objs cs vs) {ys : List A} (_ : exAs objs cs = some ys),
    ∃ C', Sealed C objs w C' (shutAs objs cs) ∧ RelL C' (shutAs objs cs) ys vs
  | [], _, C, objs, g, vs, r, ys, h => by
    unfold exAs at h; cases h
    rw [r.unnil]
    exact ⟨C, by unfold shutAs; exact .refl g, .nil _ _⟩
  | c :: cs, hf, C, objs, g, vs, r, ys, h => by
    simp only [List.all_cons, Bool.and_eq_true] at hf
    unfold exAs at h
    split at h
    · rename_i x hx
      split at h
      · rename_i y hy
        cases h
        obtain ⟨v, us, rfl, h1, h2⟩ := r.uncons
        obtain ⟨C1, s1, r1⟩ := exA_ok c hf.1 g h1 hx
        obtain ⟨C2, s2, r2⟩ := exAs_ok cs hf.2 s1.good (h2.adv s1.adv) (by rw [exAs_view s1.view]; exact hy)
        refine ⟨C2, by unfold shutAs; exact s1.trans s2, ?_⟩
        have e : shutAs objs (c :: cs) = shutAs (shutA objs c) cs := by conv => lhs; unfold shutAs
        rw [e]
        exact .cons (r1.adv s2.adv) r2
      · cases h
    · cases h

/-! ### Stores -/

theorem setRow_same (w : World) (b : Nat) (cs : Array Value) : (w.setRow b cs).os = w.os ∧ (w.setRow b cs).tape = w.tape ∧ (w.setRow b cs).output = w.output ∧ (w.setRow b cs).heap.size = w.heap.size := by
  simp [World.setRow]

theorem cell_heap {w w' : World} {a : Addr} (h : w'.heap[a.block]? = w.heap[a.block]?) : w'.cell? a = w.cell? a := by simp [World.cell?, h]

/-- A box's cells are written. -/
theorem setBox_ok {C : Cx} {objs : Store} {w : World} (g : Good C objs w) {id b n : Nat} {bs cs : List A} (ho : objs[id]? = some (.box bs)) (hb : C.φ id = some (b, n)) {vs : Array Value} {us : List Value} {t : TypeId}
    (hh : w.heap[b]? = some (.cells vs t (0, 0))) (hr : RelL C objs cs us) (hlen : us.length = bs.length) (hl : cs.all A.leaf = true) :
    Adv C objs w C (objs.set id (.box cs)) (w.setRow b us.toArray) ∧ Good C (objs.set id (.box cs)) (w.setRow b us.toArray) := by
  have hid : id < objs.length := (List.getElem?_eq_some_iff.1 ho).1
  obtain ⟨b', vs', t', h1, h2, h3, h4, h5⟩ := g.obj id _ ho
  rw [hb] at h1; cases h1
  obtain ⟨e1, e2, e3, e4⟩ := setRow_same w b us.toArray
  have hcl : cs.length = bs.length := hr.1.trans hlen
  have adv : Adv C objs w C (objs.set id (.box cs)) (w.setRow b us.toArray) := by
    refine ⟨fun _ _ h => h, by simp, fun j x hx => ?_, e1, e2, e3, by omega, fun k hk hn => ?_, fun _ _ h => .inl h, fun j b n hj hb => .inr ⟨j, n, by simpa using hj, hb⟩⟩
    · by_cases hj : j = id
      · subst hj; rw [ho] at hx; cases hx; exact ⟨rfl, cs, by simp [hid]⟩
      · rw [List.getElem?_set_ne (Ne.symm hj), hx]; exact Becomes.refl C j x
    · exact setRow_other w b k _ fun e => hn id _ hid (e ▸ hb)
  refine ⟨adv, set_good g hid rfl adv (fun a v h => ?_) (fun j b2 m hj hjl hb2 => ⟨?_, fun _ => rfl⟩) ⟨b, us.toArray, t, by rw [hb, hcl], setRow_heap w b vs _ t (0, 0) hh, by simp [hr.1], fun i c hc => ⟨?_, ?_⟩, h5⟩⟩
  · have hs := g.spot h
    have hne : a.block ≠ b := by
      intro e
      have := h5 a.off
      obtain ⟨ab, ao, as⟩ := a
      simp only at e hs
      subst e hs
      rw [h] at this; cases this
    rw [cell_heap (setRow_other w b a.block _ hne)]
    exact g.seal_ a v h
  · refine setRow_other w b b2 _ fun e => ?_
    subst e
    exact hj (g.inj j id _ m _ hjl hid hb2 hb)
  · exact (List.all_eq_true.mp hl) c (List.mem_of_getElem? hc)
  · have := (hr.adv adv).2 i c hc
    rwa [List.getD_eq_getElem?_getD, ← List.getElem?_toArray, ← Array.getD_eq_getD_getElem?] at this

/-- An array's elements are written, or the array grows within its block. -/
theorem setArr_ok {C : Cx} {objs : Store} {w : World} (g : Good C objs w) {id b N sz : Nat} {es es' : List (List D)} {fr fr' : Bool} (ho : objs[id]? = some (.arr sz es fr)) (hb : C.φ id = some (b, N)) {vs : Array Value} {us : List Value} {t : TypeId}
    (hh : w.heap[b]? = some (.cells vs t (0, 0))) (hz : ∀ e ∈ es', e.length = sz) (hlen : us.length = N) (hfit : es'.length * sz ≤ N) (hge : es.length ≤ es'.length)
    (hr : ∀ i e j c, es'[i]? = some e → e[j]? = some c → RelD C.M c (us.getD (i * sz + j) undef))
    (hkeep : fr = true → ∀ k, k < es.length * sz → us.getD k undef = vs.getD k undef) (hfr : fr' = fr) :
    Adv C objs w C (objs.set id (.arr sz es' fr')) (w.setRow b us.toArray) ∧ Good C (objs.set id (.arr sz es' fr')) (w.setRow b us.toArray) := by
  subst hfr
  have hid : id < objs.length := (List.getElem?_eq_some_iff.1 ho).1
  obtain ⟨hz0, ⟨h1, _⟩ | ⟨b', N', vs', t', h1, h2, h3, h4, h5, h6⟩⟩ := g.obj id _ ho
  · rw [hb] at h1; cases h1
  rw [hb] at h1; cases h1
  rw [hh] at h2; cases h2
  obtain ⟨e1, e2, e3, e4⟩ := setRow_same w b us.toArray
  have adv : Adv C objs w C (objs.set id (.arr sz es' fr')) (w.setRow b us.toArray) := by
    refine ⟨fun _ _ h => h, by simp, fun j x hx => ?_, e1, e2, e3, by omega, fun k hk hn => ?_, fun _ _ h => .inl h, fun j b n hj hb => .inr ⟨j, n, by simpa using hj, hb⟩⟩
    · by_cases hj : j = id
      · subst hj; rw [ho] at hx; cases hx
        refine ⟨es', fr', by simp [hid], ?_⟩
        rcases Nat.lt_or_eq_of_le hge with h | h
        · exact .inr h
        · exact .inl ⟨h.symm, rfl⟩
      · rw [List.getElem?_set_ne (Ne.symm hj), hx]; exact Becomes.refl C j x
    · exact setRow_other w b k _ fun e => hn id _ hid (e ▸ hb)
  have hgd : ∀ k, us.toArray.getD k undef = us.getD k undef := fun k => by
    rw [Array.getD_eq_getD_getElem?, List.getElem?_toArray, ← List.getD_eq_getElem?_getD]
  refine ⟨adv, set_good g hid rfl adv (fun a v h => ?_) (fun j b2 m hj hjl hb2 => ⟨?_, fun _ => rfl⟩)
    ⟨hz, .inr ⟨b, N, us.toArray, t, hb, setRow_heap w b vs _ t (0, 0) hh, by simpa using hlen, hfit, fun i e j c he hc => by rw [hgd]; exact hr i e j c he hc, fun k u hu => ?_⟩⟩⟩
  · have hs := g.spot h
    by_cases hne : a.block = b
    · obtain ⟨ab, ao, as⟩ := a
      simp only at hne hs
      subst hne hs
      obtain ⟨hf, hk⟩ := h6 _ _ h
      have hv := g.seal_ _ _ h
      rw [cell_plain hh] at hv
      rw [cell_plain (setRow_heap w _ vs _ t (0, 0) hh), List.getElem?_toArray]
      have hlt : ao < us.length := by omega
      have := hkeep hf ao hk
      rw [List.getD_eq_getElem?_getD, List.getElem?_eq_getElem hlt, Array.getD_eq_getD_getElem?, hv] at this
      rw [List.getElem?_eq_getElem hlt]
      simp only [Option.getD_some] at this
      rw [this]
    · rw [cell_heap (setRow_other w b a.block _ hne)]
      exact g.seal_ a v h
  · refine setRow_other w b b2 _ fun e => ?_
    subst e
    exact hj (g.inj j id _ m _ hjl hid hb2 hb)
  · obtain ⟨hf, hk⟩ := h6 k u hu
    exact ⟨hf, Nat.lt_of_lt_of_le hk (Nat.mul_le_mul_right _ hge)⟩

end Ab
namespace Ab
open Go

variable {P : Program}

theorem getD_patch {α : Type} (l us : List α) (o k : Nat) (d : α) (h : o + us.length ≤ l.length) :
    (l.take o ++ us ++ l.drop (o + us.length)).getD k d = if o ≤ k ∧ k < o + us.length then us.getD (k - o) d else l.getD k d := by
  simp only [List.getD_eq_getElem?_getD, List.append_assoc]
  have ht : (l.take o).length = o := by simp; omega
  by_cases h1 : k < o
  · rw [if_neg (by omega), List.getElem?_append_left (by omega), List.getElem?_take, if_pos h1]
  · rw [List.getElem?_append_right (by omega), ht]
    by_cases h2 : k < o + us.length
    · rw [if_pos (by omega), List.getElem?_append_left (by omega)]
    · rw [if_neg (by omega), List.getElem?_append_right (by omega), List.getElem?_drop]
      congr 2; omega

theorem all_setRange {cs bs : List A} {off : Nat} (h1 : bs.all A.leaf = true) (h2 : cs.all A.leaf = true) : (setRange bs off cs).all A.leaf = true := by
  unfold setRange
  simp only [List.all_append, Bool.and_eq_true]
  refine ⟨⟨?_, h2⟩, ?_⟩
  · rw [List.all_eq_true] at h1 ⊢; exact fun x hx => h1 x (List.mem_of_mem_take hx)
  · rw [List.all_eq_true] at h1 ⊢; exact fun x hx => h1 x (List.mem_of_mem_drop hx)

theorem box_leaf {C : Cx} {objs : Store} {w : World} (g : Good C objs w) {id : Nat} {bs : List A} (ho : objs[id]? = some (.box bs)) : bs.all A.leaf = true := by
  obtain ⟨b', vs', t', h1, h2, h3, h4, h5⟩ := g.obj id _ ho
  rw [List.all_eq_true]
  intro x hx
  obtain ⟨i, hi⟩ := List.getElem?_of_mem hx
  exact (h4 i x hi).1

theorem run_storeAt {t : TypeId} {n : Nat} (hn : sizeT P t = some n) {w : World} {b off : Nat} {v : Value} {vs : Array Value} {te : TypeId} (hh : w.heap[b]? = some (.cells vs te (0, 0))) (hs : v.cells.toList.length = n)
    (hl : off + n ≤ vs.size) (h1 : ∀ u ∈ v.cells.toList, u.oneCell' = true) :
    (Instr.storeAt t (.pointer (some ⟨b, off, none⟩)) v).run P w = .ok () (w.setRow b (vs.toList.take off ++ v.cells.toList ++ vs.toList.drop (off + v.cells.toList.length)).toArray) := by
  have hst := run_storeCells_at P b off te v.cells.toList 0 vs w hh (by omega) h1
  simp only [Nat.add_zero] at hst
  have hsz : v.cells.size = n := by simpa using hs
  simp [Instr.storeAt, Instr.sureAddr, storeVar, run_sizeOf' hn, hsz]
  simpa [hsz] using hst

theorem arr_cell {es : List (List D)} {sz i j : Nat} {e : List D} (hz : ∀ e ∈ es, e.length = sz) (he : es[i]? = some e) (hj : j < e.length) : i * sz + j < es.length * sz := by
  have h1 : i + 1 ≤ es.length := (List.getElem?_eq_some_iff.1 he).1
  have h2 : (i + 1) * sz ≤ es.length * sz := Nat.mul_le_mul_right _ h1
  have h3 := hz e (List.mem_of_getElem? he)
  rw [Nat.add_mul, Nat.one_mul] at h2; omega

theorem cell_apart {sz i j i' j' : Nat} (hj : j < sz) (hj' : j' < sz) (h : i * sz + j = i' * sz + j') : i = i' ∧ j = j' := by
  have h1 : (i * sz + j) / sz = i := by rw [Nat.add_comm, Nat.add_mul_div_right _ _ (by omega), Nat.div_eq_of_lt hj, Nat.zero_add]
  have h2 : (i' * sz + j') / sz = i' := by rw [Nat.add_comm, Nat.add_mul_div_right _ _ (by omega), Nat.div_eq_of_lt hj', Nat.zero_add]
  have : i = i' := by rw [← h1, ← h2, h]
  subst this
  exact ⟨rfl, by omega⟩

theorem store_ok {C : Cx} {objs : Store} {w : World} (g : Good C objs w) {t : TypeId} {p x : A} {vp vx : Value} (rp : RelA C objs p vp) (rx : RelA C objs x vx) {objs' : Store} (h : storeA P objs t p x = some objs') :
    ∃ C' w', (Instr.storeAt t vp vx).run P w = .ok () w' ∧ Adv C objs w C' objs' w' ∧ Good C' objs' w' := by
  unfold storeA at h
  split at h
  · cases h
  rename_i n hn
  simp only at h
  split at h
  · rename_i hc
    obtain ⟨hcl, hleaf⟩ := hc
    obtain ⟨hr, hone⟩ := cells_rel rx hleaf
    have hul : vx.cells.toList.length = n := by rw [← hr.1, hcl]
    have hsz : vx.cells.size = n := by simpa using hul
    split at h
    · rename_i id off
      split at h
      · rename_i bs hbs
        split at h
        · rename_i hfit
          cases h
          have ho := getO_box hbs
          cases rp with
          | bp _ _ b m bs' ho' hb =>
            obtain ⟨b', vs, te, h1, h2, h3, h4, h5⟩ := g.obj id _ ho
            rw [hb] at h1; cases h1
            have hbr : RelL C objs bs vs.toList := relL_of_array h3.symm fun i c hc => (h4 i c hc).2
            have hrun := run_storeAt hn h2 hul (by rw [h3]; exact hfit) hone
            obtain ⟨k1, k2⟩ := setBox_ok g ho hb h2 (hbr.setRange hr off) (by simp; omega) (all_setRange (box_leaf g ho) hleaf)
            exact ⟨C, _, hrun, k1, k2⟩
        · cases h
      · cases h
    · rename_i id i off m
      split at h
      · rename_i ds hds
        split at h
        · rename_i sz es hes
          split at h
          · rename_i hm
            split at h
            · rename_i e he
              split at h
              · rename_i hfit
                cases h
                obtain ⟨C1, s1, r1⟩ := toDs_ok x.cells g hr hds
                have ho := getO_arr hes
                have rp1 := rp.adv s1.adv
                cases rp1 with
                | ep _ _ _ _ p sz' es' fr' ho' hle hcur =>
                  rw [ho] at ho'; cases ho'
                  obtain ⟨b, N, hb, rfl, hi⟩ := hcur hm
                  obtain ⟨hz, ⟨h1, _⟩ | ⟨b', N', vs, te, h1, h2, h3, h4, h5, h6⟩⟩ := s1.good.obj id _ ho
                  · rw [hb] at h1; cases h1
                  rw [hb] at h1; cases h1
                  have hel : e.length = sz := hz e (List.mem_of_getElem? he)
                  have hin : i * sz + off + n ≤ vs.size := by
                    have h7 : (i + 1) * sz ≤ es.length * sz := Nat.mul_le_mul_right _ hi
                    rw [Nat.add_mul, Nat.one_mul] at h7; omega
                  have hrun := run_storeAt hn h2 hul hin hone
                  have hlen : (vs.toList.take (i * sz + off) ++ vx.cells.toList ++ vs.toList.drop (i * sz + off + vx.cells.toList.length)).length = N := by
                    simp only [List.length_append, List.length_take, List.length_drop, Array.length_toList, hul]; omega
                  have hpatch := fun k => getD_patch vs.toList vx.cells.toList (i * sz + off) k undef (by rw [hul]; simpa using hin)
                  have hdl : ds.length = n := hfit.2
                  have hz' : ∀ e' ∈ es.set i (setRange e off ds), e'.length = sz := by
                    intro e' he'
                    rcases List.mem_or_eq_of_mem_set he' with h | h
                    · exact hz _ h
                    · subst h
                      simp [setRange]
                      omega
                  have hr' : ∀ i' e' j c, (es.set i (setRange e off ds))[i']? = some e' → e'[j]? = some c → RelD C1.M c ((vs.toList.take (i * sz + off) ++ vx.cells.toList ++ vs.toList.drop (i * sz + off + vx.cells.toList.length)).getD (i' * sz + j) undef) := by
                    intro i' e' j c he' hc
                    rw [hpatch, hul]
                    by_cases hii : i = i'
                    · subst hii
                      rw [List.getElem?_set_self hi] at he'
                      cases he'
                      have hj : j < sz := by
                        have := (List.getElem?_eq_some_iff.1 hc).1
                        simp [setRange] at this; omega
                      by_cases hjr : off ≤ j ∧ j < off + n
                      · rw [if_pos (by omega)]
                        have : c = ds[j - off]'(by omega) := by
                          have := getD_patch e ds off j D.nilp (by omega)
                          rw [if_pos (by omega)] at this
                          simp only [setRange] at hc
                          rw [List.getD_eq_getElem?_getD, hc, List.getD_eq_getElem?_getD, List.getElem?_eq_getElem (by omega)] at this
                          simpa using this
                        rw [this, show i * sz + j - (i * sz + off) = j - off from by omega]
                        exact r1.2 (j - off) _ (List.getElem?_eq_getElem (by omega))
                      · rw [if_neg (by omega)]
                        have : e[j]? = some c := by
                          have := getD_patch e ds off j c (by omega)
                          rw [if_neg (by omega)] at this
                          simp only [setRange] at hc
                          have hj2 : j < e.length := by omega
                          rw [List.getD_eq_getElem?_getD, hc, List.getD_eq_getElem?_getD, List.getElem?_eq_getElem hj2] at this
                          rw [List.getElem?_eq_getElem hj2]
                          simp at this; rw [← this]
                        have := h5 i e j c he this
                        rwa [Array.getD_eq_getD_getElem?, ← Array.getElem?_toList, ← List.getD_eq_getElem?_getD] at this
                    · rw [List.getElem?_set_ne hii] at he'
                      have hj : j < sz := by rw [← hz e' (List.mem_of_getElem? he')]; exact (List.getElem?_eq_some_iff.1 hc).1
                      rw [if_neg (fun hx => hii (cell_apart (i := i) (j := i' * sz + j - i * sz) (i' := i') (j' := j) (by omega) hj (by omega)).1)]
                      have := h5 i' e' j c he' hc
                      rwa [Array.getD_eq_getD_getElem?, ← Array.getElem?_toList, ← List.getD_eq_getElem?_getD] at this
                  obtain ⟨k1, k2⟩ := setArr_ok s1.good ho hb h2 hz' hlen (by simpa using h4) (by simp) hr' (fun hf => by cases hf) rfl
                  exact ⟨C1, _, hrun, s1.adv.trans k1, k2⟩
              · cases h
            · cases h
          · cases h
        · cases h
      · cases h
    · cases h
  · cases h

end Ab
