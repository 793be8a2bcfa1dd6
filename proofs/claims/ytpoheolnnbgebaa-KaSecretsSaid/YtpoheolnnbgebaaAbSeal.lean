/- A part of the proof of a row by an interpreter that is proved sound; no conditions of its own. -/
import Derived.Test.YtpoheolnnbgebaaAbMem
namespace Ab
open Go

variable {P : Program}

theorem getO_some {objs : Store} {id : Nat} {o : O} (h : objs[id]? = some o) : getO objs id = o := by simp [getO, List.getD_eq_getElem?_getD, h]

theorem getO_arr {objs : Store} {id sz : Nat} {es : List (List D)} {fr : Bool} (h : getO objs id = .arr sz es fr) : objs[id]? = some (.arr sz es fr) := by
  simp only [getO, List.getD_eq_getElem?_getD] at h
  cases hx : objs[id]? with
  | none => simp [hx] at h
  | some o => simp [hx] at h; rw [h]

theorem getO_box {objs : Store} {id : Nat} {cs : List A} (h : getO objs id = .box cs) : objs[id]? = some (.box cs) := by
  simp only [getO, List.getD_eq_getElem?_getD] at h
  cases hx : objs[id]? with
  | none => simp [hx] at h
  | some o => simp [hx] at h; rw [h]

theorem getO_mp {objs : Store} {id : Nat} {es : List (D × A)} (h : getO objs id = .mp es) : objs[id]? = some (.mp es) := by
  simp only [getO, List.getD_eq_getElem?_getD] at h
  cases hx : objs[id]? with
  | none => simp [hx] at h
  | some o => simp [hx] at h; rw [h]

/-- An object is written over by one of its kind, in place: the other objects stay as they are. -/
theorem set_good {C C' : Cx} {objs : Store} {w w' : World} {id : Nat} {o : O} (g : Good C objs w) (hid : id < objs.length) (hφ : C'.φ = C.φ)
    (adv : Adv C objs w C' (objs.set id o) w') (hs : ∀ a v, C'.M a = some v → w'.cell? a = some v)
    (hblk : ∀ j b n, j ≠ id → j < objs.length → C.φ j = some (b, n) → w'.heap[b]? = w.heap[b]? ∧ ∀ k, C'.M ⟨b, k, none⟩ = C.M ⟨b, k, none⟩)
    (hnew : GoodO C' (objs.set id o) w' id o) : Good C' (objs.set id o) w' := by
  refine ⟨hs, fun j x hx => ?_, fun i j b n m hi hj h1 h2 => ?_⟩
  · by_cases hj : j = id
    · subst hj
      rw [List.getElem?_set_self hid] at hx
      cases hx; exact hnew
    · rw [List.getElem?_set_ne (Ne.symm hj)] at hx
      exact good_keep adv (by rw [hφ]) (fun b n hb => hblk j b n hj (List.getElem?_eq_some_iff.1 hx).1 hb) (g.obj j x hx)
  · simp only [List.length_set] at hi hj
    rw [hφ] at h1 h2
    exact g.inj i j b n m hi hj h1 h2

/-- A local array is sealed. -/
theorem seal_arr {C : Cx} {objs : Store} {w : World} (g : Good C objs w) {id sz : Nat} {es : List (List D)} {fr : Bool} (ho : objs[id]? = some (.arr sz es fr)) :
    ∃ C', C'.φ = C.φ ∧ Adv C objs w C' (objs.set id (.arr sz es true)) w ∧ Good C' (objs.set id (.arr sz es true)) w ∧
      ∀ b N, C.φ id = some (b, N) → ∀ k, k < es.length * sz → C'.M ⟨b, k, none⟩ = w.cell? ⟨b, k, none⟩ := by
  have hid : id < objs.length := (List.getElem?_eq_some_iff.1 ho).1
  have hgo := g.obj id _ ho
  obtain ⟨hz, hcase⟩ := hgo
  rcases hcase with ⟨h1, h2⟩ | ⟨b, N, vs, t, h1, h2, h3, h4, h5, h6⟩
  · have adv : Adv C objs w C (objs.set id (.arr sz es true)) w := by
      refine ⟨fun _ _ h => h, by simp, fun j x hx => ?_, rfl, rfl, rfl, Nat.le_refl _, fun _ _ _ => rfl, fun _ _ h => .inl h, fun j b n hj hb => .inr ⟨j, n, by simpa using hj, hb⟩⟩
      by_cases hj : j = id
      · subst hj; rw [ho] at hx; cases hx; exact ⟨es, true, by simp [hid], .inl ⟨rfl, rfl⟩⟩
      · rw [List.getElem?_set_ne (Ne.symm hj), hx]; exact Becomes.refl C j x
    refine ⟨C, rfl, adv, set_good g hid rfl adv g.seal_ (fun j b n _ _ _ => ⟨rfl, fun _ => rfl⟩) ⟨hz, .inl ⟨h1, h2⟩⟩, fun b N hb => ?_⟩
    rw [h1] at hb; cases hb
  · let M' : Mem := fun a => if a.block = b ∧ a.spot = none ∧ a.off < es.length * sz then w.cell? a else C.M a
    have hM : ∀ a v, C.M a = some v → M' a = some v := by
      intro a v h
      show (if _ then _ else _) = _
      split
      · exact g.seal_ a v h
      · exact h
    have hMo : ∀ b' k, b' ≠ b → M' ⟨b', k, none⟩ = C.M ⟨b', k, none⟩ := by
      intro b' k hb
      show (if _ then _ else _) = _
      rw [if_neg (fun h => hb h.1)]
    have hMi : ∀ k, k < es.length * sz → M' ⟨b, k, none⟩ = w.cell? ⟨b, k, none⟩ := by
      intro k hk
      show (if _ then _ else _) = _
      rw [if_pos ⟨rfl, rfl, hk⟩]
    have adv : Adv C objs w ⟨M', C.φ⟩ (objs.set id (.arr sz es true)) w := by
      refine ⟨hM, by simp, fun j x hx => ?_, rfl, rfl, rfl, Nat.le_refl _, fun _ _ _ => rfl, fun a v h => ?_, fun j b n hj hb => .inr ⟨j, n, by simpa using hj, hb⟩⟩
      · by_cases hj : j = id
        · subst hj; rw [ho] at hx; cases hx; exact ⟨es, true, by simp [hid], .inl ⟨rfl, rfl⟩⟩
        · rw [List.getElem?_set_ne (Ne.symm hj), hx]; exact Becomes.refl C j x
      · change (if _ then _ else _) = _ at h
        split at h
        · rename_i hc
          exact .inr (.inr ⟨id, N, hid, by rw [hc.1]; exact h1⟩)
        · exact .inl h
    refine ⟨⟨M', C.φ⟩, rfl, adv, set_good g hid rfl adv ?_ ?_ ?_, fun b' N' hb k hk => ?_⟩
    · intro a v h
      change (if _ then _ else _) = _ at h
      split at h
      · exact h
      · exact g.seal_ a v h
    · intro j b' n hj hjl hb'
      refine ⟨rfl, fun k => hMo b' k ?_⟩
      rintro rfl
      exact hj (g.inj j id _ n N hjl hid hb' h1)
    · refine ⟨hz, .inr ⟨b, N, vs, t, h1, h2, h3, h4, fun i e j c he hc => (h5 i e j c he hc).mono hM, fun k u hu => ⟨rfl, ?_⟩⟩⟩
      by_cases hk : k < es.length * sz
      · exact hk
      · exfalso
        change (if _ then _ else _) = _ at hu
        rw [if_neg (fun h => hk h.2.2)] at hu
        exact hk (h6 k u hu).2
    · rw [h1] at hb; cases hb; exact hMi k hk

def RelDL (M : Mem) (ds : List D) (vs : List Value) : Prop := ds.length = vs.length ∧ ∀ i c, ds[i]? = some c → RelD M c (vs.getD i undef)

theorem RelDL.mono {M M' : Mem} (h : ∀ a v, M a = some v → M' a = some v) {ds : List D} {vs : List Value} (r : RelDL M ds vs) : RelDL M' ds vs := ⟨r.1, fun i c hc => (r.2 i c hc).mono h⟩

theorem RelDL.one {M : Mem} {x : D} {v : Value} (h : RelD M x v) : RelDL M [x] [v] := ⟨rfl, fun i c hc => by
  cases i with
  | zero => simp at hc; subst hc; exact h
  | succ i => simp at hc⟩

theorem RelDL.append {M : Mem} {ds es : List D} {vs us : List Value} (h : RelDL M ds vs) (k : RelDL M es us) : RelDL M (ds ++ es) (vs ++ us) := by
  refine ⟨by simp [h.1, k.1], fun i c hc => ?_⟩
  rw [List.getD_eq_getElem?_getD]
  by_cases hi : i < ds.length
  · rw [List.getElem?_append_left hi] at hc
    rw [List.getElem?_append_left (by rw [← h.1]; exact hi), ← List.getD_eq_getElem?_getD]
    exact h.2 i c hc
  · rw [List.getElem?_append_right (by omega)] at hc
    rw [List.getElem?_append_right (by rw [← h.1]; omega), ← List.getD_eq_getElem?_getD, ← h.1]
    exact k.2 _ c hc

theorem viewA_shut {objs : Store} {id sz : Nat} {es : List (List D)} {fr : Bool} (ho : objs[id]? = some (.arr sz es fr)) (i off len n : Nat) : viewA (objs.set id (.arr sz es true)) i off len n = viewA objs i off len n := by
  unfold viewA
  by_cases h : i = id
  · subst h
    have hid : i < objs.length := (List.getElem?_eq_some_iff.1 ho).1
    rw [getO_some (o := .arr sz es true) (by simp [hid]), getO_some ho]
  · have : getO (objs.set id (.arr sz es true)) i = getO objs i := by
      simp only [getO, List.getD_eq_getElem?_getD, List.getElem?_set_ne (Ne.symm h)]
    rw [this]

mutual
theorem view_shutA (objs : Store) : ∀ (a : A) (i off len n : Nat), viewA (shutA objs a) i off len n = viewA objs i off len n
  | .arr id _ _ _, i, off, len, n => by
    unfold shutA
    split
    · rename_i sz es fr h
      exact viewA_shut (getO_arr h) i off len n
    · rfl
  | .agg cs, i, off, len, n => by unfold shutA; exact view_shutAs objs cs i off len n
  | .d _, _, _, _, _ | .nilsl _, _, _, _, _ | .nilm, _, _, _, _ | .tup _, _, _, _, _ | .bp _ _, _, _, _, _ | .ep _ _ _ _, _, _, _, _ | .cp _, _, _, _, _ | .fn _ _ _, _, _, _, _ | .mp _, _, _, _, _ | .un, _, _, _, _ | .top, _, _, _, _ => by unfold shutA; rfl
theorem view_shutAs (objs : Store) : ∀ (cs : List A) (i off len n : Nat), viewA (shutAs objs cs) i off len n = viewA objs i off len n
  | [], _, _, _, _ => by unfold shutAs; rfl
  | c :: cs, i, off, len, n => by unfold shutAs; rw [view_shutAs (shutA objs c) cs, view_shutA objs c]
end

mutual
theorem toD_view {objs objs' : Store} (h : ∀ i off len n, viewA objs' i off len n = viewA objs i off len n) : ∀ a : A, toD objs' a = toD objs a
  | .arr id off len n => by unfold toD; rw [h]
  | .agg cs => by unfold toD; exact toDs_view h cs
  | .d _ | .nilsl _ | .nilm | .tup _ | .bp _ _ | .ep _ _ _ _ | .cp _ | .fn _ _ _ | .mp _ | .un | .top => by unfold toD; rfl
theorem toDs_view {objs objs' : Store} (h : ∀ i off len n, viewA objs' i off len n = viewA objs i off len n) : ∀ cs : List A, toDs objs' cs = toDs objs cs
  | [] => by unfold toDs; rfl
  | c :: cs => by unfold toDs; rw [toD_view h c, toDs_view h cs]
end

/-- A slice of a local array, as data, once the array is sealed. -/
theorem view_rel {C C' : Cx} {objs : Store} {w : World} (g : Good C objs w) {id off len n sz : Nat} {sub : List (List D)} {v : Value} (r : RelA C objs (.arr id off len n) v) (h : viewA objs id off len n = some (sz, sub))
    (hM : ∀ a v, C.M a = some v → C'.M a = some v) (hs : ∀ b N, C.φ id = some (b, N) → ∀ es fr, objs[id]? = some (.arr sz es fr) → ∀ k, k < es.length * sz → C'.M ⟨b, k, none⟩ = w.cell? ⟨b, k, none⟩) :
    RelD C'.M (.sl sz sub) v := by
  cases r with
  | arr _ _ _ _ a cap sz' es fr ho hn hc hcur =>
    unfold viewA at h
    rw [getO_some ho] at h
    simp only at h
    split at h
    · rename_i hok
      simp only [Option.some.injEq, Prod.mk.injEq] at h
      obtain ⟨rfl, rfl⟩ := h
      obtain ⟨k1, k2, k3⟩ := hcur hok.1
      obtain ⟨hz, hcase⟩ := g.obj id _ ho
      have hlen : ((es.drop off).take len).length = len := by simp; omega
      have hsub : ∀ i e, ((es.drop off).take len)[i]? = some e → es[off + i]? = some e ∧ i < len := by
        intro i e he
        rw [List.getElem?_take] at he
        split at he
        · rw [List.getElem?_drop] at he; exact ⟨he, by assumption⟩
        · cases he
      rcases k3 with ⟨p1, p2, p3⟩ | ⟨b, N, p1, p2, p3⟩
      · have hnil : es = [] := List.eq_nil_of_length_eq_zero p2
        subst hnil
        have hl0 : len = 0 := by simp at k1; omega
        subst hl0
        have := RelD.sl (M := C'.M) sz' [] a cap (fun _ _ => undef) (Nat.zero_le _) (by simp) (by simp) (by simp)
        simpa using this
      · rcases hcase with ⟨q1, q2⟩ | ⟨b', N', vs, t, q1, q2, q3, q4, q5, _⟩
        · rw [p1] at q1; cases q1
        · rw [p1] at q1; cases q1
          have hsm := hs b N p1 es fr ho
          have key := RelD.sl (M := C'.M) sz' ((es.drop off).take len) a cap (fun i j => vs.getD ((off + i) * sz' + j) undef) (by omega)
            (fun e he => hz e (List.mem_of_mem_drop (List.mem_of_mem_take he))) (fun i j e c he hc => (q5 _ e j c (hsub i e he).1 hc).mono hM) (fun i e j he hj => ?_)
          · rw [hlen] at key; exact key
          · obtain ⟨he', hi⟩ := hsub i e he
            have hel : e.length = sz' := hz e (List.mem_of_getElem? he')
            refine ⟨_, p2 (by omega), ?_⟩
            have hb : (off + i) * sz' + j < es.length * sz' := by
              have h1 : off + i + 1 ≤ es.length := (List.getElem?_eq_some_iff.1 he').1
              have h2 : (off + i + 1) * sz' ≤ es.length * sz' := Nat.mul_le_mul_right _ h1
              rw [Nat.add_mul, Nat.one_mul] at h2; omega
            have ha : off * sz' + (i * sz' + j) = (off + i) * sz' + j := by rw [Nat.add_mul]; omega
            rw [add_plain', ha, hsm _ hb, cell_plain q2, Array.getD_eq_getD_getElem?, Array.getElem?_eq_getElem (by omega)]; rfl
    · cases h

/-- Sealing what a value refers to; the value as data. -/
structure Sealed (C : Cx) (objs : Store) (w : World) (C' : Cx) (objs' : Store) : Prop where
  phi : C'.φ = C.φ
  adv : Adv C objs w C' objs' w
  good : Good C' objs' w
  view : ∀ i off len n, viewA objs' i off len n = viewA objs i off len n

theorem Sealed.refl {C : Cx} {objs : Store} {w : World} (g : Good C objs w) : Sealed C objs w C objs := ⟨rfl, .refl _ _ _, g, fun _ _ _ _ => rfl⟩
theorem Sealed.trans {C C1 C2 : Cx} {o o1 o2 : Store} {w : World} (h : Sealed C o w C1 o1) (k : Sealed C1 o1 w C2 o2) : Sealed C o w C2 o2 :=
  ⟨k.phi.trans h.phi, h.adv.trans k.adv, k.good, fun i off len n => (k.view i off len n).trans (h.view i off len n)⟩

theorem shut_arr {C : Cx} {objs : Store} {w : World} (g : Good C objs w) {id off len n : Nat} {v : Value} (r : RelA C objs (.arr id off len n) v) :
    ∃ C', Sealed C objs w C' (shutA objs (.arr id off len n)) ∧ ∀ sz sub, viewA objs id off len n = some (sz, sub) → RelD C'.M (.sl sz sub) v := by
  have r' := r
  cases r with
  | arr _ _ _ _ a cap sz es fr ho hn hc hcur =>
    obtain ⟨C', h1, h2, h3, h4⟩ := seal_arr g ho
    have he : shutA objs (.arr id off len n) = objs.set id (.arr sz es true) := by unfold shutA; rw [getO_some ho]
    rw [he]
    refine ⟨C', ⟨h1, h2, h3, viewA_shut ho⟩, fun sz' sub hv => view_rel g r' hv h2.M fun b N hb es' fr' ho' k hk => ?_⟩
    rw [ho] at ho'; cases ho'
    exact h4 b N hb k hk

mutual
theorem toD_ok {w : World} : ∀ (x : A) {C : Cx} {objs : Store} (_ : Good C objs w) {v : Value} (_ : RelA C objs x v) {ds : List D} (_ : toD objs x = some ds),
    ∃ C', Sealed C objs w C' (shutA objs x) ∧ RelDL C'.M ds v.cells.toList
  | .d x, C, objs, g, v, r, ds, h => by
    unfold toD at h; cases h
    cases r with
    | d hd =>
      refine ⟨C, by unfold shutA; exact .refl g, ?_⟩
      have e := (leaf_one (RelA.d (objs := objs) hd) rfl).2
      rw [e]; exact .one hd
  | .nilsl tg, C, objs, g, v, r, ds, h => by
    unfold toD at h; cases h
    cases r with
    | nilsl _ a =>
      refine ⟨C, by unfold shutA; exact .refl g, .one ?_⟩
      exact RelD.sl (M := C.M) tg [] a 0 (fun _ _ => undef) (Nat.zero_le _) (by simp) (by simp) (by simp)
  | .agg cs, C, objs, g, v, r, ds, h => by
    unfold toD at h
    cases r with
    | agg _ vs hl hr =>
      obtain ⟨C', h1, h2⟩ := toDs_ok cs g (relL_of_array hl hr) h
      exact ⟨C', by unfold shutA; exact h1, h2⟩
  | .arr id off len n, C, objs, g, v, r, ds, h => by
    unfold toD at h
    split at h
    · rename_i sz sub hv
      cases h
      obtain ⟨C', h1, h2⟩ := shut_arr g r
      refine ⟨C', h1, ?_⟩
      cases r with
      | arr _ _ _ _ a cap => exact .one (h2 sz sub hv)
    · cases h
  | .nilm, _, _, _, _, _, _, h | .tup _, _, _, _, _, _, _, h | .bp _ _, _, _, _, _, _, _, h | .ep _ _ _ _, _, _, _, _, _, _, h | .cp _, _, _, _, _, _, _, h | .fn _ _ _, _, _, _, _, _, _, h | .mp _, _, _, _, _, _, _, h | .un, _, _, _, _, _, _, h | .top, _, _, _, _, _, _, h => by unfold toD at h; cases h
theorem toDs_ok {w : World} : ∀ (cs : List A) {C : Cx} {objs : Store} (_ : Good C objs w) {vs : List Value} (_ : RelL C objs cs vs) {ds : List D} (_ : toDs objs cs = some ds),
    ∃ C', Sealed C objs w C' (shutAs objs cs) ∧ RelDL C'.M ds vs
  | [], C, objs, g, vs, r, ds, h => by
    unfold toDs at h; cases h
    rw [r.unnil]
    exact ⟨C, by unfold shutAs; exact .refl g, rfl, fun i c hc => by simp at hc⟩
  | c :: cs, C, objs, g, vs, r, ds, h => by
    unfold toDs at h
    split at h
    · rename_i hleaf
      split at h
      · rename_i x hx
        split at h
        · rename_i y hy
          cases h
          obtain ⟨v, us, rfl, h1, h2⟩ := r.uncons
          obtain ⟨C1, s1, r1⟩ := toD_ok c g h1 hx
          have hy' : toDs (shutA objs c) cs = some y := by rw [toDs_view s1.view]; exact hy
          obtain ⟨C2, s2, r2⟩ := toDs_ok cs s1.good (h2.adv s1.adv) hy'
          refine ⟨C2, by unfold shutAs; exact s1.trans s2, ?_⟩
          rw [(leaf_one h1 hleaf).2] at r1
          exact (r1.mono s2.adv.M).append r2
        · cases h
      · cases h
    · cases h
end

end Ab
