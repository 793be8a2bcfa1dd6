/- A part of the proof of a row by an interpreter that is proved sound; no conditions of its own. -/
import Derived.Test.YtpoheolnnbgebaaAbOps
namespace Ab
open Go

variable {P : Program}

def Yields (P : Program) (C : Cx) (objs : Store) (w : World) (s : Sem Value) (x : A) (objs' : Store) : Prop :=
  ∃ v C' w', s.run P w = .ok v w' ∧ Adv C objs w C' objs' w' ∧ Good C' objs' w' ∧ RelA C' objs' x v

theorem Yields.same {C : Cx} {objs : Store} {w : World} {s : Sem Value} {x : A} {v : Value} (g : Good C objs w) (h : s.run P w = .ok v w) (r : RelA C objs x v) : Yields P C objs w s x objs :=
  ⟨v, C, w, h, .refl _ _ _, g, r⟩

theorem run_sizeOf' {t : TypeId} {n : Nat} (h : sizeT P t = some n) (w : World) : (Go.sizeOf t).run P w = .ok n w := by
  unfold sizeT at h
  cases hi : P.info? t with
  | none => simp [hi] at h
  | some i => simp [hi] at h; simp [Go.sizeOf, typeInfo, hi, h]

theorem run_isAgg' {t : TypeId} {b : Bool} (h : isAggT P t = some b) (w : World) : (isAgg t).run P w = .ok b w := by
  unfold isAggT at h
  split at h <;> simp_all [isAgg, underlying]

theorem run_under {t : TypeId} {u : TypeDesc} (h : P.underlying t = some u) (w : World) : (underlying t).run P w = .ok u w := by
  simp [underlying, h]

theorem Good.lt {C : Cx} {objs : Store} {w : World} (g : Good C objs w) {id b n : Nat} (hid : id < objs.length) (h : C.φ id = some (b, n)) : b < w.heap.size := by
  have ho := g.obj id _ (List.getElem?_eq_getElem hid)
  cases hx : objs[id] with
  | box cs =>
    rw [hx] at ho
    obtain ⟨b', vs, t, h1, h2, _⟩ := ho
    rw [h] at h1; cases h1
    exact (Array.getElem?_eq_some_iff.1 h2).1
  | arr sz es fr =>
    rw [hx] at ho
    rcases ho.2 with ⟨h1, _⟩ | ⟨b', N, vs, t, h1, h2, _⟩
    · rw [h] at h1; cases h1
    · rw [h] at h1; cases h1
      exact (Array.getElem?_eq_some_iff.1 h2).1
  | mp es =>
    rw [hx] at ho
    obtain ⟨b', n', ents, clock, h1, h2, _⟩ := ho
    rw [h] at h1; cases h1
    exact (Array.getElem?_eq_some_iff.1 h2).1
  | gone => rw [hx] at ho; have h1 : C.φ id = none := ho; rw [h] at h1; cases h1

theorem cell_plain {w : World} {b k : Nat} {vs : Array Value} {t : TypeId} {fz : Nat × Nat} (h : w.heap[b]? = some (.cells vs t fz)) : w.cell? ⟨b, k, none⟩ = vs[k]? := by
  simp [World.cell?, h]

theorem add_plain' (b o j : Nat) : (⟨b, o, none⟩ : Addr).add j = ⟨b, o + j, none⟩ := by
  unfold Addr.add; split <;> simp_all

theorem add_add (a : Addr) (i j : Nat) (h : a.spot = none) : (a.add i).add j = a.add (i + j) := by
  obtain ⟨b, o, s⟩ := a
  simp only at h
  subst h
  simp [add_plain', Nat.add_assoc]

/-- The cells behind a pointer. -/
theorem cellsAt_rel {C : Cx} {objs : Store} {w : World} (g : Good C objs w) {p : A} {v : Value} (r : RelA C objs p v) {cs : List A} (h : cellsAt objs p = some cs) :
    ∃ ad vs, v = .pointer (some ad) ∧ RelL C objs cs vs ∧ ∀ j u, vs[j]? = some u → w.cell? (ad.add j) = some u := by
  cases r with
  | bp id off b n bs ho hb =>
    have hg : getO objs id = .box bs := by simp [getO, List.getD_eq_getElem?_getD, ho]
    simp only [cellsAt, hg, Option.some.injEq] at h
    obtain ⟨b', vs, t, h1, h2, h3, h4, _⟩ := g.obj id _ ho
    rw [hb] at h1; cases h1
    have hr : RelL C objs bs vs.toList := relL_of_array h3.symm fun i c hc => (h4 i c hc).2
    subst h
    refine ⟨_, vs.toList.drop off, rfl, hr.drop off, fun j u hu => ?_⟩
    rw [add_plain', cell_plain h2]
    rw [List.getElem?_drop] at hu
    rw [← Array.getElem?_toList]; exact hu
  | ep id i off n p sz es fr ho hn hcur =>
    have hg : getO objs id = .arr sz es fr := by simp [getO, List.getD_eq_getElem?_getD, ho]
    simp only [cellsAt, hg] at h
    split at h
    · rename_i hne
      obtain ⟨b, N, hb, rfl, hi⟩ := hcur hne
      have he : es[i]? = some es[i] := List.getElem?_eq_getElem hi
      simp only [he, Option.some.injEq] at h
      subst h
      obtain ⟨hz, ⟨h1, h2⟩ | ⟨b', N', vs, t, h1, h2, h3, h4, h5, _⟩⟩ := g.obj id _ ho
      · rw [hb] at h1; cases h1
      · rw [hb] at h1; cases h1
        have hlen : es[i].length = sz := hz _ (List.getElem_mem hi)
        have hall : ∀ j, j < sz → i * sz + j < vs.size := by
          intro j hj
          have : (i + 1) * sz ≤ es.length * sz := Nat.mul_le_mul_right _ hi
          rw [Nat.add_mul] at this; omega
        refine ⟨_, (List.range (sz - off)).map (fun j => vs.getD (i * sz + (off + j)) undef), rfl, ⟨by simp [hlen], fun j c hc => ?_⟩, fun j u hu => ?_⟩
        · simp only [List.getElem?_map, List.getElem?_drop] at hc
          cases hd : es[i][off + j]? with
          | none => simp [hd] at hc
          | some x =>
            simp only [hd, Option.map_some, Option.some.injEq] at hc
            subst hc
            have hlt : off + j < sz := by rw [← hlen]; exact (List.getElem?_eq_some_iff.1 hd).1
            have : ((List.range (sz - off)).map (fun j => vs.getD (i * sz + (off + j)) undef)).getD j undef = vs.getD (i * sz + (off + j)) undef := by
              rw [List.getD_eq_getElem?_getD, List.getElem?_map, List.getElem?_range (by omega)]; rfl
            rw [this]
            exact .d (h5 i _ (off + j) x he hd)
        · simp only [List.getElem?_map] at hu
          by_cases hj : j < sz - off
          · rw [List.getElem?_range hj] at hu
            simp only [Option.map_some, Option.some.injEq] at hu
            subst hu
            have hlt := hall (off + j) (by omega)
            rw [add_plain', cell_plain h2, Array.getD_eq_getD_getElem?, Nat.add_assoc, Array.getElem?_eq_getElem hlt]; rfl
          · rw [List.getElem?_eq_none (by simp; omega)] at hu; simp at hu
    · cases h
  | cp ds ad u hr hm =>
    simp only [cellsAt, Option.some.injEq] at h
    subst h
    refine ⟨ad, (List.range ds.length).map u, rfl, ⟨by simp, fun j c hc => ?_⟩, fun j v hv => ?_⟩
    · simp only [List.getElem?_map] at hc
      cases hd : ds[j]? with
      | none => simp [hd] at hc
      | some x =>
        simp only [hd, Option.map_some, Option.some.injEq] at hc
        subst hc
        have hlt : j < ds.length := (List.getElem?_eq_some_iff.1 hd).1
        have : ((List.range ds.length).map u).getD j undef = u j := by
          rw [List.getD_eq_getElem?_getD, List.getElem?_map, List.getElem?_range hlt]; rfl
        rw [this]; exact .d (hr j x hd)
    · simp only [List.getElem?_map] at hv
      by_cases hj : j < ds.length
      · rw [List.getElem?_range hj] at hv
        simp only [Option.map_some, Option.some.injEq] at hv
        subst hv
        exact g.seal_ _ _ (hm j hj)
      · rw [List.getElem?_eq_none (by simp; omega)] at hv; simp at hv
  | _ => simp [cellsAt] at h

theorem load_ok {C : Cx} {objs : Store} {w : World} (g : Good C objs w) {t : TypeId} {p x : A} {v : Value} (r : RelA C objs p v) (h : loadA P objs t p = some x) : Yields P C objs w (Instr.loadAt t v) x objs := by
  unfold loadA at h
  split at h
  · rename_i n ag hn hag
    split at h
    · rename_i cs hcs
      split at h
      · rename_i hle
        obtain ⟨ad, vs, rfl, hr, hcell⟩ := cellsAt_rel g r hcs
        have hr2 := hr.take n
        have hl : (vs.take n).length = n := by rw [← hr2.1, List.length_take]; omega
        have hc2 : ∀ j u, (vs.take n)[j]? = some u → w.cell? (ad.add j) = some u := fun j u hu => hcell j u (by
          rw [List.getElem?_take] at hu; split at hu
          · exact hu
          · cases hu)
        obtain ⟨k1, k2⟩ := cellsTo_rel hr2 h
        cases ag with
        | true =>
          refine .same g ?_ (k1 rfl)
          have hlc := run_loadCells_list (P := P) (w := w) ad (vs.take n) hc2
          rw [hl] at hlc
          simp [Instr.loadAt, Instr.sureAddr, loadVar, run_isAgg' hag, run_sizeOf' hn, hlc]
        | false =>
          obtain ⟨u, hu, k3⟩ := k2 rfl
          refine .same (v := u) g ?_ k3
          have h0 := hc2 0 u (by rw [hu]; rfl)
          have ha : ad.add 0 = ad := by simp [Addr.add]
          rw [ha] at h0
          simp [Instr.loadAt, Instr.sureAddr, loadVar, run_isAgg' hag, h0]
      · cases h
    · cases h
  · cases h

/-- A new object at place id. -/
def Cx.put (C : Cx) (id : Nat) (x : Option (Nat × Nat)) : Cx := { C with φ := fun i => if i = id then x else C.φ i }

theorem good_keep {C C' : Cx} {objs objs' : Store} {w w' : World} (h : Adv C objs w C' objs' w') {j : Nat} {o : O} (hφ : C'.φ j = C.φ j)
    (hb : ∀ b n, C.φ j = some (b, n) → w'.heap[b]? = w.heap[b]? ∧ ∀ k, C'.M ⟨b, k, none⟩ = C.M ⟨b, k, none⟩) (g : GoodO C objs w j o) : GoodO C' objs' w' j o := by
  cases o with
  | box cs =>
    obtain ⟨b, vs, t, h1, h2, h3, h4, h5⟩ := g
    obtain ⟨e1, e2⟩ := hb _ _ h1
    exact ⟨b, vs, t, hφ.trans h1, e1.trans h2, h3, fun i c hc => ⟨(h4 i c hc).1, (h4 i c hc).2.adv h⟩, fun k => (e2 k).trans (h5 k)⟩
  | arr sz es fr =>
    obtain ⟨hz, ⟨h1, h2⟩ | ⟨b, N, vs, t, h1, h2, h3, h4, h5, h6⟩⟩ := g
    · exact ⟨hz, .inl ⟨hφ.trans h1, h2⟩⟩
    · obtain ⟨e1, e2⟩ := hb _ _ h1
      exact ⟨hz, .inr ⟨b, N, vs, t, hφ.trans h1, e1.trans h2, h3, h4, fun i e j c he hc => (h5 i e j c he hc).mono h.M, fun k u hu => h6 k u (by rw [← e2]; exact hu)⟩⟩
  | mp es =>
    obtain ⟨b, n, ents, clock, h1, h2, h3, h4⟩ := g
    obtain ⟨e1, _⟩ := hb _ _ h1
    exact ⟨b, n, ents, clock, hφ.trans h1, e1.trans h2, h3, fun i k v hv => ⟨(h4 i k v hv).1.mono h.M, (h4 i k v hv).2.adv h⟩⟩
  | gone => exact hφ.trans g

/-- Where a new object goes. -/
def Place (objs : Store) : Option Nat → Prop
  | none => True
  | some p => objs[p]? = some .gone

theorem newO_at {objs : Store} {dr : Option Nat} (hp : Place objs dr) (o : O) :
    (newO objs dr o).2[(newO objs dr o).1]? = some o ∧ (∀ j, j ≠ (newO objs dr o).1 → (newO objs dr o).2[j]? = objs[j]?) ∧
    (objs[(newO objs dr o).1]? = none ∨ objs[(newO objs dr o).1]? = some .gone) ∧ objs.length ≤ (newO objs dr o).2.length ∧ (newO objs dr o).2.length ≤ max objs.length ((newO objs dr o).1 + 1) := by
  cases dr with
  | none =>
    simp only [newO]
    refine ⟨by simp, fun j hj => ?_, .inl (by simp), by simp, by simp⟩
    rcases Nat.lt_or_ge j objs.length with h | h
    · rw [List.getElem?_append_left h]
    · rw [List.getElem?_append_right h, List.getElem?_eq_none (by simp; omega), List.getElem?_eq_none (by omega)]
  | some p =>
    simp only [newO]
    have hlt : p < objs.length := (List.getElem?_eq_some_iff.1 hp).1
    refine ⟨by simp [hlt], fun j hj => by rw [List.getElem?_set_ne (Ne.symm hj)], .inr hp, by simp, by simp; omega⟩

theorem newO_adv {C : Cx} {objs : Store} {w : World} {dr : Option Nat} (hp : Place objs dr) (o : O) (n : Nat) (ob : Obj) :
    Adv C objs w (C.put (newO objs dr o).1 (some (w.heap.size, n))) (newO objs dr o).2 (w.alloc ob) := by
  obtain ⟨h1, h2, h3, h4, h5⟩ := newO_at hp o
  generalize (newO objs dr o).1 = id at *
  generalize (newO objs dr o).2 = objs' at *
  refine ⟨fun _ _ h => h, h4, fun j x hx => ?_, rfl, rfl, rfl, by simp, fun b hb _ => ?_, fun a v h => .inl h, fun j b m hj hb => ?_⟩
  · by_cases hj : j = id
    · subst hj
      rcases h3 with h3 | h3
      · rw [hx] at h3; cases h3
      · rw [hx] at h3; cases h3; trivial
    · rw [h2 j hj, hx]
      have e : (C.put id (some (w.heap.size, n))).φ j = C.φ j := by simp [Cx.put, hj]
      cases x with
      | box cs => exact ⟨e, cs, rfl⟩
      | arr sz es fr => exact ⟨es, fr, rfl, .inl ⟨rfl, e⟩⟩
      | mp es => exact ⟨e, es, rfl⟩
      | gone => trivial
  · show (w.heap.push ob)[b]? = _
    rw [Array.getElem?_push, if_neg (by omega)]
  · by_cases hji : j = id
    · subst hji
      simp only [Cx.put, if_true, Option.some.injEq, Prod.mk.injEq] at hb
      exact .inl (by omega)
    · have e : (C.put id (some (w.heap.size, n))).φ j = C.φ j := by simp [Cx.put, hji]
      rw [e] at hb
      have hlt : j < objs.length := by
        rcases Nat.lt_or_ge j objs.length with h | h
        · exact h
        · have := h2 j hji
          rw [List.getElem?_eq_none h, List.getElem?_eq_none_iff] at this
          omega
      exact .inr ⟨j, m, hlt, hb⟩

theorem cell_alloc {w : World} {a : Addr} {v : Value} (h : w.cell? a = some v) (o : Obj) : (w.alloc o).cell? a = some v := by
  rw [World.cell?_alloc_lt w o a (World.block_lt_of_cell? w a h)]; exact h

theorem newO_good {C : Cx} {objs : Store} {w : World} (g : Good C objs w) {dr : Option Nat} (hp : Place objs dr) (o : O) (n : Nat) (ob : Obj)
    (hnew : GoodO (C.put (newO objs dr o).1 (some (w.heap.size, n))) (newO objs dr o).2 (w.alloc ob) (newO objs dr o).1 o) :
    Good (C.put (newO objs dr o).1 (some (w.heap.size, n))) (newO objs dr o).2 (w.alloc ob) := by
  have adv := newO_adv (C := C) (w := w) hp o n ob
  obtain ⟨h1, h2, h3, h4, h5⟩ := newO_at hp o
  generalize (newO objs dr o).1 = id at *
  generalize (newO objs dr o).2 = objs' at *
  have hlt : ∀ j, j < objs'.length → j ≠ id → j < objs.length := fun j hj hji => by
    rcases Nat.lt_or_ge j objs.length with h | h
    · exact h
    · have := h2 j hji
      rw [List.getElem?_eq_none h, List.getElem?_eq_none_iff] at this
      omega
  have hφ : ∀ j, j ≠ id → (C.put id (some (w.heap.size, n))).φ j = C.φ j := fun j hj => by simp [Cx.put, hj]
  refine ⟨fun a v h => cell_alloc (g.seal_ a v h) ob, fun j x hx => ?_, fun i j b m k hi hj hbi hbj => ?_⟩
  · by_cases hj : j = id
    · subst hj; rw [h1] at hx; cases hx; exact hnew
    · rw [h2 j hj] at hx
      refine good_keep adv (hφ j hj) (fun b m hb => ⟨?_, fun k => rfl⟩) (g.obj j x hx)
      have hb' := g.lt (List.getElem?_eq_some_iff.1 hx).1 hb
      show (w.heap.push ob)[b]? = _
      rw [Array.getElem?_push, if_neg (by omega)]
  · by_cases hii : i = id
    · by_cases hjj : j = id
      · rw [hii, hjj]
      · rw [hφ j hjj] at hbj
        subst hii
        simp only [Cx.put, if_true, Option.some.injEq, Prod.mk.injEq] at hbi
        have := g.lt (hlt j hj hjj) hbj
        omega
    · rw [hφ i hii] at hbi
      by_cases hjj : j = id
      · subst hjj
        simp only [Cx.put, if_true, Option.some.injEq, Prod.mk.injEq] at hbj
        have := g.lt (hlt i hi hii) hbi
        omega
      · rw [hφ j hjj] at hbj
        exact g.inj i j b m k (hlt i hi hii) (hlt j hj hjj) hbi hbj

theorem fresh_M {C : Cx} {objs : Store} {w : World} (g : Good C objs w) (k : Nat) : C.M ⟨w.heap.size, k, none⟩ = none := by
  cases h : C.M ⟨w.heap.size, k, none⟩ with
  | none => rfl
  | some v => have := World.block_lt_of_cell? w _ (g.seal_ _ _ h); simp at this

theorem heap_alloc (w : World) (o : Obj) : (w.alloc o).heap[w.heap.size]? = some o := by
  show (w.heap.push o)[w.heap.size]? = _
  simp

/-- A new variable. -/
theorem newBox_ok {C : Cx} {objs : Store} {w : World} (g : Good C objs w) {dr : Option Nat} (hp : Place objs dr) (e : TypeId) {cs : List A} {vs : Array Value} (hr : RelL C objs cs vs.toList) (hl : cs.all A.leaf = true) :
    ∃ C', Adv C objs w C' (newO objs dr (.box cs)).2 (w.alloc (.cells vs e)) ∧ Good C' (newO objs dr (.box cs)).2 (w.alloc (.cells vs e)) ∧
      RelA C' (newO objs dr (.box cs)).2 (.bp (newO objs dr (.box cs)).1 0) (.pointer (some ⟨w.heap.size, 0, none⟩)) := by
  have hsz : vs.size = cs.length := by have := hr.1; simpa using this.symm
  have adv := newO_adv (C := C) (w := w) hp (.box cs) cs.length (.cells vs e)
  have h1 := (newO_at hp (.box cs)).1
  refine ⟨_, adv, newO_good g hp _ _ _ ⟨w.heap.size, vs, e, by simp [Cx.put], heap_alloc w _, hsz, fun i c hc => ⟨?_, ?_⟩, fun k => fresh_M g k⟩, .bp _ _ _ cs.length cs h1 (by simp [Cx.put])⟩
  · exact (List.all_eq_true.mp hl) c (List.mem_of_getElem? hc)
  · have := (hr.adv adv).2 i c hc
    rwa [List.getD_eq_getElem?_getD, Array.getElem?_toList, ← Array.getD_eq_getD_getElem?] at this

end Ab
