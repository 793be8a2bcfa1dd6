/- A part of the proof of a row by an interpreter that is proved sound; no conditions of its own. -/
import Derived.Test.YtpoheolnnbgebaaAbRel
import Derived.Laws.Sem
import Derived.Laws.Cells
import Derived.Laws.CopyRow
import Derived.Laws.AppendOwn
import Derived.Laws.World
import Derived.Laws.Tables
namespace Ab
open Go

variable {P : Program}

/-! ### Values of operands -/

theorem ofLeaf_rel (C : Cx) (objs : Store) (v : Value) : RelA C objs (ofLeaf v) v := by
  unfold ofLeaf
  split
  · exact .d (.bool _)
  · exact .d (.int _ _)
  · exact .d (.str _)
  · exact .d .nilp
  · exact .nilsl _ _
  · exact .d .nilf
  · exact .d .nili
  · exact .nilm
  · exact .top _

theorem ofValue_rel (C : Cx) (objs : Store) (v : Value) : RelA C objs (ofValue v) v := by
  unfold ofValue
  split
  · rename_i cs
    refine .agg _ _ (by simp) fun i c hc => ?_
    simp only [List.getElem?_map] at hc
    cases h : cs.toList[i]? with
    | none => simp [h] at hc
    | some v =>
      simp only [h, Option.map_some, Option.some.injEq] at hc
      subst hc
      have h2 : cs.getD i undef = v := by
        rw [Array.getD_eq_getD_getElem?, ← Array.getElem?_toList, h]; rfl
      rw [h2]
      exact ofLeaf_rel C objs v
  · exact ofLeaf_rel C objs v

theorem ev_rel {C : Cx} {objs : Store} {ts : List A} {a : Act} (r : RelT C objs ts a.tmps) (x : Operand) : RelA C objs (ev ts x) (a.eval x) := by
  cases x with
  | tmp t => exact r.get t
  | const v => exact ofValue_rel C objs v
  | global g => exact .top _
  | func f => exact .fn f [] [] #[] #[] rfl rfl (fun i c h => by simp at h) (fun i c h => by simp at h)

theorem evT_rel {C : Cx} {objs : Store} {ts : List A} {a : Act} (r : RelT C objs ts a.tmps) (t : TypeId) (x : Operand) : RelA C objs (evT P ts t x) (a.eval x) := by
  unfold evT
  split
  · exact .nilsl _ _
  · exact ev_rel r x

/-- Related lists of values. -/
def RelL (C : Cx) (objs : Store) (cs : List A) (vs : List Value) : Prop := cs.length = vs.length ∧ ∀ i c, cs[i]? = some c → RelA C objs c (vs.getD i undef)

theorem RelL.nil (C : Cx) (objs : Store) : RelL C objs [] [] := ⟨rfl, fun i c h => by simp at h⟩

theorem RelL.cons {C : Cx} {objs : Store} {c : A} {v : Value} {cs : List A} {vs : List Value} (h : RelA C objs c v) (hs : RelL C objs cs vs) : RelL C objs (c :: cs) (v :: vs) := by
  refine ⟨by simp [hs.1], fun i x hx => ?_⟩
  cases i with
  | zero => simp at hx; subst hx; exact h
  | succ i => simp at hx; simpa using hs.2 i x hx

theorem RelL.head {C : Cx} {objs : Store} {c : A} {v : Value} {cs : List A} {vs : List Value} (h : RelL C objs (c :: cs) (v :: vs)) : RelA C objs c v ∧ RelL C objs cs vs :=
  ⟨by simpa using h.2 0 c rfl, by have := h.1; simpa using this, fun i x hx => by simpa using h.2 (i + 1) x (by simpa using hx)⟩

theorem RelL.uncons {C : Cx} {objs : Store} {c : A} {cs : List A} {vs : List Value} (h : RelL C objs (c :: cs) vs) : ∃ v us, vs = v :: us ∧ RelA C objs c v ∧ RelL C objs cs us := by
  cases vs with
  | nil => exact absurd h.1 (by simp)
  | cons v us => exact ⟨v, us, rfl, h.head⟩

theorem RelL.unnil {C : Cx} {objs : Store} {vs : List Value} (h : RelL C objs [] vs) : vs = [] := by
  have := h.1; simp at this; exact List.eq_nil_of_length_eq_zero this.symm

theorem RelL.append {C : Cx} {objs : Store} : ∀ {cs ds : List A} {vs us : List Value}, RelL C objs cs vs → RelL C objs ds us → RelL C objs (cs ++ ds) (vs ++ us)
  | [], _, _, _, h, k => by rw [h.unnil]; exact k
  | c :: cs, _, vs, _, h, k => by
    obtain ⟨v, us', rfl, h1, h2⟩ := h.uncons
    exact .cons h1 (h2.append k)

theorem RelL.take {C : Cx} {objs : Store} : ∀ (n : Nat) {cs : List A} {vs : List Value}, RelL C objs cs vs → RelL C objs (cs.take n) (vs.take n)
  | 0, _, _, _ => by simpa using RelL.nil C objs
  | n + 1, [], _, h => by rw [h.unnil]; exact RelL.nil C objs
  | n + 1, c :: cs, vs, h => by
    obtain ⟨v, us', rfl, h1, h2⟩ := h.uncons
    exact .cons h1 (h2.take n)

theorem RelL.drop {C : Cx} {objs : Store} : ∀ (n : Nat) {cs : List A} {vs : List Value}, RelL C objs cs vs → RelL C objs (cs.drop n) (vs.drop n)
  | 0, _, _, h => h
  | n + 1, [], _, h => by rw [h.unnil]; exact RelL.nil C objs
  | n + 1, c :: cs, vs, h => by
    obtain ⟨v, us', rfl, h1, h2⟩ := h.uncons
    exact h2.drop n

theorem RelL.setRange {C : Cx} {objs : Store} {cs ds : List A} {vs us : List Value} (h : RelL C objs cs vs) (k : RelL C objs ds us) (off : Nat) : RelL C objs (setRange cs off ds) (vs.take off ++ us ++ vs.drop (off + us.length)) := by
  unfold Ab.setRange
  rw [k.1]
  exact ((h.take off).append k).append (h.drop _)

theorem RelL.map {C : Cx} {objs : Store} {α : Type} (f : α → A) (g : α → Value) (h : ∀ x, RelA C objs (f x) (g x)) : ∀ l : List α, RelL C objs (l.map f) (l.map g)
  | [] => RelL.nil C objs
  | x :: l => .cons (h x) (RelL.map f g h l)

theorem RelL.adv {C C' : Cx} {o o' : Store} {w w' : World} (h : Adv C o w C' o' w') {cs : List A} {vs : List Value} (r : RelL C o cs vs) : RelL C' o' cs vs :=
  ⟨r.1, fun i c hc => (r.2 i c hc).adv h⟩

theorem relL_of_array {C : Cx} {objs : Store} {cs : List A} {vs : Array Value} (hl : cs.length = vs.size) (h : ∀ i c, cs[i]? = some c → RelA C objs c (vs.getD i undef)) : RelL C objs cs vs.toList :=
  ⟨by simpa using hl, fun i c hc => by
    have := h i c hc
    rwa [Array.getD_eq_getD_getElem?, ← Array.getElem?_toList, ← List.getD_eq_getElem?_getD] at this⟩

theorem array_of_relL {C : Cx} {objs : Store} {cs : List A} {vs : List Value} (h : RelL C objs cs vs) : cs.length = vs.toArray.size ∧ ∀ i c, cs[i]? = some c → RelA C objs c (vs.toArray.getD i undef) :=
  ⟨by simpa using h.1, fun i c hc => by
    have := h.2 i c hc
    rw [Array.getD_eq_getD_getElem?, ← Array.getElem?_toList]
    rwa [List.getD_eq_getElem?_getD] at this⟩

theorem RelA.agg' {C : Cx} {objs : Store} {cs : List A} {vs : List Value} (h : RelL C objs cs vs) : RelA C objs (.agg cs) (.agg vs.toArray) :=
  .agg _ _ (array_of_relL h).1 (array_of_relL h).2

theorem RelA.tup' {C : Cx} {objs : Store} {cs : List A} {vs : List Value} (h : RelL C objs cs vs) : RelA C objs (.tup cs) (.tuple vs.toArray) :=
  .tup _ _ (array_of_relL h).1 (array_of_relL h).2

/-- A leaf's value lies in one cell. -/
theorem leaf_one {C : Cx} {objs : Store} {c : A} {v : Value} (r : RelA C objs c v) (h : c.leaf = true) : v.oneCell' = true ∧ v.cells = #[v] := by
  cases r with
  | d hd => cases hd <;> exact ⟨rfl, rfl⟩
  | agg => simp [A.leaf] at h
  | tup => simp [A.leaf] at h
  | un => simp [A.leaf] at h
  | top => simp [A.leaf] at h
  | _ => exact ⟨rfl, rfl⟩

theorem leaf_cells {c : A} (h : c.leaf = true) : c.cells = [c] := by
  cases c <;> first | rfl | (simp [A.leaf] at h)

/-- The cells of a value. -/
theorem cells_rel {C : Cx} {objs : Store} {x : A} {v : Value} (r : RelA C objs x v) (hl : x.cells.all A.leaf = true) : RelL C objs x.cells v.cells.toList ∧ ∀ u ∈ v.cells.toList, u.oneCell' = true := by
  have key : ∀ (cs : List A) (vs : List Value), cs.all A.leaf = true → RelL C objs cs vs → ∀ u ∈ vs, u.oneCell' = true := by
    intro cs
    induction cs with
    | nil => intro vs _ h; rw [h.unnil]; simp
    | cons c cs ih =>
      intro vs ha h
      obtain ⟨v, us, rfl, h1, h2⟩ := h.uncons
      simp only [List.all_cons, Bool.and_eq_true] at ha
      intro u hu
      rcases List.mem_cons.mp hu with rfl | hu
      · exact (leaf_one h1 ha.1).1
      · exact ih us ha.2 h2 u hu
  cases r with
  | agg cs vs hl' h => exact ⟨relL_of_array hl' h, key _ _ hl (relL_of_array hl' h)⟩
  | d hd =>
    have e := leaf_one (RelA.d (objs := objs) hd) rfl
    rw [e.2]
    exact ⟨.cons (.d hd) (.nil _ _), by intro u hu; simp at hu; rw [hu]; exact e.1⟩
  | tup cs vs hl' h => simp [A.cells, A.leaf] at hl
  | un => simp [A.cells, A.leaf] at hl
  | top => simp [A.cells, A.leaf] at hl
  | nilsl g a => exact ⟨.cons (.nilsl g a) (.nil _ _), by intro u hu; simp [Value.cells] at hu; rw [hu]; rfl⟩
  | nilm => exact ⟨.cons .nilm (.nil _ _), by intro u hu; simp [Value.cells] at hu; rw [hu]; rfl⟩
  | bp id off b n cs ho hb => exact ⟨.cons (.bp id off b n cs ho hb) (.nil _ _), by intro u hu; simp [Value.cells] at hu; rw [hu]; rfl⟩
  | ep id i off n p sz es fr ho hn h => exact ⟨.cons (.ep id i off n p sz es fr ho hn h) (.nil _ _), by intro u hu; simp [Value.cells] at hu; rw [hu]; rfl⟩
  | cp cs ad u hr hm => exact ⟨.cons (.cp cs ad u hr hm) (.nil _ _), by intro u hu; simp [Value.cells] at hu; rw [hu]; rfl⟩
  | arr id off len n a cap sz es fr ho hn hc h => exact ⟨.cons (.arr id off len n a cap sz es fr ho hn hc h) (.nil _ _), by intro u hu; simp [Value.cells] at hu; rw [hu]; rfl⟩
  | fn f a b vs us hv hu h1 h2 => exact ⟨.cons (.fn f a b vs us hv hu h1 h2) (.nil _ _), by intro u hu; simp [Value.cells] at hu; rw [hu]; rfl⟩
  | mp id b n es ho hb => exact ⟨.cons (.mp id b n es ho hb) (.nil _ _), by intro u hu; simp [Value.cells] at hu; rw [hu]; rfl⟩

theorem cellsTo_rel {C : Cx} {objs : Store} {ag : Bool} {cs : List A} {vs : List Value} {x : A} (h : RelL C objs cs vs) (e : cellsTo ag cs = some x) :
    (ag = true → RelA C objs x (.agg vs.toArray)) ∧ (ag = false → ∃ v, vs = [v] ∧ RelA C objs x v) := by
  unfold cellsTo at e
  cases ag with
  | true => simp at e; subst e; exact ⟨fun _ => .agg' h, fun h => by cases h⟩
  | false =>
    simp at e
    split at e
    · rename_i c
      cases e
      obtain ⟨v, us, rfl, h1, h2⟩ := h.uncons
      rw [h2.unnil]
      exact ⟨(fun h => by cases h), fun _ => ⟨v, rfl, h1⟩⟩
    · cases e

end Ab
