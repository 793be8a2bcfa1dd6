/- A part of the proof of a row by an interpreter that is proved sound; no conditions of its own. -/
import Derived.Test.YtpoheolnnbgebaaAbApp
namespace Ab
open Go

variable {P : Program}

theorem setCells_list : ∀ (us : List Value) (off k : Nat) (cells : Array Value), off + k + us.length ≤ cells.size →
    ((us.zipIdx k).foldl (fun cs (x : Value × Nat) => cs.setIfInBounds (off + x.2) x.1) cells).toList = setRange cells.toList (off + k) us
  | [], off, k, cells, _ => by simp [setRange]
  | u :: us, off, k, cells, h => by
    simp only [List.length_cons] at h
    rw [List.zipIdx_cons, List.foldl_cons, setCells_list us off (k + 1) _ (by simp; omega)]
    apply List.ext_getElem?
    intro i
    rw [get_setRange _ _ _ _ (by simp; omega), get_setRange _ _ _ _ (by simp; omega)]
    simp only [Array.toList_setIfInBounds, List.length_cons, List.getElem?_set, Array.length_toList]
    by_cases h1 : i < off + k
    · rw [if_pos (by omega), if_neg (by omega), if_pos h1]
    · by_cases h2 : i = off + k
      · subst h2
        rw [if_pos (by omega), if_pos rfl, if_pos (by omega), if_neg (by omega), if_pos (by omega)]
        simp
      · rw [if_neg (by omega), if_neg h1]
        by_cases h3 : i < off + k + (us.length + 1)
        · rw [if_pos (by omega), if_pos h3, show i - (off + k) = (i - (off + (k + 1))) + 1 from by omega, List.getElem?_cons_succ]
        · rw [if_neg (by omega), if_neg (by omega), if_neg h3]

theorem setCells (us : Array Value) (off : Nat) (cells : Array Value) (h : off + us.size ≤ cells.size) :
    (us.zipIdx.foldl (fun cs (x : Value × Nat) => cs.setIfInBounds (off + x.2) x.1) cells).toList = cells.toList.take off ++ us.toList ++ cells.toList.drop (off + us.toList.length) := by
  rw [← Array.foldl_toList, Array.toList_zipIdx]
  exact setCells_list us.toList off 0 cells (by simpa using h)

/-- The parts and their values. -/
def RelP (C : Cx) (objs : Store) (ps : List (Nat × A)) (qs : List (Nat × Value)) : Prop :=
  ps.length = qs.length ∧ ∀ (i : Nat) (p : Nat × A), ps[i]? = some p → ∃ v, qs[i]? = some (p.1, v) ∧ RelA C objs p.2 v

theorem RelP.uncons {C : Cx} {objs : Store} {p : Nat × A} {ps : List (Nat × A)} {qs : List (Nat × Value)} (h : RelP C objs (p :: ps) qs) : ∃ v us, qs = (p.1, v) :: us ∧ RelA C objs p.2 v ∧ RelP C objs ps us := by
  cases qs with
  | nil => exact absurd h.1 (by simp)
  | cons q us =>
    obtain ⟨v, h1, h2⟩ := h.2 0 p rfl
    simp at h1
    subst h1
    exact ⟨v, us, rfl, h2, by have := h.1; simpa using this, fun i q hq => by simpa using h.2 (i + 1) q (by simpa using hq)⟩

theorem RelP.map {C : Cx} {objs : Store} (f : Nat × Operand → A) (g : Operand → Value) (h : ∀ p, RelA C objs (f p) (g p.2)) : ∀ l : List (Nat × Operand), RelP C objs (l.map fun p => (p.1, f p)) (l.map fun p => (p.1, g p.2))
  | [] => ⟨rfl, fun i p h => by simp at h⟩
  | x :: l => by
    obtain ⟨h1, h2⟩ := RelP.map f g h l
    refine ⟨by simp, fun i p hp => ?_⟩
    cases i with
    | zero => simp at hp; subst hp; exact ⟨_, by simp, h x⟩
    | succ i => simp at hp; obtain ⟨v, h3, h4⟩ := h2 i p (by simpa using hp); exact ⟨v, by simpa using h3, h4⟩

theorem RelP.adv {C C' : Cx} {o o' : Store} {w w' : World} (h : Adv C o w C' o' w') {ps : List (Nat × A)} {qs : List (Nat × Value)} (r : RelP C o ps qs) : RelP C' o' ps qs :=
  ⟨r.1, fun i p hp => by obtain ⟨v, h1, h2⟩ := r.2 i p hp; exact ⟨v, h1, h2.adv h⟩⟩

theorem fillA_ok {C : Cx} {objs : Store} {place place' : Nat → Option (Nat × Nat)} (hpl : ∀ i x, place i = some x → place' i = some x) :
    ∀ (ps : List (Nat × A)) (qs : List (Nat × Value)) {cells : List A} {vs : Array Value} {out : List A}, RelL C objs cells vs.toList → RelP C objs ps qs → fillA place cells ps = some out →
      ∃ us, Instr.fill place' vs qs = some us ∧ RelL C objs out us.toList
  | [], qs, cells, vs, out, h, hp, hf => by
    have : qs = [] := by have := hp.1; simp at this; exact List.eq_nil_of_length_eq_zero this.symm
    subst this
    simp only [fillA, Option.some.injEq] at hf
    subst hf
    exact ⟨vs, rfl, h⟩
  | (i, x) :: ps, qs, cells, vs, out, h, hp, hf => by
    obtain ⟨v, us, rfl, hr, hp'⟩ := hp.uncons
    unfold fillA at hf
    split at hf
    · cases hf
    rename_i off size hpi
    split at hf
    case isFalse => cases hf
    rename_i hok
    obtain ⟨h1, h2, h3⟩ := hok
    obtain ⟨hc, _⟩ := cells_rel hr h3
    have hsz : v.cells.size = size := by have := hc.1; simp at this; omega
    have hcl : cells.length = vs.size := by have := h.1; simpa using this
    have hset := setCells v.cells off vs (by omega)
    have hrel : RelL C objs (setRange cells off x.cells) (v.cells.zipIdx.foldl (fun cs (x : Value × Nat) => cs.setIfInBounds (off + x.2) x.1) vs).toList := by
      rw [hset]; exact h.setRange hc off
    obtain ⟨out', h4, h5⟩ := fillA_ok hpl ps us hrel hp' hf
    refine ⟨out', ?_, h5⟩
    unfold Instr.fill
    simp only [hpl _ _ hpi]
    rw [if_neg (by simp; omega)]
    exact h4

theorem retag_rel {C : Cx} {objs : Store} : ∀ (gs : List Nat) (cs : List A) (vs : List Value), RelL C objs cs vs → RelL C objs (retag gs cs) vs
  | [], cs, vs, h => by unfold retag; cases cs <;> exact h
  | g :: gs, [], vs, h => by unfold retag; exact h
  | g :: gs, c :: cs, vs, h => by
    obtain ⟨v, us, rfl, h1, h2⟩ := h.uncons
    have ih := retag_rel gs cs us h2
    cases c with
    | nilsl t =>
      simp only [retag]
      cases h1 with
      | nilsl _ a => exact .cons (.nilsl g a) ih
    | _ => simp only [retag]; exact .cons h1 ih

theorem ofLeaf_cells (v : Value) : (ofLeaf v).cells = [ofLeaf v] := by
  unfold ofLeaf
  split <;> rfl

theorem zeroA_ok {C : Cx} {objs : Store} {t : TypeId} {cs : List A} (h : zeroA P t = some cs) : ∃ i z, P.info? t = some i ∧ i.zero = some z ∧ RelL C objs cs z.cells.toList := by
  unfold zeroA at h
  cases hi : P.info? t with
  | none => simp [hi] at h
  | some i =>
    simp only [hi, Option.bind_some] at h
    cases hz : i.zero with
    | none => simp [hz] at h
    | some z =>
      simp only [hz, Option.some.injEq] at h
      subst h
      refine ⟨i, z, rfl, hz, retag_rel _ _ _ ?_⟩
      have := ofValue_rel C objs z
      cases z with
      | agg vs =>
        simp only [ofValue, A.cells, Value.cells] at this ⊢
        obtain ⟨vs', h1, h2⟩ := rel_agg this
        cases h1; exact h2
      | _ =>
        simp only [ofValue, Value.cells] at this ⊢
        rw [ofLeaf_cells]
        exact .cons this (.nil _ _)

/-! ### Building -/

theorem places_ok : ∀ fs : List Field, (fs.all fun f => (sizeT P f.type).isSome) = true →
    ∃ places, fs.mapM (fun f => (P.info? f.type).map fun i => (f.offset, i.size)) = some places ∧ ∀ (i : Nat) (f : Field), fs[i]? = some f → ∃ n, sizeT P f.type = some n ∧ places[i]? = some (f.offset, n)
  | [], _ => ⟨[], rfl, by simp⟩
  | f :: fs, h => by
    simp only [List.all_cons, Bool.and_eq_true] at h
    obtain ⟨places, h1, h2⟩ := places_ok fs h.2
    unfold sizeT at h
    cases hi : P.info? f.type with
    | none => simp [hi] at h
    | some i =>
      refine ⟨(f.offset, i.size) :: places, by simp [List.mapM_cons, hi, h1], fun j g hj => ?_⟩
      cases j with
      | zero => simp at hj; subst hj; exact ⟨i.size, by simp [sizeT, hi], rfl⟩
      | succ j => simp at hj; obtain ⟨n, h3, h4⟩ := h2 j g hj; exact ⟨n, h3, by simpa using h4⟩

theorem build_struct {C : Cx} {objs : Store} {w : World} {t : TypeId} {fs : Array Field} (hu : P.underlying t = some (.struct fs)) {z : List A} (hz : zeroA P t = some z) {ps : List (Nat × A)} {qs : Array (Nat × Value)} (hp : RelP C objs ps qs.toList)
    (hsz : (fs.toList.all fun f => (sizeT P f.type).isSome) = true) {out : List A} (h : fillA (fun i => match fieldT P t i with | some (o, n, _) => some (o, n) | none => none) z ps = some out) :
    Gives P C objs w (Instr.build t qs) (.agg out) := by
  obtain ⟨i, zv, hi, hzv, hrel⟩ := zeroA_ok (C := C) (objs := objs) hz
  obtain ⟨places, hm, hpl⟩ := places_ok fs.toList hsz
  obtain ⟨us, hf, hr⟩ := fillA_ok (place' := (places.toArray[·]?)) (fun j x hx => by
    split at hx
    · rename_i o n ag hfd
      cases hx
      simp only [fieldT, hu] at hfd
      split at hfd
      · rename_i fl hfl
        obtain ⟨n', h1, h2⟩ := hpl j fl (by simpa using hfl)
        split at hfd
        · rename_i z' b' q1 q2
          rw [h1] at q1; cases q1; cases hfd
          simpa using h2
        · cases hfd
      · cases hfd
    · cases hx) ps qs.toList hrel hp h
  refine ⟨.agg us, ?_, ?_⟩
  · have hf' : Instr.fill (fun x => places[x]?) zv.cells qs.toList = some us := by simpa using hf
    simp [Instr.build, run_underlying hu, typeInfo, zeroValue, hi, hzv, Array.mapM_eq_mapM_toList, run_places w _ _ hm, hf']
  · have := RelA.agg' hr
    simpa using this

theorem build_array {C : Cx} {objs : Store} {w : World} {t e : TypeId} {k n : Nat} (hu : P.underlying t = some (.array k e)) (hn : sizeT P e = some n) {z : List A} (hz : zeroA P t = some z) {ps : List (Nat × A)} {qs : Array (Nat × Value)} (hp : RelP C objs ps qs.toList)
    {out : List A} (h : fillA (fun i => some (i * n, n)) z ps = some out) :
    Gives P C objs w (Instr.build t qs) (.agg out) := by
  obtain ⟨i, zv, hi, hzv, hrel⟩ := zeroA_ok (C := C) (objs := objs) hz
  obtain ⟨us, hf, hr⟩ := fillA_ok (place' := fun i => some (i * n, n)) (fun _ _ h => h) ps qs.toList hrel hp h
  refine ⟨.agg us, ?_, ?_⟩
  · simp [Instr.build, zeroValue, typeInfo, hi, hzv, run_under hu, run_sizeOf' hn, hf]
  · have := RelA.agg' hr
    simpa using this

end Ab
