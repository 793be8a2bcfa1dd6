/- A part of the proof of a row by an interpreter that is proved sound; no conditions of its own. -/
import Derived.Test.YtipfkflogjfbjaaAbRegion
namespace Ab
open Go

variable {P : Program}

/-- Two stores that agree on a list of objects. -/
def Agree (L : List Nat) (o o2 : Store) : Prop := o2.length = o.length ∧ ∀ i ∈ L, o2[i]? = o[i]?

theorem Agree.sub {L M : List Nat} {o o2 : Store} (h : Agree L o o2) (hs : ∀ i ∈ M, i ∈ L) : Agree M o o2 := ⟨h.1, fun i hi => h.2 i (hs i hi)⟩

theorem Agree.getO {L : List Nat} {o o2 : Store} (h : Agree L o o2) {i : Nat} (hi : i ∈ L) : getO o2 i = getO o i := by
  unfold Ab.getO
  rw [List.getD_eq_getElem?_getD, List.getD_eq_getElem?_getD, h.2 i hi]

theorem Agree.set {L : List Nat} {o o2 : Store} (h : Agree L o o2) (i : Nat) (x : O) : Agree L (o.set i x) (o2.set i x) := by
  refine ⟨by simp [h.1], fun j hj => ?_⟩
  by_cases hij : i = j
  · subst hij
    simp only [List.getElem?_set_self', h.2 i hj]
  · rw [List.getElem?_set_ne hij, List.getElem?_set_ne hij, h.2 j hj]

theorem viewA_agree {L : List Nat} {o o2 : Store} (h : Agree L o o2) {id : Nat} (hi : id ∈ L) (off len n : Nat) : viewA o2 id off len n = viewA o id off len n := by
  unfold viewA; rw [h.getO hi]

mutual
theorem toD_agree {L : List Nat} {o o2 : Store} (h : Agree L o o2) : ∀ (x : A), (∀ i ∈ refsA x, i ∈ L) → toD o2 x = toD o x
  | .agg cs, hs => by unfold toD; exact toDs_agree h cs (by unfold refsA at hs; exact hs)
  | .arr id off len n, hs => by unfold toD; rw [viewA_agree h (hs id (by unfold refsA; simp))]
  | .d _, _ | .nilsl _, _ | .nilm, _ | .tup _, _ | .bp _ _, _ | .ep _ _ _ _, _ | .cp _, _ | .fn _ _ _, _ | .mp _, _ | .un, _ | .top, _ => by unfold toD; rfl
theorem toDs_agree {L : List Nat} {o o2 : Store} (h : Agree L o o2) : ∀ (xs : List A), (∀ i ∈ refsAs xs, i ∈ L) → toDs o2 xs = toDs o xs
  | [], _ => by unfold toDs; rfl
  | c :: cs, hs => by
    unfold refsAs at hs
    unfold toDs
    rw [toD_agree h c (fun i hi => hs i (by simp [hi])), toDs_agree h cs (fun i hi => hs i (by simp [hi]))]
end

theorem exCell_agree {L : List Nat} {o o2 : Store} (h : Agree L o o2) (x : A) (hs : ∀ i ∈ refsA x, i ∈ L) : exCell o2 x = exCell o x := by
  cases x with
  | arr id off len n => simp only [exCell]; rw [viewA_agree h (hs id (by unfold refsA; simp))]
  | _ => rfl

theorem exCells_agree {L : List Nat} {o o2 : Store} (h : Agree L o o2) : ∀ (xs : List A), (∀ i ∈ refsAs xs, i ∈ L) → exCells o2 xs = exCells o xs
  | [], _ => rfl
  | c :: cs, hs => by
    unfold refsAs at hs
    unfold exCells
    rw [exCell_agree h c (fun i hi => hs i (by simp [hi])), exCells_agree h cs (fun i hi => hs i (by simp [hi]))]

theorem exA_agree {L : List Nat} {o o2 : Store} (h : Agree L o o2) (x : A) (hs : ∀ i ∈ refsA x, i ∈ L) : exA o2 x = exA o x := by
  cases x with
  | agg cs => simp only [exA]; rw [exCells_agree h cs (by unfold refsA at hs; exact hs)]
  | tup cs => rfl
  | _ => simp only [exA]; exact exCell_agree h _ hs

theorem exAs_agree {L : List Nat} {o o2 : Store} (h : Agree L o o2) : ∀ (xs : List A), (∀ i ∈ refsAs xs, i ∈ L) → exAs o2 xs = exAs o xs
  | [], _ => rfl
  | c :: cs, hs => by
    unfold refsAs at hs
    unfold exAs
    rw [exA_agree h c (fun i hi => hs i (by simp [hi])), exAs_agree h cs (fun i hi => hs i (by simp [hi]))]

mutual
theorem shutA_agree {L : List Nat} : ∀ (x : A) {o o2 : Store}, Agree L o o2 → (∀ i ∈ refsA x, i ∈ L) → Agree L (shutA o x) (shutA o2 x)
  | .agg cs, o, o2, h, hs => by unfold shutA; exact shutAs_agree cs h (by unfold refsA at hs; exact hs)
  | .arr id off len n, o, o2, h, hs => by
    unfold shutA
    rw [h.getO (hs id (by unfold refsA; simp))]
    cases getO o id with
    | arr sz es fr => exact h.set _ _
    | _ => exact h
  | .d _, _, _, h, _ | .nilsl _, _, _, h, _ | .nilm, _, _, h, _ | .tup _, _, _, h, _ | .bp _ _, _, _, h, _ | .ep _ _ _ _, _, _, h, _ | .cp _, _, _, h, _ | .fn _ _ _, _, _, h, _ | .mp _, _, _, h, _ | .un, _, _, h, _ | .top, _, _, h, _ => by unfold shutA; exact h
theorem shutAs_agree {L : List Nat} : ∀ (xs : List A) {o o2 : Store}, Agree L o o2 → (∀ i ∈ refsAs xs, i ∈ L) → Agree L (shutAs o xs) (shutAs o2 xs)
  | [], o, o2, h, _ => by unfold shutAs; exact h
  | c :: cs, o, o2, h, hs => by
    unfold refsAs at hs
    unfold shutAs
    exact shutAs_agree cs (shutA_agree c h (fun i hi => hs i (by simp [hi]))) (fun i hi => hs i (by simp [hi]))
end

mutual
theorem shutA_out {i : Nat} : ∀ (x : A) (o : Store), i ∉ refsA x → (shutA o x)[i]? = o[i]?
  | .agg cs, o, h => by unfold shutA; exact shutAs_out cs o (by unfold refsA at h; exact h)
  | .arr id off len n, o, h => by
    unfold refsA at h
    unfold shutA
    cases getO o id with
    | arr sz es fr => rw [List.getElem?_set_ne (by simp at h; exact Ne.symm h)]
    | _ => rfl
  | .d _, _, _ | .nilsl _, _, _ | .nilm, _, _ | .tup _, _, _ | .bp _ _, _, _ | .ep _ _ _ _, _, _ | .cp _, _, _ | .fn _ _ _, _, _ | .mp _, _, _ | .un, _, _ | .top, _, _ => by unfold shutA; rfl
theorem shutAs_out {i : Nat} : ∀ (xs : List A) (o : Store), i ∉ refsAs xs → (shutAs o xs)[i]? = o[i]?
  | [], o, _ => by unfold shutAs; rfl
  | c :: cs, o, h => by
    unfold refsAs at h
    simp only [List.mem_append, not_or] at h
    unfold shutAs
    rw [shutAs_out cs _ h.2, shutA_out c o h.1]
end

mutual
theorem shutA_length : ∀ (x : A) (o : Store), (shutA o x).length = o.length
  | .agg cs, o => by unfold shutA; exact shutAs_length cs o
  | .arr id off len n, o => by unfold shutA; cases getO o id <;> simp
  | .d _, _ | .nilsl _, _ | .nilm, _ | .tup _, _ | .bp _ _, _ | .ep _ _ _ _, _ | .cp _, _ | .fn _ _ _, _ | .mp _, _ | .un, _ | .top, _ => by unfold shutA; rfl
theorem shutAs_length : ∀ (xs : List A) (o : Store), (shutAs o xs).length = o.length
  | [], o => by unfold shutAs; rfl
  | c :: cs, o => by unfold shutAs; rw [shutAs_length cs, shutA_length c]
end

/-- What an operation does depends on, and changes, no other objects than these. -/
def Loc (F : Store → Option (A × Store)) (o : Store) (p : Nat) (R W : List Nat) (v : A) (o' : Store) : Prop :=
  ∀ o2, Agree (R ++ W) o o2 → o2[p]? = some .gone → ∃ o2', F o2 = some (v, o2') ∧ o2'.length = o2.length ∧ (∀ i, (i ∈ W ∨ i = p) → o2'[i]? = o'[i]?) ∧ (∀ i, i ∉ W → i ≠ p → o2'[i]? = o2[i]?)

theorem Loc.read {F : Store → Option (A × Store)} {o : Store} {p : Nat} {R : List Nat} {v : A} (hp : o[p]? = some .gone) (h : ∀ o2, Agree R o o2 → F o2 = some (v, o2)) : Loc F o p R [] v o := by
  intro o2 ha hp2
  refine ⟨o2, h o2 (ha.sub (by simp)), rfl, fun i hi => ?_, fun _ _ _ => rfl⟩
  rcases hi with hi | rfl
  · cases hi
  · rw [hp, hp2]

theorem Loc.new {F : Store → Option (A × Store)} {o : Store} {p : Nat} {v : A} {x : O} (hp : o[p]? = some .gone) (h : ∀ o2, F o2 = some (v, o2.set p x)) : Loc F o p [] [] v (o.set p x) := by
  intro o2 ha hp2
  have h1 := (List.getElem?_eq_some_iff.1 hp).1
  have h2 := (List.getElem?_eq_some_iff.1 hp2).1
  refine ⟨_, h o2, by simp, fun i hi => ?_, fun i _ hi => List.getElem?_set_ne (Ne.symm hi)⟩
  rcases hi with hi | rfl
  · cases hi
  · simp [h1, h2]

/-- Only the objects in W change, in the same way. -/
theorem Loc.write {F : Store → Option (A × Store)} {o o' : Store} {p : Nat} {W : List Nat} {v : A} (hp : o[p]? = some .gone) (hpo : p ∉ W → o'[p]? = some .gone)
    (h : ∀ o2, Agree W o o2 → o2[p]? = some .gone → ∃ o2', F o2 = some (v, o2') ∧ Agree W o' o2' ∧ o2'.length = o2.length ∧ ∀ i, i ∉ W → o2'[i]? = o2[i]?) : Loc F o p [] W v o' := by
  intro o2 ha hp2
  obtain ⟨o2', h1, h2, h3, h4⟩ := h o2 (ha.sub (by simp)) hp2
  refine ⟨o2', h1, h3, fun i hi => ?_, fun i hi _ => h4 i hi⟩
  by_cases hw : i ∈ W
  · exact h2.2 i hw
  · rcases hi with hi | rfl
    · exact absurd hi hw
    · rw [h4 _ hw, hp2, hpo hw]

end Ab
