/- A part of the proof of a row by an interpreter that is proved sound; no conditions of its own. -/
import Derived.Test.YtpoheolnnbgebaaAbRegion
namespace Ab
open Go

variable {P : Program}

/-- Two stores that agree on a list of objects. -/
def Agree (L : List Nat) (o o2 : Store) : Prop := o2.length = o.length ∧ ∀ i ∈ L, o2[i]? = o[i]?

theorem Agree.sub {L M : List Nat} {o o2 : Store} (h : Agree L o o2) (hs : ∀ i ∈ M, i ∈ L) : Agree M o o2 := ⟨h.1, fun i hi => h.2 i (hs i hi)⟩

theorem Agree.getO {L : List Nat} {o o2 : Store} (h : Agree L o o2) {i : Nat} (hi : i ∈ L) : getO o2 i = getO o i := by
  unfold Ab.getO
  rw [List.getD_eq_getElem?_getD, List.getD_eq_getElem?_getD, h.2 i hi]

theorem Agree.set {L : List Nat} {o o2 : Store} (h : Agree L o o2) (i : Nat) (x : O) : Agree L (o.set i x) (o2.set i x) := by
  refine ⟨by simp [h.1], fun j hj => ?_⟩
  by_cases hij : i = j
  · subst hij
    simp only [List.getElem?_set_self', h.2 i hj]
  · rw [List.getElem?_set_ne hij, List.getElem?_set_ne hij, h.2 j hj]

theorem viewA_agree {L : List Nat} {o o2 : Store} (h : Agree L o o2) {id : Nat} (hi : id ∈ L) (off len n : Nat) : viewA o2 id off len n = viewA o id off len n := by
  unfold viewA; rw [h.getO hi]

mutual
theorem toD_agree {L : List Nat} {o o2 : Store} (h : Agree L o o2) : ∀ (x : A), (∀ i ∈ refsA x, i ∈ L) → toD o2 x = toD o x
  | .agg cs, hs => by unfold toD; exact toDs_agree h cs (by unfold refsA at hs; exact hs)
  | .arr id off len n, hs => by unfold toD; rw [viewA_agree h (hs id (by unfold refsA; simp))]
  | .d _, _ | .nilsl _, _ | .nilm, _ | .tup _, _ | .bp _ _, _ | .ep _ _ _ _, _ | .cp _, _ | .fn _ _ _, _ | .mp _, _ | .un, _ | .top, _ => by unfold toD; rfl
theorem toDs_agree {L : List Nat} {o o2 : Store} (h : Agree L o o2) : ∀ (xs : List A), (∀ i ∈ refsAs xs, i ∈ L) → toDs o2 xs = toDs o xs
  | [], _ => by unfold toDs; rfl
  | c :: cs, hs => by
    unfold refsAs at hs
    unfold toDs
    rw [toD_agree h c (fun i hi => hs i (by simp [hi])), toDs_agree h cs (fun i hi => hs i (by simp [hi]))]
end

theorem exCell_agree {L : List Nat} {o o2 : Store} (h : Agree L o o2) (x : A) (hs : ∀ i ∈ refsA x, i ∈ L) : exCell o2 x = exCell o x := by
  cases x with
  | arr id off len n => simp only [exCell]; rw [viewA_agree h (hs id (by unfold refsA; simp))]
  | _ => rfl

theorem exCells_agree {L : List Nat} {o o2 : Store} (h : Agree L o o2) : ∀ (xs : List A), (∀ i ∈ refsAs xs, i ∈ L) → exCells o2 xs = exCells o xs
  | [], _ => rfl
  | c :: cs, hs => by
    unfold refsAs at hs
    unfold exCells
    rw [exCell_agree h c (fun i hi => hs i (by simp [hi])), exCells_agree h cs (fun i hi => hs i (by simp [hi]))]

theorem exA_agree {L : List Nat} {o o2 : Store} (h : Agree L o o2) (x : A) (hs : ∀ i ∈ refsA x, i ∈ L) : exA o2 x = exA o x := by
  cases x with
  | agg cs => simp only [exA]; rw [exCells_agree h cs (by unfold refsA at hs; exact hs)]
  | tup cs => rfl
  | _ => simp only [exA]; exact exCell_agree h _ hs

theorem exAs_agree {L : List Nat} {o o2 : Store} (h : Agree L o o2) : ∀ (xs : List A), (∀ i ∈ refsAs xs, i ∈ L) → exAs o2 xs = exAs o xs
  | [], _ => rfl
  | c :: cs, hs => by
    unfold refsAs at hs
    unfold exAs
    rw [exA_agree h c (fun i hi => hs i (by simp [hi])), exAs_agree h cs (fun i hi => hs i (by simp [hi]))]

mutual
theorem shutA_agree {L : List Nat} : ∀ (x : A) {o o2 : Store}, Agree L o o2 → (∀ i ∈ refsA x, i ∈ L) → Agree L (shutA o x) (shutA o2 x)
  | .agg cs, o, o2, h, hs => by unfold shutA; exact shutAs_agree cs h (by unfold refsA at hs; exact hs)
  | .arr id off len n, o, o2, h, hs => by
    unfold shutA
    rw [h.getO (hs id (by unfold refsA; simp))]
    cases getO o id with
    | arr sz es fr => exact h.set _ _
    | _ => exact h
  | .d _, _, _, h, _ | .nilsl _, _, _, h, _ | .nilm, _, _, h, _ | .tup _, _, _, h, _ | .bp _ _, _, _, h, _ | .ep _ _ _ _, _, _, h, _ | .cp _, _, _, h, _ | .fn _ _ _, _, _, h, _ | .mp _, _, _, h, _ | .un, _, _, h, _ | .top, _, _, h, _ => by unfold shutA; exact h
theorem shutAs_agree {L : List Nat} : ∀ (xs : List A) {o o2 : Store}, Agree L o o2 → (∀ i ∈ refsAs xs, i ∈ L) → Agree L (shutAs o xs) (shutAs o2 xs)
  | [], o, o2, h, _ => by unfold shutAs; exact h
  | c :: cs, o, o2, h, hs => by
    unfold refsAs at hs
    unfold shutAs
    exact shutAs_agree cs (shutA_agree c h (fun i hi => hs i (by simp [hi]))) (fun i hi => hs i (by simp [hi]))
end

mutual
theorem shutA_out {i : Nat} : ∀ (x : A) (o : Store), i ∉ refsA x → (shutA o x)[i]? = o[i]?
  | .agg cs, o, h => by unfold shutA; exact shutAs_out cs o (by unfold refsA at h; exact h)
  | .arr id off len n, o, h => by
    unfold refsA at h
    unfold shutA
    cases getO o id with
    | arr sz es fr => rw [List.getElem?_set_ne (by simp at h; exact Ne.symm h)]
    | _ => rfl
  | .d _, _, _ | .nilsl _, _, _ | .nilm, _, _ | .tup _, _, _ | .bp _ _, _, _ | .ep _ _ _ _, _, _ | .cp _, _, _ | .fn _ _ _, _, _ | .mp _, _, _ | .un, _, _ | .top, _, _ => by unfold shutA; rfl
theorem shutAs_out {i : Nat} : ∀ (xs : List A) (o : Store), i ∉ refsAs xs → (shutAs o xs)[i]? = o[i]?
  | [], o, _ => by unfold shutAs; rfl
  | c :: cs, o, h => by
    unfold refsAs at h
    simp only [List.mem_append, not_or] at h
    unfold shutAs
    rw [shutAs_out cs _ h.2, shutA_out c o h.1]
end

mutual
theorem shutA_length : ∀ (x : A) (o : Store), (shutA o x).length = o.length
  | .agg cs, o => by unfold shutA; exact shutAs_length cs o
  | .arr id off len n, o => by unfold shutA; cases getO o id <;> simp
  | .d _, _ | .nilsl _, _ | .nilm, _ | .tup _, _ | .bp _ _, _ | .ep _ _ _ _, _ | .cp _, _ | .fn _ _ _, _ | .mp _, _ | .un, _ | .top, _ => by unfold shutA; rfl
theorem shutAs_length : ∀ (xs : List A) (o : Store), (shutAs o xs).length = o.length
  | [], o => by unfold shutAs; rfl
  | c :: cs, o => by unfold shutAs; rw [shutAs_length cs, shutA_length c]
end

/-- What an operation does depends on, and changes, no other objects than these. -/
def Loc (F : Store → Option (A × Store)) (o : Store) (p : Nat) (R W : List Nat) (v : A) (o' : Store) : Prop :=
  ∀ o2, Agree (R ++ W) o o2 → o2[p]? = some .gone → ∃ o2', F o2 = some (v, o2') ∧ o2'.length = o2.length ∧ (∀ i, (i ∈ W ∨ i = p) → o2'[i]? = o'[i]?) ∧ (∀ i, i ∉ W → i ≠ p → o2'[i]? = o2[i]?)

theorem Loc.read {F : Store → Option (A × Store)} {o : Store} {p : Nat} {R : List Nat} {v : A} (hp : o[p]? = some .gone) (h : ∀ o2, Agree R o o2 → F o2 = some (v, o2)) : Loc F o p R [] v o := by
  intro o2 ha hp2
  refine ⟨o2, h o2 (ha.sub (by simp)), rfl, fun i hi => ?_, fun _ _ _ => rfl⟩
  rcases hi with hi | rfl
  · cases hi
  · rw [hp, hp2]

theorem Loc.new {F : Store → Option (A × Store)} {o : Store} {p : Nat} {v : A} {x : O} (hp : o[p]? = some .gone) (h : ∀ o2, F o2 = some (v, o2.set p x)) : Loc F o p [] [] v (o.set p x) := by
  intro o2 ha hp2
  have h1 := (List.getElem?_eq_some_iff.1 hp).1
  have h2 := (List.getElem?_eq_some_iff.1 hp2).1
  refine ⟨_, h o2, by simp, fun i hi => ?_, fun i _ hi => List.getElem?_set_ne (Ne.symm hi)⟩
  rcases hi with hi | rfl
  · cases hi
  · simp [h1, h2]

/-- Only the objects in W change, in the same way. -/
theorem Loc.write {F : Store → Option (A × Store)} {o o' : Store} {p : Nat} {W : List Nat} {v : A} (hp : o[p]? = some .gone) (hpo : p ∉ W → o'[p]? = some .gone)
    (h : ∀ o2, Agree W o o2 → o2[p]? = some .gone → ∃ o2', F o2 = some (v, o2') ∧ Agree W o' o2' ∧ o2'.length = o2.length ∧ ∀ i, i ∉ W → o2'[i]? = o2[i]?) : Loc F o p [] W v o' := by
  intro o2 ha hp2
  obtain ⟨o2', h1, h2, h3, h4⟩ := h o2 (ha.sub (by simp)) hp2
  refine ⟨o2', h1, h3, fun i hi => ?_, fun i hi _ => h4 i hi⟩
  by_cases hw : i ∈ W
  · exact h2.2 i hw
  · rcases hi with hi | rfl
    · exact absurd hi hw
    · rw [h4 _ hw, hp2, hpo hw]

end Ab
namespace Ab
open Go

variable {P : Program}

theorem refs_ofLeaf (v : Value) : refsA (ofLeaf v) = [] := by unfold ofLeaf; split <;> rfl

theorem refsAs_ofLeaf : ∀ l : List Value, refsAs (l.map ofLeaf) = []
  | [] => by simp [refsAs]
  | v :: l => by simp [refsAs, refs_ofLeaf, refsAs_ofLeaf l]

theorem refs_ofValue (v : Value) : refsA (ofValue v) = [] := by
  unfold ofValue
  split
  · simp [refsA, refsAs_ofLeaf]
  · exact refs_ofLeaf _

theorem refs_evT (ts : List A) (t : TypeId) (x : Operand) : refsA (evT P ts t x) = refsA (ev ts x) := by
  unfold evT
  split
  · simp [refsA, ev, refs_ofValue]
  · rfl

theorem cellsAt_agree {L : List Nat} {o o2 : Store} (h : Agree L o o2) (x : A) (hs : ∀ i ∈ refsA x, i ∈ L) : cellsAt o2 x = cellsAt o x := by
  cases x with
  | bp id off => simp only [cellsAt]; rw [h.getO (hs id (by simp [refsA]))]
  | ep id i off n => simp only [cellsAt]; rw [h.getO (hs id (by simp [refsA]))]
  | _ => rfl

theorem elemsOf_agree {L : List Nat} {o o2 : Store} (h : Agree L o o2) (x : A) (hs : ∀ i ∈ refsA x, i ∈ L) : elemsOf o2 x = elemsOf o x := by
  cases x with
  | arr id off len n => simp only [elemsOf]; rw [viewA_agree h (hs id (by simp [refsA]))]
  | d x => cases x <;> rfl
  | _ => rfl

theorem mapOf_agree {L : List Nat} {o o2 : Store} (h : Agree L o o2) (x : A) (hs : ∀ i ∈ refsA x, i ∈ L) : mapOf o2 x = mapOf o x := by
  cases x with
  | mp id => simp only [mapOf]; rw [h.getO (hs id (by simp [refsA]))]
  | _ => rfl

theorem indexAddrA_agree {L : List Nat} {o o2 : Store} (h : Agree L o o2) (t : TypeId) (x i : A) (hs : ∀ i ∈ refsA x, i ∈ L) : indexAddrA P o2 t x i = indexAddrA P o t x i := by
  cases x with
  | arr id off len n => simp only [indexAddrA]; rw [h.getO (hs id (by simp [refsA]))]
  | d x => cases x <;> rfl
  | _ => rfl

theorem loadA_agree {L : List Nat} {o o2 : Store} (h : Agree L o o2) (t : TypeId) (x : A) (hs : ∀ i ∈ refsA x, i ∈ L) : loadA P o2 t x = loadA P o t x := by
  unfold loadA; rw [cellsAt_agree h x hs]

/-- The objects stay, and the value is the same for stores that agree. -/
def Same (L : List Nat) (o : Store) (F : Store → Option (A × Store)) (v : A) (o' : Store) : Prop := o' = o ∧ ∀ o2, Agree L o o2 → F o2 = some (v, o2)

theorem convertA_same {o o' : Store} {s t : TypeId} {x v : A} (h : convertA P o s t x = some (v, o')) : Same (refsA x) o (fun o2 => convertA P o2 s t x) v o' := by
  have he : ∀ o2, Agree (refsA x) o o2 → elemsOf o2 x = elemsOf o x := fun o2 ha => elemsOf_agree ha x (fun _ h => h)
  have key : ∀ o2, Agree (refsA x) o o2 → convertA P o2 s t x = (convertA P o s t x).map (fun q => (q.1, o2)) := by
    intro o2 ha
    unfold convertA
    split
    · rfl
    · rfl
    · split <;> rfl
    · simp only [he o2 ha]
      split
      · split
        · rfl
        · split <;> rfl
      · rfl
    · rfl
  have h2 : o' = o := by
    unfold convertA at h
    split at h
    · cases h; rfl
    · cases h; rfl
    · split at h <;> cases h; rfl
    · split at h
      · split at h
        · cases h
        · split at h <;> cases h; rfl
      · cases h
    · cases h
  exact ⟨h2, fun o2 ha => by simp [key o2 ha, h]⟩

theorem lookupA_same {o o' : Store} {kt : TypeId} {z m v : A} {k : D} {ok : Bool} (h : lookupA P o kt z m k ok = some (v, o')) : Same (refsA m) o (fun o2 => lookupA P o2 kt z m k ok) v o' := by
  unfold lookupA at h
  split at h
  case isFalse => cases h
  rename_i hk
  split at h
  case h_2 => cases h
  rename_i es hes
  have hm : ∀ o2, Agree (refsA m) o o2 → mapOf o2 m = some es := fun o2 ha => by rw [mapOf_agree ha m (fun _ h => h)]; exact hes
  split at h
  · rename_i u hf; cases h; exact ⟨rfl, fun o2 ha => by simp [lookupA, hk, hm o2 ha, hf]⟩
  · rename_i hf; cases h; exact ⟨rfl, fun o2 ha => by simp [lookupA, hk, hm o2 ha, hf]⟩
  · cases h

theorem indexA_same {o o' : Store} {t : TypeId} {x i v : A} (h : indexA P o t x i = some (v, o')) : Same [] o (fun o2 => indexA P o2 t x i) v o' := by
  unfold indexA at h
  split at h
  · rename_i s n hu hi
    split at h
    case isFalse => cases h
    rename_i h0
    split at h
    case h_2 => cases h
    rename_i b hb
    cases h
    exact ⟨rfl, fun o2 _ => by simp only [indexA, hu, hi]; rw [if_pos h0, hb]⟩
  · rename_i len e cs n hu hi
    split at h
    case h_2 => cases h
    rename_i z ag hz hag
    split at h
    case isFalse => cases h
    rename_i hok
    simp only [Option.map_eq_some_iff, Prod.mk.injEq] at h
    obtain ⟨u, q1, rfl, rfl⟩ := h
    exact ⟨rfl, fun o2 _ => by simp only [indexA, hu, hi, hz, hag]; rw [if_pos hok, q1]; rfl⟩
  · cases h

end Ab
namespace Ab
open Go

variable {P : Program}

def Writes (W : List Nat) (o : Store) (F : Store → Option (A × Store)) (v : A) (o' : Store) : Prop :=
  ∀ o2, Agree W o o2 → ∃ o2', F o2 = some (v, o2') ∧ Agree W o' o2' ∧ o2'.length = o2.length ∧ ∀ i, i ∉ W → o2'[i]? = o2[i]?

theorem Writes.of_same {L W : List Nat} {o o' : Store} {F : Store → Option (A × Store)} {v : A} (h : Same L o F v o') (hs : ∀ i ∈ L, i ∈ W) : Writes W o F v o' := fun o2 ha =>
  ⟨o2, h.2 o2 (ha.sub hs), by rw [h.1]; exact ha, rfl, fun _ _ => rfl⟩

theorem Writes.of_set {W : List Nat} {o : Store} {F : Store → Option (A × Store)} {v : A} {id : Nat} {x : O} (hid : id ∈ W) (h : ∀ o2, Agree W o o2 → F o2 = some (v, o2.set id x)) : Writes W o F v (o.set id x) := fun o2 ha =>
  ⟨_, h o2 ha, ha.set _ _, by simp, fun i hi => List.getElem?_set_ne (fun e : id = i => hi (e ▸ hid))⟩

theorem Agree.refl (L : List Nat) (o : Store) : Agree L o o := ⟨rfl, fun _ _ => rfl⟩

theorem Writes.loc {W : List Nat} {o o' : Store} {F : Store → Option (A × Store)} {v : A} (h : Writes W o F v o') (hF : F o = some (v, o')) {p : Nat} (hp : o[p]? = some .gone) : Loc F o p [] W v o' := by
  obtain ⟨o1, h1, _, _, h4⟩ := h o (.refl _ _)
  rw [hF] at h1; cases h1
  refine Loc.write hp (fun hw => by rw [h4 p hw]; exact hp) fun o2 ha _ => h o2 ha

theorem sliceA_plain {o o' : Store} {t : TypeId} {x v : A} {lo hi mx : Option A} (hx : ∀ id off ln n, x ≠ .arr id off ln n) (h : sliceA P o t x lo hi mx = some (v, o')) : Writes (refsA x) o (fun o2 => sliceA P o2 t x lo hi mx) v o' ∧ (mx.isSome = false → o' = o) := by
  have key : ∀ o2, sliceA P o2 t x lo hi mx = (sliceA P o t x lo hi mx).map (fun q => (q.1, o2)) := fun o2 => by
    cases x with
    | d y =>
      cases y <;> simp only [sliceA, lenA] <;> first
        | rfl
        | ((repeat' split) <;> rfl)
    | arr id off ln n => exact absurd rfl (hx id off ln n)
    | nilsl g => simp only [sliceA, lenA]; ((repeat' split) <;> rfl)
    | nilm => simp only [sliceA, lenA]; ((repeat' split) <;> rfl)
    | _ => rfl
  have h2 : o' = o := by
    have := key o
    rw [h] at this
    simpa using this
  subst h2
  exact ⟨Writes.of_same (L := []) ⟨rfl, fun o2 _ => by simp [key o2, h]⟩ (by simp), fun _ => rfl⟩

theorem sliceA_writes {o o' : Store} {t : TypeId} {x v : A} {lo hi mx : Option A} (h : sliceA P o t x lo hi mx = some (v, o')) : Writes (refsA x) o (fun o2 => sliceA P o2 t x lo hi mx) v o' ∧ (mx.isSome = false → o' = o) := by
  cases x with
  | arr id off ln n =>
    have hid : id ∈ refsA (.arr id off ln n) := by simp [refsA]
    unfold sliceA at h
    simp only [lenA] at h
    split at h
    case h_2 => cases h
    rename_i hh l m e1 e2 e3
    split at h
    case isFalse => cases h
    rename_i hok
    split at h
    case h_2 => cases h
    rename_i z by_ sz es fr he hg
    split at h
    case isFalse => cases h
    rename_i hok2
    have hg2 : ∀ o2, Agree (refsA (.arr id off ln n)) o o2 → getO o2 id = .arr sz es fr := fun o2 ha => by rw [ha.getO hid]; exact hg
    split at h
    · rename_i hm
      split at h
      · rename_i hm0
        cases h
        refine ⟨Writes.of_same (L := refsA (.arr id off ln n)) ⟨rfl, fun o2 ha => ?_⟩ (fun _ h => h), fun hn => by simp [hm] at hn⟩
        simp only [sliceA, lenA, e1, e2, e3]
        rw [if_pos hok]
        simp only [he, hg2 o2 ha]
        rw [if_pos hok2, if_pos hm, if_pos hm0]
      · rename_i hm0
        cases h
        refine ⟨Writes.of_set hid fun o2 ha => ?_, fun hn => by simp [hm] at hn⟩
        simp only [sliceA, lenA, e1, e2, e3]
        rw [if_pos hok]
        simp only [he, hg2 o2 ha]
        rw [if_pos hok2, if_pos hm, if_neg hm0]
    · rename_i hm
      cases h
      refine ⟨Writes.of_same (L := refsA (.arr id off ln n)) ⟨rfl, fun o2 ha => ?_⟩ (fun _ h => h), fun _ => rfl⟩
      simp only [sliceA, lenA, e1, e2, e3]
      rw [if_pos hok]
      simp only [he, hg2 o2 ha]
      rw [if_pos hok2, if_neg hm]
  | _ => exact sliceA_plain (by simp) h

theorem storeA_writes {o o' : Store} {t : TypeId} {p x : A} (h : storeA P o t p x = some o') {W : List Nat} (hp : ∀ i ∈ refsA p, i ∈ W) (hx : ∀ i ∈ refsA x, i ∈ W) : Writes W o (fun o2 => (storeA P o2 t p x).map fun q => (.top, q)) .top o' := by
  have hxc : ∀ i ∈ refsAs x.cells, i ∈ W := by
    intro i hi
    cases x <;> first
      | (simp only [A.cells, refsAs, List.append_nil] at hi; exact hx i hi)
      | (simp only [A.cells] at hi; exact hx i (by simpa [refsA] using hi))
  unfold storeA at h
  split at h
  case h_1 => cases h
  rename_i n hn
  simp only at h
  split at h
  case isFalse => cases h
  rename_i hok
  split at h
  · rename_i id off
    have hid : id ∈ W := hp id (by simp [refsA])
    split at h
    case h_2 => cases h
    rename_i bs hg
    split at h
    case isFalse => cases h
    rename_i hfit
    cases h
    refine Writes.of_set hid fun o2 ha => ?_
    have hg2 : getO o2 id = .box bs := by rw [ha.getO hid]; exact hg
    simp only [storeA, hn]
    rw [if_pos hok]
    simp only [hg2]
    rw [if_pos hfit]; rfl
  · rename_i id i off m
    have hid : id ∈ W := hp id (by simp [refsA])
    split at h
    case h_2 => cases h
    rename_i ds hds
    split at h
    case h_2 => cases h
    rename_i sz es hg
    split at h
    case isFalse => cases h
    rename_i hm
    split at h
    case h_2 => cases h
    rename_i e he
    split at h
    case isFalse => cases h
    rename_i hfit
    cases h
    intro o2 ha
    have hsh := shutAs_agree x.cells ha hxc
    have hg2 : getO (shutAs o2 x.cells) id = .arr sz es false := by rw [hsh.getO hid]; exact hg
    have hd2 : toDs o2 x.cells = some ds := by rw [toDs_agree ha x.cells hxc]; exact hds
    refine ⟨(shutAs o2 x.cells).set id (.arr sz (es.set i (setRange e off ds)) false), ?_, hsh.set _ _, by simp [shutAs_length], fun j hj => ?_⟩
    · simp only [storeA, hn]
      rw [if_pos hok]
      simp only [hd2, hg2]
      rw [if_pos hm]
      simp only [he]
      rw [if_pos hfit]; rfl
    · rw [List.getElem?_set_ne (fun e : id = j => hj (e ▸ hid)), shutAs_out _ _ (fun hc => hj (hxc j hc))]
  · cases h

theorem mapPutA_writes {o o' : Store} {kt : TypeId} {id : Nat} {k : D} {x v : A} (h : mapPutA P o kt id k x = some (v, o')) {W : List Nat} (hid : id ∈ W) (hx : ∀ i ∈ refsA x, i ∈ W) : Writes W o (fun o2 => mapPutA P o2 kt id k x) v o' := by
  unfold mapPutA at h
  split at h
  case isFalse => cases h
  rename_i hk
  split at h
  case h_2 => cases h
  rename_i es hg
  split at h
  case h_2 => cases h
  rename_i u hu
  split at h
  case h_2 => cases h
  rename_i es1 hput
  cases h
  intro o2 ha
  have hg2 : getO o2 id = .mp es := by rw [ha.getO hid]; exact hg
  have hu2 : exA o2 x = some u := by rw [exA_agree ha x hx]; exact hu
  refine ⟨(shutA o2 x).set id (.mp es1), ?_, (shutA_agree x ha hx).set _ _, by simp [shutA_length], fun j hj => ?_⟩
  · simp only [mapPutA]
    rw [if_pos hk]
    simp only [hg2, hu2, hput]
  · rw [List.getElem?_set_ne (fun e : id = j => hj (e ▸ hid)), shutA_out _ _ (fun hc => hj (hx j hc))]

theorem elemsA_writes {ts : List A} {e : TypeId} {n : Nat} {W : List Nat} : ∀ (ps : List (Nat × Operand)) {o o' : Store} {es out : List (List D)}, elemsA P ts o e n es ps = some (out, o') → (∀ p ∈ ps, ∀ i ∈ refsA (ev ts p.2), i ∈ W) →
    ∀ o2, Agree W o o2 → ∃ o2', elemsA P ts o2 e n es ps = some (out, o2') ∧ Agree W o' o2' ∧ o2'.length = o2.length ∧ ∀ i, i ∉ W → o2'[i]? = o2[i]?
  | [], o, o', es, out, h, hs, o2, ha => by
    unfold elemsA at h; cases h
    exact ⟨o2, rfl, ha, rfl, fun _ _ => rfl⟩
  | (i, x) :: ps, o, o', es, out, h, hs, o2, ha => by
    have hx : ∀ i ∈ refsA (evT P ts e x), i ∈ W := fun j hj => by rw [refs_evT] at hj; exact hs (i, x) (by simp) j hj
    unfold elemsA at h
    simp only at h
    split at h
    case h_2 => cases h
    rename_i ds hds
    split at h
    case isFalse => cases h
    rename_i hok
    have hd2 : toD o2 (evT P ts e x) = some ds := by rw [toD_agree ha _ hx]; exact hds
    obtain ⟨o2', h1, h2, h3, h4⟩ := elemsA_writes ps h (fun p hp => hs p (by simp [hp])) _ (shutA_agree _ ha hx)
    refine ⟨o2', ?_, h2, by rw [h3, shutA_length], fun j hj => by rw [h4 j hj, shutA_out _ _ (fun hc => hj (hx j hc))]⟩
    unfold elemsA
    simp only [hd2]
    rw [if_pos hok]; exact h1

theorem appendA_writes {o o' : Store} {p sz bytes : Nat} {s x v : A} (h : appendA o (some p) sz bytes s x = some (v, o')) {W : List Nat} (hs : ∀ i ∈ refsA s, i ∈ W) (hx : ∀ i ∈ refsA x, i ∈ W) (hp : o[p]? = some .gone) : Loc (fun o2 => appendA o2 (some p) sz bytes s x) o p [] W v o' := by
  unfold appendA at h
  split at h
  case h_1 => cases h
  rename_i sz' xs hel
  split at h
  case isFalse => cases h
  rename_i hc
  have hel2 : ∀ o2, Agree W o o2 → elemsOf o2 x = some (sz', xs) := fun o2 ha => by rw [elemsOf_agree ha x hx]; exact hel
  split at h
  · split at h
    case isFalse => cases h
    rename_i hfit
    simp only [newO, Option.some.injEq, Prod.mk.injEq] at h
    obtain ⟨rfl, rfl⟩ := h
    intro o2 ha hp2
    have h1 := (List.getElem?_eq_some_iff.1 hp).1
    have h2 := (List.getElem?_eq_some_iff.1 hp2).1
    refine ⟨o2.set p (.arr sz xs false), ?_, by simp, fun i hi => ?_, fun i _ hi => List.getElem?_set_ne (Ne.symm hi)⟩
    · simp only [appendA, hel2 o2 (ha.sub (by simp))]
      rw [if_pos hc, if_pos hfit]; rfl
    · by_cases hip : i = p
      · subst hip; simp [h1, h2]
      · rcases hi with hi | hi
        · rw [List.getElem?_set_ne (Ne.symm hip), List.getElem?_set_ne (Ne.symm hip), ha.2 i (by simp [hi])]
        · exact absurd hi hip
  · rename_i id off len n
    have hid : id ∈ W := hs id (by simp [refsA])
    split at h
    case h_2 => cases h
    rename_i sz0 es fz hg
    have hg2 : ∀ o2, Agree W o o2 → getO o2 id = .arr sz0 es fz := fun o2 ha => by rw [ha.getO hid]; exact hg
    split at h
    case isFalse => cases h
    rename_i hok
    split at h
    · rename_i htip
      split at h
      case isFalse => cases h
      rename_i hfit
      have hF : appendA o (some p) sz bytes (.arr id off len n) x = some (v, o') := by
        simp only [appendA, hel]
        rw [if_pos hc]
        simp only [hg]
        rw [if_pos hok, if_pos htip, if_pos hfit]; exact h
      cases h
      refine Writes.loc (Writes.of_set hid fun o2 ha => ?_) hF hp
      simp only [appendA, hel2 o2 ha]
      rw [if_pos hc]
      simp only [hg2 o2 ha]
      rw [if_pos hok, if_pos htip, if_pos hfit]
    · rename_i htip
      split at h
      case isFalse => cases h
      rename_i hfit
      have hF : appendA o (some p) sz bytes (.arr id off len n) x = some (v, o') := by
        simp only [appendA, hel]
        rw [if_pos hc]
        simp only [hg]
        rw [if_pos hok, if_neg htip, if_pos hfit]; exact h
      cases h
      refine Writes.loc (Writes.of_set hid fun o2 ha => ?_) hF hp
      simp only [appendA, hel2 o2 ha]
      rw [if_pos hc]
      simp only [hg2 o2 ha]
      rw [if_pos hok, if_neg htip, if_pos hfit]
  · cases h

end Ab
namespace Ab
open Go

variable {P : Program}

theorem reach_seen (o : Store) : ∀ (k : Nat) (todo seen : List Nat), ∀ i ∈ seen, i ∈ reach o k todo seen
  | 0, _, _, i, h => by unfold reach; exact h
  | _ + 1, [], _, i, h => by unfold reach; exact h
  | k + 1, j :: todo, seen, i, h => by
    unfold reach
    split
    · exact reach_seen o k _ _ i h
    · exact reach_seen o k _ _ i (by simp [h])

theorem reach_agree {o o2 : Store} : ∀ (k : Nat) (todo seen : List Nat), (∀ i ∈ reach o k todo seen, getO o2 i = getO o i) → reach o2 k todo seen = reach o k todo seen
  | 0, _, _, _ => by simp [reach]
  | _ + 1, [], _, _ => by simp [reach]
  | k + 1, j :: todo, seen, h => by
    unfold reach at h ⊢
    split
    · rename_i hc
      rw [if_pos hc] at h
      exact reach_agree k _ _ h
    · rename_i hc
      rw [if_neg hc] at h
      have hj := h j (reach_seen o k _ _ j (by simp))
      rw [hj]
      exact reach_agree k _ _ h

theorem backA_loc {ρ : List Nat} (hn : ρ.Nodup) {o o' : Store} (hlt : ∀ i ∈ ρ, i < o.length) {p : Nat} (hp : o[p]? = some .gone) {r v : A} {sub2 : Store} (h : backA ρ o (some p) r sub2 = some (v, o')) :
    ∀ o2 : Store, o2.length = o.length → o2[p]? = some .gone → ∃ o2', backA ρ o2 (some p) r sub2 = some (v, o2') ∧ o2'.length = o2.length ∧ (∀ i, (i ∈ ρ ∨ i = p) → o2'[i]? = o'[i]?) ∧ (∀ i, i ∉ ρ → i ≠ p → o2'[i]? = o2[i]?) := by
  intro o2 hl hp2
  have hpl := (List.getElem?_eq_some_iff.1 hp).1
  have hpl2 := (List.getElem?_eq_some_iff.1 hp2).1
  have hlt2 : ∀ i ∈ ρ, i < o2.length := fun i hi => by rw [hl]; exact hlt i hi
  unfold backA at h ⊢
  simp only at h ⊢
  split at h
  case h_2 => cases h
  rename_i r3 sub3 e1 e2
  split at h
  case isFalse => cases h
  rename_i hle
  rw [if_pos hle]
  split at h
  · cases h
  rename_i hpr
  rw [if_neg hpr]
  have hpr' : p ∉ ρ := by simpa using hpr
  split at h
  · rename_i hd
    cases h
    refine ⟨_, rfl, setAll_length _ _ _, fun i hi => ?_, fun i hi _ => setAll_out _ _ _ hi⟩
    rcases hi with hi | rfl
    · obtain ⟨j, hj⟩ := List.getElem?_of_mem hi
      rw [setAll_in ρ sub3 o2 hn hle (hlt2 i hi) hj, setAll_in ρ sub3 o hn hle (hlt i hi) hj]
    · rw [setAll_out _ _ _ hpr', setAll_out _ _ _ hpr', hp, hp2]
  · rename_i x hd
    cases h
    refine ⟨_, rfl, by simp [setAll_length], fun i hi => ?_, fun i hi hip => by rw [List.getElem?_set_ne (Ne.symm hip)]; exact setAll_out _ _ _ hi⟩
    by_cases hip : i = p
    · subst hip
      rw [List.getElem?_set_self (by rw [setAll_length]; exact hpl2), List.getElem?_set_self (by rw [setAll_length]; exact hpl)]
    · rcases hi with hi | hi
      · obtain ⟨j, hj⟩ := List.getElem?_of_mem hi
        rw [List.getElem?_set_ne (Ne.symm hip), List.getElem?_set_ne (Ne.symm hip), setAll_in ρ sub3 o2 hn hle (hlt2 i hi) hj, setAll_in ρ sub3 o hn hle (hlt i hi) hj]
      · exact absurd hi hip
  · cases h

theorem callR_loc {call : FuncId → List A → Store → Option (A × Store)} {f : FuncId} {args : List A} {o o' : Store} {p : Nat} {v : A} (hp : o[p]? = some .gone) (h : callR call f args o (some p) = some (v, o')) {W : List Nat} (hW : ∀ i ∈ reach o (4 * o.length + 40) (refsAs args) [], i ∈ W) :
    Loc (fun o2 => callR call f args o2 (some p)) o p [] W v o' := by
  have hn := reach_nodup o (4 * o.length + 40) (refsAs args) [] List.nodup_nil
  unfold callR at h
  simp only at h
  generalize hρ : reach o (4 * o.length + 40) (refsAs args) [] = ρ at h hn hW
  split at h
  case isFalse => cases h
  rename_i hall
  have hlt : ∀ i ∈ ρ, i < o.length := fun i hi => by simpa using List.all_eq_true.mp hall i hi
  split at h
  case h_2 => cases h
  rename_i args2 sub h1 h2
  split at h
  case h_2 => cases h
  rename_i r1 sub2 hcall
  have hB := backA_loc hn hlt hp h
  have hself := hB o rfl hp
  have hout : ∀ i, i ∉ ρ → i ≠ p → o'[i]? = o[i]? := by
    obtain ⟨o1, q1, _, _, q4⟩ := hself
    rw [h] at q1; cases q1
    exact q4
  intro o2 ha hp2
  have hag : Agree W o o2 := ha.sub (by simp)
  have hρ2 : reach o2 (4 * o2.length + 40) (refsAs args) [] = ρ := by
    rw [hag.1, ← hρ]
    exact reach_agree _ _ _ fun i hi => hag.getO (hW i (hρ ▸ hi))
  have hmap : ρ.map (getO o2) = ρ.map (getO o) := List.map_congr_left fun i hi => hag.getO (hW i hi)
  obtain ⟨o2', hb2, hl2, hin, hou⟩ := hB o2 hag.1 hp2
  refine ⟨o2', ?_, hl2, fun i hi => ?_, fun i hi hip => hou i (fun hc => hi (hW i hc)) hip⟩
  · show callR call f args o2 (some p) = _
    unfold callR
    simp only [hρ2]
    rw [if_pos (by rw [hag.1]; exact hall), hmap]
    simp only [h1, h2, hcall, hb2]
  · by_cases hir : i ∈ ρ ∨ i = p
    · exact hin i hir
    · have hr : i ∉ ρ := fun h => hir (.inl h)
      have hq : i ≠ p := fun h => hir (.inr h)
      rcases hi with hi | hi
      · rw [hou i hr hq, hout i hr hq, hag.2 i hi]
      · exact absurd hi hq

theorem callA_loc {H : Hints} {call : FuncId → List A → Store → Option (A × Store)} {f : FuncId} {args : List A} {o o' : Store} {p : Nat} {v : A} (hp : o[p]? = some .gone) (h : callA H call f args o (some p) = some (v, o')) :
    Loc (fun o2 => callA H call f args o2 (some p)) o p [] (footCall H o f args) v o' := by
  unfold callA at h
  split at h
  · rename_i hin
    have hfoot : footCall H o f args = reach o (4 * o.length + 40) (refsAs args) [] := by unfold footCall; rw [if_pos hin]
    rw [hfoot]
    have := callR_loc hp h (fun i hi => hi)
    intro o2 ha hp2
    obtain ⟨o2', h1, h2⟩ := this o2 ha hp2
    exact ⟨o2', by simp only [callA]; rw [if_pos hin]; exact h1, h2⟩
  · rename_i hin
    split at h
    case isFalse => cases h
    rename_i hfl
    split at h
    case h_2 => cases h
    rename_i args1 hex
    have hfoot : footCall H o f args = refsAs args ++ reach (shutAs o args) (4 * (shutAs o args).length + 40) (refsAs args1) [] := by
      unfold footCall; rw [if_neg hin, hex]
    rw [hfoot]
    have hps : (shutAs o args)[p]? = some .gone := shutAs_gone args hp
    have L := callR_loc hps h (W := refsAs args ++ reach (shutAs o args) (4 * (shutAs o args).length + 40) (refsAs args1) []) (fun i hi => by simp [hi])
    intro o2 ha hp2
    have hag := ha.sub (M := refsAs args ++ reach (shutAs o args) (4 * (shutAs o args).length + 40) (refsAs args1) []) (by simp)
    have hsh := shutAs_agree args hag (fun i hi => by simp [hi])
    obtain ⟨o2', h1, h2, h3, h4⟩ := L (shutAs o2 args) (by simpa using hsh) (shutAs_gone args hp2)
    refine ⟨o2', ?_, by rw [h2, shutAs_length], h3, fun i hi hip => by rw [h4 i hi hip, shutAs_out _ _ (fun hc => hi (by simp [hc]))]⟩
    simp only [callA]
    rw [if_neg hin, if_pos hfl, exAs_agree hag args (fun i hi => by simp [hi]), hex]
    exact h1

end Ab
namespace Ab
open Go

variable {P : Program}

theorem Same.loc {L : List Nat} {o o' : Store} {F : Store → Option (A × Store)} {v : A} (h : Same L o F v o') {p : Nat} (hp : o[p]? = some .gone) : Loc F o p L [] v o' := by
  obtain ⟨rfl, h2⟩ := h
  exact Loc.read hp h2

theorem Same.mono {L M : List Nat} {o o' : Store} {F : Store → Option (A × Store)} {v : A} (h : Same L o F v o') (hs : ∀ i ∈ L, i ∈ M) : Same M o F v o' := ⟨h.1, fun o2 ha => h.2 o2 (ha.sub hs)⟩

theorem builtinA_loc {o o' : Store} {p : Nat} {v : A} (hp : o[p]? = some .gone) {b : Builtin} {tys : List TypeId} {args : List A} (h : builtinA P o (some p) b tys args = some (v, o')) {R W : List Nat}
    (hf : footB b args = (R, W)) : Loc (fun o2 => builtinA P o2 (some p) b tys args) o p R W v o' := by
  unfold builtinA at h
  split at h
  · -- len
    rename_i x t
    try dsimp only at h
    simp only [footB, Prod.mk.injEq] at hf
    obtain ⟨rfl, rfl⟩ := hf
    have hx : ∀ i ∈ refsA x, i ∈ refsAs [x] := fun i hi => by simp [refsAs, hi]
    split at h
    · rename_i hu
      split at h
      · cases h; exact Loc.read hp fun o2 _ => by simp only [builtinA, hu]
      · cases h
    · rename_i e hu
      split at h
      · cases h
      · cases h
      · rename_i h1 h2
        simp only [Option.map_eq_some_iff, Prod.mk.injEq] at h
        obtain ⟨n, q1, rfl, rfl⟩ := h
        refine Loc.read hp fun o2 _ => ?_
        simp only [builtinA, hu, q1]
        rfl
    · rename_i kt e hu
      simp only [Option.map_eq_some_iff, Prod.mk.injEq] at h
      obtain ⟨es, q1, rfl, rfl⟩ := h
      refine Loc.read hp fun o2 ha => ?_
      simp only [builtinA, hu]
      rw [mapOf_agree ha x hx, q1]; rfl
    · rename_i n e hu
      cases h
      exact Loc.read hp fun o2 _ => by simp only [builtinA, hu]
    · cases h
  · rename_i s x t u
    try dsimp only at h
    simp only [footB, Prod.mk.injEq] at hf
    obtain ⟨rfl, rfl⟩ := hf
    split at h
    case h_2 => cases h
    rename_i z by_ he
    have hs : ∀ i ∈ refsA s, i ∈ refsAs [s, x] := fun i hi => by simp [refsAs, hi]
    have hx : ∀ i ∈ refsA x, i ∈ refsAs [s, x] := fun i hi => by simp [refsAs, hi]
    split at h
    · rename_i e hu
      split at h
      case isFalse => cases h
      rename_i hz
      have key := appendA_writes h hs hx hp
      intro o2 ha hp2
      obtain ⟨o2', q⟩ := key o2 ha hp2
      exact ⟨o2', by simp only [builtinA, he, hu]; rw [if_pos hz]; exact q.1, q.2⟩
    · rename_i hu
      split at h
      case isFalse => cases h
      rename_i hz
      have key := appendA_writes h hs hx hp
      intro o2 ha hp2
      obtain ⟨o2', q⟩ := key o2 ha hp2
      exact ⟨o2', by simp only [builtinA, he, hu]; rw [if_pos hz]; exact q.1, q.2⟩
    · cases h
  · simp only [footB, Prod.mk.injEq] at hf
    try dsimp only at h
    obtain ⟨rfl, rfl⟩ := hf
    simp only [Option.map_eq_some_iff, Prod.mk.injEq] at h
    obtain ⟨n, q1, rfl, rfl⟩ := h
    exact Loc.read hp fun o2 _ => by simp only [builtinA, q1]; rfl
  · simp only [footB, Prod.mk.injEq] at hf
    try dsimp only at h
    obtain ⟨rfl, rfl⟩ := hf
    simp only [Option.map_eq_some_iff, Prod.mk.injEq] at h
    obtain ⟨n, q1, rfl, rfl⟩ := h
    exact Loc.read hp fun o2 _ => by simp only [builtinA, q1]; rfl
  · cases h

theorem opA_frame {H : Hints} {call : FuncId → List A → Store → Option (A × Store)} {ts : List A} {o : Store} {p : Nat} (hp : o[p]? = some .gone) {ty : TypeId} {op : Op} {v : A} {o' : Store} (h : opA P H call ts o (some p) ty op = some (v, o')) {R W : List Nat} (hf : footA P H ts o op = (R, W)) :
    Loc (fun o2 => opA P H call ts o2 (some p) ty op) o p R W v o' := by
  have pure : R = [] → W = [] → Same [] o (fun o2 => opA P H call ts o2 (some p) ty op) v o' → Loc (fun o2 => opA P H call ts o2 (some p) ty op) o p R W v o' := by
    rintro rfl rfl hs; exact hs.loc hp
  have new : R = [] → W = [] → (∃ x, o' = o.set p x ∧ ∀ o2, opA P H call ts o2 (some p) ty op = some (v, o2.set p x)) → Loc (fun o2 => opA P H call ts o2 (some p) ty op) o p R W v o' := by
    rintro rfl rfl ⟨x, rfl, hx⟩; exact Loc.new hp hx
  cases op
  case move x => simp only [footA, Prod.mk.injEq] at hf; simp only [opA, Option.some.injEq, Prod.mk.injEq] at h; exact pure hf.1.symm hf.2.symm ⟨h.2.symm, fun o2 _ => by simp only [opA]; rw [h.1]⟩
  case assign x => simp only [footA, Prod.mk.injEq] at hf; simp only [opA, Option.some.injEq, Prod.mk.injEq] at h; exact pure hf.1.symm hf.2.symm ⟨h.2.symm, fun o2 _ => by simp only [opA]; rw [h.1]⟩
  case pick c x y =>
    simp only [footA, Prod.mk.injEq] at hf
    simp only [opA] at h
    split at h
    · rename_i t ht; cases h; exact pure hf.1.symm hf.2.symm ⟨rfl, fun o2 _ => by simp only [opA, ht]⟩
    · cases h
  case alloc e =>
    simp only [footA, Prod.mk.injEq] at hf
    simp only [opA, newO] at h
    split at h
    case h_2 => cases h
    rename_i z hz
    split at h
    case isFalse => cases h
    rename_i hok
    cases h
    exact new hf.1.symm hf.2.symm ⟨_, rfl, fun o2 => by simp only [opA, newO, hz]; rw [if_pos hok]⟩
  case box e x =>
    simp only [footA, Prod.mk.injEq] at hf
    simp only [opA, newO] at h
    split at h
    case isFalse => cases h
    rename_i hok
    cases h
    exact new hf.1.symm hf.2.symm ⟨_, rfl, fun o2 => by simp only [opA, newO]; rw [if_pos hok]⟩
  case build t parts =>
    simp only [footA, Prod.mk.injEq] at hf
    simp only [opA] at h
    split at h
    case h_2 => cases h
    rename_i cs hcs
    cases h
    exact pure hf.1.symm hf.2.symm ⟨rfl, fun o2 _ => by simp only [opA, hcs]⟩
  case buildSlice t len parts =>
    simp only [footA, Prod.mk.injEq] at hf
    obtain ⟨rfl, rfl⟩ := hf
    simp only [opA, newO] at h
    split at h
    case h_2 => cases h
    rename_i e hu
    split at h
    case h_2 => cases h
    rename_i z n by_ hz he
    split at h
    case h_2 => cases h
    rename_i zd hzd
    split at h
    case isFalse => cases h
    rename_i hok
    split at h
    case h_2 => cases h
    rename_i es objs1 hel
    cases h
    have hsub : ∀ q ∈ parts.toList, ∀ i ∈ refsA (ev ts q.2), i ∈ parts.toList.flatMap fun q => refsA (ev ts q.2) := fun q hq i hi => List.mem_flatMap.2 ⟨q, hq, hi⟩
    have hw := elemsA_writes parts.toList hel hsub
    intro o2 ha hp2
    obtain ⟨o1', q1, q2, q3, q4⟩ := hw o (.refl _ _)
    rw [hel] at q1; cases q1
    obtain ⟨o2', h1, h2, h3, h4⟩ := hw o2 (ha.sub (by simp))
    refine ⟨o2'.set p (.arr n es false), ?_, by simp [h3], fun i hi => ?_, fun i hi hip => by rw [List.getElem?_set_ne (Ne.symm hip)]; exact h4 i hi⟩
    · simp only [opA, newO, hu, hz, he, hzd]
      rw [if_pos hok]
      simp only [h1]
    · have hpl := (List.getElem?_eq_some_iff.1 hp).1
      have hpl2 := (List.getElem?_eq_some_iff.1 hp2).1
      by_cases hip : i = p
      · subst hip
        rw [List.getElem?_set_self (by omega), List.getElem?_set_self (by omega)]
      · rcases hi with hi | hi
        · rw [List.getElem?_set_ne (Ne.symm hip), List.getElem?_set_ne (Ne.symm hip)]; exact h2.2 i hi
        · exact absurd hi hip
  case load t a =>
    simp only [footA, Prod.mk.injEq] at hf
    obtain ⟨rfl, rfl⟩ := hf
    simp only [opA, Option.map_eq_some_iff, Prod.mk.injEq] at h
    obtain ⟨u, h1, rfl, rfl⟩ := h
    exact Loc.read hp fun o2 ha => by simp only [opA]; rw [loadA_agree ha t _ (fun _ h => h), h1]; rfl
  case store t a x =>
    simp only [footA, Prod.mk.injEq] at hf
    obtain ⟨rfl, rfl⟩ := hf
    have hF := h
    simp only [opA, Option.map_eq_some_iff, Prod.mk.injEq] at h
    obtain ⟨u, h1, rfl, rfl⟩ := h
    exact (storeA_writes h1 (fun i hi => by simp [hi]) (fun i hi => by simp [hi])).loc hF hp
  case nilCheck x =>
    simp only [footA, Prod.mk.injEq] at hf
    simp only [opA] at h
    split at h
    · rename_i hn; cases h; exact pure hf.1.symm hf.2.symm ⟨rfl, fun o2 _ => by simp only [opA, hn]⟩
    · cases h
  case binOp b t x y yt =>
    simp only [footA, Prod.mk.injEq] at hf
    simp only [opA, Option.map_eq_some_iff, Prod.mk.injEq] at h
    obtain ⟨u, h1, rfl, rfl⟩ := h
    exact pure hf.1.symm hf.2.symm ⟨rfl, fun o2 _ => by simp only [opA, h1]; rfl⟩
  case unOp u t x =>
    simp only [footA, Prod.mk.injEq] at hf
    simp only [opA] at h
    split at h
    · rename_i b hb; cases h; exact pure hf.1.symm hf.2.symm ⟨rfl, fun o2 _ => by simp only [opA, hb]⟩
    · rename_i k n hb; cases h; exact pure hf.1.symm hf.2.symm ⟨rfl, fun o2 _ => by simp only [opA, hb]⟩
    · cases h
  case convert s t x =>
    simp only [footA, Prod.mk.injEq] at hf
    obtain ⟨rfl, rfl⟩ := hf
    exact (convertA_same (by simpa [opA] using h)).loc hp
  case makeFunc fn a b =>
    simp only [footA, Prod.mk.injEq] at hf
    cases fn <;> simp only [opA] at h <;> first | (cases h; done) | skip
    case func f => cases h; exact pure hf.1.symm hf.2.symm ⟨rfl, fun o2 _ => by simp only [opA]⟩
  case makeMap t r =>
    simp only [footA, Prod.mk.injEq] at hf
    cases r with
    | some r => simp [opA] at h
    | none => simp only [opA, newO] at h; cases h; exact new hf.1.symm hf.2.symm ⟨_, rfl, fun o2 => by simp only [opA, newO]⟩
  case makeSlice t l c =>
    simp only [footA, Prod.mk.injEq] at hf
    simp only [opA, newO] at h
    split at h
    case h_2 => cases h
    rename_i e n by_ len cap hu he hl hcap
    split at h
    case h_2 => cases h
    rename_i z hz
    split at h
    case h_2 => cases h
    rename_i zd hzd
    split at h
    case isFalse => cases h
    rename_i hok
    cases h
    exact new hf.1.symm hf.2.symm ⟨_, rfl, fun o2 => by simp only [opA, newO, hu, he, hl, hcap, hz, hzd]; rw [if_pos hok]⟩
  case slice t x l hh m =>
    simp only [footA] at hf
    have hF := h
    obtain ⟨hw, hr⟩ := sliceA_writes (P := P) (by simpa [opA] using h)
    cases m with
    | some m =>
      simp only [Option.isSome_some, if_true, Prod.mk.injEq] at hf
      obtain ⟨rfl, rfl⟩ := hf
      exact Writes.loc (F := fun o2 => opA P H call ts o2 (some p) ty (.slice t x l hh (some m))) (by simpa [opA] using hw) hF hp
    | none =>
      simp only [Option.isSome_none, Bool.false_eq_true, if_false, Prod.mk.injEq] at hf
      obtain ⟨rfl, rfl⟩ := hf
      have e := hr rfl
      subst e
      refine Loc.read hp fun o2 ha => ?_
      obtain ⟨o2', q1, q2, q3, q4⟩ := hw o2 ha
      have q5 : o2' = o2 := by
        have h1 := (sliceA_writes (P := P) q1).2 rfl
        exact h1
      rw [q5] at q1
      simpa [opA] using q1
  case fieldAddr s x f =>
    simp only [footA, Prod.mk.injEq] at hf
    simp only [opA] at h
    split at h
    case h_2 => cases h
    rename_i o1 n ag hfd
    split at h
    case isFalse => cases h
    rename_i hn
    simp only [Option.map_eq_some_iff, Prod.mk.injEq] at h
    obtain ⟨u, h1, rfl, rfl⟩ := h
    exact pure hf.1.symm hf.2.symm ⟨rfl, fun o2 _ => by simp only [opA, hfd]; rw [if_pos hn, h1]; rfl⟩
  case field t x f =>
    simp only [footA, Prod.mk.injEq] at hf
    simp only [opA] at h
    split at h
    case h_2 => cases h
    rename_i o1 n ag cs hfd hx
    split at h
    case isFalse => cases h
    rename_i hl
    simp only [Option.map_eq_some_iff, Prod.mk.injEq] at h
    obtain ⟨u, h1, rfl, rfl⟩ := h
    exact pure hf.1.symm hf.2.symm ⟨rfl, fun o2 _ => by simp only [opA, hfd, hx]; rw [if_pos hl, h1]; rfl⟩
  case indexAddr t x i =>
    simp only [footA, Prod.mk.injEq] at hf
    obtain ⟨rfl, rfl⟩ := hf
    simp only [opA, Option.map_eq_some_iff, Prod.mk.injEq] at h
    obtain ⟨u, h1, rfl, rfl⟩ := h
    exact Loc.read hp fun o2 ha => by simp only [opA]; rw [indexAddrA_agree ha t _ _ (fun _ h => h), h1]; rfl
  case index t x i =>
    simp only [footA, Prod.mk.injEq] at hf
    obtain ⟨rfl, rfl⟩ := hf
    exact (indexA_same (by simpa [opA] using h)).loc hp
  case lookup t m k ok =>
    simp only [footA, Prod.mk.injEq] at hf
    obtain ⟨rfl, rfl⟩ := hf
    simp only [opA] at h
    split at h
    case h_2 => cases h
    rename_i kt e kd hm hk
    split at h
    case h_2 => cases h
    rename_i z hz
    obtain ⟨rfl, h2⟩ := lookupA_same h
    exact Loc.read hp fun o2 ha => by simp only [opA, hm, hk, hz]; exact h2 o2 ha
  case mapUpdate t m k x =>
    simp only [footA, Prod.mk.injEq] at hf
    obtain ⟨rfl, rfl⟩ := hf
    have hF := h
    simp only [opA] at h
    split at h
    case h_2 => cases h
    rename_i kt e id kd hm hmid hk
    have hw := mapPutA_writes (P := P) h (W := refsA (ev ts m) ++ refsA (ev ts x)) (by simp [hmid, refsA]) (fun i hi => by rw [refs_evT] at hi; simp [hi])
    exact Writes.loc (fun o2 ha => by obtain ⟨o2', q⟩ := hw o2 ha; exact ⟨o2', by simp only [opA, hm, hmid, hk]; exact q.1, q.2⟩) hF hp
  case insert t m k x =>
    simp only [footA, Prod.mk.injEq] at hf
    obtain ⟨rfl, rfl⟩ := hf
    have hF := h
    simp only [opA] at h
    split at h
    case h_2 => cases h
    rename_i kt e id kd hm hmid hk
    have hw := mapPutA_writes (P := P) h (W := refsA (ev ts m) ++ refsA (ev ts x)) (by simp [hmid, refsA]) (fun i hi => by rw [refs_evT] at hi; simp [hi])
    exact Writes.loc (fun o2 ha => by obtain ⟨o2', q⟩ := hw o2 ha; exact ⟨o2', by simp only [opA, hm, hmid, hk]; exact q.1, q.2⟩) hF hp
  case extract x i =>
    simp only [footA, Prod.mk.injEq] at hf
    simp only [opA] at h
    split at h
    case h_2 => cases h
    rename_i vs hvs
    split at h
    case h_2 => cases h
    rename_i u hu
    cases h
    exact pure hf.1.symm hf.2.symm ⟨rfl, fun o2 _ => by simp only [opA, hvs, hu]⟩
  case call c =>
    simp only [opA] at h
    split at h
    · rename_i b hb
      have key : Loc (fun o2 => builtinA P o2 (some p) b c.argTypes.toList (c.args.toList.map (ev ts))) o p R W v o' := by
        simp only [footA, hb] at hf
        exact builtinA_loc hp h hf
      intro o2 ha hp2
      obtain ⟨o2', q⟩ := key o2 ha hp2
      exact ⟨o2', by simp only [opA, hb]; exact q.1, q.2⟩
    · rename_i gv hg
      split at h
      case h_2 => cases h
      rename_i f a b hfn
      simp only [footA, hg, hfn, Prod.mk.injEq] at hf
      obtain ⟨rfl, rfl⟩ := hf
      have key := callA_loc hp h
      intro o2 ha hp2
      obtain ⟨o2', q⟩ := key o2 ha hp2
      exact ⟨o2', by simp only [opA, hg, hfn]; exact q.1, q.2⟩
    · cases h
  all_goals simp [opA] at h

end Ab
