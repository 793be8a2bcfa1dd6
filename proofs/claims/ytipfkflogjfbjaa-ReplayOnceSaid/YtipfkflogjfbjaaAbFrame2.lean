/- A part of the proof of a row by an interpreter that is proved sound; no conditions of its own. -/
import Derived.Test.YtipfkflogjfbjaaAbFrame
namespace Ab
open Go

variable {P : Program}

theorem refs_ofLeaf (v : Value) : refsA (ofLeaf v) = [] := by unfold ofLeaf; split <;> rfl

theorem refsAs_ofLeaf : ∀ l : List Value, refsAs (l.map ofLeaf) = []
  | [] => by simp [refsAs]
  | v :: l => by simp [refsAs, refs_ofLeaf, refsAs_ofLeaf l]

theorem refs_ofValue (v : Value) : refsA (ofValue v) = [] := by
  unfold ofValue
  split
  · simp [refsA, refsAs_ofLeaf]
  · exact refs_ofLeaf _

theorem refs_evT (ts : List A) (t : TypeId) (x : Operand) : refsA (evT P ts t x) = refsA (ev ts x) := by
  unfold evT
  split
  · simp [refsA, ev, refs_ofValue]
  · rfl

theorem cellsAt_agree {L : List Nat} {o o2 : Store} (h : Agree L o o2) (x : A) (hs : ∀ i ∈ refsA x, i ∈ L) : cellsAt o2 x = cellsAt o x := by
  cases x with
  | bp id off => simp only [cellsAt]; rw [h.getO (hs id (by simp [refsA]))]
  | ep id i off n => simp only [cellsAt]; rw [h.getO (hs id (by simp [refsA]))]
  | _ => rfl

theorem elemsOf_agree {L : List Nat} {o o2 : Store} (h : Agree L o o2) (x : A) (hs : ∀ i ∈ refsA x, i ∈ L) : elemsOf o2 x = elemsOf o x := by
  cases x with
  | arr id off len n => simp only [elemsOf]; rw [viewA_agree h (hs id (by simp [refsA]))]
  | d x => cases x <;> rfl
  | _ => rfl

theorem mapOf_agree {L : List Nat} {o o2 : Store} (h : Agree L o o2) (x : A) (hs : ∀ i ∈ refsA x, i ∈ L) : mapOf o2 x = mapOf o x := by
  cases x with
  | mp id => simp only [mapOf]; rw [h.getO (hs id (by simp [refsA]))]
  | _ => rfl

theorem indexAddrA_agree {L : List Nat} {o o2 : Store} (h : Agree L o o2) (t : TypeId) (x i : A) (hs : ∀ i ∈ refsA x, i ∈ L) : indexAddrA P o2 t x i = indexAddrA P o t x i := by
  cases x with
  | arr id off len n => simp only [indexAddrA]; rw [h.getO (hs id (by simp [refsA]))]
  | d x => cases x <;> rfl
  | _ => rfl

theorem loadA_agree {L : List Nat} {o o2 : Store} (h : Agree L o o2) (t : TypeId) (x : A) (hs : ∀ i ∈ refsA x, i ∈ L) : loadA P o2 t x = loadA P o t x := by
  unfold loadA; rw [cellsAt_agree h x hs]

/-- The objects stay, and the value is the same for stores that agree. -/
def Same (L : List Nat) (o : Store) (F : Store → Option (A × Store)) (v : A) (o' : Store) : Prop := o' = o ∧ ∀ o2, Agree L o o2 → F o2 = some (v, o2)

theorem convertA_same {o o' : Store} {s t : TypeId} {x v : A} (h : convertA P o s t x = some (v, o')) : Same (refsA x) o (fun o2 => convertA P o2 s t x) v o' := by
  have he : ∀ o2, Agree (refsA x) o o2 → elemsOf o2 x = elemsOf o x := fun o2 ha => elemsOf_agree ha x (fun _ h => h)
  have key : ∀ o2, Agree (refsA x) o o2 → convertA P o2 s t x = (convertA P o s t x).map (fun q => (q.1, o2)) := by
    intro o2 ha
    unfold convertA
    split
    · rfl
    · rfl
    · split <;> rfl
    · simp only [he o2 ha]
      split
      · split
        · rfl
        · split <;> rfl
      · rfl
    · rfl
  have h2 : o' = o := by
    unfold convertA at h
    split at h
    · cases h; rfl
    · cases h; rfl
    · split at h <;> cases h; rfl
    · split at h
      · split at h
        · cases h
        · split at h <;> cases h; rfl
      · cases h
    · cases h
  exact ⟨h2, fun o2 ha => by simp [key o2 ha, h]⟩

theorem lookupA_same {o o' : Store} {kt : TypeId} {z m v : A} {k : D} {ok : Bool} (h : lookupA P o kt z m k ok = some (v, o')) : Same (refsA m) o (fun o2 => lookupA P o2 kt z m k ok) v o' := by
  unfold lookupA at h
  split at h
  case isFalse => cases h
  rename_i hk
  split at h
  case h_2 => cases h
  rename_i es hes
  have hm : ∀ o2, Agree (refsA m) o o2 → mapOf o2 m = some es := fun o2 ha => by rw [mapOf_agree ha m (fun _ h => h)]; exact hes
  split at h
  · rename_i u hf; cases h; exact ⟨rfl, fun o2 ha => by simp [lookupA, hk, hm o2 ha, hf]⟩
  · rename_i hf; cases h; exact ⟨rfl, fun o2 ha => by simp [lookupA, hk, hm o2 ha, hf]⟩
  · cases h

theorem indexA_same {o o' : Store} {t : TypeId} {x i v : A} (h : indexA P o t x i = some (v, o')) : Same [] o (fun o2 => indexA P o2 t x i) v o' := by
  unfold indexA at h
  split at h
  · rename_i s n hu hi
    split at h
    case isFalse => cases h
    rename_i h0
    split at h
    case h_2 => cases h
    rename_i b hb
    cases h
    exact ⟨rfl, fun o2 _ => by simp only [indexA, hu, hi]; rw [if_pos h0, hb]⟩
  · rename_i len e cs n hu hi
    split at h
    case h_2 => cases h
    rename_i z ag hz hag
    split at h
    case isFalse => cases h
    rename_i hok
    simp only [Option.map_eq_some_iff, Prod.mk.injEq] at h
    obtain ⟨u, q1, rfl, rfl⟩ := h
    exact ⟨rfl, fun o2 _ => by simp only [indexA, hu, hi, hz, hag]; rw [if_pos hok, q1]; rfl⟩
  · cases h

end Ab
