/- A part of the proof of a row by an interpreter that is proved sound; no conditions of its own. -/
import Derived.Test.YtipfkflogjfbjaaAbFrame2
namespace Ab
open Go

variable {P : Program}

def Writes (W : List Nat) (o : Store) (F : Store → Option (A × Store)) (v : A) (o' : Store) : Prop :=
  ∀ o2, Agree W o o2 → ∃ o2', F o2 = some (v, o2') ∧ Agree W o' o2' ∧ o2'.length = o2.length ∧ ∀ i, i ∉ W → o2'[i]? = o2[i]?

theorem Writes.of_same {L W : List Nat} {o o' : Store} {F : Store → Option (A × Store)} {v : A} (h : Same L o F v o') (hs : ∀ i ∈ L, i ∈ W) : Writes W o F v o' := fun o2 ha =>
  ⟨o2, h.2 o2 (ha.sub hs), by rw [h.1]; exact ha, rfl, fun _ _ => rfl⟩

theorem Writes.of_set {W : List Nat} {o : Store} {F : Store → Option (A × Store)} {v : A} {id : Nat} {x : O} (hid : id ∈ W) (h : ∀ o2, Agree W o o2 → F o2 = some (v, o2.set id x)) : Writes W o F v (o.set id x) := fun o2 ha =>
  ⟨_, h o2 ha, ha.set _ _, by simp, fun i hi => List.getElem?_set_ne (fun e : id = i => hi (e ▸ hid))⟩

theorem Agree.refl (L : List Nat) (o : Store) : Agree L o o := ⟨rfl, fun _ _ => rfl⟩

theorem Writes.loc {W : List Nat} {o o' : Store} {F : Store → Option (A × Store)} {v : A} (h : Writes W o F v o') (hF : F o = some (v, o')) {p : Nat} (hp : o[p]? = some .gone) : Loc F o p [] W v o' := by
  obtain ⟨o1, h1, _, _, h4⟩ := h o (.refl _ _)
  rw [hF] at h1; cases h1
  refine Loc.write hp (fun hw => by rw [h4 p hw]; exact hp) fun o2 ha _ => h o2 ha

theorem sliceA_plain {o o' : Store} {t : TypeId} {x v : A} {lo hi mx : Option A} (hx : ∀ id off ln n, x ≠ .arr id off ln n) (h : sliceA P o t x lo hi mx = some (v, o')) : Writes (refsA x) o (fun o2 => sliceA P o2 t x lo hi mx) v o' ∧ (mx.isSome = false → o' = o) := by
  have key : ∀ o2, sliceA P o2 t x lo hi mx = (sliceA P o t x lo hi mx).map (fun q => (q.1, o2)) := fun o2 => by
    cases x with
    | d y =>
      cases y <;> simp only [sliceA, lenA] <;> first
        | rfl
        | ((repeat' split) <;> rfl)
    | arr id off ln n => exact absurd rfl (hx id off ln n)
    | nilsl g => simp only [sliceA, lenA]; ((repeat' split) <;> rfl)
    | nilm => simp only [sliceA, lenA]; ((repeat' split) <;> rfl)
    | _ => rfl
  have h2 : o' = o := by
    have := key o
    rw [h] at this
    simpa using this
  subst h2
  exact ⟨Writes.of_same (L := []) ⟨rfl, fun o2 _ => by simp [key o2, h]⟩ (by simp), fun _ => rfl⟩

theorem sliceA_writes {o o' : Store} {t : TypeId} {x v : A} {lo hi mx : Option A} (h : sliceA P o t x lo hi mx = some (v, o')) : Writes (refsA x) o (fun o2 => sliceA P o2 t x lo hi mx) v o' ∧ (mx.isSome = false → o' = o) := by
  cases x with
  | arr id off ln n =>
    have hid : id ∈ refsA (.arr id off ln n) := by simp [refsA]
    unfold sliceA at h
    simp only [lenA] at h
    split at h
    case h_2 => cases h
    rename_i hh l m e1 e2 e3
    split at h
    case isFalse => cases h
    rename_i hok
    split at h
    case h_2 => cases h
    rename_i z by_ sz es fr he hg
    split at h
    case isFalse => cases h
    rename_i hok2
    have hg2 : ∀ o2, Agree (refsA (.arr id off ln n)) o o2 → getO o2 id = .arr sz es fr := fun o2 ha => by rw [ha.getO hid]; exact hg
    split at h
    · rename_i hm
      split at h
      · rename_i hm0
        cases h
        refine ⟨Writes.of_same (L := refsA (.arr id off ln n)) ⟨rfl, fun o2 ha => ?_⟩ (fun _ h => h), fun hn => by simp [hm] at hn⟩
        simp only [sliceA, lenA, e1, e2, e3]
        rw [if_pos hok]
        simp only [he, hg2 o2 ha]
        rw [if_pos hok2, if_pos hm, if_pos hm0]
      · rename_i hm0
        cases h
        refine ⟨Writes.of_set hid fun o2 ha => ?_, fun hn => by simp [hm] at hn⟩
        simp only [sliceA, lenA, e1, e2, e3]
        rw [if_pos hok]
        simp only [he, hg2 o2 ha]
        rw [if_pos hok2, if_pos hm, if_neg hm0]
    · rename_i hm
      cases h
      refine ⟨Writes.of_same (L := refsA (.arr id off ln n)) ⟨rfl, fun o2 ha => ?_⟩ (fun _ h => h), fun _ => rfl⟩
      simp only [sliceA, lenA, e1, e2, e3]
      rw [if_pos hok]
      simp only [he, hg2 o2 ha]
      rw [if_pos hok2, if_neg hm]
  | _ => exact sliceA_plain (by simp) h

theorem storeA_writes {o o' : Store} {t : TypeId} {p x : A} (h : storeA P o t p x = some o') {W : List Nat} (hp : ∀ i ∈ refsA p, i ∈ W) (hx : ∀ i ∈ refsA x, i ∈ W) : Writes W o (fun o2 => (storeA P o2 t p x).map fun q => (.top, q)) .top o' := by
  have hxc : ∀ i ∈ refsAs x.cells, i ∈ W := by
    intro i hi
    cases x <;> first
      | (simp only [A.cells, refsAs, List.append_nil] at hi; exact hx i hi)
      | (simp only [A.cells] at hi; exact hx i (by simpa [refsA] using hi))
  unfold storeA at h
  split at h
  case h_1 => cases h
  rename_i n hn
  simp only at h
  split at h
  case isFalse => cases h
  rename_i hok
  split at h
  · rename_i id off
    have hid : id ∈ W := hp id (by simp [refsA])
    split at h
    case h_2 => cases h
    rename_i bs hg
    split at h
    case isFalse => cases h
    rename_i hfit
    cases h
    refine Writes.of_set hid fun o2 ha => ?_
    have hg2 : getO o2 id = .box bs := by rw [ha.getO hid]; exact hg
    simp only [storeA, hn]
    rw [if_pos hok]
    simp only [hg2]
    rw [if_pos hfit]; rfl
  · rename_i id i off m
    have hid : id ∈ W := hp id (by simp [refsA])
    split at h
    case h_2 => cases h
    rename_i ds hds
    split at h
    case h_2 => cases h
    rename_i sz es hg
    split at h
    case isFalse => cases h
    rename_i hm
    split at h
    case h_2 => cases h
    rename_i e he
    split at h
    case isFalse => cases h
    rename_i hfit
    cases h
    intro o2 ha
    have hsh := shutAs_agree x.cells ha hxc
    have hg2 : getO (shutAs o2 x.cells) id = .arr sz es false := by rw [hsh.getO hid]; exact hg
    have hd2 : toDs o2 x.cells = some ds := by rw [toDs_agree ha x.cells hxc]; exact hds
    refine ⟨(shutAs o2 x.cells).set id (.arr sz (es.set i (setRange e off ds)) false), ?_, hsh.set _ _, by simp [shutAs_length], fun j hj => ?_⟩
    · simp only [storeA, hn]
      rw [if_pos hok]
      simp only [hd2, hg2]
      rw [if_pos hm]
      simp only [he]
      rw [if_pos hfit]; rfl
    · rw [List.getElem?_set_ne (fun e : id = j => hj (e ▸ hid)), shutAs_out _ _ (fun hc => hj (hxc j hc))]
  · cases h

theorem mapPutA_writes {o o' : Store} {kt : TypeId} {id : Nat} {k : D} {x v : A} (h : mapPutA P o kt id k x = some (v, o')) {W : List Nat} (hid : id ∈ W) (hx : ∀ i ∈ refsA x, i ∈ W) : Writes W o (fun o2 => mapPutA P o2 kt id k x) v o' := by
  unfold mapPutA at h
  split at h
  case isFalse => cases h
  rename_i hk
  split at h
  case h_2 => cases h
  rename_i es hg
  split at h
  case h_2 => cases h
  rename_i u hu
  split at h
  case h_2 => cases h
  rename_i es1 hput
  cases h
  intro o2 ha
  have hg2 : getO o2 id = .mp es := by rw [ha.getO hid]; exact hg
  have hu2 : exA o2 x = some u := by rw [exA_agree ha x hx]; exact hu
  refine ⟨(shutA o2 x).set id (.mp es1), ?_, (shutA_agree x ha hx).set _ _, by simp [shutA_length], fun j hj => ?_⟩
  · simp only [mapPutA]
    rw [if_pos hk]
    simp only [hg2, hu2, hput]
  · rw [List.getElem?_set_ne (fun e : id = j => hj (e ▸ hid)), shutA_out _ _ (fun hc => hj (hx j hc))]

theorem elemsA_writes {ts : List A} {e : TypeId} {n : Nat} {W : List Nat} : ∀ (ps : List (Nat × Operand)) {o o' : Store} {es out : List (List D)}, elemsA P ts o e n es ps = some (out, o') → (∀ p ∈ ps, ∀ i ∈ refsA (ev ts p.2), i ∈ W) →
    ∀ o2, Agree W o o2 → ∃ o2', elemsA P ts o2 e n es ps = some (out, o2') ∧ Agree W o' o2' ∧ o2'.length = o2.length ∧ ∀ i, i ∉ W → o2'[i]? = o2[i]?
  | [], o, o', es, out, h, hs, o2, ha => by
    unfold elemsA at h; cases h
    exact ⟨o2, rfl, ha, rfl, fun _ _ => rfl⟩
  | (i, x) :: ps, o, o', es, out, h, hs, o2, ha => by
    have hx : ∀ i ∈ refsA (evT P ts e x), i ∈ W := fun j hj => by rw [refs_evT] at hj; exact hs (i, x) (by simp) j hj
    unfold elemsA at h
    simp only at h
    split at h
    case h_2 => cases h
    rename_i ds hds
    split at h
    case isFalse => cases h
    rename_i hok
    have hd2 : toD o2 (evT P ts e x) = some ds := by rw [toD_agree ha _ hx]; exact hds
    obtain ⟨o2', h1, h2, h3, h4⟩ := elemsA_writes ps h (fun p hp => hs p (by simp [hp])) _ (shutA_agree _ ha hx)
    refine ⟨o2', ?_, h2, by rw [h3, shutA_length], fun j hj => by rw [h4 j hj, shutA_out _ _ (fun hc => hj (hx j hc))]⟩
    unfold elemsA
    simp only [hd2]
    rw [if_pos hok]; exact h1

theorem appendA_writes {o o' : Store} {p sz bytes : Nat} {s x v : A} (h : appendA o (some p) sz bytes s x = some (v, o')) {W : List Nat} (hs : ∀ i ∈ refsA s, i ∈ W) (hx : ∀ i ∈ refsA x, i ∈ W) (hp : o[p]? = some .gone) : Loc (fun o2 => appendA o2 (some p) sz bytes s x) o p [] W v o' := by
  unfold appendA at h
  split at h
  case h_1 => cases h
  rename_i sz' xs hel
  split at h
  case isFalse => cases h
  rename_i hc
  have hel2 : ∀ o2, Agree W o o2 → elemsOf o2 x = some (sz', xs) := fun o2 ha => by rw [elemsOf_agree ha x hx]; exact hel
  split at h
  · split at h
    case isFalse => cases h
    rename_i hfit
    simp only [newO, Option.some.injEq, Prod.mk.injEq] at h
    obtain ⟨rfl, rfl⟩ := h
    intro o2 ha hp2
    have h1 := (List.getElem?_eq_some_iff.1 hp).1
    have h2 := (List.getElem?_eq_some_iff.1 hp2).1
    refine ⟨o2.set p (.arr sz xs false), ?_, by simp, fun i hi => ?_, fun i _ hi => List.getElem?_set_ne (Ne.symm hi)⟩
    · simp only [appendA, hel2 o2 (ha.sub (by simp))]
      rw [if_pos hc, if_pos hfit]; rfl
    · by_cases hip : i = p
      · subst hip; simp [h1, h2]
      · rcases hi with hi | hi
        · rw [List.getElem?_set_ne (Ne.symm hip), List.getElem?_set_ne (Ne.symm hip), ha.2 i (by simp [hi])]
        · exact absurd hi hip
  · rename_i id off len n
    have hid : id ∈ W := hs id (by simp [refsA])
    split at h
    case h_2 => cases h
    rename_i sz0 es fz hg
    have hg2 : ∀ o2, Agree W o o2 → getO o2 id = .arr sz0 es fz := fun o2 ha => by rw [ha.getO hid]; exact hg
    split at h
    case isFalse => cases h
    rename_i hok
    split at h
    · rename_i htip
      split at h
      case isFalse => cases h
      rename_i hfit
      have hF : appendA o (some p) sz bytes (.arr id off len n) x = some (v, o') := by
        simp only [appendA, hel]
        rw [if_pos hc]
        simp only [hg]
        rw [if_pos hok, if_pos htip, if_pos hfit]; exact h
      cases h
      refine Writes.loc (Writes.of_set hid fun o2 ha => ?_) hF hp
      simp only [appendA, hel2 o2 ha]
      rw [if_pos hc]
      simp only [hg2 o2 ha]
      rw [if_pos hok, if_pos htip, if_pos hfit]
    · rename_i htip
      split at h
      case isFalse => cases h
      rename_i hfit
      have hF : appendA o (some p) sz bytes (.arr id off len n) x = some (v, o') := by
        simp only [appendA, hel]
        rw [if_pos hc]
        simp only [hg]
        rw [if_pos hok, if_neg htip, if_pos hfit]; exact h
      cases h
      refine Writes.loc (Writes.of_set hid fun o2 ha => ?_) hF hp
      simp only [appendA, hel2 o2 ha]
      rw [if_pos hc]
      simp only [hg2 o2 ha]
      rw [if_pos hok, if_neg htip, if_pos hfit]
  · cases h

end Ab
