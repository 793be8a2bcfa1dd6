/- A part of the proof of a row by an interpreter that is proved sound; no conditions of its own. -/
import Derived.Test.YtipfkflogjfbjaaAbFrame4
namespace Ab
open Go

variable {P : Program}

theorem Same.loc {L : List Nat} {o o' : Store} {F : Store → Option (A × Store)} {v : A} (h : Same L o F v o') {p : Nat} (hp : o[p]? = some .gone) : Loc F o p L [] v o' := by
  obtain ⟨rfl, h2⟩ := h
  exact Loc.read hp h2

theorem Same.mono {L M : List Nat} {o o' : Store} {F : Store → Option (A × Store)} {v : A} (h : Same L o F v o') (hs : ∀ i ∈ L, i ∈ M) : Same M o F v o' := ⟨h.1, fun o2 ha => h.2 o2 (ha.sub hs)⟩

theorem builtinA_loc {o o' : Store} {p : Nat} {v : A} (hp : o[p]? = some .gone) {b : Builtin} {tys : List TypeId} {args : List A} (h : builtinA P o (some p) b tys args = some (v, o')) {R W : List Nat}
    (hf : footB b args = (R, W)) : Loc (fun o2 => builtinA P o2 (some p) b tys args) o p R W v o' := by
  unfold builtinA at h
  split at h
  · -- len
    rename_i x t
    try dsimp only at h
    simp only [footB, Prod.mk.injEq] at hf
    obtain ⟨rfl, rfl⟩ := hf
    have hx : ∀ i ∈ refsA x, i ∈ refsAs [x] := fun i hi => by simp [refsAs, hi]
    split at h
    · rename_i hu
      split at h
      · cases h; exact Loc.read hp fun o2 _ => by simp only [builtinA, hu]
      · cases h
    · rename_i e hu
      split at h
      · cases h
      · cases h
      · rename_i h1 h2
        simp only [Option.map_eq_some_iff, Prod.mk.injEq] at h
        obtain ⟨n, q1, rfl, rfl⟩ := h
        refine Loc.read hp fun o2 _ => ?_
        simp only [builtinA, hu, q1]
        rfl
    · rename_i kt e hu
      simp only [Option.map_eq_some_iff, Prod.mk.injEq] at h
      obtain ⟨es, q1, rfl, rfl⟩ := h
      refine Loc.read hp fun o2 ha => ?_
      simp only [builtinA, hu]
      rw [mapOf_agree ha x hx, q1]; rfl
    · rename_i n e hu
      cases h
      exact Loc.read hp fun o2 _ => by simp only [builtinA, hu]
    · cases h
  · rename_i s x t u
    try dsimp only at h
    simp only [footB, Prod.mk.injEq] at hf
    obtain ⟨rfl, rfl⟩ := hf
    split at h
    case h_2 => cases h
    rename_i z by_ he
    have hs : ∀ i ∈ refsA s, i ∈ refsAs [s, x] := fun i hi => by simp [refsAs, hi]
    have hx : ∀ i ∈ refsA x, i ∈ refsAs [s, x] := fun i hi => by simp [refsAs, hi]
    split at h
    · rename_i e hu
      split at h
      case isFalse => cases h
      rename_i hz
      have key := appendA_writes h hs hx hp
      intro o2 ha hp2
      obtain ⟨o2', q⟩ := key o2 ha hp2
      exact ⟨o2', by simp only [builtinA, he, hu]; rw [if_pos hz]; exact q.1, q.2⟩
    · rename_i hu
      split at h
      case isFalse => cases h
      rename_i hz
      have key := appendA_writes h hs hx hp
      intro o2 ha hp2
      obtain ⟨o2', q⟩ := key o2 ha hp2
      exact ⟨o2', by simp only [builtinA, he, hu]; rw [if_pos hz]; exact q.1, q.2⟩
    · cases h
  · simp only [footB, Prod.mk.injEq] at hf
    try dsimp only at h
    obtain ⟨rfl, rfl⟩ := hf
    simp only [Option.map_eq_some_iff, Prod.mk.injEq] at h
    obtain ⟨n, q1, rfl, rfl⟩ := h
    exact Loc.read hp fun o2 _ => by simp only [builtinA, q1]; rfl
  · simp only [footB, Prod.mk.injEq] at hf
    try dsimp only at h
    obtain ⟨rfl, rfl⟩ := hf
    simp only [Option.map_eq_some_iff, Prod.mk.injEq] at h
    obtain ⟨n, q1, rfl, rfl⟩ := h
    exact Loc.read hp fun o2 _ => by simp only [builtinA, q1]; rfl
  · cases h

theorem opA_frame {H : Hints} {call : FuncId → List A → Store → Option (A × Store)} {ts : List A} {o : Store} {p : Nat} (hp : o[p]? = some .gone) {ty : TypeId} {op : Op} {v : A} {o' : Store} (h : opA P H call ts o (some p) ty op = some (v, o')) {R W : List Nat} (hf : footA P H ts o op = (R, W)) :
    Loc (fun o2 => opA P H call ts o2 (some p) ty op) o p R W v o' := by
  have pure : R = [] → W = [] → Same [] o (fun o2 => opA P H call ts o2 (some p) ty op) v o' → Loc (fun o2 => opA P H call ts o2 (some p) ty op) o p R W v o' := by
    rintro rfl rfl hs; exact hs.loc hp
  have new : R = [] → W = [] → (∃ x, o' = o.set p x ∧ ∀ o2, opA P H call ts o2 (some p) ty op = some (v, o2.set p x)) → Loc (fun o2 => opA P H call ts o2 (some p) ty op) o p R W v o' := by
    rintro rfl rfl ⟨x, rfl, hx⟩; exact Loc.new hp hx
  cases op
  case move x => simp only [footA, Prod.mk.injEq] at hf; simp only [opA, Option.some.injEq, Prod.mk.injEq] at h; exact pure hf.1.symm hf.2.symm ⟨h.2.symm, fun o2 _ => by simp only [opA]; rw [h.1]⟩
  case assign x => simp only [footA, Prod.mk.injEq] at hf; simp only [opA, Option.some.injEq, Prod.mk.injEq] at h; exact pure hf.1.symm hf.2.symm ⟨h.2.symm, fun o2 _ => by simp only [opA]; rw [h.1]⟩
  case pick c x y =>
    simp only [footA, Prod.mk.injEq] at hf
    simp only [opA] at h
    split at h
    · rename_i t ht; cases h; exact pure hf.1.symm hf.2.symm ⟨rfl, fun o2 _ => by simp only [opA, ht]⟩
    · cases h
  case alloc e =>
    simp only [footA, Prod.mk.injEq] at hf
    simp only [opA, newO] at h
    split at h
    case h_2 => cases h
    rename_i z hz
    split at h
    case isFalse => cases h
    rename_i hok
    cases h
    exact new hf.1.symm hf.2.symm ⟨_, rfl, fun o2 => by simp only [opA, newO, hz]; rw [if_pos hok]⟩
  case box e x =>
    simp only [footA, Prod.mk.injEq] at hf
    simp only [opA, newO] at h
    split at h
    case isFalse => cases h
    rename_i hok
    cases h
    exact new hf.1.symm hf.2.symm ⟨_, rfl, fun o2 => by simp only [opA, newO]; rw [if_pos hok]⟩
  case build t parts =>
    simp only [footA, Prod.mk.injEq] at hf
    simp only [opA] at h
    split at h
    case h_2 => cases h
    rename_i cs hcs
    cases h
    exact pure hf.1.symm hf.2.symm ⟨rfl, fun o2 _ => by simp only [opA, hcs]⟩
  case buildSlice t len parts =>
    simp only [footA, Prod.mk.injEq] at hf
    obtain ⟨rfl, rfl⟩ := hf
    simp only [opA, newO] at h
    split at h
    case h_2 => cases h
    rename_i e hu
    split at h
    case h_2 => cases h
    rename_i z n by_ hz he
    split at h
    case h_2 => cases h
    rename_i zd hzd
    split at h
    case isFalse => cases h
    rename_i hok
    split at h
    case h_2 => cases h
    rename_i es objs1 hel
    cases h
    have hsub : ∀ q ∈ parts.toList, ∀ i ∈ refsA (ev ts q.2), i ∈ parts.toList.flatMap fun q => refsA (ev ts q.2) := fun q hq i hi => List.mem_flatMap.2 ⟨q, hq, hi⟩
    have hw := elemsA_writes parts.toList hel hsub
    intro o2 ha hp2
    obtain ⟨o1', q1, q2, q3, q4⟩ := hw o (.refl _ _)
    rw [hel] at q1; cases q1
    obtain ⟨o2', h1, h2, h3, h4⟩ := hw o2 (ha.sub (by simp))
    refine ⟨o2'.set p (.arr n es false), ?_, by simp [h3], fun i hi => ?_, fun i hi hip => by rw [List.getElem?_set_ne (Ne.symm hip)]; exact h4 i hi⟩
    · simp only [opA, newO, hu, hz, he, hzd]
      rw [if_pos hok]
      simp only [h1]
    · have hpl := (List.getElem?_eq_some_iff.1 hp).1
      have hpl2 := (List.getElem?_eq_some_iff.1 hp2).1
      by_cases hip : i = p
      · subst hip
        rw [List.getElem?_set_self (by omega), List.getElem?_set_self (by omega)]
      · rcases hi with hi | hi
        · rw [List.getElem?_set_ne (Ne.symm hip), List.getElem?_set_ne (Ne.symm hip)]; exact h2.2 i hi
        · exact absurd hi hip
  case load t a =>
    simp only [footA, Prod.mk.injEq] at hf
    obtain ⟨rfl, rfl⟩ := hf
    simp only [opA, Option.map_eq_some_iff, Prod.mk.injEq] at h
    obtain ⟨u, h1, rfl, rfl⟩ := h
    exact Loc.read hp fun o2 ha => by simp only [opA]; rw [loadA_agree ha t _ (fun _ h => h), h1]; rfl
  case store t a x =>
    simp only [footA, Prod.mk.injEq] at hf
    obtain ⟨rfl, rfl⟩ := hf
    have hF := h
    simp only [opA, Option.map_eq_some_iff, Prod.mk.injEq] at h
    obtain ⟨u, h1, rfl, rfl⟩ := h
    exact (storeA_writes h1 (fun i hi => by simp [hi]) (fun i hi => by simp [hi])).loc hF hp
  case nilCheck x =>
    simp only [footA, Prod.mk.injEq] at hf
    simp only [opA] at h
    split at h
    · rename_i hn; cases h; exact pure hf.1.symm hf.2.symm ⟨rfl, fun o2 _ => by simp only [opA, hn]⟩
    · cases h
  case binOp b t x y yt =>
    simp only [footA, Prod.mk.injEq] at hf
    simp only [opA, Option.map_eq_some_iff, Prod.mk.injEq] at h
    obtain ⟨u, h1, rfl, rfl⟩ := h
    exact pure hf.1.symm hf.2.symm ⟨rfl, fun o2 _ => by simp only [opA, h1]; rfl⟩
  case unOp u t x =>
    simp only [footA, Prod.mk.injEq] at hf
    simp only [opA] at h
    split at h
    · rename_i b hb; cases h; exact pure hf.1.symm hf.2.symm ⟨rfl, fun o2 _ => by simp only [opA, hb]⟩
    · rename_i k n hb; cases h; exact pure hf.1.symm hf.2.symm ⟨rfl, fun o2 _ => by simp only [opA, hb]⟩
    · cases h
  case convert s t x =>
    simp only [footA, Prod.mk.injEq] at hf
    obtain ⟨rfl, rfl⟩ := hf
    exact (convertA_same (by simpa [opA] using h)).loc hp
  case makeFunc fn a b =>
    simp only [footA, Prod.mk.injEq] at hf
    cases fn <;> simp only [opA] at h <;> first | (cases h; done) | skip
    case func f => cases h; exact pure hf.1.symm hf.2.symm ⟨rfl, fun o2 _ => by simp only [opA]⟩
  case makeMap t r =>
    simp only [footA, Prod.mk.injEq] at hf
    cases r with
    | some r => simp [opA] at h
    | none => simp only [opA, newO] at h; cases h; exact new hf.1.symm hf.2.symm ⟨_, rfl, fun o2 => by simp only [opA, newO]⟩
  case makeSlice t l c =>
    simp only [footA, Prod.mk.injEq] at hf
    simp only [opA, newO] at h
    split at h
    case h_2 => cases h
    rename_i e n by_ len cap hu he hl hcap
    split at h
    case h_2 => cases h
    rename_i z hz
    split at h
    case h_2 => cases h
    rename_i zd hzd
    split at h
    case isFalse => cases h
    rename_i hok
    cases h
    exact new hf.1.symm hf.2.symm ⟨_, rfl, fun o2 => by simp only [opA, newO, hu, he, hl, hcap, hz, hzd]; rw [if_pos hok]⟩
  case slice t x l hh m =>
    simp only [footA] at hf
    have hF := h
    obtain ⟨hw, hr⟩ := sliceA_writes (P := P) (by simpa [opA] using h)
    cases m with
    | some m =>
      simp only [Option.isSome_some, if_true, Prod.mk.injEq] at hf
      obtain ⟨rfl, rfl⟩ := hf
      exact Writes.loc (F := fun o2 => opA P H call ts o2 (some p) ty (.slice t x l hh (some m))) (by simpa [opA] using hw) hF hp
    | none =>
      simp only [Option.isSome_none, Bool.false_eq_true, if_false, Prod.mk.injEq] at hf
      obtain ⟨rfl, rfl⟩ := hf
      have e := hr rfl
      subst e
      refine Loc.read hp fun o2 ha => ?_
      obtain ⟨o2', q1, q2, q3, q4⟩ := hw o2 ha
      have q5 : o2' = o2 := by
        have h1 := (sliceA_writes (P := P) q1).2 rfl
        exact h1
      rw [q5] at q1
      simpa [opA] using q1
  case fieldAddr s x f =>
    simp only [footA, Prod.mk.injEq] at hf
    simp only [opA] at h
    split at h
    case h_2 => cases h
    rename_i o1 n ag hfd
    split at h
    case isFalse => cases h
    rename_i hn
    simp only [Option.map_eq_some_iff, Prod.mk.injEq] at h
    obtain ⟨u, h1, rfl, rfl⟩ := h
    exact pure hf.1.symm hf.2.symm ⟨rfl, fun o2 _ => by simp only [opA, hfd]; rw [if_pos hn, h1]; rfl⟩
  case field t x f =>
    simp only [footA, Prod.mk.injEq] at hf
    simp only [opA] at h
    split at h
    case h_2 => cases h
    rename_i o1 n ag cs hfd hx
    split at h
    case isFalse => cases h
    rename_i hl
    simp only [Option.map_eq_some_iff, Prod.mk.injEq] at h
    obtain ⟨u, h1, rfl, rfl⟩ := h
    exact pure hf.1.symm hf.2.symm ⟨rfl, fun o2 _ => by simp only [opA, hfd, hx]; rw [if_pos hl, h1]; rfl⟩
  case indexAddr t x i =>
    simp only [footA, Prod.mk.injEq] at hf
    obtain ⟨rfl, rfl⟩ := hf
    simp only [opA, Option.map_eq_some_iff, Prod.mk.injEq] at h
    obtain ⟨u, h1, rfl, rfl⟩ := h
    exact Loc.read hp fun o2 ha => by simp only [opA]; rw [indexAddrA_agree ha t _ _ (fun _ h => h), h1]; rfl
  case index t x i =>
    simp only [footA, Prod.mk.injEq] at hf
    obtain ⟨rfl, rfl⟩ := hf
    exact (indexA_same (by simpa [opA] using h)).loc hp
  case lookup t m k ok =>
    simp only [footA, Prod.mk.injEq] at hf
    obtain ⟨rfl, rfl⟩ := hf
    simp only [opA] at h
    split at h
    case h_2 => cases h
    rename_i kt e kd hm hk
    split at h
    case h_2 => cases h
    rename_i z hz
    obtain ⟨rfl, h2⟩ := lookupA_same h
    exact Loc.read hp fun o2 ha => by simp only [opA, hm, hk, hz]; exact h2 o2 ha
  case mapUpdate t m k x =>
    simp only [footA, Prod.mk.injEq] at hf
    obtain ⟨rfl, rfl⟩ := hf
    have hF := h
    simp only [opA] at h
    split at h
    case h_2 => cases h
    rename_i kt e id kd hm hmid hk
    have hw := mapPutA_writes (P := P) h (W := refsA (ev ts m) ++ refsA (ev ts x)) (by simp [hmid, refsA]) (fun i hi => by rw [refs_evT] at hi; simp [hi])
    exact Writes.loc (fun o2 ha => by obtain ⟨o2', q⟩ := hw o2 ha; exact ⟨o2', by simp only [opA, hm, hmid, hk]; exact q.1, q.2⟩) hF hp
  case insert t m k x =>
    simp only [footA, Prod.mk.injEq] at hf
    obtain ⟨rfl, rfl⟩ := hf
    have hF := h
    simp only [opA] at h
    split at h
    case h_2 => cases h
    rename_i kt e id kd hm hmid hk
    have hw := mapPutA_writes (P := P) h (W := refsA (ev ts m) ++ refsA (ev ts x)) (by simp [hmid, refsA]) (fun i hi => by rw [refs_evT] at hi; simp [hi])
    exact Writes.loc (fun o2 ha => by obtain ⟨o2', q⟩ := hw o2 ha; exact ⟨o2', by simp only [opA, hm, hmid, hk]; exact q.1, q.2⟩) hF hp
  case extract x i =>
    simp only [footA, Prod.mk.injEq] at hf
    simp only [opA] at h
    split at h
    case h_2 => cases h
    rename_i vs hvs
    split at h
    case h_2 => cases h
    rename_i u hu
    cases h
    exact pure hf.1.symm hf.2.symm ⟨rfl, fun o2 _ => by simp only [opA, hvs, hu]⟩
  case call c =>
    simp only [opA] at h
    split at h
    · rename_i b hb
      have key : Loc (fun o2 => builtinA P o2 (some p) b c.argTypes.toList (c.args.toList.map (ev ts))) o p R W v o' := by
        simp only [footA, hb] at hf
        exact builtinA_loc hp h hf
      intro o2 ha hp2
      obtain ⟨o2', q⟩ := key o2 ha hp2
      exact ⟨o2', by simp only [opA, hb]; exact q.1, q.2⟩
    · rename_i gv hg
      split at h
      case h_2 => cases h
      rename_i f a b hfn
      simp only [footA, hg, hfn, Prod.mk.injEq] at hf
      obtain ⟨rfl, rfl⟩ := hf
      have key := callA_loc hp h
      intro o2 ha hp2
      obtain ⟨o2', q⟩ := key o2 ha hp2
      exact ⟨o2', by simp only [opA, hg, hfn]; exact q.1, q.2⟩
    · cases h
  all_goals simp [opA] at h

end Ab
