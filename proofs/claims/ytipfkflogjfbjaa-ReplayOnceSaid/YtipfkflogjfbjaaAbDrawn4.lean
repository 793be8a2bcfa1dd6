/- A part of the proof of a row by an interpreter that is proved sound; no conditions of its own. -/
import Derived.Test.YtipfkflogjfbjaaAbDrawn3
namespace Ab
open Go

variable {P : Program}

/-- Places are kept behind the objects. -/
theorem kept_ok {C : Cx} {objs : Store} {w : World} (g : Good C objs w) (n : Nat) :
    ∃ C', Adv C objs w C' (objs ++ List.replicate n .gone) w ∧ Good C' (objs ++ List.replicate n .gone) w := by
  let C' : Cx := ⟨C.M, fun i => if i < objs.length then C.φ i else none⟩
  have hφ : ∀ i, i < objs.length → C'.φ i = C.φ i := fun i hi => by simp [C', hi]
  have hφ2 : ∀ i, ¬ i < objs.length → C'.φ i = none := fun i hi => by simp only [C', if_neg hi]
  have adv : Adv C objs w C' (objs ++ List.replicate n .gone) w := by
    refine ⟨fun _ _ h => h, by simp, fun j x hx => ?_, rfl, rfl, rfl, Nat.le_refl _, fun _ _ _ => rfl, fun _ _ h => .inl h, fun j b m _ hb => ?_⟩
    · have hj := (List.getElem?_eq_some_iff.1 hx).1
      rw [List.getElem?_append_left hj, hx]
      have e := hφ j hj
      cases x with
      | box cs => exact ⟨e, cs, rfl⟩
      | arr sz es fr => exact ⟨es, fr, rfl, .inl ⟨rfl, e⟩⟩
      | mp es => exact ⟨e, es, rfl⟩
      | gone => trivial
    · by_cases hj : j < objs.length
      · rw [hφ j hj] at hb; exact .inr ⟨j, m, hj, hb⟩
      · rw [hφ2 j hj] at hb; cases hb
  refine ⟨C', adv, g.seal_, fun j x hx => ?_, fun i j b m k hi hj h1 h2 => ?_⟩
  · rcases Nat.lt_or_ge j objs.length with hj | hj
    · rw [List.getElem?_append_left hj] at hx
      exact good_keep adv (hφ j hj) (fun _ _ _ => ⟨rfl, fun _ => rfl⟩) (g.obj j x hx)
    · rw [List.getElem?_append_right hj] at hx
      have := List.mem_of_getElem? hx
      rw [List.eq_of_mem_replicate this]
      exact hφ2 j (by omega)
  · by_cases hi' : i < objs.length
    · by_cases hj' : j < objs.length
      · rw [hφ i hi'] at h1; rw [hφ j hj'] at h2
        exact g.inj i j b m k hi' hj' h1 h2
      · rw [hφ2 j hj'] at h2; cases h2
    · rw [hφ2 i hi'] at h1; cases h1

theorem drawn_ok {H : Hints} {call : FuncId → List A → Store → Option (A × Store)} (hm : P.follows .mixedOrders = true) (hc : CallOK P call) {f rid : Nat} {ops : Array Oper} {C : Cx} {s s' : St} {a : Act} {w : World} (hr : s.Rel C a w)
    (h : runDrawn P H call f rid ops.toList (beforeA ops.toList 0 []) s.objs.length 0 ops.toList [] ⟨s.tmps, s.objs ++ List.replicate ops.size .gone⟩ = some s') {Q : Exit → Act → World → Prop}
    (hK : ∀ C' a' w', Adv C s.objs w C' s'.objs w' → s'.Rel C' a' w' → Q .normal a' w') : (Code.region rid ops true).wp P Q a w := by
  refine wp_region_any hm ?_
  obtain ⟨C1, adv1, g1⟩ := kept_ok hr.good ops.size
  obtain ⟨recs, c1, c2, c3, _, c5, c6⟩ := runDrawn_ok (base := s.objs.length) ops.toList 0 [] _ s' (by simp) rfl (by simpa using h)
  have hlen : recs.length = ops.size := by have := congrArg List.length c3; simpa using this
  have hi : ∀ (k : Nat) (r : Rec), recs[k]? = some r → r.i = k ∧ ops[k]? = some r.o := by
    intro k r hk
    have h1 := congrArg (·[k]?) c2
    have h2 := congrArg (·[k]?) c3
    simp only [List.getElem?_map, hk, Option.map_some] at h1 h2
    have hlt : k < ops.size := by have := (List.getElem?_eq_some_iff.1 hk).1; omega
    rw [List.getElem?_range' (by simpa using hlt)] at h1
    exact ⟨by simpa using h1, by simpa using h2.symm⟩
  have hrepF : ∀ j, j < ops.size → (Array.replicate ops.size false).getD j true = false := fun j hj => by simp [Array.getD_eq_getD_getElem?, hj]
  have hrepT : ∀ j, ¬ j < ops.size → (Array.replicate ops.size false).getD j true = true := fun j hj => by simp [Array.getD_eq_getD_getElem?, hj]
  refine any_ok (H := H) (f := f) (rid := rid) (base := s.objs.length) (bef := beforeA ops.toList 0 []) hc (fun k o hk q hq => ?_) ops.size recs _ hlen (by simp) (fun j => ?_) (fun r hr => ?_) c5 ?_ c6 (fun j hj hl => ?_) c1
    (s := ⟨s.tmps, s.objs ++ List.replicate ops.size .gone⟩) (C := C1) ⟨g1.drew, hr.tmps.adv adv1, hr.defers⟩ (fun C2 a2 w2 adv2 hr2 => hK C2 a2 w2 ((adv1.trans (drew_adv _ _ _)).trans adv2) hr2)
  · have := (beforeA_ok ops.toList 0 [] rfl).2 k o (by simpa using hk) q
    rw [Nat.zero_add] at this
    exact this hq
  · by_cases hj : j < ops.size
    · refine ⟨fun _ => ?_, fun _ => hrepF j hj⟩
      have hj' : j < recs.length := by omega
      exact ⟨recs[j], List.getElem_mem hj', (hi j _ (List.getElem?_eq_getElem hj')).1⟩
    · refine ⟨(fun h => by rw [hrepT j hj] at h; cases h), fun ⟨r, hr, hri⟩ => ?_⟩
      obtain ⟨k, hk⟩ := List.getElem?_of_mem hr
      have := (List.getElem?_eq_some_iff.1 hk).1
      have := (hi k r hk).1
      omega
  · obtain ⟨k, hk⟩ := List.getElem?_of_mem hr
    obtain ⟨h1, h2⟩ := hi k r hk
    rw [h1]; exact h2
  · rw [List.pairwise_iff_getElem]
    intro i j hi' hj' hij
    rw [(hi i _ (List.getElem?_eq_getElem hi')).1, (hi j _ (List.getElem?_eq_getElem hj')).1]
    exact hij
  · rw [hrepF j hj] at hl; cases hl

end Ab
