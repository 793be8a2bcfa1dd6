/- A part of the proof of a row by an interpreter that is proved sound; no conditions of its own. -/
import Derived.Test.YtipfkflogjfbjaaAbVals3
namespace Ab
open Go

variable {P : Program}

theorem elemT_split {t : TypeId} {z b : Nat} (h : elemT P t = some (z, b)) : ∃ e i, P.underlying t = some (.slice e) ∧ P.info? e = some i ∧ i.size = z ∧ i.bytes = b ∧ sizeT P e = some z := by
  unfold elemT at h
  split at h
  · rename_i e hu
    simp only [Option.map_eq_some_iff, Prod.mk.injEq] at h
    obtain ⟨i, h1, h2, h3⟩ := h
    exact ⟨e, i, hu, h1, h2, h3, by unfold sizeT; rw [h1]; simp [h2]⟩
  · cases h

def RelO (C : Cx) (objs : Store) : Option A → Option Value → Prop
  | none, none => True
  | some x, some v => RelA C objs x v
  | _, _ => False

theorem bound_ok {k : IntKind} {i : Int} {y : Nat} {c : BoundsCode} (h : 0 ≤ i ∧ i ≤ (y : Int)) (w : World) : (Instr.sliceBound (.int k i) y c).run P w = .ok i.toNat w := by
  simp [Instr.sliceBound, asIntOf, h]

theorem bounds_ok {C : Cx} {objs : Store} {w : World} (isSlice : Bool) {len cap : Nat} {lo hi mx : Option A} {lv hv mv : Option Value} (rl : RelO C objs lo lv) (rh : RelO C objs hi hv) (rm : RelO C objs mx mv) {l h m : Int}
    (hl : boundI 0 lo = some l) (hh : boundI len hi = some h) (hm : boundI len mx = some m)
    (hc : 0 ≤ l ∧ l ≤ h ∧ h ≤ m ∧ m ≤ (len : Int) ∧ (mx.isSome → hi.isSome)) (hlc : len ≤ cap) :
    ∃ M : Nat, (Instr.sliceBounds isSlice len cap lv hv mv).run P w = .ok (l.toNat, h.toNat, M) w ∧ h.toNat ≤ M ∧ (mx = none → M = cap) ∧ (mx.isSome → M = m.toNat) := by
  obtain ⟨c1, c2, c3, c4, c5⟩ := hc
  unfold boundI at hl hh hm
  cases mx with
  | none =>
    cases mv with
    | some v => exact rm.elim
    | none =>
      refine ⟨cap, ?_, by simp at hm; omega, fun _ => rfl, fun h => by simp at h⟩
      simp only [Option.some.injEq] at hm
      cases hi with
      | none =>
        cases hv with
        | some v => exact rh.elim
        | none =>
          simp only [Option.some.injEq] at hh
          have hh' : len = h.toNat := by omega
          cases lo with
          | none =>
            cases lv with
            | some v => exact rl.elim
            | none =>
              simp only [Option.some.injEq] at hl
              have hl' : l.toNat = 0 := by omega
              simp [Instr.sliceBounds, hh', hl']
          | some a =>
            cases lv with
            | none => exact rl.elim
            | some v =>
              obtain ⟨k, rfl, rfl⟩ := rel_int rl hl
              simp [Instr.sliceBounds, hh']
              rw [bound_ok ⟨c1, by omega⟩]; rfl
      | some a =>
        cases hv with
        | none => exact rh.elim
        | some v =>
          obtain ⟨k, rfl, rfl⟩ := rel_int rh hh
          cases lo with
          | none =>
            cases lv with
            | some v => exact rl.elim
            | none =>
              simp only [Option.some.injEq] at hl
              have hl' : l.toNat = 0 := by omega
              simp only [Instr.sliceBounds, Sem.run_bind, Sem.run_pure, Result.andThen_ok, bound_ok (P := P) (k := k) (i := h) (y := cap) ⟨by omega, by omega⟩, hl']
          | some b =>
            cases lv with
            | none => exact rl.elim
            | some v =>
              obtain ⟨k', rfl, rfl⟩ := rel_int rl hl
              simp only [Instr.sliceBounds, Sem.run_bind, Sem.run_pure, Result.andThen_ok, bound_ok (P := P) (k := k) (i := h) (y := cap) ⟨by omega, by omega⟩]
              rw [bound_ok ⟨c1, by omega⟩]; rfl
  | some a =>
    cases mv with
    | none => exact rm.elim
    | some v =>
      obtain ⟨k, rfl, rfl⟩ := rel_int rm hm
      refine ⟨m.toNat, ?_, by omega, fun h => by simp at h, fun _ => rfl⟩
      cases hi with
      | none => exact absurd (c5 rfl) (by simp)
      | some a =>
        cases hv with
        | none => exact rh.elim
        | some v =>
          obtain ⟨k2, rfl, rfl⟩ := rel_int rh hh
          cases lo with
          | none =>
            cases lv with
            | some v => exact rl.elim
            | none =>
              simp only [Option.some.injEq] at hl
              have hl' : l.toNat = 0 := by omega
              simp only [Instr.sliceBounds, Sem.run_bind, Sem.run_pure, Result.andThen_ok, bound_ok (P := P) (k := k) (i := m) (y := cap) ⟨by omega, by omega⟩,
                bound_ok (P := P) (k := k2) (i := h) (y := m.toNat) ⟨by omega, by omega⟩, hl']
          | some b =>
            cases lv with
            | none => exact rl.elim
            | some v =>
              obtain ⟨k', rfl, rfl⟩ := rel_int rl hl
              simp only [Instr.sliceBounds, Sem.run_bind, Sem.run_pure, Result.andThen_ok, bound_ok (P := P) (k := k) (i := m) (y := cap) ⟨by omega, by omega⟩,
                bound_ok (P := P) (k := k2) (i := h) (y := m.toNat) ⟨by omega, by omega⟩]
              rw [bound_ok ⟨c1, by omega⟩]; rfl

/-- A sealed slice, cut. -/
theorem sl_cut {M : Mem} {sz : Nat} {es : List (List D)} {a : Option Addr} {cap l h m : Nat} (r : RelD M (.sl sz es) (.slice a es.length cap)) (h1 : l ≤ h) (h2 : h ≤ es.length) (h3 : h ≤ m) :
    RelD M (.sl sz ((es.take h).drop l)) (.slice (if m = l then a else a.map (·.add (l * sz))) (h - l) (m - l)) := by
  cases r with
  | sl _ _ _ _ u hc hz hr hm =>
    have hlen : ((es.take h).drop l).length = h - l := by simp; omega
    have hsub : ∀ i e, ((es.take h).drop l)[i]? = some e → es[l + i]? = some e ∧ l + i < h := by
      intro i e he
      rw [List.getElem?_drop, List.getElem?_take] at he
      split at he
      · exact ⟨he, by assumption⟩
      · cases he
    have key := RelD.sl (M := M) sz ((es.take h).drop l) (if m = l then a else a.map (·.add (l * sz))) (m - l) (fun i j => u (l + i) j) (by omega)
      (fun e he => hz e (List.mem_of_mem_take (List.mem_of_mem_drop he))) (fun i j e c he hc => hr _ j e c (hsub i e he).1 hc) (fun i e j he hj => ?_)
    · rw [hlen] at key; exact key
    · obtain ⟨he', hi⟩ := hsub i e he
      obtain ⟨ad, h4, h5⟩ := hm _ e j he' hj
      subst h4
      rw [if_neg (by omega)]
      refine ⟨_, rfl, ?_⟩
      rw [add_add']
      have : l * sz + (i * sz + j) = (l + i) * sz + j := by rw [Nat.add_mul]; omega
      rw [this]; exact h5

theorem sliceA_ok {C : Cx} {objs : Store} {w : World} (g : Good C objs w) {t : TypeId} {x y : A} {objs' : Store} {lo hi mx : Option A} {v : Value} {lv hv mv : Option Value} (rx : RelA C objs x v) (rl : RelO C objs lo lv) (rh : RelO C objs hi hv) (rm : RelO C objs mx mv)
    (hs : sliceA P objs t x lo hi mx = some (y, objs')) : Yields P C objs w (Instr.sliceAt t v lv hv mv) y objs' := by
  unfold sliceA at hs
  split at hs
  · cases hs
  rename_i len hlen
  split at hs
  · rename_i h l m hh hl hm
    split at hs
    · rename_i hc
      cases rx with
      | d hd =>
        cases hd with
        | str s =>
          simp only [lenA, Option.some.injEq] at hlen
          subst hlen
          simp only at hs
          split at hs
          · rename_i hu
            split at hs
            · cases hs
            · rename_i hmx
              cases hs
              have hmx' : mx = none := by cases mx with | none => rfl | some _ => simp at hmx
              subst hmx'
              cases mv with
              | some _ => exact rm.elim
              | none =>
                obtain ⟨M, h1, h2, h3, _⟩ := bounds_ok (P := P) (w := w) false (len := s.size) (cap := s.size) rl rh (mx := none) (mv := none) trivial hl hh hm hc (Nat.le_refl _)
                exact .same (v := .string (s.extract l.toNat h.toNat)) g (by simp [Instr.sliceAt, Instr.slice, run_under hu, h1]) (.d (.str _))
          · cases hs
        | sl sz es a cap u hcap hz hr hmm =>
          simp only [lenA, Option.some.injEq] at hlen
          subst hlen
          simp only at hs
          split at hs
          · rename_i z by_ he
            split at hs
            · rename_i hzz
              obtain ⟨rfl, hpos⟩ := hzz
              obtain ⟨te, inf, hu, hinf, hsz, hby, hst⟩ := elemT_split he
              obtain ⟨M, h1, h2, h3, h4⟩ := bounds_ok (P := P) (w := w) true (len := es.length) (cap := cap) rl rh rm hl hh hm hc hcap
              have hrun : (Instr.sliceAt t (.slice a es.length cap) lv hv mv).run P w = .ok (.slice (if M = l.toNat then a else a.map (·.add (l.toNat * z))) (h.toNat - l.toNat) (M - l.toNat)) w := by
                simp [Instr.sliceAt, Instr.slice, run_under hu, h1, run_sizeOf' hst]
              split at hs
              · rename_i hmz
                cases hs
                have hM := h4 hmz.1
                have e1 : h.toNat - l.toNat = 0 := by omega
                have e2 : M - l.toNat = 0 := by omega
                rw [e1, e2] at hrun
                exact .same g hrun (.nilsl _ _)
              · cases hs
                exact .same g hrun (.d (sl_cut (.sl z es a cap u hcap hz hr hmm) (by omega) (by omega) h2))
            · cases hs
          · cases hs
        | _ => simp [lenA] at hlen
      | nilsl tg a =>
        simp only [lenA, Option.some.injEq] at hlen
        subst hlen
        simp only at hs
        split at hs
        · rename_i zb he
          cases hs
          obtain ⟨te, inf, hu, hinf, hsz, hby, hst⟩ := elemT_split (z := zb.1) (b := zb.2) he
          obtain ⟨M, h1, h2, h3, h4⟩ := bounds_ok (P := P) (w := w) true (len := 0) (cap := 0) rl rh rm hl hh hm hc (Nat.le_refl _)
          have hl0 : l = 0 := by omega
          have hh0 : h = 0 := by omega
          subst hl0 hh0
          have hM : M = 0 := by
            cases mx with
            | none => exact h3 rfl
            | some _ => have := h4 rfl; omega
          subst hM
          have hrun : (Instr.sliceAt t (.slice a 0 0) lv hv mv).run P w = .ok (.slice a 0 0) w := by
            simp [Instr.sliceAt, Instr.slice, run_under hu, h1, run_sizeOf' hst]
          exact .same g hrun (.nilsl _ _)
        · cases hs
      | arr id off ln n a cap sz es fr ho hn hcap hcur =>
        have rx' : RelA C objs (.arr id off ln n) (.slice a ln cap) := .arr id off ln n a cap sz es fr ho hn hcap hcur
        simp only [lenA, Option.some.injEq] at hlen
        subst hlen
        simp only at hs
        rw [getO_some ho] at hs
        split at hs
        · rename_i z by_ sz' es' fr' he heq
          cases heq
          split at hs
          · rename_i hcond
            obtain ⟨rfl, hpos, hnl, hfit⟩ := hcond
            obtain ⟨te, inf, hu, hinf, hsz, hby, hst⟩ := elemT_split he
            obtain ⟨M, h1, h2, h3, h4⟩ := bounds_ok (P := P) (w := w) true (len := ln) (cap := cap) rl rh rm hl hh hm hc hcap
            have hrun : (Instr.sliceAt t (.slice a ln cap) lv hv mv).run P w = .ok (.slice (if M = l.toNat then a else a.map (·.add (l.toNat * z))) (h.toNat - l.toNat) (M - l.toNat)) w := by
              simp [Instr.sliceAt, Instr.slice, run_under hu, h1, run_sizeOf' hst]
            split at hs
            · rename_i hmx
              have hM := h4 hmx
              split at hs
              · rename_i hm0
                cases hs
                have e1 : h.toNat - l.toNat = 0 := by omega
                have e2 : M - l.toNat = 0 := by omega
                rw [e1, e2] at hrun
                exact .same g hrun (.nilsl _ _)
              · cases hs
                obtain ⟨C', s1, r1⟩ := shut_arr g rx'
                have hv : viewA objs id off ln n = some (z, (es.drop off).take ln) := by
                  unfold viewA; rw [getO_some ho]; simp [hnl, hfit]
                have hsh : shutA objs (.arr id off ln n) = objs.set id (.arr z es true) := by unfold shutA; rw [getO_some ho]
                rw [hsh] at s1
                have r2 := r1 _ _ hv
                have hl2 : ((es.drop off).take ln).length = ln := by simp; omega
                have r3 : RelD C'.M (.sl z ((es.drop off).take ln)) (.slice a ((es.drop off).take ln).length cap) := by rw [hl2]; exact r2
                have r4 := sl_cut (l := l.toNat) (h := h.toNat) (m := M) r3 (by omega) (by omega) h2
                exact ⟨_, C', w, hrun, s1.adv, s1.good, .d r4⟩
            · rename_i hmx
              cases hs
              have hmx' : mx = none := by cases mx with | none => rfl | some _ => simp at hmx
              have hM := h3 hmx'
              subst hM
              refine .same g hrun (.arr id _ _ n _ _ z es fr ho hn (by omega) fun hne => ?_)
              obtain ⟨k1, k2, k3⟩ := hcur hne
              have q1 : off + l.toNat + (h.toNat - l.toNat) ≤ es.length := by clear k3 hcur rx'; omega
              have q2 : es.length ≤ off + l.toNat + (M - l.toNat) := by clear k3 hcur rx'; omega
              refine ⟨q1, q2, ?_⟩
              rcases k3 with ⟨p1, p2, p3⟩ | ⟨b, N, p1, p2, p3⟩
              · exact .inl ⟨p1, p2, by omega⟩
              · refine .inr ⟨b, N, p1, fun hc0 => ?_, ?_⟩
                · rw [if_neg (by omega), p2 (by omega)]
                  simp only [Option.map_some]
                  rw [add_plain', Nat.add_mul]
                · have : off + l.toNat + (M - l.toNat) = off + M := by omega
                  rw [this]; exact p3
          · cases hs
        · cases hs
      | nilm => simp at hs
      | _ => simp [lenA] at hlen
    · cases hs
  · cases hs

end Ab
