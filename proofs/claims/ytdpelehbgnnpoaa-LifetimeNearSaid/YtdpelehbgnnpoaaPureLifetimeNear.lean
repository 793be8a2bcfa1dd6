/- LifetimeNear: Near agrees with the document's at all pairs of the numbers that the arguments give, and the order of the two times does not matter. No conditions. -/
import Derived.Test.YtdpelehbgnnpoaaPLifetimeNearx2
namespace Go.Proofs.Ytdpelehbgnnpoaa.Pure
open Go.RowKit Go.Proofs.Ytdpelehbgnnpoaa.PLifetimeNear Go.Proofs.YtdpelehbgnnpoaaW.PrintWords Go.Proofs.YtdpelehbgnnpoaaW.PrintLast

theorem ln_awake (k : Nat) : kerbsuitelaw2_awake.f (k + 2) = some true := by
  kernel_rfl

theorem ln_wrap {i : Int} {n : Nat} (h0 : 0 ≤ i) (h : i < (n : Int)) (hn : n ≤ 1000) : wrap64 (i + 1) = i + 1 := by
  unfold wrap64; omega

theorem ln_isTime (a : Int) : lifetime_isTime.f a = some (decide (0 ≤ a ∧ a ≤ 4294967295)) := by
  unfold lifetime_isTime.f
  by_cases h1 : a ≥ 0 <;> simp [h1]

theorem ln_time (a : Int) : kerbsuiteref2_time.f a = some (decide (0 ≤ a ∧ a ≤ 4294967295)) := by
  unfold kerbsuiteref2_time.f
  by_cases h1 : a ≥ 0 <;> simp [h1]

theorem ln_times (k : Nat) (a b c : Int) : lifetime_times.f (k + 4) [a, b, c] = some (decide (0 ≤ a ∧ a ≤ 4294967295) && (decide (0 ≤ b ∧ b ≤ 4294967295) && decide (0 ≤ c ∧ c ≤ 4294967295))) := by
  have e1 : wrap64 (0 + 1) = 1 := by unfold wrap64; omega
  have e2 : wrap64 (1 + 1) = 2 := by unfold wrap64; omega
  have e3 : wrap64 (2 + 1) = 3 := by unfold wrap64; omega
  unfold lifetime_times.f
  have hl : (([a, b, c].length : Nat) : Int) = 3 := rfl
  rw [lifetime_times.l0, hl, if_pos (by omega), if_pos (by omega), if_pos (by omega), ln_isTime, e1, show rd [a, b, c] 0 = a from rfl]
  simp only [Option.bind_some]
  by_cases ha : 0 ≤ a ∧ a ≤ 4294967295
  · rw [decide_eq_true ha, if_pos rfl]
    rw [lifetime_times.l0, hl, if_pos (by omega), if_pos (by omega), if_pos (by omega), ln_isTime, e2, show rd [a, b, c] 1 = b from rfl]
    simp only [Option.bind_some]
    by_cases hb : 0 ≤ b ∧ b ≤ 4294967295
    · rw [decide_eq_true hb, if_pos rfl]
      rw [lifetime_times.l0, hl, if_pos (by omega), if_pos (by omega), if_pos (by omega), ln_isTime, e3, show rd [a, b, c] 2 = c from rfl]
      simp only [Option.bind_some]
      by_cases hc : 0 ≤ c ∧ c ≤ 4294967295
      · rw [decide_eq_true hc, if_pos rfl]
        rw [lifetime_times.l0, if_neg (by omega)]
        rfl
      · rw [decide_eq_false hc]; rfl
    · rw [decide_eq_false hb]; rfl
  · rw [decide_eq_false ha]; rfl

theorem ln_near (k : Nat) (a b s : Int) : ∃ r, lifetime_Near.f (k + 4) a b s = some r ∧ lifetime_Near.f (k + 4) b a s = some r ∧ kerbsuiteref2_Near.f a b s = some r := by
  unfold lifetime_Near.f kerbsuiteref2_Near.f
  rw [ln_times, ln_times, ln_time, ln_time]
  simp only [Option.bind_some]
  by_cases ha : 0 ≤ a ∧ a ≤ 4294967295
  · by_cases hb : 0 ≤ b ∧ b ≤ 4294967295
    · by_cases hs : 0 ≤ s ∧ s ≤ 4294967295
      · rw [decide_eq_true ha, decide_eq_true hb, decide_eq_true hs]
        have e1 : wrap64 (mx a b - mn a b) = mx a b - mn a b := by unfold wrap64 mx mn; omega
        have e2 : wrap64 (mx b a - mn b a) = mx a b - mn a b := by unfold wrap64 mx mn; omega
        have e3 : wrap64 (a - b) = a - b := by unfold wrap64; omega
        have e4 : wrap64 (b - a) = b - a := by unfold wrap64; omega
        rw [e1, e2, e3, e4]
        refine ⟨decide (mx a b - mn a b ≤ s), by simp, by simp, ?_⟩
        simp only [if_true]
        rw [if_neg (by omega), if_neg (by omega)]
        by_cases h : mx a b - mn a b ≤ s
        · rw [decide_eq_true h, if_pos (by unfold mx mn at h; omega), decide_eq_true (by unfold mx mn at h; omega)]
        · rw [decide_eq_false h]
          by_cases h1 : a - b ≤ s
          · rw [if_pos h1, decide_eq_false (by unfold mx mn at h; omega)]
          · rw [if_neg h1]
      · rw [decide_eq_true ha, decide_eq_true hb, decide_eq_false hs]
        refine ⟨false, by simp, by simp, ?_⟩
        simp only [if_true]
        by_cases h1 : s < 0
        · rw [if_pos h1]
        · rw [if_neg h1, if_pos (by omega)]
    · rw [decide_eq_false hb]
      exact ⟨false, by simp, by simp, by simp⟩
  · rw [decide_eq_false ha]
    exact ⟨false, by simp, by simp, by simp⟩

theorem ln_inner (k : Nat) (xs ys zs : List Int) (i : Int) (h0 : 0 ≤ i) (h1 : i < (xs.length : Int)) (hx : xs.length ≤ 1000) (hy : ys.length ≤ 1000) (hz0 : 0 < zs.length) (d : Nat) :
    ∀ j : Int, 0 ≤ j → (ys.length : Int) - j = d → kerbsuitelaw2_LifetimeNear.l1 (k + 4 + d + 1) xs ys zs i j = kerbsuitelaw2_LifetimeNear.l0 (k + 4) xs ys zs (i + 1) := by
  induction d with
  | zero =>
    intro j hj hd
    rw [kerbsuitelaw2_LifetimeNear.l1, if_neg (by omega), ln_wrap h0 h1 hx]
  | succ d ih =>
    intro j hj hd
    have e : Int.tmod (wrap64 (i + j)) (zs.length : Int) = (i + j) % (zs.length : Int) := by
      rw [show wrap64 (i + j) = i + j from by unfold wrap64; omega, Int.tmod_eq_emod_of_nonneg (by omega)]
    have hp : 0 ≤ (i + j) % (zs.length : Int) := Int.emod_nonneg _ (by omega)
    have hq : (i + j) % (zs.length : Int) < (zs.length : Int) := Int.emod_lt_of_pos _ (by omega)
    rw [show k + 4 + (d + 1) + 1 = (k + 4 + d + 1) + 1 from by omega, kerbsuitelaw2_LifetimeNear.l1, if_pos (by omega), if_neg (by omega), e, if_pos hp, if_pos hq, if_pos h0, if_pos h1, if_pos hj]
    rw [show k + 4 + d + 1 = (k + d + 1) + 4 from by omega]
    obtain ⟨r, h4, h5, h6⟩ := ln_near (k + d + 1) (rd xs i) (rd ys j) (rd zs ((i + j) % (zs.length : Int)))
    rw [h4, h5, h6]
    simp only [Option.bind_some, bne_self_eq_false, Bool.false_eq_true, if_false]
    rw [ln_wrap (n := ys.length) hj (by omega) hy, show (k + d + 1) + 4 = k + 4 + d + 1 from by omega]
    exact ih (j + 1) (by omega) (by omega)

theorem ln_outer (xs ys zs : List Int) (hx : xs.length ≤ 1000) (hy : ys.length ≤ 1000) (hz0 : 0 < zs.length) (d : Nat) :
    ∀ i : Int, 0 ≤ i → (xs.length : Int) - i = d → ∃ k, kerbsuitelaw2_LifetimeNear.l0 (k + 4) xs ys zs i = some true := by
  induction d with
  | zero => intro i h0 hd; exact ⟨1, by rw [kerbsuitelaw2_LifetimeNear.l0, if_neg (by omega)]⟩
  | succ d ih =>
    intro i h0 hd
    obtain ⟨k, hk⟩ := ih (i + 1) (by omega) (by omega)
    refine ⟨k + ys.length + 2, ?_⟩
    rw [show k + ys.length + 2 + 4 = (k + 4 + ys.length + 1) + 1 from by omega, kerbsuitelaw2_LifetimeNear.l0, if_pos (by omega), ln_inner k xs ys zs i h0 (by omega) hx hy hz0 ys.length 0 (by omega) (by omega), hk]

theorem LifetimeNear : kerbsuitelaw2_LifetimeNear.Pure := by
  intro a b c d e f _ _ _ _ _ _
  obtain ⟨k, hk⟩ := ln_outer [a, wrap64 d, Int.tmod (wrap64 d) 300, wrap64 ((Int.tmod (wrap64 d) 5) * 300), wrap64 ((wrap64 (4294967295 - (Int.tmod (wrap64 d) 3))) + 1), (-1), 255, 256]
    [b, wrap64 e, Int.tmod (wrap64 e) 300, wrap64 ((Int.tmod (wrap64 e) 5) * 300), wrap64 ((wrap64 (4294967295 - (Int.tmod (wrap64 e) 3))) + 1), (-1), 255, 256]
    [c, wrap64 f, Int.tmod (wrap64 f) 300, wrap64 ((Int.tmod (wrap64 f) 5) * 300), wrap64 ((wrap64 (4294967295 - (Int.tmod (wrap64 f) 3))) + 1), (-1), 255, 256] (by simp) (by simp) (by simp) 8 0 (by omega) (by simp)
  refine ⟨k + 4, ?_⟩
  unfold kerbsuitelaw2_LifetimeNear.f kerbsuitelaw2_numbers.f
  rw [ln_awake]
  simp only [Option.bind_some, if_true]
  exact hk

end Go.Proofs.Ytdpelehbgnnpoaa.Pure
