/- LifetimeEnds: the program's End and FromSeconds agree with the document's at the eight numbers that each pair of arguments gives. No conditions. -/
import Derived.Test.YtdpelehbgnnpoaaPLifetimeEndsx2
namespace Go.Proofs.Ytdpelehbgnnpoaa.Pure
open Go.RowKit Go.Proofs.Ytdpelehbgnnpoaa.PLifetimeEnds Go.Proofs.YtdpelehbgnnpoaaW.PrintWords Go.Proofs.YtdpelehbgnnpoaaW.PrintLast

theorem le_wrap {i : Int} {n : Nat} (h0 : 0 ≤ i) (h : i < (n : Int)) (hn : n ≤ 1000) : wrap64 (i + 1) = i + 1 := by
  unfold wrap64; omega

theorem le_end (a b : Int) : ∃ r, lifetime_End.f a b = some r ∧ kerbsuiteref2_End.f a b = some r := by
  unfold lifetime_End.f kerbsuiteref2_End.f lifetime_isTime.f lifetime_isLife.f kerbsuiteref2_time.f
  by_cases h3 : b ≥ 0
  · by_cases h4 : b ≤ 255
    · have h5 : ¬ b < 0 := by omega
      have h6 : ¬ b > 255 := by omega
      by_cases h1 : a ≥ 0 <;> by_cases h2 : a ≤ 4294967295 <;> simp [h1, h2, h3, h4, h5, show ¬ 255 < b from by omega]
    · have h6 : b > 255 := by omega
      by_cases h1 : a ≥ 0 <;> by_cases h2 : a ≤ 4294967295 <;> simp [h1, h2, h3, h4, h6]
  · have h5 : b < 0 := by omega
    by_cases h1 : a ≥ 0 <;> by_cases h2 : a ≤ 4294967295 <;> simp [h1, h2, h3, h5]

theorem le_from (a : Int) : ∃ r, lifetime_FromSeconds.f a = some r ∧ kerbsuiteref2_FromSeconds.f a = some r := by
  unfold lifetime_FromSeconds.f kerbsuiteref2_FromSeconds.f
  by_cases h : a < 300 <;> simp [h]

theorem le_inner (k : Nat) (xs ys : List Int) (i : Int) (h0 : 0 ≤ i) (h1 : i < (xs.length : Int)) (hx : xs.length ≤ 1000) (hy : ys.length ≤ 1000) (d : Nat) :
    ∀ j : Int, 0 ≤ j → (ys.length : Int) - j = d → kerbsuitelaw2_LifetimeEnds.l1 (k + d + 1) xs ys i j = kerbsuitelaw2_LifetimeEnds.l0 k xs ys (i + 1) := by
  induction d with
  | zero =>
    intro j hj hd
    rw [kerbsuitelaw2_LifetimeEnds.l1, if_neg (by omega), if_pos h0, if_pos h1]
    obtain ⟨r, h5, h6⟩ := le_from (rd xs i)
    rw [h5, h6]
    simp only [Option.bind_some, if_true, bne_self_eq_false, Bool.false_eq_true, if_false]
    rw [le_wrap h0 h1 hx]
  | succ d ih =>
    intro j hj hd
    rw [show k + (d + 1) + 1 = (k + d + 1) + 1 from by omega, kerbsuitelaw2_LifetimeEnds.l1, if_pos (by omega), if_pos h0, if_pos h1, if_pos hj]
    obtain ⟨r, h5, h6⟩ := le_end (rd xs i) (rd ys j)
    rw [h5, h6]
    simp only [Option.bind_some, if_true]
    rw [le_wrap (n := ys.length) hj (by omega) hy]
    exact ih (j + 1) (by omega) (by omega)

theorem le_outer (xs ys : List Int) (hx : xs.length ≤ 1000) (hy : ys.length ≤ 1000) (d : Nat) :
    ∀ i : Int, 0 ≤ i → (xs.length : Int) - i = d → ∃ k, kerbsuitelaw2_LifetimeEnds.l0 k xs ys i = some true := by
  induction d with
  | zero => intro i h0 hd; exact ⟨1, by rw [kerbsuitelaw2_LifetimeEnds.l0, if_neg (by omega)]⟩
  | succ d ih =>
    intro i h0 hd
    obtain ⟨k, hk⟩ := ih (i + 1) (by omega) (by omega)
    refine ⟨(k + ys.length + 1) + 1, ?_⟩
    rw [kerbsuitelaw2_LifetimeEnds.l0, if_pos (by omega), le_inner k xs ys i h0 (by omega) hx hy ys.length 0 (by omega) (by omega), hk]

theorem le_awake (k : Nat) : kerbsuitelaw2_awake.f (k + 2) = some true := by
  kernel_rfl

theorem LifetimeEnds : kerbsuitelaw2_LifetimeEnds.Pure := by
  intro a b c d _ _ _ _
  obtain ⟨k, hk⟩ := le_outer [a, wrap64 c, Int.tmod (wrap64 c) 300, wrap64 ((Int.tmod (wrap64 c) 5) * 300), wrap64 ((wrap64 (4294967295 - (Int.tmod (wrap64 c) 3))) + 1), (-1), 255, 256]
    [b, wrap64 d, Int.tmod (wrap64 d) 300, wrap64 ((Int.tmod (wrap64 d) 5) * 300), wrap64 ((wrap64 (4294967295 - (Int.tmod (wrap64 d) 3))) + 1), (-1), 255, 256] (by simp) (by simp) 8 0 (by omega) (by simp)
  refine ⟨k + 2, ?_⟩
  unfold kerbsuitelaw2_LifetimeEnds.f kerbsuitelaw2_numbers.f
  rw [le_awake]
  simp only [Option.bind_some, if_true]
  exact more_rounds (g := fun n => kerbsuitelaw2_LifetimeEnds.l0 n _ _ 0) (fun n => (kerbsuitelaw2_LifetimeEnds.mono_l n).1 _ _ _) k 2 _ hk

end Go.Proofs.Ytdpelehbgnnpoaa.Pure
