/- LifetimeSeconds: the lifetime that FromSeconds returns ends in time, and the next one does not, unless it is the greatest. No conditions. -/
import Derived.Test.YtdpelehbgnnpoaaPLifetimeSecondsx1
namespace Go.Proofs.Ytdpelehbgnnpoaa.Pure
open Go.RowKit Go.Proofs.Ytdpelehbgnnpoaa.PLifetimeSeconds Go.Proofs.YtdpelehbgnnpoaaW.PrintWords Go.Proofs.YtdpelehbgnnpoaaW.PrintLast

theorem ls_awake (k : Nat) : kerbsuitelaw2_awake.f (k + 2) = some true := by
  kernel_rfl

theorem ls_end (a b : Int) (h1 : 0 ≤ a) (h2 : a ≤ 4294967295) (h3 : 0 ≤ b) (h4 : b ≤ 255) : lifetime_End.f a b = some (a + 300 * (b + 1)) := by
  unfold lifetime_End.f lifetime_isTime.f lifetime_isLife.f
  have e : wrap64 (a + wrap64 (300 * wrap64 (b + 1))) = a + 300 * (b + 1) := by unfold wrap64; omega
  simp [h1, h2, h3, h4, e]

theorem ls_main (m : Int) (h0 : 0 ≤ m) (h1 : m < 100000) : ((lifetime_FromSeconds.f m).bind fun bt118 => (if bt118.2 = true then ((lifetime_End.f 0 bt118.1).bind fun t120 => (if t120 ≤ m then (if bt118.1 = 255 then (some true) else ((lifetime_End.f 0 (wrap64 (bt118.1 + 1))).bind fun t121 => (some (decide (t121 > m))))) else (some false))) else (some (decide (m < 300))))) = some true := by
  unfold lifetime_FromSeconds.f
  by_cases h : m < 300
  · rw [if_pos h]; simp [h]
  · rw [if_neg h]
    have hq : Int.tdiv m 300 = m / 300 := Int.tdiv_eq_ediv_of_nonneg h0
    have e1 : wrap64 (wrap64 (Int.tdiv m 300) - 1) = m / 300 - 1 := by rw [hq]; unfold wrap64; omega
    rw [e1]
    simp only [Option.bind_some, if_true]
    by_cases h5 : m / 300 - 1 ≤ 255
    · have e2 : mn (m / 300 - 1) 255 = m / 300 - 1 := by unfold mn; omega
      rw [e2, ls_end 0 _ (by omega) (by omega) (by omega) h5]
      simp only [Option.bind_some]
      rw [if_pos (by omega)]
      by_cases h6 : m / 300 - 1 = 255
      · rw [if_pos h6]
      · rw [if_neg h6]
        have e3 : wrap64 (m / 300 - 1 + 1) = m / 300 := by unfold wrap64; omega
        rw [e3, ls_end 0 _ (by omega) (by omega) (by omega) (by omega)]
        simp only [Option.bind_some]
        rw [decide_eq_true (by omega)]
    · have e2 : mn (m / 300 - 1) 255 = 255 := by unfold mn; omega
      rw [e2, ls_end 0 _ (by omega) (by omega) (by omega) (by omega)]
      simp only [Option.bind_some]
      rw [if_pos (by omega)]
      simp

theorem LifetimeSeconds : kerbsuitelaw2_LifetimeSeconds.Pure := by
  intro a h
  have hb : 0 ≤ a ∧ a ≤ 4294967295 := by simp [Lit.wf, IntKind.min, IntKind.max, IntKind.signed, IntKind.bits] at h; omega
  refine ⟨2, ?_⟩
  unfold kerbsuitelaw2_LifetimeSeconds.f
  rw [ls_awake 0]
  simp only [Option.bind_some, if_true]
  have e : wrap64 (Int.tmod a 100000) = a % 100000 := by rw [Int.tmod_eq_emod_of_nonneg hb.1]; unfold wrap64; omega
  rw [e]
  exact ls_main _ (by omega) (by omega)

end Go.Proofs.Ytdpelehbgnnpoaa.Pure
