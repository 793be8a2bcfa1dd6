/- LifetimeStates: State agrees with the document's, and a ticket without error lies within its limits up to the skew. No conditions. -/
import Derived.Test.YtdpelehbgnnpoaaPLifetimeStatesx2
namespace Go.Proofs.Ytdpelehbgnnpoaa.Pure
open Go.RowKit Go.Proofs.Ytdpelehbgnnpoaa.PLifetimeStates Go.Proofs.YtdpelehbgnnpoaaW.PrintWords Go.Proofs.YtdpelehbgnnpoaaW.PrintLast

theorem lt_awake (k : Nat) : kerbsuitelaw2_awake.f (k + 2) = some true := by
  kernel_rfl

theorem lt_isTime (a : Int) : lifetime_isTime.f a = some (decide (0 ≤ a ∧ a ≤ 4294967295)) := by
  unfold lifetime_isTime.f
  by_cases h1 : a ≥ 0 <;> simp [h1]

theorem lt_isLife (a : Int) : lifetime_isLife.f a = some (decide (0 ≤ a ∧ a ≤ 255)) := by
  unfold lifetime_isLife.f
  by_cases h1 : a ≥ 0 <;> simp [h1]

theorem lt_time (a : Int) : kerbsuiteref2_time.f a = some (decide (0 ≤ a ∧ a ≤ 4294967295)) := by
  unfold kerbsuiteref2_time.f
  by_cases h1 : a ≥ 0 <;> simp [h1]

theorem lt_times (k : Nat) (a b c : Int) : lifetime_times.f (k + 4) [a, b, c] = some (decide (0 ≤ a ∧ a ≤ 4294967295) && (decide (0 ≤ b ∧ b ≤ 4294967295) && decide (0 ≤ c ∧ c ≤ 4294967295))) := by
  have e1 : wrap64 (0 + 1) = 1 := by unfold wrap64; omega
  have e2 : wrap64 (1 + 1) = 2 := by unfold wrap64; omega
  have e3 : wrap64 (2 + 1) = 3 := by unfold wrap64; omega
  unfold lifetime_times.f
  have hl : (([a, b, c].length : Nat) : Int) = 3 := rfl
  rw [lifetime_times.l0, hl, if_pos (by omega), if_pos (by omega), if_pos (by omega), lt_isTime, e1, show rd [a, b, c] 0 = a from rfl]
  simp only [Option.bind_some]
  by_cases ha : 0 ≤ a ∧ a ≤ 4294967295
  · rw [decide_eq_true ha, if_pos rfl]
    rw [lifetime_times.l0, hl, if_pos (by omega), if_pos (by omega), if_pos (by omega), lt_isTime, e2, show rd [a, b, c] 1 = b from rfl]
    simp only [Option.bind_some]
    by_cases hb : 0 ≤ b ∧ b ≤ 4294967295
    · rw [decide_eq_true hb, if_pos rfl]
      rw [lifetime_times.l0, hl, if_pos (by omega), if_pos (by omega), if_pos (by omega), lt_isTime, e3, show rd [a, b, c] 2 = c from rfl]
      simp only [Option.bind_some]
      by_cases hc : 0 ≤ c ∧ c ≤ 4294967295
      · rw [decide_eq_true hc, if_pos rfl]
        rw [lifetime_times.l0, if_neg (by omega)]
        rfl
      · rw [decide_eq_false hc]; rfl
    · rw [decide_eq_false hb]; rfl
  · rw [decide_eq_false ha]; rfl

def lt_ok (i l n s : Int) : Prop := (0 ≤ i ∧ i ≤ 4294967295) ∧ (0 ≤ n ∧ n ≤ 4294967295) ∧ (0 ≤ s ∧ s ≤ 4294967295) ∧ (0 ≤ l ∧ l ≤ 255)

theorem lt_end (a b : Int) (h1 : 0 ≤ a ∧ a ≤ 4294967295) (h3 : 0 ≤ b ∧ b ≤ 255) : lifetime_End.f a b = some (a + 300 * (b + 1)) ∧ kerbsuiteref2_End.f a b = some (a + 300 * (b + 1)) := by
  have e : wrap64 (a + wrap64 (300 * wrap64 (b + 1))) = a + 300 * (b + 1) := by unfold wrap64; omega
  unfold lifetime_End.f kerbsuiteref2_End.f
  rw [lt_isTime, lt_isLife, lt_time, decide_eq_true h1, decide_eq_true h3, e]
  simp only [Option.bind_some, if_true]
  rw [if_neg (by omega), if_neg (by omega)]
  first | exact ⟨rfl, rfl⟩ | simp

theorem lt_state_bad (k : Nat) (i l n s : Int) (h : ¬ lt_ok i l n s) : lifetime_State.f (k + 4) i l n s = some 104 ∧ kerbsuiteref2_State.f (k + 4) i l n s = some 104 := by
  unfold lifetime_State.f kerbsuiteref2_State.f
  rw [lt_times, lt_isLife, lt_time, lt_time]
  unfold lt_ok at h
  simp only [Option.bind_some]
  by_cases hi : 0 ≤ i ∧ i ≤ 4294967295
  · by_cases hn : 0 ≤ n ∧ n ≤ 4294967295
    · by_cases hs : 0 ≤ s ∧ s ≤ 4294967295
      · have hl : ¬ (0 ≤ l ∧ l ≤ 255) := fun hl => h ⟨hi, hn, hs, hl⟩
        rw [decide_eq_true hi, decide_eq_true hn, decide_eq_true hs, decide_eq_false hl]
        refine ⟨by simp [lifetime_State.j0], ?_⟩
        simp only [if_true]
        by_cases h1 : l < 0
        · rw [if_pos h1]; simp [kerbsuiteref2_State.j0]
        · rw [if_neg h1, if_pos (by omega)]; simp [kerbsuiteref2_State.j0]
      · rw [decide_eq_true hi, decide_eq_true hn, decide_eq_false hs]
        refine ⟨by simp [lifetime_State.j0], ?_⟩
        simp only [if_true]
        by_cases h1 : l < 0
        · rw [if_pos h1]; simp [kerbsuiteref2_State.j0]
        · by_cases h2 : l > 255
          · rw [if_neg h1, if_pos h2]; simp [kerbsuiteref2_State.j0]
          · by_cases h3 : s < 0
            · rw [if_neg h1, if_neg h2, if_pos h3]; simp [kerbsuiteref2_State.j0]
            · rw [if_neg h1, if_neg h2, if_neg h3, decide_eq_true (by omega)]; simp [kerbsuiteref2_State.j0]
    · rw [decide_eq_true hi, decide_eq_false hn]
      exact ⟨by simp [lifetime_State.j0], by simp [kerbsuiteref2_State.j0]⟩
  · rw [decide_eq_false hi]
    exact ⟨by simp [lifetime_State.j0], by simp [kerbsuiteref2_State.j0]⟩

theorem lt_state_good (k : Nat) (i l n s : Int) (h : lt_ok i l n s) (r : Int)
    (hr : r = if i > n + s then 33 else if n > i + 300 * (l + 1) + s then 32 else 0) : lifetime_State.f (k + 4) i l n s = some r ∧ kerbsuiteref2_State.f (k + 4) i l n s = some r := by
  obtain ⟨hi, hn, hs, hl⟩ := h
  unfold lifetime_State.f kerbsuiteref2_State.f
  rw [lt_times, lt_isLife, lt_time, lt_time, decide_eq_true hi, decide_eq_true hn, decide_eq_true hs, decide_eq_true hl]
  simp only [Option.bind_some, Bool.and_true, if_true, Bool.not_true]
  rw [if_neg (by omega), if_neg (by omega), if_neg (by omega), decide_eq_false (by omega)]
  rw [lifetime_State.j0, kerbsuiteref2_State.j0, (lt_end i l hi hl).1, (lt_end i l hi hl).2]
  have e1 : wrap64 (n + s) = n + s := by unfold wrap64; omega
  have e2 : wrap64 (i + 300 * (l + 1) + s) = i + 300 * (l + 1) + s := by unfold wrap64; omega
  simp only [Bool.false_eq_true, if_false, Option.bind_some, e1, e2]
  subst hr
  by_cases h1 : i > n + s
  · simp only [if_pos h1]; first | exact ⟨rfl, rfl⟩ | simp
  · simp only [if_neg h1]
    by_cases h2 : n > i + 300 * (l + 1) + s
    · simp only [if_pos h2]; first | exact ⟨rfl, rfl⟩ | simp
    · simp only [if_neg h2]; first | exact ⟨rfl, rfl⟩ | simp

theorem lt_state (k : Nat) (i l n s : Int) : ∃ r, lifetime_State.f (k + 4) i l n s = some r ∧ kerbsuiteref2_State.f (k + 4) i l n s = some r ∧
    (r = 0 → lt_ok i l n s ∧ i ≤ n + s ∧ n ≤ i + 300 * (l + 1) + s) := by
  by_cases h : lt_ok i l n s
  · obtain ⟨h1, h2⟩ := lt_state_good k i l n s h _ rfl
    refine ⟨_, h1, h2, fun h0 => ⟨h, ?_⟩⟩
    by_cases c1 : i > n + s
    · rw [if_pos c1] at h0; omega
    · rw [if_neg c1] at h0
      by_cases c2 : n > i + 300 * (l + 1) + s
      · rw [if_pos c2] at h0; omega
      · omega
  · obtain ⟨h1, h2⟩ := lt_state_bad k i l n s h
    exact ⟨104, h1, h2, fun h0 => by omega⟩

theorem LifetimeStates : kerbsuitelaw2_LifetimeStates.Pure := by
  intro a0 a1 a2 a3 a4 a5 a6 a7 _ _ _ _ w4 w5 w6 w7
  have b4 : 0 ≤ a4 ∧ a4 ≤ 65535 := by simp [Lit.wf, IntKind.min, IntKind.max, IntKind.signed, IntKind.bits] at w4; omega
  have b5 : 0 ≤ a5 ∧ a5 ≤ 65535 := by simp [Lit.wf, IntKind.min, IntKind.max, IntKind.signed, IntKind.bits] at w5; omega
  have b6 : 0 ≤ a6 ∧ a6 ≤ 65535 := by simp [Lit.wf, IntKind.min, IntKind.max, IntKind.signed, IntKind.bits] at w6; omega
  have b7 : 0 ≤ a7 ∧ a7 ≤ 65535 := by simp [Lit.wf, IntKind.min, IntKind.max, IntKind.signed, IntKind.bits] at w7; omega
  have e4 : wrap64 a4 = a4 := by unfold wrap64; omega
  have e5 : Int.tmod (wrap64 a5) 270 = a5 % 270 := by rw [show wrap64 a5 = a5 from by unfold wrap64; omega, Int.tmod_eq_emod_of_nonneg b5.1]
  have e7 : Int.tmod (wrap64 a7) 900 = a7 % 900 := by rw [show wrap64 a7 = a7 from by unfold wrap64; omega, Int.tmod_eq_emod_of_nonneg b7.1]
  have e6 : wrap64 (wrap64 (a4 + wrap64 a6) - 20000) = a4 + a6 - 20000 := by unfold wrap64; omega
  refine ⟨0 + 4, ?_⟩
  unfold kerbsuitelaw2_LifetimeStates.f
  rw [lt_awake]
  obtain ⟨r, h1, h2, _⟩ := lt_state 0 a0 a1 a2 a3
  rw [e4, e5, e6, e7]
  obtain ⟨q, h3, h4, h5⟩ := lt_state 0 a4 (a5 % 270) (a4 + a6 - 20000) (a7 % 900)
  rw [h1, h2, h3, h4]
  simp only [Option.bind_some, if_true]
  by_cases hq : q = 0
  · obtain ⟨⟨hi, hn, hs, hl⟩, h6, h7⟩ := h5 hq
    have e8 : wrap64 (a4 - a7 % 900) = a4 - a7 % 900 := by unfold wrap64; omega
    rw [if_pos hq, e8, if_pos (by omega), (lt_end a4 (a5 % 270) hi hl).1]
    simp only [Option.bind_some]
    rw [show wrap64 (a4 + 300 * (a5 % 270 + 1) + a7 % 900) = a4 + 300 * (a5 % 270 + 1) + a7 % 900 from by unfold wrap64; omega, decide_eq_true h7]
  · rw [if_neg hq]

end Go.Proofs.Ytdpelehbgnnpoaa.Pure
