/- LifetimeGrants: the lifetime that Grant returns is the document's, for any arguments and for those that are expected. No conditions. -/
import Derived.Test.YtdpelehbgnnpoaaPLifetimeGrantsx2
namespace Go.Proofs.Ytdpelehbgnnpoaa.Pure
open Go.RowKit Go.Proofs.Ytdpelehbgnnpoaa.PLifetimeGrants Go.Proofs.YtdpelehbgnnpoaaW.PrintWords Go.Proofs.YtdpelehbgnnpoaaW.PrintLast

theorem lg_awake (k : Nat) : kerbsuitelaw2_awake.f (k + 2) = some true := by
  kernel_rfl

def lg_i64 (x : Int) : Prop := -9223372036854775808 ≤ x ∧ x ≤ 9223372036854775807

theorem lg_wf {x : Int} (h : (Lit.int .i64 x).wf = true) : lg_i64 x := by
  unfold lg_i64
  simp [Lit.wf, IntKind.min, IntKind.max, IntKind.signed, IntKind.bits] at h; omega

def lg_spec (now : Int) : Int → List Int → Int × Bool
  | life, [] => if life < 0 then (0, false) else (life, true)
  | life, e :: es => if e - now < 300 then (0, false) else lg_spec now (min life ((e - now) / 300 - 1)) es

theorem lg_wrap {i : Int} {n : Nat} (h0 : 0 ≤ i) (h : i < (n : Int)) (hn : n ≤ 1000) : wrap64 (i + 1) = i + 1 := by
  unfold wrap64; omega

theorem lg_drop (l : List Int) (i : Int) (h0 : 0 ≤ i) (h1 : i < (l.length : Int)) : l.drop i.toNat = rd l i :: l.drop (i + 1).toNat := by
  have h2 : i.toNat < l.length := by omega
  rw [List.drop_eq_getElem_cons h2, show (i + 1).toNat = i.toNat + 1 from by omega]
  congr 1
  unfold rd
  rw [List.getD_eq_getElem?_getD, List.getElem?_eq_getElem h2]; rfl

theorem lg_rd (l : List Int) (hl : ∀ x ∈ l, lg_i64 x) (i : Int) (h0 : 0 ≤ i) (h1 : i < (l.length : Int)) : lg_i64 (rd l i) := by
  have h2 : i.toNat < l.length := by omega
  unfold rd
  rw [List.getD_eq_getElem?_getD, List.getElem?_eq_getElem h2]
  exact hl _ (List.getElem_mem h2)

theorem lg_prog_loop (now : Int) (hn0 : 0 ≤ now) (hn1 : now ≤ 4294967295) (l : List Int) (hl : ∀ x ∈ l, lg_i64 x) (hlen : l.length ≤ 1000) (k : Nat) (d : Nat) :
    ∀ (i life : Int), 0 ≤ i → life ≤ 255 → (l.length : Int) - i = d → lifetime_Grant.l0 (k + d + 1) now life l (l.length : Int) i = some (lg_spec now life (l.drop i.toNat)) := by
  induction d with
  | zero =>
    intro i life h0 h255 hd
    rw [lifetime_Grant.l0, if_neg (by omega), List.drop_eq_nil_of_le (by omega), lg_spec]
    by_cases h : life < 0 <;> simp [h]
  | succ d ih =>
    intro i life h0 h255 hd
    rw [show k + (d + 1) + 1 = (k + d + 1) + 1 from by omega, lifetime_Grant.l0, if_pos (by omega), if_pos h0, if_pos (by omega), lg_drop l i h0 (by omega), lg_spec]
    have hr := lg_rd l hl i h0 (by omega)
    generalize rd l i = e at hr
    unfold lg_i64 at hr
    by_cases h1 : e < now
    · rw [if_pos h1, if_pos (by omega)]
    · rw [if_neg h1, show wrap64 (e - now) = e - now from by unfold wrap64; omega]
      unfold lifetime_FromSeconds.f
      by_cases h2 : e - now < 300
      · rw [if_pos h2, if_pos h2]; simp
      · rw [if_neg h2, if_neg h2]
        have hq : Int.tdiv (e - now) 300 = (e - now) / 300 := Int.tdiv_eq_ediv_of_nonneg (by omega)
        have e1 : wrap64 (wrap64 (Int.tdiv (e - now) 300) - 1) = (e - now) / 300 - 1 := by rw [hq]; unfold wrap64; omega
        rw [e1]
        simp only [Option.bind_some, if_true]
        have e2 : mn life (mn ((e - now) / 300 - 1) 255) = min life ((e - now) / 300 - 1) := by unfold mn; omega
        rw [lg_wrap (n := l.length) h0 (by omega) hlen, e2, ih (i + 1) _ (by omega) (by omega) (by omega)]

theorem lg_prog (k : Nat) (now want : Int) (l : List Int) (hl : ∀ x ∈ l, lg_i64 x) (hlen : l.length ≤ 1000) :
    lifetime_Grant.f (k + l.length + 1) now want l = some (if 0 ≤ now ∧ now ≤ 4294967295 then lg_spec now (min want 255) l else (0, false)) := by
  unfold lifetime_Grant.f lifetime_isTime.f
  by_cases h0 : now ≥ 0
  · by_cases h1 : now ≤ 4294967295
    · have e : mn want 255 = min want 255 := by unfold mn; omega
      rw [if_pos h0, decide_eq_true h1, if_pos ⟨h0, h1⟩]
      simp only [Option.bind_some, if_true]
      rw [lg_prog_loop now h0 h1 l hl hlen k l.length 0 _ (by omega) (by unfold mn; omega) (by omega), e]
      rfl
    · rw [if_pos h0, decide_eq_false h1, if_neg (fun h => h1 h.2)]
      simp
  · rw [if_neg h0, if_neg (fun h => h0 h.1)]
    simp

theorem lg_neg (now : Int) (l : List Int) : ∀ life : Int, life < 0 → lg_spec now life l = (0, false) := by
  induction l with
  | nil => intro life h; rw [lg_spec, if_pos h]
  | cons e es ih =>
    intro life h
    rw [lg_spec]
    by_cases h1 : e - now < 300
    · rw [if_pos h1]
    · rw [if_neg h1]; exact ih _ (by omega)

theorem lg_l0_more (now : Int) (l : List Int) (life i : Int) (r : Int × Bool) (k j : Nat) (h : kerbsuiteref2_Grant.l0 k now l life i = some r) : kerbsuiteref2_Grant.l0 (k + j) now l life i = some r :=
  more_rounds (g := fun n => kerbsuiteref2_Grant.l0 n now l life i) (fun n => (kerbsuiteref2_Grant.mono_l n).2.1 _ _ _ _) k j _ h

theorem lg_ref_round (now : Int) (hn0 : 0 ≤ now) (hn1 : now ≤ 4294967295) (l : List Int) (hlen : l.length ≤ 1000) (i : Int) (h0 : 0 ≤ i) (h1 : i < (l.length : Int)) (r : Int × Bool) (k : Nat) (d : Nat) :
    ∀ life : Int, life + 1 = d → life ≤ 255 → kerbsuiteref2_Grant.l0 k now l (max (-1) (min life ((rd l i - now) / 300 - 1))) (i + 1) = some r → kerbsuiteref2_Grant.l1 (k + d + 1) now l life i = some r := by
  induction d with
  | zero =>
    intro life hd h255 h
    rw [kerbsuiteref2_Grant.l1, if_neg (by omega), lg_wrap (n := l.length) h0 h1 hlen]
    rw [show max (-1) (min life ((rd l i - now) / 300 - 1)) = life from by omega] at h
    exact h
  | succ d ih =>
    intro life hd h255 h
    have e : wrap64 (now + wrap64 (300 * wrap64 (life + 1))) = now + 300 * (life + 1) := by unfold wrap64; omega
    rw [show k + (d + 1) + 1 = (k + d + 1) + 1 from by omega, kerbsuiteref2_Grant.l1, if_pos (by omega), if_pos h0, if_pos h1, e]
    by_cases hc : now + 300 * (life + 1) > rd l i
    · rw [if_pos hc, show wrap64 (life - 1) = life - 1 from by unfold wrap64; omega]
      refine ih (life - 1) (by omega) (by omega) ?_
      rw [show max (-1) (min (life - 1) ((rd l i - now) / 300 - 1)) = max (-1) (min life ((rd l i - now) / 300 - 1)) from by omega]
      exact h
    · rw [if_neg hc, lg_wrap (n := l.length) h0 h1 hlen]
      rw [show max (-1) (min life ((rd l i - now) / 300 - 1)) = life from by omega] at h
      rw [show k + d + 1 = k + (d + 1) from by omega]
      exact lg_l0_more now l life _ r k _ h

theorem lg_ref_loop (now : Int) (hn0 : 0 ≤ now) (hn1 : now ≤ 4294967295) (l : List Int) (hlen : l.length ≤ 1000) (d : Nat) :
    ∀ (i life : Int), 0 ≤ i → -1 ≤ life → life ≤ 255 → (l.length : Int) - i = d → ∃ k, kerbsuiteref2_Grant.l0 k now l life i = some (lg_spec now life (l.drop i.toNat)) := by
  induction d with
  | zero =>
    intro i life h0 hm h255 hd
    refine ⟨1, ?_⟩
    rw [kerbsuiteref2_Grant.l0, if_neg (by omega), List.drop_eq_nil_of_le (by omega), lg_spec]
    by_cases h : life < 0 <;> simp [h]
  | succ d ih =>
    intro i life h0 hm h255 hd
    obtain ⟨k, hk⟩ := ih (i + 1) (max (-1) (min life ((rd l i - now) / 300 - 1))) (by omega) (by omega) (by omega) (by omega)
    refine ⟨(k + (life + 1).toNat + 1) + 1, ?_⟩
    rw [kerbsuiteref2_Grant.l0, if_pos (by omega)]
    have e : lg_spec now (max (-1) (min life ((rd l i - now) / 300 - 1))) (l.drop (i + 1).toNat) = lg_spec now life (l.drop i.toNat) := by
      rw [lg_drop l i h0 (by omega), lg_spec]
      by_cases h1 : rd l i - now < 300
      · rw [if_pos h1]
        exact lg_neg now _ _ (by omega)
      · rw [if_neg h1]
        by_cases h2 : life < 0
        · rw [lg_neg now _ _ (by omega), lg_neg now _ _ (by omega)]
        · congr 1; omega
    rw [e] at hk
    exact lg_ref_round now hn0 hn1 l hlen i h0 (by omega) _ k (life + 1).toNat life (by omega) h255 hk

theorem lg_both (now want : Int) (l : List Int) (hl : ∀ x ∈ l, lg_i64 x) (hlen : l.length ≤ 1000) :
    ∃ r K, ∀ k, K ≤ k → lifetime_Grant.f k now want l = some r ∧ kerbsuiteref2_Grant.f k now want l = some r := by
  by_cases hn : 0 ≤ now ∧ now ≤ 4294967295
  · have hp : ∀ k, lifetime_Grant.f (k + l.length + 1) now want l = some (lg_spec now (min want 255) l) := fun k => by
      rw [lg_prog k now want l hl hlen, if_pos hn]
    by_cases hw : want < 0
    · refine ⟨(0, false), l.length + 1, fun k hk => ⟨?_, ?_⟩⟩
      · have := hp (k - (l.length + 1))
        rw [show k - (l.length + 1) + l.length + 1 = k from by omega, lg_neg now l _ (by omega)] at this
        exact this
      · obtain ⟨k, rfl⟩ : ∃ m, k = m + 1 := ⟨k - 1, by omega⟩
        unfold kerbsuiteref2_Grant.f kerbsuiteref2_time.f
        rw [if_pos (by omega), decide_eq_true hn.2, decide_eq_true hw]
        simp [kerbsuiteref2_Grant.j0]
    · obtain ⟨j, hj⟩ := lg_ref_loop now hn.1 hn.2 l hlen l.length 0 (min want 255) (by omega) (by omega) (by omega) (by omega)
      refine ⟨lg_spec now (min want 255) l, j + l.length + 2, fun k hk => ⟨?_, ?_⟩⟩
      · have := hp (k - (l.length + 1))
        rw [show k - (l.length + 1) + l.length + 1 = k from by omega] at this
        exact this
      · obtain ⟨m, rfl⟩ : ∃ m, k = (j + m) + 1 := ⟨k - 1 - j, by omega⟩
        have e : mn want 255 = min want 255 := by unfold mn; omega
        unfold kerbsuiteref2_Grant.f kerbsuiteref2_time.f
        rw [if_pos (by omega), decide_eq_true hn.2, decide_eq_false hw]
        simp only [Option.bind_some, if_true]
        rw [kerbsuiteref2_Grant.j0, if_neg (by simp), e]
        exact lg_l0_more now l _ _ _ j m hj
  · refine ⟨(0, false), l.length + 1, fun k hk => ⟨?_, ?_⟩⟩
    · have := lg_prog (k - (l.length + 1)) now want l hl hlen
      rw [show k - (l.length + 1) + l.length + 1 = k from by omega, if_neg hn] at this
      exact this
    · obtain ⟨k, rfl⟩ : ∃ m, k = m + 1 := ⟨k - 1, by omega⟩
      unfold kerbsuiteref2_Grant.f kerbsuiteref2_time.f
      by_cases h0 : now ≥ 0
      · rw [if_pos h0, decide_eq_false (by omega)]
        simp [kerbsuiteref2_Grant.j0]
      · rw [if_neg h0]
        simp [kerbsuiteref2_Grant.j0]

theorem lg_law_loop (x3 x4 : Int) (c : List Int) (_hx : 0 ≤ x3 ∧ x3 ≤ 65535) (_hc : ∀ x ∈ c, 0 ≤ x ∧ x ≤ 65535) (hlen : c.length ≤ 20) (d : Nat) :
    ∀ (l : List Int) (i : Int), 0 ≤ i → (c.length : Int) - i = d → l.length = i.toNat → (∀ x ∈ l, lg_i64 x) → ∃ K, ∀ k, K ≤ k → kerbsuitelaw2_LifetimeGrants.l0 k x3 x4 c l i = some true := by
  induction d with
  | zero =>
    intro l i h0 hd hll hl
    obtain ⟨r, K, hK⟩ := lg_both (wrap64 x3) (Int.tmod (wrap64 x4) 400) l hl (by omega)
    refine ⟨K + 1, fun k hk => ?_⟩
    obtain ⟨k, rfl⟩ : ∃ m, k = m + 1 := ⟨k - 1, by omega⟩
    rw [kerbsuitelaw2_LifetimeGrants.l0, if_neg (by omega), (hK k (by omega)).1, (hK k (by omega)).2]
    simp
  | succ d ih =>
    intro l i h0 hd hll hl
    have hw : wrap64 (i + 1) = i + 1 := lg_wrap (n := c.length) h0 (by omega) (by omega)
    have hv : lg_i64 (wrap64 (wrap64 x3 + wrap64 (rd c i))) := by unfold lg_i64 wrap64; omega
    obtain ⟨K, hK⟩ := ih (l ++ [wrap64 (wrap64 x3 + wrap64 (rd c i))]) (i + 1) (by omega) (by omega) (by simp; omega) (by
      intro x hx
      rcases List.mem_append.mp hx with h | h
      · exact hl x h
      · rw [List.mem_singleton] at h; rw [h]; exact hv)
    refine ⟨K + 1, fun k hk => ?_⟩
    obtain ⟨k, rfl⟩ : ∃ m, k = m + 1 := ⟨k - 1, by omega⟩
    rw [kerbsuitelaw2_LifetimeGrants.l0, if_pos (by omega), if_pos h0, if_pos (by omega), hw]
    exact hK k (by omega)

theorem LifetimeGrants : kerbsuitelaw2_LifetimeGrants.Pure := by
  intro a0 a1 l2 a3 a4 l5 _ _ _ _ hl2 w3 w4 _ _ hl5
  have b3 : 0 ≤ a3 ∧ a3 ≤ 65535 := by simp [Lit.wf, IntKind.min, IntKind.max, IntKind.signed, IntKind.bits] at w3; omega
  by_cases h2 : (l2.length : Int) > 20
  · refine ⟨2, ?_⟩
    unfold kerbsuitelaw2_LifetimeGrants.f
    rw [lg_awake 0, if_pos h2]
    simp [kerbsuitelaw2_LifetimeGrants.j0]
  · by_cases h5 : (l5.length : Int) > 20
    · refine ⟨2, ?_⟩
      unfold kerbsuitelaw2_LifetimeGrants.f
      rw [lg_awake 0, if_neg h2, decide_eq_true h5]
      simp [kerbsuitelaw2_LifetimeGrants.j0]
    · obtain ⟨r, K, hK⟩ := lg_both a0 a1 l2 (fun x hx => lg_wf (hl2 x hx)) (by omega)
      obtain ⟨K', hK'⟩ := lg_law_loop a3 a4 l5 b3 (fun x hx => by have w := hl5 x hx; simp [Lit.wf, IntKind.min, IntKind.max, IntKind.signed, IntKind.bits] at w; omega) (by omega) l5.length [] 0 (by omega) (by omega) rfl (by simp)
      refine ⟨(K + K') + 2, ?_⟩
      unfold kerbsuitelaw2_LifetimeGrants.f
      rw [lg_awake, if_neg h2, decide_eq_false h5]
      simp only [Option.bind_some, if_true]
      rw [kerbsuitelaw2_LifetimeGrants.j0, if_neg (by simp), (hK _ (by omega)).1, (hK _ (by omega)).2]
      simp only [Option.bind_some, if_true, bne_self_eq_false]
      rw [kerbsuitelaw2_LifetimeGrants.j1, if_neg (by simp)]
      exact hK' _ (by omega)

end Go.Proofs.Ytdpelehbgnnpoaa.Pure
