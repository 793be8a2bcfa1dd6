-- PRINTED BY print.sh 35421559b90ae4d0a3588c463048766b98c2df88dd9212a6774a882060cdf62d: not written by this session
import Derived.Test.YtdpelehbgnnpoaaPLifetimeStatesx0
import Derived.Test.YtdpelehbgnnpoaaPLifetimeStatesx1
namespace Go.Proofs.Ytdpelehbgnnpoaa.PLifetimeStates
open Go.RowKit Go.Proofs.YtdpelehbgnnpoaaW.PrintWords Go.Proofs.YtdpelehbgnnpoaaW.PrintLast Go.Proofs.YtdpelehbgnnpoaaW.PrintMore
attribute [local go_sem] max2_int min2_int max_two min_two max_three min_three max_four min_four   -- for this text's walks alone
set_option linter.unusedVariables false
set_option linter.unusedSimpArgs false

/-! ### kerbsuiteref2_State: function 45 -/
def kerbsuiteref2_State.j0 : Nat → Int → Int → Int → Int → Bool → Option (Int)
  | 0, _, _, _, _, _ => none
  | k + 1, x0, x1, x2, x3, x32 => if x32 = true then (some 104) else (if x0 > (wrap64 (x2 + x3)) then (some 33) else ((kerbsuiteref2_End.f x0 x1).bind fun t128 => (if x2 > (wrap64 (t128 + x3)) then (some 32) else (some 0))))
def kerbsuiteref2_State.f (k : Nat) (a0 : Int) (a1 : Int) (a2 : Int) (a3 : Int) : Option (Int) := (kerbsuiteref2_time.f a0).bind fun t126 => (if t126 = true then ((kerbsuiteref2_time.f a2).bind fun t127 => (if t127 = true then (if a1 < 0 then (kerbsuiteref2_State.j0 k a0 a1 a2 a3 true) else (if a1 > 255 then (kerbsuiteref2_State.j0 k a0 a1 a2 a3 true) else (if a3 < 0 then (kerbsuiteref2_State.j0 k a0 a1 a2 a3 true) else (kerbsuiteref2_State.j0 k a0 a1 a2 a3 (decide (a3 > 4294967295)))))) else (kerbsuiteref2_State.j0 k a0 a1 a2 a3 true))) else (kerbsuiteref2_State.j0 k a0 a1 a2 a3 true))
theorem kerbsuiteref2_State.mono_l : ∀ k, (∀ y0 y1 y2 y3 y4, LeO (kerbsuiteref2_State.j0 k y0 y1 y2 y3 y4) (kerbsuiteref2_State.j0 (k + 1) y0 y1 y2 y3 y4))
  | 0 => fun _ _ _ _ _ r h => by simp [kerbsuiteref2_State.j0] at h
  | k + 1 => by
    have ih0 := kerbsuiteref2_State.mono_l k
    · intro y0 y1 y2 y3 y4
      unfold kerbsuiteref2_State.j0
      repeat' first
      | (with_reducible exact ih0 _ _ _ _ _)
      | (with_reducible exact LeO.refl _)
      | (with_reducible exact LeO.none _)
      | (with_reducible refine LeO.ite ?_ ?_)
      | (with_reducible refine LeO.bind ?_ (fun _ => ?_))
      | exact ih0 _ _ _ _ _
      | exact LeO.none _
      | refine LeO.ite ?_ ?_
      | refine LeO.bind ?_ (fun _ => ?_)
theorem kerbsuiteref2_State.mono : ∀ a0 a1 a2 a3 k, LeO (kerbsuiteref2_State.f k a0 a1 a2 a3) (kerbsuiteref2_State.f (k + 1) a0 a1 a2 a3) := by
  intro a0 a1 a2 a3 k
  have ih0 := kerbsuiteref2_State.mono_l k
  unfold kerbsuiteref2_State.f
  repeat' first
      | (with_reducible exact ih0 _ _ _ _ _)
      | (with_reducible exact LeO.refl _)
      | (with_reducible exact LeO.none _)
      | (with_reducible refine LeO.ite ?_ ?_)
      | (with_reducible refine LeO.bind ?_ (fun _ => ?_))
      | exact ih0 _ _ _ _ _
      | exact LeO.none _
      | refine LeO.ite ?_ ?_
      | refine LeO.bind ?_ (fun _ => ?_)
set_option maxHeartbeats 8000000 in
set_option maxRecDepth 100000 in
theorem kerbsuiteref2_State.calls (k : Nat) (a0 : Int) (a1 : Int) (a2 : Int) (a3 : Int) (r : Int) (w : World) (h : kerbsuiteref2_State.f k a0 a1 a2 a3 = some r) :
    Calls Try.prog 45 #[.int .i64 a0, .int .i64 a1, .int .i64 a2, .int .i64 a3] w fun e w' => e = .returned (.int .i64 r) ∧ Drawn0 w w' := by
  have H : ((kerbsuiteref2_time.f a0).bind fun t126 => (if t126 = true then ((kerbsuiteref2_time.f a2).bind fun t127 => (if t127 = true then (if a1 < 0 then (kerbsuiteref2_State.j0 k a0 a1 a2 a3 true) else (if a1 > 255 then (kerbsuiteref2_State.j0 k a0 a1 a2 a3 true) else (if a3 < 0 then (kerbsuiteref2_State.j0 k a0 a1 a2 a3 true) else (kerbsuiteref2_State.j0 k a0 a1 a2 a3 (decide (a3 > 4294967295)))))) else (kerbsuiteref2_State.j0 k a0 a1 a2 a3 true))) else (kerbsuiteref2_State.j0 k a0 a1 a2 a3 true))) = some r := h
  clear h
  have HC5 := Aside0.mk H
  clear H
  go_enter Try.func45, Try.ntmps45
  go_upto_region 1 with (fail)
  go_cut [32] (fun v32 wc => ∃ (kq : Nat) (x32_4 : Bool), v32 = .bool x32_4 ∧ Aside0 (kerbsuiteref2_State.j0 kq a0 a1 a2 a3 x32_4 = some r) ∧ Aside0 (kq ≤ k) ∧ Drawn0 w wc)
  case first =>
    have H := HC5.out
    clear HC5
    replace H := Option.bind_eq_some_iff.mp H
    obtain ⟨t126, A60, H⟩ := H
    replace H : (if t126 = true then ((kerbsuiteref2_time.f a2).bind fun t127 => (if t127 = true then (if a1 < 0 then (kerbsuiteref2_State.j0 k a0 a1 a2 a3 true) else (if a1 > 255 then (kerbsuiteref2_State.j0 k a0 a1 a2 a3 true) else (if a3 < 0 then (kerbsuiteref2_State.j0 k a0 a1 a2 a3 true) else (kerbsuiteref2_State.j0 k a0 a1 a2 a3 (decide (a3 > 4294967295)))))) else (kerbsuiteref2_State.j0 k a0 a1 a2 a3 true))) else (kerbsuiteref2_State.j0 k a0 a1 a2 a3 true)) = some r := H
    have A6 := Aside0.mk A60
    clear A60
    by_cases c7 : t126 = true
    · subst c7
      have H1 : ((kerbsuiteref2_time.f a2).bind fun t127 => (if t127 = true then (if a1 < 0 then (kerbsuiteref2_State.j0 k a0 a1 a2 a3 true) else (if a1 > 255 then (kerbsuiteref2_State.j0 k a0 a1 a2 a3 true) else (if a3 < 0 then (kerbsuiteref2_State.j0 k a0 a1 a2 a3 true) else (kerbsuiteref2_State.j0 k a0 a1 a2 a3 (decide (a3 > 4294967295)))))) else (kerbsuiteref2_State.j0 k a0 a1 a2 a3 true))) = some r := by rw [if_pos rfl] at H; exact H
      clear H
      have H := H1
      clear H1
      replace H := Option.bind_eq_some_iff.mp H
      obtain ⟨t127, A80, H⟩ := H
      replace H : (if t127 = true then (if a1 < 0 then (kerbsuiteref2_State.j0 k a0 a1 a2 a3 true) else (if a1 > 255 then (kerbsuiteref2_State.j0 k a0 a1 a2 a3 true) else (if a3 < 0 then (kerbsuiteref2_State.j0 k a0 a1 a2 a3 true) else (kerbsuiteref2_State.j0 k a0 a1 a2 a3 (decide (a3 > 4294967295)))))) else (kerbsuiteref2_State.j0 k a0 a1 a2 a3 true)) = some r := H
      have A8 := Aside0.mk A80
      clear A80
      by_cases c9 : t127 = true
      · subst c9
        have H1 : (if a1 < 0 then (kerbsuiteref2_State.j0 k a0 a1 a2 a3 true) else (if a1 > 255 then (kerbsuiteref2_State.j0 k a0 a1 a2 a3 true) else (if a3 < 0 then (kerbsuiteref2_State.j0 k a0 a1 a2 a3 true) else (kerbsuiteref2_State.j0 k a0 a1 a2 a3 (decide (a3 > 4294967295)))))) = some r := by rw [if_pos rfl] at H; exact H
        clear H
        have H := H1
        clear H1
        by_cases c10 : a1 < 0
        · rw [if_pos c10] at H
          have c10b0 : decide (a1 < 0) = true := decide_eq_true c10
          clear c10
          (first | rw [c10b0] | (simp only [i64_w, i32_w]; rw [c10b0]) | skip)
          have H' := Aside0.mk H
          clear H
          go_wp2_with (first | ((with_reducible refine gate_callee (f := 49) rfl ?_); refine goesL_ (some 10) rfl rfl Try.func49 (by kernel_rfl) rfl #[.int .i64 a0] rfl (by (try simp only [List.map_toArray, List.map_cons, List.map_nil]); first | done | rfl | (simp only [List.length_drop, List.length_take]; rfl)) ?_; (with_reducible refine (kerbsuiteref2_time.calls a0 true _ A6.out).mono ?_); rintro e w' ⟨rfl, ⟨nd, rfl⟩⟩; refine ⟨_, rfl, ?_⟩) | (go_at_call 49; (with_reducible refine (kerbsuiteref2_time.calls a2 true _ A8.out).mono ?_); rintro e w' ⟨rfl, ⟨nd, rfl⟩⟩))
          go_meet
          case rel => exact ⟨_, (true), (by first | rfl | (simp; done) | (simp [*]; done)), H', ⟨by first | omega | exact Nat.le_refl _⟩, by repeat (first | exact Drawn0.refl _ | apply Drawn0.step)⟩
        · rw [if_neg c10] at H
          have c10b0 : decide (a1 < 0) = false := decide_eq_false c10
          clear c10
          (first | rw [c10b0] | (simp only [i64_w, i32_w]; rw [c10b0]) | skip)
          by_cases c11 : a1 > 255
          · rw [if_pos c11] at H
            have c11b0 : decide (255 < a1) = true := decide_eq_true c11
            clear c11
            have H' := Aside0.mk H
            clear H
            go_wp2_with (first | ((with_reducible refine gate_callee (f := 49) rfl ?_); refine goesL_ (some 10) rfl rfl Try.func49 (by kernel_rfl) rfl #[.int .i64 a0] rfl (by (try simp only [List.map_toArray, List.map_cons, List.map_nil]); first | done | rfl | (simp only [List.length_drop, List.length_take]; rfl)) ?_; (with_reducible refine (kerbsuiteref2_time.calls a0 true _ A6.out).mono ?_); rintro e w' ⟨rfl, ⟨nd, rfl⟩⟩; refine ⟨_, rfl, ?_⟩) | (go_at_call 49; (with_reducible refine (kerbsuiteref2_time.calls a2 true _ A8.out).mono ?_); rintro e w' ⟨rfl, ⟨nd, rfl⟩⟩))
            go_meet
            case rel => exact ⟨_, (true), (by first | rfl | (simp; done) | (simp [*]; done)), H', ⟨by first | omega | exact Nat.le_refl _⟩, by repeat (first | exact Drawn0.refl _ | apply Drawn0.step)⟩
          · rw [if_neg c11] at H
            have c11b0 : decide (255 < a1) = false := decide_eq_false c11
            clear c11
            by_cases c12 : a3 < 0
            · rw [if_pos c12] at H
              have c12b0 : decide (a3 < 0) = true := decide_eq_true c12
              clear c12
              have H' := Aside0.mk H
              clear H
              go_wp2_with (first | ((with_reducible refine gate_callee (f := 49) rfl ?_); refine goesL_ (some 10) rfl rfl Try.func49 (by kernel_rfl) rfl #[.int .i64 a0] rfl (by (try simp only [List.map_toArray, List.map_cons, List.map_nil]); first | done | rfl | (simp only [List.length_drop, List.length_take]; rfl)) ?_; (with_reducible refine (kerbsuiteref2_time.calls a0 true _ A6.out).mono ?_); rintro e w' ⟨rfl, ⟨nd, rfl⟩⟩; refine ⟨_, rfl, ?_⟩) | (go_at_call 49; (with_reducible refine (kerbsuiteref2_time.calls a2 true _ A8.out).mono ?_); rintro e w' ⟨rfl, ⟨nd, rfl⟩⟩))
              go_meet
              case rel => exact ⟨_, (true), (by first | rfl | (simp; done) | (simp [*]; done)), H', ⟨by first | omega | exact Nat.le_refl _⟩, by repeat (first | exact Drawn0.refl _ | apply Drawn0.step)⟩
            · rw [if_neg c12] at H
              have c12b0 : decide (a3 < 0) = false := decide_eq_false c12
              clear c12
              have H' := Aside0.mk H
              clear H
              go_wp2_with (first | ((with_reducible refine gate_callee (f := 49) rfl ?_); refine goesL_ (some 10) rfl rfl Try.func49 (by kernel_rfl) rfl #[.int .i64 a0] rfl (by (try simp only [List.map_toArray, List.map_cons, List.map_nil]); first | done | rfl | (simp only [List.length_drop, List.length_take]; rfl)) ?_; (with_reducible refine (kerbsuiteref2_time.calls a0 true _ A6.out).mono ?_); rintro e w' ⟨rfl, ⟨nd, rfl⟩⟩; refine ⟨_, rfl, ?_⟩) | (go_at_call 49; (with_reducible refine (kerbsuiteref2_time.calls a2 true _ A8.out).mono ?_); rintro e w' ⟨rfl, ⟨nd, rfl⟩⟩))
              go_meet
              case rel => exact ⟨_, (decide (a3 > 4294967295)), (by first | rfl | (simp; done) | (simp [*]; done)), H', ⟨by first | omega | exact Nat.le_refl _⟩, by repeat (first | exact Drawn0.refl _ | apply Drawn0.step)⟩
      · replace c9 := Bool.eq_false_iff.mpr c9
        subst c9
        have H1 : (kerbsuiteref2_State.j0 k a0 a1 a2 a3 true) = some r := by rw [if_neg (show ¬ (false = true) by decide)] at H; exact H
        clear H
        have H := H1
        clear H1
        have H' := Aside0.mk H
        clear H
        go_wp2_with (first | ((with_reducible refine gate_callee (f := 49) rfl ?_); refine goesL_ (some 10) rfl rfl Try.func49 (by kernel_rfl) rfl #[.int .i64 a0] rfl (by (try simp only [List.map_toArray, List.map_cons, List.map_nil]); first | done | rfl | (simp only [List.length_drop, List.length_take]; rfl)) ?_; (with_reducible refine (kerbsuiteref2_time.calls a0 true _ A6.out).mono ?_); rintro e w' ⟨rfl, ⟨nd, rfl⟩⟩; refine ⟨_, rfl, ?_⟩) | (go_at_call 49; (with_reducible refine (kerbsuiteref2_time.calls a2 false _ A8.out).mono ?_); rintro e w' ⟨rfl, ⟨nd, rfl⟩⟩))
        go_meet
        case rel => exact ⟨_, (true), (by first | rfl | (simp; done) | (simp [*]; done)), H', ⟨by first | omega | exact Nat.le_refl _⟩, by repeat (first | exact Drawn0.refl _ | apply Drawn0.step)⟩
    · replace c7 := Bool.eq_false_iff.mpr c7
      subst c7
      have H1 : (kerbsuiteref2_State.j0 k a0 a1 a2 a3 true) = some r := by rw [if_neg (show ¬ (false = true) by decide)] at H; exact H
      clear H
      have H := H1
      clear H1
      have H' := Aside0.mk H
      clear H
      go_wp2_with (first | ((with_reducible refine gate_callee (f := 49) rfl ?_); refine goesL_ (some 10) rfl rfl Try.func49 (by kernel_rfl) rfl #[.int .i64 a0] rfl (by (try simp only [List.map_toArray, List.map_cons, List.map_nil]); first | done | rfl | (simp only [List.length_drop, List.length_take]; rfl)) ?_; (with_reducible refine (kerbsuiteref2_time.calls a0 false _ A6.out).mono ?_); rintro e w' ⟨rfl, ⟨nd, rfl⟩⟩; refine ⟨_, rfl, ?_⟩))
      go_meet
      case rel => exact ⟨_, (true), (by first | rfl | (simp; done) | (simp [*]; done)), H', ⟨by first | omega | exact Nat.le_refl _⟩, by repeat (first | exact Drawn0.refl _ | apply Drawn0.step)⟩
  case rest =>
    clear HC5
    try clear c1
    try clear p2
    try clear c4
    try clear c7
    try clear c9
    try clear c10
    try clear c10b0
    try clear c11
    try clear c11b0
    try clear c12
    try clear c12b0
    obtain ⟨kq, x32_4, rfl, HA, HJ4, ⟨mc4, rfl⟩⟩ := hcut
    cases kq with
    | zero => exact absurd HA.out (by simp [kerbsuiteref2_State.j0])
    | succ kj4 =>
      have H := HA.out
      clear HA
      simp only [kerbsuiteref2_State.j0] at H
      by_cases c13 : x32_4 = true
      · subst c13
        have H1 : (some 104) = some r := by rw [if_pos rfl] at H; exact H
        clear H
        have H := H1
        clear H1
        obtain rfl := Option.some.inj H
        go_wp2
        go_ret
        exact ⟨by first | rfl | (simp; done) | (simp [*]; done), by repeat (first | exact Drawn0.refl _ | apply Drawn0.step)⟩
      · replace c13 := Bool.eq_false_iff.mpr c13
        subst c13
        have H1 : (if a0 > (wrap64 (a2 + a3)) then (some 33) else ((kerbsuiteref2_End.f a0 a1).bind fun t128 => (if a2 > (wrap64 (t128 + a3)) then (some 32) else (some 0)))) = some r := by rw [if_neg (show ¬ (false = true) by decide)] at H; exact H
        clear H
        have H := H1
        clear H1
        by_cases c14 : a0 > (wrap64 (a2 + a3))
        · rw [if_pos c14] at H
          have c14b0 : decide ((wrap64 (a2 + a3)) < a0) = true := decide_eq_true c14
          clear c14
          obtain rfl := Option.some.inj H
          go_wp2
          go_ret
          exact ⟨by first | rfl | (simp; done) | (simp [*]; done), by repeat (first | exact Drawn0.refl _ | apply Drawn0.step)⟩
        · rw [if_neg c14] at H
          have c14b0 : decide ((wrap64 (a2 + a3)) < a0) = false := decide_eq_false c14
          clear c14
          replace H := Option.bind_eq_some_iff.mp H
          obtain ⟨t128, A150, H⟩ := H
          replace H : (if a2 > (wrap64 (t128 + a3)) then (some 32) else (some 0)) = some r := H
          have A15 := Aside0.mk A150
          clear A150
          by_cases c16 : a2 > (wrap64 (t128 + a3))
          · rw [if_pos c16] at H
            have c16b0 : decide ((wrap64 (t128 + a3)) < a2) = true := decide_eq_true c16
            clear c16
            obtain rfl := Option.some.inj H
            go_wp2_with (first | ((with_reducible refine gate_callee (f := 23) rfl ?_); refine goesL_ (some 41) rfl rfl Try.func23 (by kernel_rfl) rfl #[.int .i64 a0, .int .i64 a1] rfl (by (try simp only [List.map_toArray, List.map_cons, List.map_nil]); first | done | rfl | (simp only [List.length_drop, List.length_take]; rfl)) ?_; (with_reducible refine (kerbsuiteref2_End.calls a0 a1 t128 _ A15.out).mono ?_); rintro e w' ⟨rfl, ⟨nd, rfl⟩⟩; refine ⟨_, rfl, ?_⟩))
            go_ret
            exact ⟨by first | rfl | (simp; done) | (simp [*]; done), by repeat (first | exact Drawn0.refl _ | apply Drawn0.step)⟩
          · rw [if_neg c16] at H
            have c16b0 : decide ((wrap64 (t128 + a3)) < a2) = false := decide_eq_false c16
            clear c16
            obtain rfl := Option.some.inj H
            go_wp2_with (first | ((with_reducible refine gate_callee (f := 23) rfl ?_); refine goesL_ (some 41) rfl rfl Try.func23 (by kernel_rfl) rfl #[.int .i64 a0, .int .i64 a1] rfl (by (try simp only [List.map_toArray, List.map_cons, List.map_nil]); first | done | rfl | (simp only [List.length_drop, List.length_take]; rfl)) ?_; (with_reducible refine (kerbsuiteref2_End.calls a0 a1 t128 _ A15.out).mono ?_); rintro e w' ⟨rfl, ⟨nd, rfl⟩⟩; refine ⟨_, rfl, ?_⟩))
            go_ret
            exact ⟨by first | rfl | (simp; done) | (simp [*]; done), by repeat (first | exact Drawn0.refl _ | apply Drawn0.step)⟩

/-! ### kerbsuitelaw2_LifetimeStates: function 14 -/
def kerbsuitelaw2_LifetimeStates.f (k : Nat) (a0 : Int) (a1 : Int) (a2 : Int) (a3 : Int) (a4 : Int) (a5 : Int) (a6 : Int) (a7 : Int) : Option (Bool) := (kerbsuitelaw2_awake.f k).bind fun t129 => (if t129 = true then ((lifetime_State.f k a0 a1 a2 a3).bind fun t130 => ((kerbsuiteref2_State.f k a0 a1 a2 a3).bind fun t131 => (if t130 = t131 then ((lifetime_State.f k (wrap64 (a4)) (Int.tmod (wrap64 (a5)) 270) (wrap64 ((wrap64 ((wrap64 (a4)) + (wrap64 (a6)))) - 20000)) (Int.tmod (wrap64 (a7)) 900)).bind fun t132 => ((kerbsuiteref2_State.f k (wrap64 (a4)) (Int.tmod (wrap64 (a5)) 270) (wrap64 ((wrap64 ((wrap64 (a4)) + (wrap64 (a6)))) - 20000)) (Int.tmod (wrap64 (a7)) 900)).bind fun t133 => (if t132 = t133 then (if t132 = 0 then (if (wrap64 ((wrap64 (a4)) - (Int.tmod (wrap64 (a7)) 900))) ≤ (wrap64 ((wrap64 ((wrap64 (a4)) + (wrap64 (a6)))) - 20000)) then ((lifetime_End.f (wrap64 (a4)) (Int.tmod (wrap64 (a5)) 270)).bind fun t134 => (some (decide ((wrap64 ((wrap64 ((wrap64 (a4)) + (wrap64 (a6)))) - 20000)) ≤ (wrap64 (t134 + (Int.tmod (wrap64 (a7)) 900))))))) else (some false)) else (some true)) else (some false)))) else (some false)))) else (some false))
theorem kerbsuitelaw2_LifetimeStates.mono : ∀ a0 a1 a2 a3 a4 a5 a6 a7 k, LeO (kerbsuitelaw2_LifetimeStates.f k a0 a1 a2 a3 a4 a5 a6 a7) (kerbsuitelaw2_LifetimeStates.f (k + 1) a0 a1 a2 a3 a4 a5 a6 a7) := by
  intro a0 a1 a2 a3 a4 a5 a6 a7 k
  unfold kerbsuitelaw2_LifetimeStates.f
  repeat' first
      | (with_reducible exact kerbsuitelaw2_awake.mono _)
      | (with_reducible exact kerbsuiteref2_State.mono _ _ _ _ _)
      | (with_reducible exact lifetime_State.mono _ _ _ _ _)
      | (with_reducible exact LeO.refl _)
      | (with_reducible exact LeO.none _)
      | (with_reducible refine LeO.ite ?_ ?_)
      | (with_reducible refine LeO.bind ?_ (fun _ => ?_))
      | exact kerbsuitelaw2_awake.mono _
      | exact kerbsuiteref2_State.mono _ _ _ _ _
      | exact lifetime_State.mono _ _ _ _ _
      | exact LeO.none _
      | refine LeO.ite ?_ ?_
      | refine LeO.bind ?_ (fun _ => ?_)
set_option maxHeartbeats 8000000 in
set_option maxRecDepth 100000 in
theorem kerbsuitelaw2_LifetimeStates.calls (k : Nat) (a0 : Int) (a1 : Int) (a2 : Int) (a3 : Int) (a4 : Int) (a5 : Int) (a6 : Int) (a7 : Int) (r : Bool) (w : World) (h : kerbsuitelaw2_LifetimeStates.f k a0 a1 a2 a3 a4 a5 a6 a7 = some r) :
    Calls Try.prog 14 #[.int .i64 a0, .int .i64 a1, .int .i64 a2, .int .i64 a3, .int .u16 a4, .int .u16 a5, .int .u16 a6, .int .u16 a7] w fun e w' => e = .returned (.bool r) ∧ Below w.heap.size w w' := by
  have HB := Aside0.mk (Below.refl w.heap.size w)
  have H : ((kerbsuitelaw2_awake.f k).bind fun t129 => (if t129 = true then ((lifetime_State.f k a0 a1 a2 a3).bind fun t130 => ((kerbsuiteref2_State.f k a0 a1 a2 a3).bind fun t131 => (if t130 = t131 then ((lifetime_State.f k (wrap64 (a4)) (Int.tmod (wrap64 (a5)) 270) (wrap64 ((wrap64 ((wrap64 (a4)) + (wrap64 (a6)))) - 20000)) (Int.tmod (wrap64 (a7)) 900)).bind fun t132 => ((kerbsuiteref2_State.f k (wrap64 (a4)) (Int.tmod (wrap64 (a5)) 270) (wrap64 ((wrap64 ((wrap64 (a4)) + (wrap64 (a6)))) - 20000)) (Int.tmod (wrap64 (a7)) 900)).bind fun t133 => (if t132 = t133 then (if t132 = 0 then (if (wrap64 ((wrap64 (a4)) - (Int.tmod (wrap64 (a7)) 900))) ≤ (wrap64 ((wrap64 ((wrap64 (a4)) + (wrap64 (a6)))) - 20000)) then ((lifetime_End.f (wrap64 (a4)) (Int.tmod (wrap64 (a5)) 270)).bind fun t134 => (some (decide ((wrap64 ((wrap64 ((wrap64 (a4)) + (wrap64 (a6)))) - 20000)) ≤ (wrap64 (t134 + (Int.tmod (wrap64 (a7)) 900))))))) else (some false)) else (some true)) else (some false)))) else (some false)))) else (some false))) = some r := h
  clear h
  replace H := Option.bind_eq_some_iff.mp H
  obtain ⟨t129, A90, H⟩ := H
  replace H : (if t129 = true then ((lifetime_State.f k a0 a1 a2 a3).bind fun t130 => ((kerbsuiteref2_State.f k a0 a1 a2 a3).bind fun t131 => (if t130 = t131 then ((lifetime_State.f k (wrap64 (a4)) (Int.tmod (wrap64 (a5)) 270) (wrap64 ((wrap64 ((wrap64 (a4)) + (wrap64 (a6)))) - 20000)) (Int.tmod (wrap64 (a7)) 900)).bind fun t132 => ((kerbsuiteref2_State.f k (wrap64 (a4)) (Int.tmod (wrap64 (a5)) 270) (wrap64 ((wrap64 ((wrap64 (a4)) + (wrap64 (a6)))) - 20000)) (Int.tmod (wrap64 (a7)) 900)).bind fun t133 => (if t132 = t133 then (if t132 = 0 then (if (wrap64 ((wrap64 (a4)) - (Int.tmod (wrap64 (a7)) 900))) ≤ (wrap64 ((wrap64 ((wrap64 (a4)) + (wrap64 (a6)))) - 20000)) then ((lifetime_End.f (wrap64 (a4)) (Int.tmod (wrap64 (a5)) 270)).bind fun t134 => (some (decide ((wrap64 ((wrap64 ((wrap64 (a4)) + (wrap64 (a6)))) - 20000)) ≤ (wrap64 (t134 + (Int.tmod (wrap64 (a7)) 900))))))) else (some false)) else (some true)) else (some false)))) else (some false)))) else (some false)) = some r := H
  have A9 := Aside0.mk A90
  clear A90
  by_cases c10 : t129 = true
  · subst c10
    have H1 : ((lifetime_State.f k a0 a1 a2 a3).bind fun t130 => ((kerbsuiteref2_State.f k a0 a1 a2 a3).bind fun t131 => (if t130 = t131 then ((lifetime_State.f k (wrap64 (a4)) (Int.tmod (wrap64 (a5)) 270) (wrap64 ((wrap64 ((wrap64 (a4)) + (wrap64 (a6)))) - 20000)) (Int.tmod (wrap64 (a7)) 900)).bind fun t132 => ((kerbsuiteref2_State.f k (wrap64 (a4)) (Int.tmod (wrap64 (a5)) 270) (wrap64 ((wrap64 ((wrap64 (a4)) + (wrap64 (a6)))) - 20000)) (Int.tmod (wrap64 (a7)) 900)).bind fun t133 => (if t132 = t133 then (if t132 = 0 then (if (wrap64 ((wrap64 (a4)) - (Int.tmod (wrap64 (a7)) 900))) ≤ (wrap64 ((wrap64 ((wrap64 (a4)) + (wrap64 (a6)))) - 20000)) then ((lifetime_End.f (wrap64 (a4)) (Int.tmod (wrap64 (a5)) 270)).bind fun t134 => (some (decide ((wrap64 ((wrap64 ((wrap64 (a4)) + (wrap64 (a6)))) - 20000)) ≤ (wrap64 (t134 + (Int.tmod (wrap64 (a7)) 900))))))) else (some false)) else (some true)) else (some false)))) else (some false)))) = some r := by rw [if_pos rfl] at H; exact H
    clear H
    have H := H1
    clear H1
    replace H := Option.bind_eq_some_iff.mp H
    obtain ⟨t130, A110, H⟩ := H
    replace H : ((kerbsuiteref2_State.f k a0 a1 a2 a3).bind fun t131 => (if t130 = t131 then ((lifetime_State.f k (wrap64 (a4)) (Int.tmod (wrap64 (a5)) 270) (wrap64 ((wrap64 ((wrap64 (a4)) + (wrap64 (a6)))) - 20000)) (Int.tmod (wrap64 (a7)) 900)).bind fun t132 => ((kerbsuiteref2_State.f k (wrap64 (a4)) (Int.tmod (wrap64 (a5)) 270) (wrap64 ((wrap64 ((wrap64 (a4)) + (wrap64 (a6)))) - 20000)) (Int.tmod (wrap64 (a7)) 900)).bind fun t133 => (if t132 = t133 then (if t132 = 0 then (if (wrap64 ((wrap64 (a4)) - (Int.tmod (wrap64 (a7)) 900))) ≤ (wrap64 ((wrap64 ((wrap64 (a4)) + (wrap64 (a6)))) - 20000)) then ((lifetime_End.f (wrap64 (a4)) (Int.tmod (wrap64 (a5)) 270)).bind fun t134 => (some (decide ((wrap64 ((wrap64 ((wrap64 (a4)) + (wrap64 (a6)))) - 20000)) ≤ (wrap64 (t134 + (Int.tmod (wrap64 (a7)) 900))))))) else (some false)) else (some true)) else (some false)))) else (some false))) = some r := H
    have A11 := Aside0.mk A110
    clear A110
    replace H := Option.bind_eq_some_iff.mp H
    obtain ⟨t131, A120, H⟩ := H
    replace H : (if t130 = t131 then ((lifetime_State.f k (wrap64 (a4)) (Int.tmod (wrap64 (a5)) 270) (wrap64 ((wrap64 ((wrap64 (a4)) + (wrap64 (a6)))) - 20000)) (Int.tmod (wrap64 (a7)) 900)).bind fun t132 => ((kerbsuiteref2_State.f k (wrap64 (a4)) (Int.tmod (wrap64 (a5)) 270) (wrap64 ((wrap64 ((wrap64 (a4)) + (wrap64 (a6)))) - 20000)) (Int.tmod (wrap64 (a7)) 900)).bind fun t133 => (if t132 = t133 then (if t132 = 0 then (if (wrap64 ((wrap64 (a4)) - (Int.tmod (wrap64 (a7)) 900))) ≤ (wrap64 ((wrap64 ((wrap64 (a4)) + (wrap64 (a6)))) - 20000)) then ((lifetime_End.f (wrap64 (a4)) (Int.tmod (wrap64 (a5)) 270)).bind fun t134 => (some (decide ((wrap64 ((wrap64 ((wrap64 (a4)) + (wrap64 (a6)))) - 20000)) ≤ (wrap64 (t134 + (Int.tmod (wrap64 (a7)) 900))))))) else (some false)) else (some true)) else (some false)))) else (some false)) = some r := H
    have A12 := Aside0.mk A120
    clear A120
    by_cases c13 : t130 = t131
    · rw [if_pos c13] at H
      have c13b0 : (t130 == t131) = true := beq_iff_eq.mpr c13
      have c13b1 : (t130 != t131) = false := bne_eq_false_iff_eq.mpr c13
      clear c13
      replace H := Option.bind_eq_some_iff.mp H
      obtain ⟨t132, A140, H⟩ := H
      replace H : ((kerbsuiteref2_State.f k (wrap64 (a4)) (Int.tmod (wrap64 (a5)) 270) (wrap64 ((wrap64 ((wrap64 (a4)) + (wrap64 (a6)))) - 20000)) (Int.tmod (wrap64 (a7)) 900)).bind fun t133 => (if t132 = t133 then (if t132 = 0 then (if (wrap64 ((wrap64 (a4)) - (Int.tmod (wrap64 (a7)) 900))) ≤ (wrap64 ((wrap64 ((wrap64 (a4)) + (wrap64 (a6)))) - 20000)) then ((lifetime_End.f (wrap64 (a4)) (Int.tmod (wrap64 (a5)) 270)).bind fun t134 => (some (decide ((wrap64 ((wrap64 ((wrap64 (a4)) + (wrap64 (a6)))) - 20000)) ≤ (wrap64 (t134 + (Int.tmod (wrap64 (a7)) 900))))))) else (some false)) else (some true)) else (some false))) = some r := H
      have A14 := Aside0.mk A140
      clear A140
      replace H := Option.bind_eq_some_iff.mp H
      obtain ⟨t133, A150, H⟩ := H
      replace H : (if t132 = t133 then (if t132 = 0 then (if (wrap64 ((wrap64 (a4)) - (Int.tmod (wrap64 (a7)) 900))) ≤ (wrap64 ((wrap64 ((wrap64 (a4)) + (wrap64 (a6)))) - 20000)) then ((lifetime_End.f (wrap64 (a4)) (Int.tmod (wrap64 (a5)) 270)).bind fun t134 => (some (decide ((wrap64 ((wrap64 ((wrap64 (a4)) + (wrap64 (a6)))) - 20000)) ≤ (wrap64 (t134 + (Int.tmod (wrap64 (a7)) 900))))))) else (some false)) else (some true)) else (some false)) = some r := H
      have A15 := Aside0.mk A150
      clear A150
      by_cases c16 : t132 = t133
      · rw [if_pos c16] at H
        have c16b0 : (t132 == t133) = true := beq_iff_eq.mpr c16
        have c16b1 : (t132 != t133) = false := bne_eq_false_iff_eq.mpr c16
        clear c16
        by_cases c17 : t132 = 0
        · rw [if_pos c17] at H
          have c17b0 : (t132 == 0) = true := beq_iff_eq.mpr c17
          have c17b1 : (t132 != 0) = false := bne_eq_false_iff_eq.mpr c17
          clear c17
          by_cases c18 : (wrap64 ((wrap64 (a4)) - (Int.tmod (wrap64 (a7)) 900))) ≤ (wrap64 ((wrap64 ((wrap64 (a4)) + (wrap64 (a6)))) - 20000))
          · rw [if_pos c18] at H
            have c18b0 : decide ((wrap64 ((wrap64 (a4)) - (Int.tmod (wrap64 (a7)) 900))) ≤ (wrap64 ((wrap64 ((wrap64 (a4)) + (wrap64 (a6)))) - 20000))) = true := decide_eq_true c18
            clear c18
            replace H := Option.bind_eq_some_iff.mp H
            obtain ⟨t134, A190, H⟩ := H
            replace H : (some (decide ((wrap64 ((wrap64 ((wrap64 (a4)) + (wrap64 (a6)))) - 20000)) ≤ (wrap64 (t134 + (Int.tmod (wrap64 (a7)) 900)))))) = some r := H
            have A19 := Aside0.mk A190
            clear A190
            obtain rfl := Option.some.inj H
            go_enter Try.func14, Try.ntmps14
            go_wp2_with (first | ((with_reducible refine gate_callee (f := 20) rfl ?_); refine goesL_ (some 22) rfl rfl Try.func20 (by kernel_rfl) rfl #[] rfl (by (try simp only [List.map_toArray, List.map_cons, List.map_nil]); first | done | rfl | (simp only [List.length_drop, List.length_take]; rfl)) ?_; (with_reducible refine (kerbsuitelaw2_awake.calls k  true _ A9.out).mono ?_); rintro e w20 ⟨rfl, hb⟩; refine ⟨_, rfl, ?_⟩; have n0_ := Aside0.mk (below_step (by repeat (first | (with_reducible first | exact HB.out | apply below_alloc | apply pw_below_drewN | apply below_drew1) | exact HB.out)) hb); clear HB; have HB := n0_; clear n0_; (try clear hb); (try clear hb2); (try clear hk); (try clear hi)) | ((with_reducible refine gate_callee (f := 44) rfl ?_); refine goesL_ (some 28) rfl rfl Try.func44 (by kernel_rfl) rfl #[.int .i64 a0, .int .i64 a1, .int .i64 a2, .int .i64 a3] rfl (by (try simp only [List.map_toArray, List.map_cons, List.map_nil]); first | done | rfl | (simp only [List.length_drop, List.length_take]; rfl)) ?_; (with_reducible refine (lifetime_State.calls k a0 a1 a2 a3 t130 _ A11.out).mono ?_); rintro e w21 ⟨rfl, hb⟩; refine ⟨_, rfl, ?_⟩; have n0_ := Aside0.mk (below_step (by repeat (first | (with_reducible first | exact HB.out | apply below_alloc | apply pw_below_drewN | apply below_drew1) | exact HB.out)) hb); clear HB; have HB := n0_; clear n0_; (try clear hb); (try clear hb2); (try clear hk); (try clear hi)) | ((with_reducible refine gate_callee (f := 45) rfl ?_); refine goesL_ (some 33) rfl rfl Try.func45 (by kernel_rfl) rfl #[.int .i64 a0, .int .i64 a1, .int .i64 a2, .int .i64 a3] rfl (by (try simp only [List.map_toArray, List.map_cons, List.map_nil]); first | done | rfl | (simp only [List.length_drop, List.length_take]; rfl)) ?_; (with_reducible refine (kerbsuiteref2_State.calls k a0 a1 a2 a3 t131 _ A12.out).mono ?_); rintro e w' ⟨rfl, ⟨nd, rfl⟩⟩; refine ⟨_, rfl, ?_⟩) | ((with_reducible refine gate_callee (f := 44) rfl ?_); refine goesL_ (some 53) rfl rfl Try.func44 (by kernel_rfl) rfl #[.int .i64 (wrap64 (a4)), .int .i64 (Int.tmod (wrap64 (a5)) 270), .int .i64 (wrap64 ((wrap64 ((wrap64 (a4)) + (wrap64 (a6)))) - 20000)), .int .i64 (Int.tmod (wrap64 (a7)) 900)] rfl (by (try simp only [List.map_toArray, List.map_cons, List.map_nil]); first | done | rfl | (simp only [List.length_drop, List.length_take]; rfl)) ?_; (with_reducible refine (lifetime_State.calls k (wrap64 (a4)) (Int.tmod (wrap64 (a5)) 270) (wrap64 ((wrap64 ((wrap64 (a4)) + (wrap64 (a6)))) - 20000)) (Int.tmod (wrap64 (a7)) 900) t132 _ A14.out).mono ?_); rintro e w22 ⟨rfl, hb⟩; refine ⟨_, rfl, ?_⟩; have n0_ := Aside0.mk (below_step (by repeat (first | (with_reducible first | exact HB.out | apply below_alloc | apply pw_below_drewN | apply below_drew1) | exact HB.out)) hb); clear HB; have HB := n0_; clear n0_; (try clear hb); (try clear hb2); (try clear hk); (try clear hi)) | ((with_reducible refine gate_callee (f := 45) rfl ?_); refine goesL_ (some 59) rfl rfl Try.func45 (by kernel_rfl) rfl #[.int .i64 (wrap64 (a4)), .int .i64 (Int.tmod (wrap64 (a5)) 270), .int .i64 (wrap64 ((wrap64 ((wrap64 (a4)) + (wrap64 (a6)))) - 20000)), .int .i64 (Int.tmod (wrap64 (a7)) 900)] rfl (by (try simp only [List.map_toArray, List.map_cons, List.map_nil]); first | done | rfl | (simp only [List.length_drop, List.length_take]; rfl)) ?_; (with_reducible refine (kerbsuiteref2_State.calls k (wrap64 (a4)) (Int.tmod (wrap64 (a5)) 270) (wrap64 ((wrap64 ((wrap64 (a4)) + (wrap64 (a6)))) - 20000)) (Int.tmod (wrap64 (a7)) 900) t133 _ A15.out).mono ?_); rintro e w' ⟨rfl, ⟨nd, rfl⟩⟩; refine ⟨_, rfl, ?_⟩) | (go_at_call 22; (with_reducible refine (lifetime_End.calls (wrap64 (a4)) (Int.tmod (wrap64 (a5)) 270) t134 _ A19.out).mono ?_); rintro e w' ⟨rfl, ⟨nd, rfl⟩⟩))
            go_ret
            exact ⟨by first | rfl | (simp [errW_none, errW_some] <;> rfl) | (simp [*, errW_none, errW_some] <;> rfl), by repeat (first | (with_reducible first | exact HB.out | apply below_alloc | apply pw_below_drewN | apply below_drew1) | exact HB.out)⟩
          · rw [if_neg c18] at H
            have c18b0 : decide ((wrap64 ((wrap64 (a4)) - (Int.tmod (wrap64 (a7)) 900))) ≤ (wrap64 ((wrap64 ((wrap64 (a4)) + (wrap64 (a6)))) - 20000))) = false := decide_eq_false c18
            clear c18
            obtain rfl := Option.some.inj H
            go_enter Try.func14, Try.ntmps14
            go_wp2_with (first | ((with_reducible refine gate_callee (f := 20) rfl ?_); refine goesL_ (some 22) rfl rfl Try.func20 (by kernel_rfl) rfl #[] rfl (by (try simp only [List.map_toArray, List.map_cons, List.map_nil]); first | done | rfl | (simp only [List.length_drop, List.length_take]; rfl)) ?_; (with_reducible refine (kerbsuitelaw2_awake.calls k  true _ A9.out).mono ?_); rintro e w23 ⟨rfl, hb⟩; refine ⟨_, rfl, ?_⟩; have n0_ := Aside0.mk (below_step (by repeat (first | (with_reducible first | exact HB.out | apply below_alloc | apply pw_below_drewN | apply below_drew1) | exact HB.out)) hb); clear HB; have HB := n0_; clear n0_; (try clear hb); (try clear hb2); (try clear hk); (try clear hi)) | ((with_reducible refine gate_callee (f := 44) rfl ?_); refine goesL_ (some 28) rfl rfl Try.func44 (by kernel_rfl) rfl #[.int .i64 a0, .int .i64 a1, .int .i64 a2, .int .i64 a3] rfl (by (try simp only [List.map_toArray, List.map_cons, List.map_nil]); first | done | rfl | (simp only [List.length_drop, List.length_take]; rfl)) ?_; (with_reducible refine (lifetime_State.calls k a0 a1 a2 a3 t130 _ A11.out).mono ?_); rintro e w24 ⟨rfl, hb⟩; refine ⟨_, rfl, ?_⟩; have n0_ := Aside0.mk (below_step (by repeat (first | (with_reducible first | exact HB.out | apply below_alloc | apply pw_below_drewN | apply below_drew1) | exact HB.out)) hb); clear HB; have HB := n0_; clear n0_; (try clear hb); (try clear hb2); (try clear hk); (try clear hi)) | ((with_reducible refine gate_callee (f := 45) rfl ?_); refine goesL_ (some 33) rfl rfl Try.func45 (by kernel_rfl) rfl #[.int .i64 a0, .int .i64 a1, .int .i64 a2, .int .i64 a3] rfl (by (try simp only [List.map_toArray, List.map_cons, List.map_nil]); first | done | rfl | (simp only [List.length_drop, List.length_take]; rfl)) ?_; (with_reducible refine (kerbsuiteref2_State.calls k a0 a1 a2 a3 t131 _ A12.out).mono ?_); rintro e w' ⟨rfl, ⟨nd, rfl⟩⟩; refine ⟨_, rfl, ?_⟩) | ((with_reducible refine gate_callee (f := 44) rfl ?_); refine goesL_ (some 53) rfl rfl Try.func44 (by kernel_rfl) rfl #[.int .i64 (wrap64 (a4)), .int .i64 (Int.tmod (wrap64 (a5)) 270), .int .i64 (wrap64 ((wrap64 ((wrap64 (a4)) + (wrap64 (a6)))) - 20000)), .int .i64 (Int.tmod (wrap64 (a7)) 900)] rfl (by (try simp only [List.map_toArray, List.map_cons, List.map_nil]); first | done | rfl | (simp only [List.length_drop, List.length_take]; rfl)) ?_; (with_reducible refine (lifetime_State.calls k (wrap64 (a4)) (Int.tmod (wrap64 (a5)) 270) (wrap64 ((wrap64 ((wrap64 (a4)) + (wrap64 (a6)))) - 20000)) (Int.tmod (wrap64 (a7)) 900) t132 _ A14.out).mono ?_); rintro e w25 ⟨rfl, hb⟩; refine ⟨_, rfl, ?_⟩; have n0_ := Aside0.mk (below_step (by repeat (first | (with_reducible first | exact HB.out | apply below_alloc | apply pw_below_drewN | apply below_drew1) | exact HB.out)) hb); clear HB; have HB := n0_; clear n0_; (try clear hb); (try clear hb2); (try clear hk); (try clear hi)) | ((with_reducible refine gate_callee (f := 45) rfl ?_); refine goesL_ (some 59) rfl rfl Try.func45 (by kernel_rfl) rfl #[.int .i64 (wrap64 (a4)), .int .i64 (Int.tmod (wrap64 (a5)) 270), .int .i64 (wrap64 ((wrap64 ((wrap64 (a4)) + (wrap64 (a6)))) - 20000)), .int .i64 (Int.tmod (wrap64 (a7)) 900)] rfl (by (try simp only [List.map_toArray, List.map_cons, List.map_nil]); first | done | rfl | (simp only [List.length_drop, List.length_take]; rfl)) ?_; (with_reducible refine (kerbsuiteref2_State.calls k (wrap64 (a4)) (Int.tmod (wrap64 (a5)) 270) (wrap64 ((wrap64 ((wrap64 (a4)) + (wrap64 (a6)))) - 20000)) (Int.tmod (wrap64 (a7)) 900) t133 _ A15.out).mono ?_); rintro e w' ⟨rfl, ⟨nd, rfl⟩⟩; refine ⟨_, rfl, ?_⟩))
            go_ret
            exact ⟨by first | rfl | (simp [errW_none, errW_some] <;> rfl) | (simp [*, errW_none, errW_some] <;> rfl), by repeat (first | (with_reducible first | exact HB.out | apply below_alloc | apply pw_below_drewN | apply below_drew1) | exact HB.out)⟩
        · rw [if_neg c17] at H
          have c17b0 : (t132 == 0) = false := beq_eq_false_iff_ne.mpr c17
          have c17b1 : (t132 != 0) = true := bne_iff_ne.mpr c17
          obtain rfl := Option.some.inj H
          go_enter Try.func14, Try.ntmps14
          go_wp2_with (first | ((with_reducible refine gate_callee (f := 20) rfl ?_); refine goesL_ (some 22) rfl rfl Try.func20 (by kernel_rfl) rfl #[] rfl (by (try simp only [List.map_toArray, List.map_cons, List.map_nil]); first | done | rfl | (simp only [List.length_drop, List.length_take]; rfl)) ?_; (with_reducible refine (kerbsuitelaw2_awake.calls k  true _ A9.out).mono ?_); rintro e w26 ⟨rfl, hb⟩; refine ⟨_, rfl, ?_⟩; have n0_ := Aside0.mk (below_step (by repeat (first | (with_reducible first | exact HB.out | apply below_alloc | apply pw_below_drewN | apply below_drew1) | exact HB.out)) hb); clear HB; have HB := n0_; clear n0_; (try clear hb); (try clear hb2); (try clear hk); (try clear hi)) | ((with_reducible refine gate_callee (f := 44) rfl ?_); refine goesL_ (some 28) rfl rfl Try.func44 (by kernel_rfl) rfl #[.int .i64 a0, .int .i64 a1, .int .i64 a2, .int .i64 a3] rfl (by (try simp only [List.map_toArray, List.map_cons, List.map_nil]); first | done | rfl | (simp only [List.length_drop, List.length_take]; rfl)) ?_; (with_reducible refine (lifetime_State.calls k a0 a1 a2 a3 t130 _ A11.out).mono ?_); rintro e w27 ⟨rfl, hb⟩; refine ⟨_, rfl, ?_⟩; have n0_ := Aside0.mk (below_step (by repeat (first | (with_reducible first | exact HB.out | apply below_alloc | apply pw_below_drewN | apply below_drew1) | exact HB.out)) hb); clear HB; have HB := n0_; clear n0_; (try clear hb); (try clear hb2); (try clear hk); (try clear hi)) | ((with_reducible refine gate_callee (f := 45) rfl ?_); refine goesL_ (some 33) rfl rfl Try.func45 (by kernel_rfl) rfl #[.int .i64 a0, .int .i64 a1, .int .i64 a2, .int .i64 a3] rfl (by (try simp only [List.map_toArray, List.map_cons, List.map_nil]); first | done | rfl | (simp only [List.length_drop, List.length_take]; rfl)) ?_; (with_reducible refine (kerbsuiteref2_State.calls k a0 a1 a2 a3 t131 _ A12.out).mono ?_); rintro e w' ⟨rfl, ⟨nd, rfl⟩⟩; refine ⟨_, rfl, ?_⟩) | ((with_reducible refine gate_callee (f := 44) rfl ?_); refine goesL_ (some 53) rfl rfl Try.func44 (by kernel_rfl) rfl #[.int .i64 (wrap64 (a4)), .int .i64 (Int.tmod (wrap64 (a5)) 270), .int .i64 (wrap64 ((wrap64 ((wrap64 (a4)) + (wrap64 (a6)))) - 20000)), .int .i64 (Int.tmod (wrap64 (a7)) 900)] rfl (by (try simp only [List.map_toArray, List.map_cons, List.map_nil]); first | done | rfl | (simp only [List.length_drop, List.length_take]; rfl)) ?_; (with_reducible refine (lifetime_State.calls k (wrap64 (a4)) (Int.tmod (wrap64 (a5)) 270) (wrap64 ((wrap64 ((wrap64 (a4)) + (wrap64 (a6)))) - 20000)) (Int.tmod (wrap64 (a7)) 900) t132 _ A14.out).mono ?_); rintro e w28 ⟨rfl, hb⟩; refine ⟨_, rfl, ?_⟩; have n0_ := Aside0.mk (below_step (by repeat (first | (with_reducible first | exact HB.out | apply below_alloc | apply pw_below_drewN | apply below_drew1) | exact HB.out)) hb); clear HB; have HB := n0_; clear n0_; (try clear hb); (try clear hb2); (try clear hk); (try clear hi)) | ((with_reducible refine gate_callee (f := 45) rfl ?_); refine goesL_ (some 59) rfl rfl Try.func45 (by kernel_rfl) rfl #[.int .i64 (wrap64 (a4)), .int .i64 (Int.tmod (wrap64 (a5)) 270), .int .i64 (wrap64 ((wrap64 ((wrap64 (a4)) + (wrap64 (a6)))) - 20000)), .int .i64 (Int.tmod (wrap64 (a7)) 900)] rfl (by (try simp only [List.map_toArray, List.map_cons, List.map_nil]); first | done | rfl | (simp only [List.length_drop, List.length_take]; rfl)) ?_; (with_reducible refine (kerbsuiteref2_State.calls k (wrap64 (a4)) (Int.tmod (wrap64 (a5)) 270) (wrap64 ((wrap64 ((wrap64 (a4)) + (wrap64 (a6)))) - 20000)) (Int.tmod (wrap64 (a7)) 900) t133 _ A15.out).mono ?_); rintro e w' ⟨rfl, ⟨nd, rfl⟩⟩; refine ⟨_, rfl, ?_⟩))
          go_ret
          exact ⟨by first | rfl | (simp [errW_none, errW_some] <;> rfl) | (simp [*, errW_none, errW_some] <;> rfl), by repeat (first | (with_reducible first | exact HB.out | apply below_alloc | apply pw_below_drewN | apply below_drew1) | exact HB.out)⟩
      · rw [if_neg c16] at H
        have c16b0 : (t132 == t133) = false := beq_eq_false_iff_ne.mpr c16
        have c16b1 : (t132 != t133) = true := bne_iff_ne.mpr c16
        obtain rfl := Option.some.inj H
        go_enter Try.func14, Try.ntmps14
        go_wp2_with (first | ((with_reducible refine gate_callee (f := 20) rfl ?_); refine goesL_ (some 22) rfl rfl Try.func20 (by kernel_rfl) rfl #[] rfl (by (try simp only [List.map_toArray, List.map_cons, List.map_nil]); first | done | rfl | (simp only [List.length_drop, List.length_take]; rfl)) ?_; (with_reducible refine (kerbsuitelaw2_awake.calls k  true _ A9.out).mono ?_); rintro e w29 ⟨rfl, hb⟩; refine ⟨_, rfl, ?_⟩; have n0_ := Aside0.mk (below_step (by repeat (first | (with_reducible first | exact HB.out | apply below_alloc | apply pw_below_drewN | apply below_drew1) | exact HB.out)) hb); clear HB; have HB := n0_; clear n0_; (try clear hb); (try clear hb2); (try clear hk); (try clear hi)) | ((with_reducible refine gate_callee (f := 44) rfl ?_); refine goesL_ (some 28) rfl rfl Try.func44 (by kernel_rfl) rfl #[.int .i64 a0, .int .i64 a1, .int .i64 a2, .int .i64 a3] rfl (by (try simp only [List.map_toArray, List.map_cons, List.map_nil]); first | done | rfl | (simp only [List.length_drop, List.length_take]; rfl)) ?_; (with_reducible refine (lifetime_State.calls k a0 a1 a2 a3 t130 _ A11.out).mono ?_); rintro e w30 ⟨rfl, hb⟩; refine ⟨_, rfl, ?_⟩; have n0_ := Aside0.mk (below_step (by repeat (first | (with_reducible first | exact HB.out | apply below_alloc | apply pw_below_drewN | apply below_drew1) | exact HB.out)) hb); clear HB; have HB := n0_; clear n0_; (try clear hb); (try clear hb2); (try clear hk); (try clear hi)) | ((with_reducible refine gate_callee (f := 45) rfl ?_); refine goesL_ (some 33) rfl rfl Try.func45 (by kernel_rfl) rfl #[.int .i64 a0, .int .i64 a1, .int .i64 a2, .int .i64 a3] rfl (by (try simp only [List.map_toArray, List.map_cons, List.map_nil]); first | done | rfl | (simp only [List.length_drop, List.length_take]; rfl)) ?_; (with_reducible refine (kerbsuiteref2_State.calls k a0 a1 a2 a3 t131 _ A12.out).mono ?_); rintro e w' ⟨rfl, ⟨nd, rfl⟩⟩; refine ⟨_, rfl, ?_⟩) | ((with_reducible refine gate_callee (f := 44) rfl ?_); refine goesL_ (some 53) rfl rfl Try.func44 (by kernel_rfl) rfl #[.int .i64 (wrap64 (a4)), .int .i64 (Int.tmod (wrap64 (a5)) 270), .int .i64 (wrap64 ((wrap64 ((wrap64 (a4)) + (wrap64 (a6)))) - 20000)), .int .i64 (Int.tmod (wrap64 (a7)) 900)] rfl (by (try simp only [List.map_toArray, List.map_cons, List.map_nil]); first | done | rfl | (simp only [List.length_drop, List.length_take]; rfl)) ?_; (with_reducible refine (lifetime_State.calls k (wrap64 (a4)) (Int.tmod (wrap64 (a5)) 270) (wrap64 ((wrap64 ((wrap64 (a4)) + (wrap64 (a6)))) - 20000)) (Int.tmod (wrap64 (a7)) 900) t132 _ A14.out).mono ?_); rintro e w31 ⟨rfl, hb⟩; refine ⟨_, rfl, ?_⟩; have n0_ := Aside0.mk (below_step (by repeat (first | (with_reducible first | exact HB.out | apply below_alloc | apply pw_below_drewN | apply below_drew1) | exact HB.out)) hb); clear HB; have HB := n0_; clear n0_; (try clear hb); (try clear hb2); (try clear hk); (try clear hi)) | ((with_reducible refine gate_callee (f := 45) rfl ?_); refine goesL_ (some 59) rfl rfl Try.func45 (by kernel_rfl) rfl #[.int .i64 (wrap64 (a4)), .int .i64 (Int.tmod (wrap64 (a5)) 270), .int .i64 (wrap64 ((wrap64 ((wrap64 (a4)) + (wrap64 (a6)))) - 20000)), .int .i64 (Int.tmod (wrap64 (a7)) 900)] rfl (by (try simp only [List.map_toArray, List.map_cons, List.map_nil]); first | done | rfl | (simp only [List.length_drop, List.length_take]; rfl)) ?_; (with_reducible refine (kerbsuiteref2_State.calls k (wrap64 (a4)) (Int.tmod (wrap64 (a5)) 270) (wrap64 ((wrap64 ((wrap64 (a4)) + (wrap64 (a6)))) - 20000)) (Int.tmod (wrap64 (a7)) 900) t133 _ A15.out).mono ?_); rintro e w' ⟨rfl, ⟨nd, rfl⟩⟩; refine ⟨_, rfl, ?_⟩))
        go_ret
        exact ⟨by first | rfl | (simp [errW_none, errW_some] <;> rfl) | (simp [*, errW_none, errW_some] <;> rfl), by repeat (first | (with_reducible first | exact HB.out | apply below_alloc | apply pw_below_drewN | apply below_drew1) | exact HB.out)⟩
    · rw [if_neg c13] at H
      have c13b0 : (t130 == t131) = false := beq_eq_false_iff_ne.mpr c13
      have c13b1 : (t130 != t131) = true := bne_iff_ne.mpr c13
      obtain rfl := Option.some.inj H
      go_enter Try.func14, Try.ntmps14
      go_wp2_with (first | ((with_reducible refine gate_callee (f := 20) rfl ?_); refine goesL_ (some 22) rfl rfl Try.func20 (by kernel_rfl) rfl #[] rfl (by (try simp only [List.map_toArray, List.map_cons, List.map_nil]); first | done | rfl | (simp only [List.length_drop, List.length_take]; rfl)) ?_; (with_reducible refine (kerbsuitelaw2_awake.calls k  true _ A9.out).mono ?_); rintro e w32 ⟨rfl, hb⟩; refine ⟨_, rfl, ?_⟩; have n0_ := Aside0.mk (below_step (by repeat (first | (with_reducible first | exact HB.out | apply below_alloc | apply pw_below_drewN | apply below_drew1) | exact HB.out)) hb); clear HB; have HB := n0_; clear n0_; (try clear hb); (try clear hb2); (try clear hk); (try clear hi)) | ((with_reducible refine gate_callee (f := 44) rfl ?_); refine goesL_ (some 28) rfl rfl Try.func44 (by kernel_rfl) rfl #[.int .i64 a0, .int .i64 a1, .int .i64 a2, .int .i64 a3] rfl (by (try simp only [List.map_toArray, List.map_cons, List.map_nil]); first | done | rfl | (simp only [List.length_drop, List.length_take]; rfl)) ?_; (with_reducible refine (lifetime_State.calls k a0 a1 a2 a3 t130 _ A11.out).mono ?_); rintro e w33 ⟨rfl, hb⟩; refine ⟨_, rfl, ?_⟩; have n0_ := Aside0.mk (below_step (by repeat (first | (with_reducible first | exact HB.out | apply below_alloc | apply pw_below_drewN | apply below_drew1) | exact HB.out)) hb); clear HB; have HB := n0_; clear n0_; (try clear hb); (try clear hb2); (try clear hk); (try clear hi)) | ((with_reducible refine gate_callee (f := 45) rfl ?_); refine goesL_ (some 33) rfl rfl Try.func45 (by kernel_rfl) rfl #[.int .i64 a0, .int .i64 a1, .int .i64 a2, .int .i64 a3] rfl (by (try simp only [List.map_toArray, List.map_cons, List.map_nil]); first | done | rfl | (simp only [List.length_drop, List.length_take]; rfl)) ?_; (with_reducible refine (kerbsuiteref2_State.calls k a0 a1 a2 a3 t131 _ A12.out).mono ?_); rintro e w' ⟨rfl, ⟨nd, rfl⟩⟩; refine ⟨_, rfl, ?_⟩))
      go_ret
      exact ⟨by first | rfl | (simp [errW_none, errW_some] <;> rfl) | (simp [*, errW_none, errW_some] <;> rfl), by repeat (first | (with_reducible first | exact HB.out | apply below_alloc | apply pw_below_drewN | apply below_drew1) | exact HB.out)⟩
  · replace c10 := Bool.eq_false_iff.mpr c10
    subst c10
    have H1 : (some false) = some r := by rw [if_neg (show ¬ (false = true) by decide)] at H; exact H
    clear H
    have H := H1
    clear H1
    obtain rfl := Option.some.inj H
    go_enter Try.func14, Try.ntmps14
    go_wp2_with (first | ((with_reducible refine gate_callee (f := 20) rfl ?_); refine goesL_ (some 22) rfl rfl Try.func20 (by kernel_rfl) rfl #[] rfl (by (try simp only [List.map_toArray, List.map_cons, List.map_nil]); first | done | rfl | (simp only [List.length_drop, List.length_take]; rfl)) ?_; (with_reducible refine (kerbsuitelaw2_awake.calls k  false _ A9.out).mono ?_); rintro e w34 ⟨rfl, hb⟩; refine ⟨_, rfl, ?_⟩; have n0_ := Aside0.mk (below_step (by repeat (first | (with_reducible first | exact HB.out | apply below_alloc | apply pw_below_drewN | apply below_drew1) | exact HB.out)) hb); clear HB; have HB := n0_; clear n0_; (try clear hb); (try clear hb2); (try clear hk); (try clear hi)))
    go_ret
    exact ⟨by first | rfl | (simp [errW_none, errW_some] <;> rfl) | (simp [*, errW_none, errW_some] <;> rfl), by repeat (first | (with_reducible first | exact HB.out | apply below_alloc | apply pw_below_drewN | apply below_drew1) | exact HB.out)⟩

/-- THE ONE PURE STATEMENT of kerbsuitelaw2_LifetimeStates: yours. -/
def kerbsuitelaw2_LifetimeStates.Pure : Prop := ∀ (a0 : Int) (a1 : Int) (a2 : Int) (a3 : Int) (a4 : Int) (a5 : Int) (a6 : Int) (a7 : Int), (Lit.int .i64 a0).wf = true → (Lit.int .i64 a1).wf = true → (Lit.int .i64 a2).wf = true → (Lit.int .i64 a3).wf = true → (Lit.int .u16 a4).wf = true → (Lit.int .u16 a5).wf = true → (Lit.int .u16 a6).wf = true → (Lit.int .u16 a7).wf = true → ∃ k, kerbsuitelaw2_LifetimeStates.f k a0 a1 a2 a3 a4 a5 a6 a7 = some true
theorem kerbsuitelaw2_LifetimeStates.walk (P : kerbsuitelaw2_LifetimeStates.Pure) (a0 : Int) (a1 : Int) (a2 : Int) (a3 : Int) (a4 : Int) (a5 : Int) (a6 : Int) (a7 : Int) (w : World) (w0 : (Lit.int .i64 a0).wf = true) (w1 : (Lit.int .i64 a1).wf = true) (w2 : (Lit.int .i64 a2).wf = true) (w3 : (Lit.int .i64 a3).wf = true) (w4 : (Lit.int .u16 a4).wf = true) (w5 : (Lit.int .u16 a5).wf = true) (w6 : (Lit.int .u16 a6).wf = true) (w7 : (Lit.int .u16 a7).wf = true) :
    Calls Try.prog 14 #[.int .i64 a0, .int .i64 a1, .int .i64 a2, .int .i64 a3, .int .u16 a4, .int .u16 a5, .int .u16 a6, .int .u16 a7] w fun e w' => e = .returned (.bool true) ∧ Below w.heap.size w w' := by
  obtain ⟨k, h⟩ := P a0 a1 a2 a3 a4 a5 a6 a7 w0 w1 w2 w3 w4 w5 w6 w7
  refine (kerbsuitelaw2_LifetimeStates.calls k a0 a1 a2 a3 a4 a5 a6 a7 true w h).mono ?_
  rintro e w' ⟨rfl, hd⟩
  exact ⟨rfl, hd⟩

end Go.Proofs.Ytdpelehbgnnpoaa.PLifetimeStates
