/- The row KaSecrets holds: the call of the law returns true, whatever the arguments. -/
import Derived.Test.YtpoheolnnbgebaaRows
import Derived.Test.YtpoheolnnbgebaaAbKaSec
import Derived.Test.YtpoheolnnbgebaaAbExC2
import Derived.Test.YtpoheolnnbgebaaAbKaRow2
import Derived.Test.YtpoheolnnbgebaaAbJoin
namespace Go.Proofs.Ytpoheolnnbgebaa.kaSecrets
open Go.ChangeShapes Go.WideShapes Go.ChangeAt Go.RowKit Ab
open Go.ChangeMaps (open_string shut_string)
set_option linter.unusedVariables false
theorem own : ownKnob Try.prog.godebug = none := by kernel_rfl
theorem laidOut : laidOutB Try.prog = true := by kernel_rfl
theorem mixed : Try.prog.follows .mixedOrders = true := by kernel_rfl
set_option maxRecDepth 100000 in
theorem lifted (os : Os) (started : os.Started) (H : Type) (enc : TypeId × Value → H) :
    ReturnsInHanded {} Try.checked os 6 .any (Rows.kaSecretsSpec.pre6 enc Try.prog Try.f6 Rows.kaSecretsRow.domain false) (Rows.kaSecretsSpec.post enc Try.prog Try.f6 false true false false) := by
  refine returnsInHanded_of_change_sized (C := Try.checked) own started (by kernel_rfl) Try.func6
    (ChangeSpec.witness6 (enc := enc) (C := Try.checked) false ⟨#[], #[.agg #[.string ByteArray.empty, .int .i64 0, .int .i64 0, .int .i64 0, .int .u64 0], .agg #[.int .u8 0, .int .u8 0, .int .u8 0, .int .u8 0, .int .u8 0, .int .u32 0, .int .u32 0, .int .u32 0, .int .u8 0, .slice none 0 0, .slice none 0 0, .int .u8 0]], []⟩ 8 (by kernel_rfl) (by kernel_rfl) (by kernel_rfl) (by kernel_rfl)) ?_
  intro W base args ds gs before hval0 hW hcnd hsz0 _
  have hsz : (DataW.weightsEach Try.prog (Try.f6.params.toList ++ Rows.kaSecretsSpec.plain.varTypes Try.prog) (ds ++ gs)).all (· ≤ reachBytes) = true := hsz0
  have hval : ∀ (j : Nat) t v, Try.f6.params[j]? = some t → args[j]? = some v → Value.okWide Try.prog W .any base t v := hval0
  have hW' := hW
  obtain ⟨p, q, hA0, hV, rfl, hfz, hnd⟩ := hW
  have hA : DataW.TrodAll enc Try.prog W 0 (fun _ => true) true Try.f6.params.toList args.toList ds p := hA0
  rw [Try.params6] at hA hval hsz
  obtain ⟨v0, vs0, d0, ds0, p0, q0, hargs, rfl, rfl, h0, r0⟩ := trodAll_cons hA
  obtain ⟨v1, vs1, d1, ds1, p1, q1, rfl, rfl, rfl, h1, r1⟩ := trodAll_cons r0
  obtain ⟨rfl, rfl, rfl⟩ := trodAll_nil r1
  obtain rfl : args = #[v0, v1] := by cases args; simp_all
  obtain ⟨rfl, rfl⟩ := trodVars_none hV
  have k0 := h0
  have lt0 : ∀ x ∈ p0, x.block < W.heap.size := by obtain ⟨m, hm⟩ := k0; exact DataW.trod_lt m _ _ _ hm
  obtain ⟨ds0', rz0, fz0⟩ := open_agg (css := Ka.secSh) (f := 8) Try.underlying62 (by kernel_rfl) (hval 0 62 v0 rfl rfl) h0
  obtain ⟨a0, ea0, w0⟩ := Ka.sec_of fz0
  rw [ea0] at rz0
  have k1 := h1
  have lt1 : ∀ x ∈ p1, x.block < W.heap.size := by obtain ⟨m, hm⟩ := k1; exact DataW.trod_lt m _ _ _ hm
  obtain ⟨ds1', rz1, fz1⟩ := open_agg (css := Ka.askSh) (f := 8) Try.underlying29 (by kernel_rfl) (hval 1 29 v1 rfl rfl) h1
  obtain ⟨a1, ea1, w1⟩ := Ka.ask_of fz1
  rw [ea1] at rz1
  refine (join_ok mixed Pr.ext_ok (Ka.Secrets_law 500 (Nat.le_refl _) a0 w0 a1 w1) (.cons rz0 (.cons rz1 (.nil _ _)))).mono fun e W' ⟨he, bel⟩ => ?_
  subst he
  exact ⟨_, rfl, _, _, _, [], _, [], hW', trodAll_mk1 (shut_bool Try.underlying4 _), (trodAll_cons_mk (Below.trod laidOut (by kernel_rfl) (of_decide_eq_true (by kernel_rfl)) k0 bel lt0) (trodAll_cons_mk (Below.trod laidOut (by kernel_rfl) (of_decide_eq_true (by kernel_rfl)) k1 bel lt1) trodAll_mk0)), rfl, bel.frame _, fun h => by cases h⟩
theorem over : Rows.kaSecretsRow.holds Try.pinned (OpenSpec.ofChange Rows.kaSecretsSpec) :=
  OpenClaim.holds_of_wide 6 Try.f6 rfl rfl rfl rfl rfl rfl rfl ⟨rfl, rfl, rfl, rfl, rfl⟩ rfl rfl rfl rfl rfl (by kernel_rfl) Try.func6 (by kernel_rfl)
    (of_decide_eq_true (by kernel_rfl)) (by unfold Func.isWrapper; first | (rw [if_pos (by decide +kernel)]; kernel_rfl) | (rw [if_neg (by decide +kernel)]; exact ⟨rfl, rfl⟩))
    (fun os started H enc _ => lifted os started H enc)
end Go.Proofs.Ytpoheolnnbgebaa.kaSecrets
namespace Go.Proofs.Ytpoheolnnbgebaa
/-- The row, under a short name, for the claim. -/
theorem kaSecrets_holds : Rows.KaSecretsSaid := kaSecrets.over
#print axioms kaSecrets_holds
end Go.Proofs.Ytpoheolnnbgebaa
