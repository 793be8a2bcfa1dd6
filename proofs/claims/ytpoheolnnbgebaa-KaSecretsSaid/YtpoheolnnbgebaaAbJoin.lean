/- A part of the proof of a row by an interpreter that is proved sound; no conditions of its own. -/
import Derived.Test.YtpoheolnnbgebaaAbSim
import Derived.WalkKit
import Derived.ProofKit
import Derived.OpenShut
import Derived.ShutString
import Derived.ChangeOld
import Derived.Below
import Derived.SizedLaws
import Derived.Carry
namespace Ab
open Go Go.ChangeShapes Go.WideShapes Go.ChangeAt Go.RowKit

variable {P : Program}

/-- What a call of a law does to the world, when the interpreter says true. -/
theorem join_ok {H : Hints} {E : Ext} (hm : P.follows .mixedOrders = true) (hE : ExtOK P E) {k : Nat} {f : FuncId} {args : List A} (h : callF P H E k f args [] = some (.d (.bool true), [])) {W : World} {vs : Array Value}
    (ra : RelL ⟨W.cell?, fun _ => none⟩ [] args vs.toList) : Calls P f vs W fun e W' => e = .returned (.bool true) ∧ Below W.heap.size W W' := by
  obtain ⟨_, hc⟩ := callF_ok hm hE k f args [] _ _ h
  have good : Good ⟨W.cell?, fun _ => none⟩ [] W := ⟨fun a v h => h, fun id o h => by simp at h, fun i j b n m hi => by simp at hi⟩
  refine (hc _ W vs good ra).mono fun e W' ⟨v, C', he, adv, _, rr⟩ => ?_
  refine ⟨?_, adv.os, adv.tape, adv.output, adv.size, fun b hb => adv.blk b hb fun id n hid => by simp at hid⟩
  rw [he, rel_bool rr]

theorem ext_none : ExtOK P (fun _ => none) := fun f g h => by simp at h

section
variable {H : Type} {enc : TypeId × Value → H} {W : World} {held : Bool} {base : Nat}

theorem open_sl {r : Reach} {b0 : Nat} {t e : TypeId} {k : IntKind} {v : Value} {d : DataW H} {ps : List MemPlace} (ht : P.underlying t = some (.slice e)) (he : P.underlying e = some (.int k)) (hc : P.cellsOf e = 1) (hval : Value.okWide P W r b0 t v)
    (hd : DataW.Trod enc P W base (fun _ => true) held t v d ps) : ∃ ns : List Int, RelD W.cell? (.sl 1 (ints k ns)) v ∧ (∀ n ∈ ns, (Lit.int k n).wf = true) ∧ ns.length ≤ maxLen := by
  obtain ⟨a, len, cap, rfl⟩ := okWide_slice ht hval
  obtain ⟨fuel, hf⟩ := hd
  rcases open_ints ht he hc hf with ⟨hcs, _⟩ | ⟨x, l, c, zs, hcs, _, hl, hm, hz, _, hcell, hwz⟩
  · simp [Value.cells] at hcs
    obtain ⟨rfl, rfl, rfl⟩ := hcs
    refine ⟨[], ?_, by simp, by simp⟩
    exact RelD.sl 1 [] none 0 (fun _ _ => undef) (Nat.le_refl _) (by simp) (by simp) (by simp)
  · simp [Value.cells] at hcs
    obtain ⟨rfl, rfl, rfl⟩ := hcs
    simp at hz
    have hlen : (zs.take len).length = len := by simp; omega
    have key := RelD.sl (M := W.cell?) 1 (ints k (zs.take len)) (some x) cap (fun i _ => .int k (zs.getD i 0)) (by rw [ints_len, hlen]; omega) (fun e he => by obtain ⟨n, _, rfl⟩ := List.mem_map.1 he; rfl)
      (fun i j e c hi hj => ?_) (fun i e j hi hj => ?_)
    · rw [ints_len, hlen] at key
      exact ⟨zs.take len, key, fun n hn => hwz n (List.mem_of_mem_take hn), by omega⟩
    · have hil : i < (zs.take len).length := by have := (List.getElem?_eq_some_iff.1 hi).1; rwa [ints_len] at this
      rw [ints_get hil] at hi
      cases hi
      cases j with
      | zero =>
        simp only [List.getElem?_cons_zero, Option.some.injEq] at hj
        subst hj
        have : (zs.take len).getD i 0 = zs.getD i 0 := by
          simp only [List.getD_eq_getElem?_getD]
          rw [List.getElem?_take, if_pos (by omega)]
        rw [this]
        exact .int _ _
      | succ j => simp at hj
    · have hil : i < (zs.take len).length := by have := (List.getElem?_eq_some_iff.1 hi).1; rwa [ints_len] at this
      have he : e.length = 1 := by
        rw [ints_get hil] at hi
        cases hi; rfl
      refine ⟨x, rfl, ?_⟩
      have hj0 : j = 0 := by omega
      subst hj0
      rw [Nat.mul_one, Nat.add_zero]
      exact hcell i (by omega)

theorem wf_i64 {n : Int} (h : (Lit.int .i64 n).wf = true) : -9223372036854775808 ≤ n ∧ n ≤ 9223372036854775807 := by
  have h1 : IntKind.i64.min = -9223372036854775808 := rfl
  have h2 : IntKind.i64.max = 9223372036854775807 := rfl
  simp only [Lit.wf, Bool.and_eq_true, decide_eq_true_eq, h1, h2] at h
  exact h
theorem wf_u8 {n : Int} (h : (Lit.int .u8 n).wf = true) : 0 ≤ n ∧ n ≤ 255 := by
  have h1 : IntKind.u8.min = 0 := rfl
  have h2 : IntKind.u8.max = 255 := rfl
  simp only [Lit.wf, Bool.and_eq_true, decide_eq_true_eq, h1, h2] at h
  exact h
theorem wf_u16 {n : Int} (h : (Lit.int .u16 n).wf = true) : 0 ≤ n ∧ n ≤ 65535 := by
  have h1 : IntKind.u16.min = 0 := rfl
  have h2 : IntKind.u16.max = 65535 := rfl
  simp only [Lit.wf, Bool.and_eq_true, decide_eq_true_eq, h1, h2] at h
  exact h
theorem wf_u32 {n : Int} (h : (Lit.int .u32 n).wf = true) : 0 ≤ n ∧ n ≤ 4294967295 := by
  have h1 : IntKind.u32.min = 0 := rfl
  have h2 : IntKind.u32.max = 4294967295 := rfl
  simp only [Lit.wf, Bool.and_eq_true, decide_eq_true_eq, h1, h2] at h
  exact h
theorem wf_u64 {n : Int} (h : (Lit.int .u64 n).wf = true) : 0 ≤ n ∧ n ≤ 18446744073709551615 := by
  have h1 : IntKind.u64.min = 0 := rfl
  have h2 : IntKind.u64.max = 18446744073709551615 := rfl
  simp only [Lit.wf, Bool.and_eq_true, decide_eq_true_eq, h1, h2] at h
  exact h
end

end Ab
