/- A part of the proof of a row by an interpreter that is proved sound; no conditions of its own. -/
import Derived.Test.YtipfkflogjfbjaaAbCvB
namespace Ab
open Go Go.Proofs Go.IntWalk
set_option maxRecDepth 10000
set_option linter.unusedSimpArgs false
set_option linter.unusedVariables false
namespace Cv
open Pr Key

theorem user_valid (n : Int) (hn : 0 ≤ n) : validB (userP n) = true := by
  have h1 : n % 3 = 0 ∨ n % 3 = 1 ∨ n % 3 = 2 := by omega
  have h2 : n / 3 % 3 = 0 ∨ n / 3 % 3 = 1 ∨ n / 3 % 3 = 2 := by omega
  rcases h1 with h1 | h1 | h1 <;> rcases h2 with h2 | h2 | h2 <;> simp only [userP, realmS, sel3, h1, h2] <;> decide

theorem service_valid (n : Int) (hn : 0 ≤ n) : nameB (serviceP n).name = true ∧ instB (serviceP n).inst = true := by
  have h1 : n % 3 = 0 ∨ n % 3 = 1 ∨ n % 3 = 2 := by omega
  rcases h1 with h1 | h1 | h1 <;> simp only [serviceP, sel3, h1] <;> decide

theorem session_class (c : Int) (hc : 0 ≤ c ∧ c ≤ 1000000) : classV (144115188075855872 + (1 + c)) = 2 := by
  have e : makeV 2 (1 + c) = 144115188075855872 + (1 + c) := by unfold makeV; rw [if_pos ⟨.inr rfl, by omega, by omega⟩]; omega
  have h := of_make (c := 2) (s := 1 + c) (by rw [e]; omega)
  rw [e] at h
  unfold classV
  rw [if_pos h.1, h.2.1]

theorem fromQ_le {n : Int} (h : 300 ≤ n) : 0 ≤ fromQ n ∧ fromQ n ≤ 255 ∧ 300 * (fromQ n + 1) ≤ n ∧ (fromQ n = 255 ∨ n < 300 * (fromQ n + 1) + 300) := by
  unfold fromQ
  split <;> omega

theorem Bounds_law (k : Nat) (hk : 400 ≤ k) (a b c start len addr : Int) (ha : 0 ≤ a ∧ a ≤ 255) (hb : 0 ≤ b ∧ b ≤ 255) (hc : 0 ≤ c ∧ c ≤ 255) (hs : 0 ≤ start ∧ start ≤ 4294967295) (hl : 0 ≤ len ∧ len ≤ 4294967295) (hd : 0 ≤ addr ∧ addr ≤ 255) :
    callF Try.prog Hs E1 k 4 [.d (.int .u8 a), .d (.int .u8 b), .d (.int .u8 c), .d (.int .u32 start), .d (.int .u32 len), .d (.int .u8 addr)] [] = some (.d (.bool true), []) := by
  obtain ⟨k, rfl⟩ : ∃ j, k = j + 1 := ⟨k - 1, by omega⟩
  refine evalE rfl Try.func4 l4 ?_ (Nat.le_of_ble_eq_true rfl)
  have w1 := i64_in a (by omega)
  have w2 := i64_in b (by omega)
  have w3 := i64_in c (by omega)
  have w4 := i64_in addr (by omega)
  obtain ⟨t1, t2, t3⟩ := tmodB (m := 100000) hs.1 (by omega)
  obtain ⟨u1, u2, u3⟩ := tmodB (m := 100000) hl.1 (by omega)
  have w5 := i64_in (start % 100000) (by omega)
  have w6 := i64_in (len % 100000) (by omega)
  have w7 := i64_in (start % 100000 + len % 100000) (by omega)
  have f1 := User_ev k (by omega) a (by omega)
  have f2 := Service_ev k (by omega) b (by omega)
  have f3 := Session_ev k (by omega) c (by omega)
  have hv1 := user_valid a ha.1
  obtain ⟨hv2, hv3⟩ := service_valid b hb.1
  have hv4 := session_class c (by omega)
  have ho1 := user_ok a
  have ho2 := service_ok b
  simp only [Prin.cells] at f1 f2
  generalize userP a = up at *
  generalize serviceP b = sp at *
  generalize start % 100000 = S at *
  generalize len % 100000 = L at *
  have c3 := Convert_ev k 100 ⟨up, sp, 144115188075855872 + (1 + c), S, S + L, addr⟩ (by omega) ⟨ho1, ho2, ⟨by simp only; omega, by simp only; omega⟩, ⟨by simp only; omega, by simp only; omega⟩, ⟨by simp only; omega, by simp only; omega⟩⟩ (by omega)
  have hsl : S + L - S = L := by omega
  have w8 := i64_in (S + L - S) (by omega)
  by_cases q : L < 300
  · have hb0 : convB ⟨up, sp, 144115188075855872 + (1 + c), S, S + L, addr⟩ = false := by
      unfold convB
      rw [decide_eq_false, Bool.false_and]
      simp only
      omega
    simp only [Rec.a, convR, hb0, zeroT, Tick.a, Bool.false_eq_true, if_false] at c3
    have q' : S + L - S < 300 := by omega
    simp only [s4, n4, ↓evPre, ev0, ev1, ev2, ev3, ev4, Nat.reduceLT, entE, getE, putE, ↓reduceIte, Nat.reduceEqDiff, argsE, Int.reduceEq, convertA, lenA, foldI, A.cells, A.leaf, List.set_cons_zero, List.set_cons_succ, List.replicate, viewA, getO, List.getD_cons_zero, List.getD_cons_succ, List.nil_append, List.cons_append, Nat.reduceLeDiff, Nat.le_refl, List.drop_zero, List.drop_succ_cons, List.take_succ_cons, List.take_zero, List.take_nil, and_self, loadA, cellsAt, cellsTo, faA, Nat.zero_lt_succ, Nat.add_zero, indexAddrA, asInt, Int.reduceLE, Int.reduceLT, Int.reduceToNat, Int.le_refl, Int.toNat_zero, Int.toNat_natCast, List.take_length, List.getElem?_append_right, Option.some.injEq, Nat.lt_irrefl, eq_self, List.length_replicate, List.range_zero, Nat.min_def, Nat.reducePow, Int.reducePow, List.all_append, i64_in, u8_in, u64_in, u16_in, u32_in, Int.reduceAdd, Int.reduceMul, Int.reduceSub, Int.reduceNeg, Nat.zero_le, keyOk, mapPutA, lookupA, mapOf, sliceA, boundI, Option.isSome_none, Option.isSome_some, false_imp_iff, true_imp_iff, elemsOf, appendA, beq_self_eq_true, storeA, setRange, indexA, false_and, and_false, Nat.mul_one, or_true, true_or, and_true, true_and, List.contains_cons, List.contains_nil, Nat.reduceBEq, Bool.or_false, Bool.or_self, Bool.or_true, Bool.true_or, Bool.false_or, Bool.true_and, Bool.and_false, Bool.false_and, List.flatMap_cons, List.flatMap_nil, List.append_nil, Int.cast_ofNat_Int, Int.natCast_zero, decide_true, decide_false, Bool.not_true, Bool.not_false, Bool.false_eq_true, reduceCtorEq, Nat.reduceAdd, Nat.reduceMul, Nat.reduceSub, List.all_cons, List.all_nil, Bool.and_true, Bool.and_self, List.length_nil, List.length_cons, Nat.zero_add, List.getElem?_cons_zero, List.getElem?_cons_succ, not_true_eq_false, not_false_eq_true, decide_eq_true_eq, List.map_cons, List.map_nil, Option.map_none, Option.map_some, evTy0, evTy1, evTy2, evTy3, evTy4, evTy5, callR_data (awake_ev k (by omega)) rfl rfl, callR_data f1 rfl rfl, callR_data f2 rfl rfl, callR_data f3 rfl rfl, callR_data c3 rfl rfl, w1, w2, w3, w4, w5, w6, w7, w8, t1, u1, q']
  · obtain ⟨g1, g2, g3, g4⟩ := fromQ_le (n := L) (by omega)
    have hck : checkV (convT ⟨up, sp, 144115188075855872 + (1 + c), S, S + L, addr⟩) = 0 := by
      unfold checkV convT convL
      simp only [hsl]
      rw [if_pos (by simp only [hv1, hv2, hv3]; rfl), if_pos hv4, if_pos ⟨⟨by omega, by omega⟩, ⟨g1, g2⟩, by omega, by omega⟩]
    have hb0 : convB ⟨up, sp, 144115188075855872 + (1 + c), S, S + L, addr⟩ = true := by
      unfold convB
      rw [hck, decide_eq_true ⟨by simp only; omega, by simp only; omega, by simp only; omega⟩]
      rfl
    simp only [Rec.a, convR, hb0, convT, convL, Tick.a, if_true, hsl] at c3
    generalize fromQ L = Q at *
    have v1 := i64_in (Q + 1) (by omega)
    have v2 := i64_in (300 * (Q + 1)) (by omega)
    have v3 := i64_in (S + 300 * (Q + 1)) (by omega)
    have v4 := i64_in (S + 300 * (Q + 1) + 300) (by omega)
    have p1 : S + 300 * (Q + 1) ≤ S + L := by omega
    by_cases g5 : Q = 255
    · subst g5
      have x3 := i64_in (S + 76800) (by omega)
      have x4 := i64_in (S + 76800 + 300) (by omega)
      have x1 : S + 76800 ≤ S + L := by omega
      simp only [s4, n4, ↓evPre, ev0, ev1, ev2, ev3, ev4, Nat.reduceLT, entE, getE, putE, ↓reduceIte, Nat.reduceEqDiff, argsE, Int.reduceEq, convertA, lenA, foldI, A.cells, A.leaf, List.set_cons_zero, List.set_cons_succ, List.replicate, viewA, getO, List.getD_cons_zero, List.getD_cons_succ, List.nil_append, List.cons_append, Nat.reduceLeDiff, Nat.le_refl, List.drop_zero, List.drop_succ_cons, List.take_succ_cons, List.take_zero, List.take_nil, and_self, loadA, cellsAt, cellsTo, faA, Nat.zero_lt_succ, Nat.add_zero, indexAddrA, asInt, Int.reduceLE, Int.reduceLT, Int.reduceToNat, Int.le_refl, Int.toNat_zero, Int.toNat_natCast, List.take_length, List.getElem?_append_right, Option.some.injEq, Nat.lt_irrefl, eq_self, List.length_replicate, List.range_zero, Nat.min_def, Nat.reducePow, Int.reducePow, List.all_append, i64_in, u8_in, u64_in, u16_in, u32_in, Int.reduceAdd, Int.reduceMul, Int.reduceSub, Int.reduceNeg, Nat.zero_le, keyOk, mapPutA, lookupA, mapOf, sliceA, boundI, Option.isSome_none, Option.isSome_some, false_imp_iff, true_imp_iff, elemsOf, appendA, beq_self_eq_true, storeA, setRange, indexA, false_and, and_false, Nat.mul_one, or_true, true_or, and_true, true_and, List.contains_cons, List.contains_nil, Nat.reduceBEq, Bool.or_false, Bool.or_self, Bool.or_true, Bool.true_or, Bool.false_or, Bool.true_and, Bool.and_false, Bool.false_and, List.flatMap_cons, List.flatMap_nil, List.append_nil, Int.cast_ofNat_Int, Int.natCast_zero, decide_true, decide_false, Bool.not_true, Bool.not_false, Bool.false_eq_true, reduceCtorEq, Nat.reduceAdd, Nat.reduceMul, Nat.reduceSub, List.all_cons, List.all_nil, Bool.and_true, Bool.and_self, List.length_nil, List.length_cons, Nat.zero_add, List.getElem?_cons_zero, List.getElem?_cons_succ, not_true_eq_false, not_false_eq_true, decide_eq_true_eq, List.map_cons, List.map_nil, Option.map_none, Option.map_some, evTy0, evTy1, evTy2, evTy3, evTy4, evTy5, callR_data (awake_ev k (by omega)) rfl rfl, callR_data f1 rfl rfl, callR_data f2 rfl rfl, callR_data f3 rfl rfl, callR_data c3 rfl rfl, w1, w2, w3, w4, w5, w6, w7, t1, u1, x3, x4, x1]
    · have p2 : S + L < S + 300 * (Q + 1) + 300 := by omega
      simp only [s4, n4, ↓evPre, ev0, ev1, ev2, ev3, ev4, Nat.reduceLT, entE, getE, putE, ↓reduceIte, Nat.reduceEqDiff, argsE, Int.reduceEq, convertA, lenA, foldI, A.cells, A.leaf, List.set_cons_zero, List.set_cons_succ, List.replicate, viewA, getO, List.getD_cons_zero, List.getD_cons_succ, List.nil_append, List.cons_append, Nat.reduceLeDiff, Nat.le_refl, List.drop_zero, List.drop_succ_cons, List.take_succ_cons, List.take_zero, List.take_nil, and_self, loadA, cellsAt, cellsTo, faA, Nat.zero_lt_succ, Nat.add_zero, indexAddrA, asInt, Int.reduceLE, Int.reduceLT, Int.reduceToNat, Int.le_refl, Int.toNat_zero, Int.toNat_natCast, List.take_length, List.getElem?_append_right, Option.some.injEq, Nat.lt_irrefl, eq_self, List.length_replicate, List.range_zero, Nat.min_def, Nat.reducePow, Int.reducePow, List.all_append, i64_in, u8_in, u64_in, u16_in, u32_in, Int.reduceAdd, Int.reduceMul, Int.reduceSub, Int.reduceNeg, Nat.zero_le, keyOk, mapPutA, lookupA, mapOf, sliceA, boundI, Option.isSome_none, Option.isSome_some, false_imp_iff, true_imp_iff, elemsOf, appendA, beq_self_eq_true, storeA, setRange, indexA, false_and, and_false, Nat.mul_one, or_true, true_or, and_true, true_and, List.contains_cons, List.contains_nil, Nat.reduceBEq, Bool.or_false, Bool.or_self, Bool.or_true, Bool.true_or, Bool.false_or, Bool.true_and, Bool.and_false, Bool.false_and, List.flatMap_cons, List.flatMap_nil, List.append_nil, Int.cast_ofNat_Int, Int.natCast_zero, decide_true, decide_false, Bool.not_true, Bool.not_false, Bool.false_eq_true, reduceCtorEq, Nat.reduceAdd, Nat.reduceMul, Nat.reduceSub, List.all_cons, List.all_nil, Bool.and_true, Bool.and_self, List.length_nil, List.length_cons, Nat.zero_add, List.getElem?_cons_zero, List.getElem?_cons_succ, not_true_eq_false, not_false_eq_true, decide_eq_true_eq, List.map_cons, List.map_nil, Option.map_none, Option.map_some, evTy0, evTy1, evTy2, evTy3, evTy4, evTy5, callR_data (awake_ev k (by omega)) rfl rfl, callR_data f1 rfl rfl, callR_data f2 rfl rfl, callR_data f3 rfl rfl, callR_data c3 rfl rfl, w1, w2, w3, w4, w5, w6, w7, t1, u1, v1, v2, v3, v4, p1, p2, g5]
end Cv
end Ab
