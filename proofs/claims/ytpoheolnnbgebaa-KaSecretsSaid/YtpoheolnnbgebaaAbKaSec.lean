/- A part of the proof of a row by an interpreter that is proved sound; no conditions of its own. -/
import Derived.Test.YtpoheolnnbgebaaAbFrA
namespace Ab
open Go Go.Proofs Go.IntWalk
set_option maxRecDepth 10000
set_option linter.unusedSimpArgs false
set_option linter.unusedVariables false
namespace Ka
open Pr Key Fi

/-- Which label a text is. -/
theorem lab_cases (s : ByteArray) : (s = lGet ∧ ¬ s = lTicket ∧ ¬ s = lChange) ∨ (¬ s = lGet ∧ s = lTicket ∧ ¬ s = lChange) ∨ (¬ s = lGet ∧ ¬ s = lTicket ∧ s = lChange) ∨ (¬ s = lGet ∧ ¬ s = lTicket ∧ ¬ s = lChange) := by
  by_cases h1 : s = lGet
  · subst h1; exact .inl ⟨rfl, by decide, by decide⟩
  · by_cases h2 : s = lTicket
    · subst h2; exact .inr (.inl ⟨by decide, rfl, by decide⟩)
    · by_cases h3 : s = lChange
      · exact .inr (.inr (.inl ⟨h1, h2, h3⟩))
      · exact .inr (.inr (.inr ⟨h1, h2, h3⟩))

theorem out_tm (n : Int) : outB 4294967295 n = !decide (tm n) := by
  have e : tm n ↔ 0 ≤ n ∧ n ≤ 4294967295 := Iff.rfl
  by_cases ht : tm n
  · rw [decide_eq_true ht]; rw [e] at ht; simp [outB]; omega
  · rw [decide_eq_false ht]; rw [e] at ht; simp [outB]; omega

theorem EncSec_ev (k : Nat) (hk : 40 ≤ k) (s : Sec) (hs : s.label.size ≤ 100) (hkey : 0 ≤ s.key ∧ s.key ≤ 18446744073709551615) : callF Try.prog Hs E1 k 24 [.agg [.d (.str s.label), .d (.int .i64 s.time), .d (.int .i64 s.start), .d (.int .i64 s.fin), .d (.int .u64 s.key)]] [] = some (encT (encSec s), []) := by
  obtain ⟨k, rfl⟩ : ∃ j, k = j + 1 := ⟨k - 1, by omega⟩
  refine evalE rfl Try.func24 l24 ?_ (Nat.le_of_ble_eq_true rfl)
  have f1 := outside1_ev k (by omega) 4294967295 s.time
  have f2 := outside2_ev k (by omega) 4294967295 s.start s.fin
  have f3 := Valid_ev k (by omega) s.key hkey
  rw [out_tm] at f1
  rw [out_tm, out_tm] at f2
  have hl := bOf_len s.label
  have f4 := PutNumber_ev k (by omega) (bOf s.label) s.time (by omega)
  have f5 := Key.Bytes_ev k (by omega) s.key
  have f6 := PutNumber_ev k (by omega) (bOf s.label ++ wb4 s.time) s.start (by simp [wb4]; omega)
  have f7 := PutNumber_ev k (by omega) (bOf s.label ++ wb4 s.time ++ wb4 s.start) s.fin (by simp [wb4]; omega)
  have f8 := Pad_ev k (by omega) (bOf s.label ++ wb4 s.time ++ wb4 s.start ++ wb4 s.fin) (by simp [wb4]; omega)
  have f9 := Pad_ev k (by omega) (bOf s.label ++ wb4 s.time ++ bytesV s.key) (by simp [wb4, bytesV_eq]; omega)
  have b8 : (bOf s.label ++ wb4 s.time).length + (bytesV s.key).length ≤ 140737488355328 := by simp [wb4, bytesV_eq]; omega
  unfold encSec secE
  have cc := lab_cases s.label
  have eC : s.label = lChange → secB s = padV (bOf s.label ++ wb4 s.time ++ bytesV s.key) := fun h => by simp [secB, h]
  have eT : ¬ s.label = lChange → secB s = padV (bOf s.label ++ wb4 s.time ++ wb4 s.start ++ wb4 s.fin) := fun h => by simp [secB, h]
  generalize secB s = B at eC eT ⊢
  generalize bytesV s.key = Y at *
  generalize hL1 : bOf s.label ++ wb4 s.time = L1 at *
  generalize hL2 : L1 ++ wb4 s.start = L2 at *
  generalize hL3 : L2 ++ wb4 s.fin = L3 at *
  generalize hL4 : L1 ++ Y = L4 at *
  generalize padV L3 = P3 at *
  generalize padV L4 = P4 at *
  rcases cc with ⟨c1, c2, c3⟩ | ⟨c1, c2, c3⟩ | ⟨c1, c2, c3⟩ | ⟨c1, c2, c3⟩
  · have eB := eT c3
    have t1 := eq_true c1
    have t2 := eq_false c2
    have t3 := eq_false c3
    have g1 : (s.label = (⟨#[103, 84, 71, 83]⟩ : ByteArray)) = _ := t1
    have g2 : (s.label = (⟨#[103, 84, 75, 84]⟩ : ByteArray)) = _ := t2
    have g3 : (s.label = (⟨#[67, 80, 87, 108]⟩ : ByteArray)) = _ := t3
    by_cases v1 : tm s.time
    · by_cases v2 : tm s.start
      · by_cases v3 : tm s.fin
        · by_cases v4 : s.key = 0
          · simp only [s24, n24, ↓evPre, ev0, ev1, ev2, ev3, ev4, ev5, Nat.reduceLT, entE, getE, putE, ↓reduceIte, Nat.reduceEqDiff, argsE, Int.reduceEq, convertA, lenA, foldI, A.cells, A.leaf, List.replicate, viewA, getO, Nat.reduceLeDiff, loadA, cellsAt, cellsTo, faA, indexAddrA, asInt, Int.reduceLE, Int.reduceLT, Int.reduceToNat, eq_self, Nat.reducePow, Int.reducePow, Int.reduceAdd, Int.reduceMul, Int.reduceSub, Int.reduceNeg, keyOk, mapPutA, lookupA, mapOf, sliceA, boundI, elemsOf, appendA, storeA, setRange, indexA, Nat.reduceBEq, Int.cast_ofNat_Int, reduceCtorEq, Nat.reduceAdd, Nat.reduceMul, Nat.reduceSub, evTy0, evTy1, evTy2, evTy3, evTy4, evTy5, evTy6, evTy7, evTy8, str_eq, bytesD_eq, g1, g2, g3, t1, t2, t3, callR_data f1 rfl rfl, callR_data f2 rfl rfl, callR_data f3 rfl rfl, encT, ne_eq, or_self, or_false, false_or, v1, v2, v3, v4, eB, callR_new f4 rfl, callR_new f6 rfl, callR_new f7 rfl, callR_data f8 rfl rfl]
          · simp only [s24, n24, ↓evPre, ev0, ev1, ev2, ev3, ev4, ev5, Nat.reduceLT, entE, getE, putE, ↓reduceIte, Nat.reduceEqDiff, argsE, Int.reduceEq, convertA, lenA, foldI, A.cells, A.leaf, List.replicate, viewA, getO, Nat.reduceLeDiff, loadA, cellsAt, cellsTo, faA, indexAddrA, asInt, Int.reduceLE, Int.reduceLT, Int.reduceToNat, eq_self, Nat.reducePow, Int.reducePow, Int.reduceAdd, Int.reduceMul, Int.reduceSub, Int.reduceNeg, keyOk, mapPutA, lookupA, mapOf, sliceA, boundI, elemsOf, appendA, storeA, setRange, indexA, Nat.reduceBEq, Int.cast_ofNat_Int, reduceCtorEq, Nat.reduceAdd, Nat.reduceMul, Nat.reduceSub, evTy0, evTy1, evTy2, evTy3, evTy4, evTy5, evTy6, evTy7, evTy8, str_eq, bytesD_eq, g1, g2, g3, t1, t2, t3, callR_data f1 rfl rfl, callR_data f2 rfl rfl, callR_data f3 rfl rfl, encT, ne_eq, or_self, or_false, false_or, v1, v2, v3, v4]
        · simp only [s24, n24, ↓evPre, ev0, ev1, ev2, ev3, ev4, ev5, Nat.reduceLT, entE, getE, putE, ↓reduceIte, Nat.reduceEqDiff, argsE, Int.reduceEq, convertA, lenA, foldI, A.cells, A.leaf, List.replicate, viewA, getO, Nat.reduceLeDiff, loadA, cellsAt, cellsTo, faA, indexAddrA, asInt, Int.reduceLE, Int.reduceLT, Int.reduceToNat, eq_self, Nat.reducePow, Int.reducePow, Int.reduceAdd, Int.reduceMul, Int.reduceSub, Int.reduceNeg, keyOk, mapPutA, lookupA, mapOf, sliceA, boundI, elemsOf, appendA, storeA, setRange, indexA, Nat.reduceBEq, Int.cast_ofNat_Int, reduceCtorEq, Nat.reduceAdd, Nat.reduceMul, Nat.reduceSub, evTy0, evTy1, evTy2, evTy3, evTy4, evTy5, evTy6, evTy7, evTy8, str_eq, bytesD_eq, g1, g2, g3, t1, t2, t3, callR_data f1 rfl rfl, callR_data f2 rfl rfl, callR_data f3 rfl rfl, encT, ne_eq, or_self, or_false, false_or, v1, v2, v3]
      · simp only [s24, n24, ↓evPre, ev0, ev1, ev2, ev3, ev4, ev5, Nat.reduceLT, entE, getE, putE, ↓reduceIte, Nat.reduceEqDiff, argsE, Int.reduceEq, convertA, lenA, foldI, A.cells, A.leaf, List.replicate, viewA, getO, Nat.reduceLeDiff, loadA, cellsAt, cellsTo, faA, indexAddrA, asInt, Int.reduceLE, Int.reduceLT, Int.reduceToNat, eq_self, Nat.reducePow, Int.reducePow, Int.reduceAdd, Int.reduceMul, Int.reduceSub, Int.reduceNeg, keyOk, mapPutA, lookupA, mapOf, sliceA, boundI, elemsOf, appendA, storeA, setRange, indexA, Nat.reduceBEq, Int.cast_ofNat_Int, reduceCtorEq, Nat.reduceAdd, Nat.reduceMul, Nat.reduceSub, evTy0, evTy1, evTy2, evTy3, evTy4, evTy5, evTy6, evTy7, evTy8, str_eq, bytesD_eq, g1, g2, g3, t1, t2, t3, callR_data f1 rfl rfl, callR_data f2 rfl rfl, callR_data f3 rfl rfl, encT, ne_eq, or_self, or_false, false_or, v1, v2]
    · simp only [s24, n24, ↓evPre, ev0, ev1, ev2, ev3, ev4, ev5, Nat.reduceLT, entE, getE, putE, ↓reduceIte, Nat.reduceEqDiff, argsE, Int.reduceEq, convertA, lenA, foldI, A.cells, A.leaf, List.replicate, viewA, getO, Nat.reduceLeDiff, loadA, cellsAt, cellsTo, faA, indexAddrA, asInt, Int.reduceLE, Int.reduceLT, Int.reduceToNat, eq_self, Nat.reducePow, Int.reducePow, Int.reduceAdd, Int.reduceMul, Int.reduceSub, Int.reduceNeg, keyOk, mapPutA, lookupA, mapOf, sliceA, boundI, elemsOf, appendA, storeA, setRange, indexA, Nat.reduceBEq, Int.cast_ofNat_Int, reduceCtorEq, Nat.reduceAdd, Nat.reduceMul, Nat.reduceSub, evTy0, evTy1, evTy2, evTy3, evTy4, evTy5, evTy6, evTy7, evTy8, str_eq, bytesD_eq, g1, g2, g3, t1, t2, t3, callR_data f1 rfl rfl, callR_data f2 rfl rfl, callR_data f3 rfl rfl, encT, ne_eq, or_self, or_false, false_or, v1]
  · have eB := eT c3
    have t1 := eq_false c1
    have t2 := eq_true c2
    have t3 := eq_false c3
    have g1 : (s.label = (⟨#[103, 84, 71, 83]⟩ : ByteArray)) = _ := t1
    have g2 : (s.label = (⟨#[103, 84, 75, 84]⟩ : ByteArray)) = _ := t2
    have g3 : (s.label = (⟨#[67, 80, 87, 108]⟩ : ByteArray)) = _ := t3
    by_cases v1 : tm s.time
    · by_cases v2 : tm s.start
      · by_cases v3 : tm s.fin
        · by_cases v4 : s.key = 0
          · simp only [s24, n24, ↓evPre, ev0, ev1, ev2, ev3, ev4, ev5, Nat.reduceLT, entE, getE, putE, ↓reduceIte, Nat.reduceEqDiff, argsE, Int.reduceEq, convertA, lenA, foldI, A.cells, A.leaf, List.replicate, viewA, getO, Nat.reduceLeDiff, loadA, cellsAt, cellsTo, faA, indexAddrA, asInt, Int.reduceLE, Int.reduceLT, Int.reduceToNat, eq_self, Nat.reducePow, Int.reducePow, Int.reduceAdd, Int.reduceMul, Int.reduceSub, Int.reduceNeg, keyOk, mapPutA, lookupA, mapOf, sliceA, boundI, elemsOf, appendA, storeA, setRange, indexA, Nat.reduceBEq, Int.cast_ofNat_Int, reduceCtorEq, Nat.reduceAdd, Nat.reduceMul, Nat.reduceSub, evTy0, evTy1, evTy2, evTy3, evTy4, evTy5, evTy6, evTy7, evTy8, str_eq, bytesD_eq, g1, g2, g3, t1, t2, t3, callR_data f1 rfl rfl, callR_data f2 rfl rfl, callR_data f3 rfl rfl, encT, ne_eq, or_self, or_false, false_or, v1, v2, v3, v4, eB, callR_new f4 rfl, callR_new f6 rfl, callR_new f7 rfl, callR_data f8 rfl rfl]
          · simp only [s24, n24, ↓evPre, ev0, ev1, ev2, ev3, ev4, ev5, Nat.reduceLT, entE, getE, putE, ↓reduceIte, Nat.reduceEqDiff, argsE, Int.reduceEq, convertA, lenA, foldI, A.cells, A.leaf, List.replicate, viewA, getO, Nat.reduceLeDiff, loadA, cellsAt, cellsTo, faA, indexAddrA, asInt, Int.reduceLE, Int.reduceLT, Int.reduceToNat, eq_self, Nat.reducePow, Int.reducePow, Int.reduceAdd, Int.reduceMul, Int.reduceSub, Int.reduceNeg, keyOk, mapPutA, lookupA, mapOf, sliceA, boundI, elemsOf, appendA, storeA, setRange, indexA, Nat.reduceBEq, Int.cast_ofNat_Int, reduceCtorEq, Nat.reduceAdd, Nat.reduceMul, Nat.reduceSub, evTy0, evTy1, evTy2, evTy3, evTy4, evTy5, evTy6, evTy7, evTy8, str_eq, bytesD_eq, g1, g2, g3, t1, t2, t3, callR_data f1 rfl rfl, callR_data f2 rfl rfl, callR_data f3 rfl rfl, encT, ne_eq, or_self, or_false, false_or, v1, v2, v3, v4]
        · simp only [s24, n24, ↓evPre, ev0, ev1, ev2, ev3, ev4, ev5, Nat.reduceLT, entE, getE, putE, ↓reduceIte, Nat.reduceEqDiff, argsE, Int.reduceEq, convertA, lenA, foldI, A.cells, A.leaf, List.replicate, viewA, getO, Nat.reduceLeDiff, loadA, cellsAt, cellsTo, faA, indexAddrA, asInt, Int.reduceLE, Int.reduceLT, Int.reduceToNat, eq_self, Nat.reducePow, Int.reducePow, Int.reduceAdd, Int.reduceMul, Int.reduceSub, Int.reduceNeg, keyOk, mapPutA, lookupA, mapOf, sliceA, boundI, elemsOf, appendA, storeA, setRange, indexA, Nat.reduceBEq, Int.cast_ofNat_Int, reduceCtorEq, Nat.reduceAdd, Nat.reduceMul, Nat.reduceSub, evTy0, evTy1, evTy2, evTy3, evTy4, evTy5, evTy6, evTy7, evTy8, str_eq, bytesD_eq, g1, g2, g3, t1, t2, t3, callR_data f1 rfl rfl, callR_data f2 rfl rfl, callR_data f3 rfl rfl, encT, ne_eq, or_self, or_false, false_or, v1, v2, v3]
      · simp only [s24, n24, ↓evPre, ev0, ev1, ev2, ev3, ev4, ev5, Nat.reduceLT, entE, getE, putE, ↓reduceIte, Nat.reduceEqDiff, argsE, Int.reduceEq, convertA, lenA, foldI, A.cells, A.leaf, List.replicate, viewA, getO, Nat.reduceLeDiff, loadA, cellsAt, cellsTo, faA, indexAddrA, asInt, Int.reduceLE, Int.reduceLT, Int.reduceToNat, eq_self, Nat.reducePow, Int.reducePow, Int.reduceAdd, Int.reduceMul, Int.reduceSub, Int.reduceNeg, keyOk, mapPutA, lookupA, mapOf, sliceA, boundI, elemsOf, appendA, storeA, setRange, indexA, Nat.reduceBEq, Int.cast_ofNat_Int, reduceCtorEq, Nat.reduceAdd, Nat.reduceMul, Nat.reduceSub, evTy0, evTy1, evTy2, evTy3, evTy4, evTy5, evTy6, evTy7, evTy8, str_eq, bytesD_eq, g1, g2, g3, t1, t2, t3, callR_data f1 rfl rfl, callR_data f2 rfl rfl, callR_data f3 rfl rfl, encT, ne_eq, or_self, or_false, false_or, v1, v2]
    · simp only [s24, n24, ↓evPre, ev0, ev1, ev2, ev3, ev4, ev5, Nat.reduceLT, entE, getE, putE, ↓reduceIte, Nat.reduceEqDiff, argsE, Int.reduceEq, convertA, lenA, foldI, A.cells, A.leaf, List.replicate, viewA, getO, Nat.reduceLeDiff, loadA, cellsAt, cellsTo, faA, indexAddrA, asInt, Int.reduceLE, Int.reduceLT, Int.reduceToNat, eq_self, Nat.reducePow, Int.reducePow, Int.reduceAdd, Int.reduceMul, Int.reduceSub, Int.reduceNeg, keyOk, mapPutA, lookupA, mapOf, sliceA, boundI, elemsOf, appendA, storeA, setRange, indexA, Nat.reduceBEq, Int.cast_ofNat_Int, reduceCtorEq, Nat.reduceAdd, Nat.reduceMul, Nat.reduceSub, evTy0, evTy1, evTy2, evTy3, evTy4, evTy5, evTy6, evTy7, evTy8, str_eq, bytesD_eq, g1, g2, g3, t1, t2, t3, callR_data f1 rfl rfl, callR_data f2 rfl rfl, callR_data f3 rfl rfl, encT, ne_eq, or_self, or_false, false_or, v1]
  · have eB := eC c3
    have t1 := eq_false c1
    have t2 := eq_false c2
    have t3 := eq_true c3
    have g1 : (s.label = (⟨#[103, 84, 71, 83]⟩ : ByteArray)) = _ := t1
    have g2 : (s.label = (⟨#[103, 84, 75, 84]⟩ : ByteArray)) = _ := t2
    have g3 : (s.label = (⟨#[67, 80, 87, 108]⟩ : ByteArray)) = _ := t3
    by_cases v1 : tm s.time
    · by_cases v2 : validV s.key
      · by_cases v3 : s.start = 0
        · by_cases v4 : s.fin = 0
          · skip
            simp only [s24, n24, ↓evPre, ev0, ev1, ev2, ev3, ev4, ev5, Nat.reduceLT, entE, getE, putE, ↓reduceIte, Nat.reduceEqDiff, argsE, Int.reduceEq, convertA, lenA, foldI, A.cells, A.leaf, List.replicate, viewA, getO, Nat.reduceLeDiff, loadA, cellsAt, cellsTo, faA, indexAddrA, asInt, Int.reduceLE, Int.reduceLT, Int.reduceToNat, eq_self, Nat.reducePow, Int.reducePow, Int.reduceAdd, Int.reduceMul, Int.reduceSub, Int.reduceNeg, keyOk, mapPutA, lookupA, mapOf, sliceA, boundI, elemsOf, appendA, storeA, setRange, indexA, Nat.reduceBEq, Int.cast_ofNat_Int, reduceCtorEq, Nat.reduceAdd, Nat.reduceMul, Nat.reduceSub, evTy0, evTy1, evTy2, evTy3, evTy4, evTy5, evTy6, evTy7, evTy8, str_eq, bytesD_eq, g1, g2, g3, t1, t2, t3, callR_data f1 rfl rfl, callR_data f2 rfl rfl, callR_data f3 rfl rfl, encT, ne_eq, or_self, or_false, false_or, not_or, v1, v2, v3, v4, eB, callR_new f4 rfl, callR_data f5 rfl rfl, callR_data f9 rfl rfl, b8, hL4]
          · skip
            simp only [s24, n24, ↓evPre, ev0, ev1, ev2, ev3, ev4, ev5, Nat.reduceLT, entE, getE, putE, ↓reduceIte, Nat.reduceEqDiff, argsE, Int.reduceEq, convertA, lenA, foldI, A.cells, A.leaf, List.replicate, viewA, getO, Nat.reduceLeDiff, loadA, cellsAt, cellsTo, faA, indexAddrA, asInt, Int.reduceLE, Int.reduceLT, Int.reduceToNat, eq_self, Nat.reducePow, Int.reducePow, Int.reduceAdd, Int.reduceMul, Int.reduceSub, Int.reduceNeg, keyOk, mapPutA, lookupA, mapOf, sliceA, boundI, elemsOf, appendA, storeA, setRange, indexA, Nat.reduceBEq, Int.cast_ofNat_Int, reduceCtorEq, Nat.reduceAdd, Nat.reduceMul, Nat.reduceSub, evTy0, evTy1, evTy2, evTy3, evTy4, evTy5, evTy6, evTy7, evTy8, str_eq, bytesD_eq, g1, g2, g3, t1, t2, t3, callR_data f1 rfl rfl, callR_data f2 rfl rfl, callR_data f3 rfl rfl, encT, ne_eq, or_self, or_false, false_or, not_or, v1, v2, v3, v4]
        · skip
          simp only [s24, n24, ↓evPre, ev0, ev1, ev2, ev3, ev4, ev5, Nat.reduceLT, entE, getE, putE, ↓reduceIte, Nat.reduceEqDiff, argsE, Int.reduceEq, convertA, lenA, foldI, A.cells, A.leaf, List.replicate, viewA, getO, Nat.reduceLeDiff, loadA, cellsAt, cellsTo, faA, indexAddrA, asInt, Int.reduceLE, Int.reduceLT, Int.reduceToNat, eq_self, Nat.reducePow, Int.reducePow, Int.reduceAdd, Int.reduceMul, Int.reduceSub, Int.reduceNeg, keyOk, mapPutA, lookupA, mapOf, sliceA, boundI, elemsOf, appendA, storeA, setRange, indexA, Nat.reduceBEq, Int.cast_ofNat_Int, reduceCtorEq, Nat.reduceAdd, Nat.reduceMul, Nat.reduceSub, evTy0, evTy1, evTy2, evTy3, evTy4, evTy5, evTy6, evTy7, evTy8, str_eq, bytesD_eq, g1, g2, g3, t1, t2, t3, callR_data f1 rfl rfl, callR_data f2 rfl rfl, callR_data f3 rfl rfl, encT, ne_eq, or_self, or_false, false_or, not_or, v1, v2, v3]
      · skip
        simp only [s24, n24, ↓evPre, ev0, ev1, ev2, ev3, ev4, ev5, Nat.reduceLT, entE, getE, putE, ↓reduceIte, Nat.reduceEqDiff, argsE, Int.reduceEq, convertA, lenA, foldI, A.cells, A.leaf, List.replicate, viewA, getO, Nat.reduceLeDiff, loadA, cellsAt, cellsTo, faA, indexAddrA, asInt, Int.reduceLE, Int.reduceLT, Int.reduceToNat, eq_self, Nat.reducePow, Int.reducePow, Int.reduceAdd, Int.reduceMul, Int.reduceSub, Int.reduceNeg, keyOk, mapPutA, lookupA, mapOf, sliceA, boundI, elemsOf, appendA, storeA, setRange, indexA, Nat.reduceBEq, Int.cast_ofNat_Int, reduceCtorEq, Nat.reduceAdd, Nat.reduceMul, Nat.reduceSub, evTy0, evTy1, evTy2, evTy3, evTy4, evTy5, evTy6, evTy7, evTy8, str_eq, bytesD_eq, g1, g2, g3, t1, t2, t3, callR_data f1 rfl rfl, callR_data f2 rfl rfl, callR_data f3 rfl rfl, encT, ne_eq, or_self, or_false, false_or, not_or, v1, v2]
    · skip
      simp only [s24, n24, ↓evPre, ev0, ev1, ev2, ev3, ev4, ev5, Nat.reduceLT, entE, getE, putE, ↓reduceIte, Nat.reduceEqDiff, argsE, Int.reduceEq, convertA, lenA, foldI, A.cells, A.leaf, List.replicate, viewA, getO, Nat.reduceLeDiff, loadA, cellsAt, cellsTo, faA, indexAddrA, asInt, Int.reduceLE, Int.reduceLT, Int.reduceToNat, eq_self, Nat.reducePow, Int.reducePow, Int.reduceAdd, Int.reduceMul, Int.reduceSub, Int.reduceNeg, keyOk, mapPutA, lookupA, mapOf, sliceA, boundI, elemsOf, appendA, storeA, setRange, indexA, Nat.reduceBEq, Int.cast_ofNat_Int, reduceCtorEq, Nat.reduceAdd, Nat.reduceMul, Nat.reduceSub, evTy0, evTy1, evTy2, evTy3, evTy4, evTy5, evTy6, evTy7, evTy8, str_eq, bytesD_eq, g1, g2, g3, t1, t2, t3, callR_data f1 rfl rfl, callR_data f2 rfl rfl, callR_data f3 rfl rfl, encT, ne_eq, or_self, or_false, false_or, not_or, v1]
  · have t1 := eq_false c1
    have t2 := eq_false c2
    have t3 := eq_false c3
    have g1 : (s.label = (⟨#[103, 84, 71, 83]⟩ : ByteArray)) = _ := t1
    have g2 : (s.label = (⟨#[103, 84, 75, 84]⟩ : ByteArray)) = _ := t2
    have g3 : (s.label = (⟨#[67, 80, 87, 108]⟩ : ByteArray)) = _ := t3
    simp only [s24, n24, ↓evPre, ev0, ev1, ev2, ev3, ev4, ev5, Nat.reduceLT, entE, getE, putE, ↓reduceIte, Nat.reduceEqDiff, argsE, Int.reduceEq, convertA, lenA, foldI, A.cells, A.leaf, List.replicate, viewA, getO, Nat.reduceLeDiff, loadA, cellsAt, cellsTo, faA, indexAddrA, asInt, Int.reduceLE, Int.reduceLT, Int.reduceToNat, eq_self, Nat.reducePow, Int.reducePow, Int.reduceAdd, Int.reduceMul, Int.reduceSub, Int.reduceNeg, keyOk, mapPutA, lookupA, mapOf, sliceA, boundI, elemsOf, appendA, storeA, setRange, indexA, Nat.reduceBEq, Int.cast_ofNat_Int, reduceCtorEq, Nat.reduceAdd, Nat.reduceMul, Nat.reduceSub, evTy0, evTy1, evTy2, evTy3, evTy4, evTy5, evTy6, evTy7, evTy8, str_eq, bytesD_eq, g1, g2, g3, t1, t2, t3, callR_data f1 rfl rfl, callR_data f2 rfl rfl, callR_data f3 rfl rfl, encT, ne_eq, or_self, or_false, false_or, not_or, ints_nil]

def secT (v : Sec × Int) : A := .tup [.agg [.d (.str v.1.label), .d (.int .i64 v.1.time), .d (.int .i64 v.1.start), .d (.int .i64 v.1.fin), .d (.int .u64 v.1.key)], .d (.int .i64 v.2)]

theorem okL_rep (n : Nat) : okL (List.replicate n 0) := by
  intro x hx
  have := List.eq_of_mem_replicate hx
  omega
theorem padV_ok {l : List Int} (h : okL l) : okL (padV l) := by
  unfold padV
  rw [okL_app]
  exact ⟨h, okL_rep _⟩
theorem bytesV_ok (k : Int) : okL (bytesV k) := bytes_in k
theorem encSec_ok (s : Sec) : okL (encSec s).1 := by
  unfold encSec secB
  split
  · refine padV_ok ?_
    rw [okL_app, okL_app]
    refine ⟨bOf_ok _, wb4_ok _, ?_⟩
    split
    · exact bytesV_ok _
    · rw [okL_app]; exact ⟨wb4_ok _, wb4_ok _⟩
  · exact okL_nil
theorem ok0 (b : List Int) : Cu.ok b ⟨0, false⟩ := by simp only [Cu.ok]; omega

theorem readK_range (l : List Int) : 0 ≤ (readK l).1 ∧ (readK l).1 ≤ 18446744073709551615 := by
  unfold readK
  split
  · split
    · rename_i h; exact valid_range h
    · simp
  · simp

theorem DecSec_ev (k : Nat) (hk : 200 ≤ k) (b : List Int) (hb : b.length ≤ 60000) (ho : okL b) : callF Try.prog Hs E1 k 26 [.d (.sl 1 (ints .u8 b))] [] = some (secT (decSec b), []) := by
  obtain ⟨k, rfl⟩ : ∃ j, k = j + 1 := ⟨k - 1, by omega⟩
  refine evalE rfl Try.func26 l26 ?_ (Nat.le_of_ble_eq_true rfl)
  unfold decSec rawSec
  have ze : (⟨#[]⟩ : ByteArray) = ByteArray.empty := rfl
  have f0 := New_ev k (by omega) b 0
  have c0 := ok0 b
  have f1 := cBytes_ev k (by omega) b (by omega) 4 (by omega) ⟨0, false⟩ (ok_p (by omega) c0)
  have c1 := nxB_ok (n := 4) c0
  have h1 := nxB_okL (n := 4) (c := ⟨0, false⟩) ho
  have l1 : (nxB b 4 ⟨0, false⟩).1.length ≤ 4 := by
    unfold nxB nx tkV
    simp only [Bool.false_eq_true, if_false]
    repeat' split
    all_goals first | (simp; done) | (simp; omega)
  simp only
  generalize nxB b 4 ⟨0, false⟩ = l at *
  have f2 := cNumber_ev k (by omega) b (by omega) ho l.2 (ok_p (by omega) c1)
  have c2 := nxN_ok (n := 4) c1
  generalize nxN b 4 l.2 = t at *
  have e : (⟨(l.1.map fun n => UInt8.ofNat n.toNat).toArray⟩ : ByteArray) = sOf l.1 := rfl
  have sl := sOf_len l.1
  by_cases q : sOf l.1 = lChange
  · have g3 : (sOf l.1 = (⟨#[67, 80, 87, 108]⟩ : ByteArray)) = True := eq_true q
    rw [if_pos q]
    have f3 := cKey_ev k (by omega) b (by omega) ho t.2 c2
    have hkr := readK_range (nxB b 8 t.2).1
    simp only
    generalize nxB b 8 t.2 = x at *
    generalize readK x.1 = y at *
    have f5 := EncSec_ev k (by omega) ⟨sOf l.1, t.1, 0, 0, y.1⟩ (by simp only; omega) hkr
    have h5 := encSec_ok ⟨sOf l.1, t.1, 0, 0, y.1⟩
    generalize encSec ⟨sOf l.1, t.1, 0, 0, y.1⟩ = z at *
    have f6 := is_ev k (by omega) b z.1 b ho h5 x.2 z.2
    generalize sOf l.1 = S at *
    simp only [cu] at f0 f1 f2 f3 f6
    simp only [encT] at f5
    cases hi : isV b z.1 x.2 z.2 <;> rw [hi] at f6
    · simp only [s26, n26, ↓evPre, ev0, ev1, ev2, ev3, ev4, ev5, Nat.reduceLT, entE, getE, putE, ↓reduceIte, Nat.reduceEqDiff, argsE, Int.reduceEq, convertA, lenA, foldI, A.cells, A.leaf, List.replicate, viewA, getO, Nat.reduceLeDiff, loadA, cellsAt, cellsTo, faA, indexAddrA, asInt, Int.reduceLE, Int.reduceLT, Int.reduceToNat, eq_self, Nat.reducePow, Int.reducePow, Int.reduceAdd, Int.reduceMul, Int.reduceSub, Int.reduceNeg, keyOk, mapPutA, lookupA, mapOf, sliceA, boundI, elemsOf, appendA, storeA, setRange, indexA, Nat.reduceBEq, Int.cast_ofNat_Int, reduceCtorEq, Nat.reduceAdd, Nat.reduceMul, Nat.reduceSub, evTy0, evTy1, evTy2, evTy3, evTy4, evTy5, evTy6, evTy7, evTy8, ze, strOf_ints, e, str_eq, g3, callR_back f0 rfl, f1, f2, f3, callR_data f5 rfl rfl, f6, secT, zS]
    · simp only [s26, n26, ↓evPre, ev0, ev1, ev2, ev3, ev4, ev5, Nat.reduceLT, entE, getE, putE, ↓reduceIte, Nat.reduceEqDiff, argsE, Int.reduceEq, convertA, lenA, foldI, A.cells, A.leaf, List.replicate, viewA, getO, Nat.reduceLeDiff, loadA, cellsAt, cellsTo, faA, indexAddrA, asInt, Int.reduceLE, Int.reduceLT, Int.reduceToNat, eq_self, Nat.reducePow, Int.reducePow, Int.reduceAdd, Int.reduceMul, Int.reduceSub, Int.reduceNeg, keyOk, mapPutA, lookupA, mapOf, sliceA, boundI, elemsOf, appendA, storeA, setRange, indexA, Nat.reduceBEq, Int.cast_ofNat_Int, reduceCtorEq, Nat.reduceAdd, Nat.reduceMul, Nat.reduceSub, evTy0, evTy1, evTy2, evTy3, evTy4, evTy5, evTy6, evTy7, evTy8, ze, strOf_ints, e, str_eq, g3, callR_back f0 rfl, f1, f2, f3, callR_data f5 rfl rfl, f6, secT]
  · have g3 : (sOf l.1 = (⟨#[67, 80, 87, 108]⟩ : ByteArray)) = False := eq_false q
    rw [if_neg q]
    have f3 := cNumber_ev k (by omega) b (by omega) ho t.2 (ok_p (by omega) c2)
    have c3 := nxN_ok (n := 4) c2
    generalize nxN b 4 t.2 = u at *
    have f4 := cNumber_ev k (by omega) b (by omega) ho u.2 (ok_p (by omega) c3)
    have c4 := nxN_ok (n := 4) c3
    simp only
    generalize nxN b 4 u.2 = x at *
    have f5 := EncSec_ev k (by omega) ⟨sOf l.1, t.1, u.1, x.1, 0⟩ (by simp only; omega) (by simp only; omega)
    have h5 := encSec_ok ⟨sOf l.1, t.1, u.1, x.1, 0⟩
    generalize encSec ⟨sOf l.1, t.1, u.1, x.1, 0⟩ = z at *
    have f6 := is_ev k (by omega) b z.1 b ho h5 x.2 z.2
    generalize sOf l.1 = S at *
    simp only [cu] at f0 f1 f2 f3 f4 f6
    simp only [encT] at f5
    cases hi : isV b z.1 x.2 z.2 <;> rw [hi] at f6
    · simp only [s26, n26, ↓evPre, ev0, ev1, ev2, ev3, ev4, ev5, Nat.reduceLT, entE, getE, putE, ↓reduceIte, Nat.reduceEqDiff, argsE, Int.reduceEq, convertA, lenA, foldI, A.cells, A.leaf, List.replicate, viewA, getO, Nat.reduceLeDiff, loadA, cellsAt, cellsTo, faA, indexAddrA, asInt, Int.reduceLE, Int.reduceLT, Int.reduceToNat, eq_self, Nat.reducePow, Int.reducePow, Int.reduceAdd, Int.reduceMul, Int.reduceSub, Int.reduceNeg, keyOk, mapPutA, lookupA, mapOf, sliceA, boundI, elemsOf, appendA, storeA, setRange, indexA, Nat.reduceBEq, Int.cast_ofNat_Int, reduceCtorEq, Nat.reduceAdd, Nat.reduceMul, Nat.reduceSub, evTy0, evTy1, evTy2, evTy3, evTy4, evTy5, evTy6, evTy7, evTy8, ze, strOf_ints, e, str_eq, g3, callR_back f0 rfl, f1, f2, f3, f4, callR_data f5 rfl rfl, f6, secT, zS]
    · simp only [s26, n26, ↓evPre, ev0, ev1, ev2, ev3, ev4, ev5, Nat.reduceLT, entE, getE, putE, ↓reduceIte, Nat.reduceEqDiff, argsE, Int.reduceEq, convertA, lenA, foldI, A.cells, A.leaf, List.replicate, viewA, getO, Nat.reduceLeDiff, loadA, cellsAt, cellsTo, faA, indexAddrA, asInt, Int.reduceLE, Int.reduceLT, Int.reduceToNat, eq_self, Nat.reducePow, Int.reducePow, Int.reduceAdd, Int.reduceMul, Int.reduceSub, Int.reduceNeg, keyOk, mapPutA, lookupA, mapOf, sliceA, boundI, elemsOf, appendA, storeA, setRange, indexA, Nat.reduceBEq, Int.cast_ofNat_Int, reduceCtorEq, Nat.reduceAdd, Nat.reduceMul, Nat.reduceSub, evTy0, evTy1, evTy2, evTy3, evTy4, evTy5, evTy6, evTy7, evTy8, ze, strOf_ints, e, str_eq, g3, callR_back f0 rfl, f1, f2, f3, f4, callR_data f5 rfl rfl, f6, secT]
end Ka
end Ab
namespace Ab
open Go Go.Proofs Go.IntWalk
set_option maxRecDepth 10000
set_option linter.unusedSimpArgs false
set_option linter.unusedVariables false
namespace Ka
open Pr Key Fi

theorem padV_id {l : List Int} (h : l.length % 8 = 0) : padV l = l := by
  unfold padV
  rw [h]
  simp

theorem padV_snoc {l : List Int} (h : ¬ l.length % 8 = 0) : padV (l ++ [0]) = padV l := by
  unfold padV
  rw [List.append_assoc]
  congr 1
  have e : (8 - l.length % 8) % 8 = (8 - (l ++ [0]).length % 8) % 8 + 1 := by
    simp only [List.length_append, List.length_cons, List.length_nil]
    omega
  rw [e, List.replicate_succ]
  rfl

theorem RPad_loop (k : Nat) (K : X → Env → Store → Res) (r : Res) :
    ∀ (j : Nat) (l : List Int) (e : Env) (o : Store), (∀ K, headE 15 0 (some ([3], 0)) e o K = K (.cons 3 (.arr 0 0 l.length l.length) (.nil .top)) [.arr 1 (ints .u8 l) false]) →
      (8 - l.length % 8) % 8 < j → l.length + (8 - l.length % 8) % 8 ≤ 1000000 →
      (∀ e, getE e 3 = .arr 0 0 (padV l).length (padV l).length → K (.exit 0) e [.arr 1 (ints .u8 (padV l)) false] = r) →
      loopC Try.prog Hs (callF Try.prog Hs E1 k) 15 k 0 (some ([3], 0)) s62_0 j e o K ⟨0⟩ = r := by
  generalize hS : s62_0 = S
  intro j
  induction j with
  | zero => intro l e o hh hj; omega
  | succ j ih =>
    intro l e o hh hj hl hX
    rw [l_succ2 hS, hh]
    obtain ⟨t1, t2, t3⟩ := tmodB (a := (l.length : Int)) (m := 8) (by omega) (by omega)
    by_cases h : l.length % 8 = 0
    · have h' : (l.length : Int) % 8 = 0 := by omega
      rw [padV_id h] at hX
      simp only [s62_0, ↓evPre, ev0, ev1, ev2, ev3, ev4, ev5, Nat.reduceLT, entE, getE, putE, ↓reduceIte, Nat.reduceEqDiff, argsE, Int.reduceEq, convertA, lenA, foldI, A.cells, A.leaf, List.replicate, viewA, getO, Nat.reduceLeDiff, loadA, cellsAt, cellsTo, faA, indexAddrA, asInt, Int.reduceLE, Int.reduceLT, Int.reduceToNat, eq_self, Nat.reducePow, Int.reducePow, Int.reduceAdd, Int.reduceMul, Int.reduceSub, Int.reduceNeg, keyOk, mapPutA, lookupA, mapOf, sliceA, boundI, elemsOf, appendA, storeA, setRange, indexA, Nat.reduceBEq, Int.cast_ofNat_Int, reduceCtorEq, Nat.reduceAdd, Nat.reduceMul, Nat.reduceSub, evTy0, evTy1, evTy2, evTy3, evTy4, evTy5, evTy6, evTy7, evTy8, t1, h']
      exact hX _ rfl
    · have h' : ¬ (l.length : Int) % 8 = 0 := by omega
      have hb : l.length + 1 ≤ 140737488355328 := by omega
      rw [← padV_snoc h] at hX
      simp only [s62_0, ↓evPre, ev0, ev1, ev2, ev3, ev4, ev5, Nat.reduceLT, entE, getE, putE, ↓reduceIte, Nat.reduceEqDiff, argsE, Int.reduceEq, convertA, lenA, foldI, A.cells, A.leaf, List.replicate, viewA, getO, Nat.reduceLeDiff, loadA, cellsAt, cellsTo, faA, indexAddrA, asInt, Int.reduceLE, Int.reduceLT, Int.reduceToNat, eq_self, Nat.reducePow, Int.reducePow, Int.reduceAdd, Int.reduceMul, Int.reduceSub, Int.reduceNeg, keyOk, mapPutA, lookupA, mapOf, sliceA, boundI, elemsOf, appendA, storeA, setRange, indexA, Nat.reduceBEq, Int.cast_ofNat_Int, reduceCtorEq, Nat.reduceAdd, Nat.reduceMul, Nat.reduceSub, evTy0, evTy1, evTy2, evTy3, evTy4, evTy5, evTy6, evTy7, evTy8, t1, h', hb]
      refine ih (l ++ [0]) _ _ (fun K => by simp only [↓evPre, ev0, ev1, ev2, ev3, ev4, ev5, Nat.reduceLT, entE, getE, putE, ↓reduceIte, Nat.reduceEqDiff, argsE, Int.reduceEq, convertA, lenA, foldI, A.cells, A.leaf, List.replicate, viewA, getO, Nat.reduceLeDiff, loadA, cellsAt, cellsTo, faA, indexAddrA, asInt, Int.reduceLE, Int.reduceLT, Int.reduceToNat, eq_self, Nat.reducePow, Int.reducePow, Int.reduceAdd, Int.reduceMul, Int.reduceSub, Int.reduceNeg, keyOk, mapPutA, lookupA, mapOf, sliceA, boundI, elemsOf, appendA, storeA, setRange, indexA, Nat.reduceBEq, Int.cast_ofNat_Int, reduceCtorEq, Nat.reduceAdd, Nat.reduceMul, Nat.reduceSub, evTy0, evTy1, evTy2, evTy3, evTy4, evTy5, evTy6, evTy7, evTy8, List.length_append]) ?_ ?_ hX
      · simp only [List.length_append, List.length_cons, List.length_nil]; omega
      · simp only [List.length_append, List.length_cons, List.length_nil]; omega

theorem RPad_ev (k : Nat) (hk : 12 ≤ k) (b : List Int) (hl : b.length ≤ 900000) : callF Try.prog Hs E1 k 62 [.d (.sl 1 (ints .u8 b))] [] = some (.d (.sl 1 (ints .u8 (padV b))), []) := by
  obtain ⟨k, rfl⟩ : ∃ j, k = j + 1 := ⟨k - 1, by omega⟩
  refine evalE rfl Try.func62 l62 ?_ (Nat.le_of_ble_eq_true rfl)
  have hb1 : b.length ≤ 140737488355328 := by omega
  simp only [s62, n62, ↓evPre, ev0, ev1, ev2, ev3, ev4, ev5, Nat.reduceLT, entE, getE, putE, ↓reduceIte, Nat.reduceEqDiff, argsE, Int.reduceEq, convertA, lenA, foldI, A.cells, A.leaf, List.replicate, viewA, getO, Nat.reduceLeDiff, loadA, cellsAt, cellsTo, faA, indexAddrA, asInt, Int.reduceLE, Int.reduceLT, Int.reduceToNat, eq_self, Nat.reducePow, Int.reducePow, Int.reduceAdd, Int.reduceMul, Int.reduceSub, Int.reduceNeg, keyOk, mapPutA, lookupA, mapOf, sliceA, boundI, elemsOf, appendA, storeA, setRange, indexA, Nat.reduceBEq, Int.cast_ofNat_Int, reduceCtorEq, Nat.reduceAdd, Nat.reduceMul, Nat.reduceSub, evTy0, evTy1, evTy2, evTy3, evTy4, evTy5, evTy6, evTy7, evTy8, hb1]
  refine RPad_loop k _ _ k b _ _ (fun K => by simp only [↓evPre, ev0, ev1, ev2, ev3, ev4, ev5, Nat.reduceLT, entE, getE, putE, ↓reduceIte, Nat.reduceEqDiff, argsE, Int.reduceEq, convertA, lenA, foldI, A.cells, A.leaf, List.replicate, viewA, getO, Nat.reduceLeDiff, loadA, cellsAt, cellsTo, faA, indexAddrA, asInt, Int.reduceLE, Int.reduceLT, Int.reduceToNat, eq_self, Nat.reducePow, Int.reducePow, Int.reduceAdd, Int.reduceMul, Int.reduceSub, Int.reduceNeg, keyOk, mapPutA, lookupA, mapOf, sliceA, boundI, elemsOf, appendA, storeA, setRange, indexA, Nat.reduceBEq, Int.cast_ofNat_Int, reduceCtorEq, Nat.reduceAdd, Nat.reduceMul, Nat.reduceSub, evTy0, evTy1, evTy2, evTy3, evTy4, evTy5, evTy6, evTy7, evTy8]) (by omega) (by omega) (fun e g3 => ?_)
  have htk : (padV b).take (padV b).length = padV b := List.take_length
  simp only [s62, n62, ↓evPre, ev0, ev1, ev2, ev3, ev4, ev5, Nat.reduceLT, entE, getE, putE, ↓reduceIte, Nat.reduceEqDiff, argsE, Int.reduceEq, convertA, lenA, foldI, A.cells, A.leaf, List.replicate, viewA, getO, Nat.reduceLeDiff, loadA, cellsAt, cellsTo, faA, indexAddrA, asInt, Int.reduceLE, Int.reduceLT, Int.reduceToNat, eq_self, Nat.reducePow, Int.reducePow, Int.reduceAdd, Int.reduceMul, Int.reduceSub, Int.reduceNeg, keyOk, mapPutA, lookupA, mapOf, sliceA, boundI, elemsOf, appendA, storeA, setRange, indexA, Nat.reduceBEq, Int.cast_ofNat_Int, reduceCtorEq, Nat.reduceAdd, Nat.reduceMul, Nat.reduceSub, evTy0, evTy1, evTy2, evTy3, evTy4, evTy5, evTy6, evTy7, evTy8, g3, htk]

theorem rput4_ev (k : Nat) (hk : 8 ≤ k) (b : List Int) (n : Int) (hl : b.length ≤ 900000) : callF Try.prog Hs E1 k 78 [.d (.sl 1 (ints .u8 b)), .d (.int .i64 n), .d (.int .i64 4), .d (.bool false)] [] = some (.arr 0 0 (b ++ wb4 n).length (b ++ wb4 n).length, [.arr 1 (ints .u8 (b ++ wb4 n)) false]) := by
  obtain ⟨k, rfl⟩ : ∃ j, k = j + 6 := ⟨k - 6, by omega⟩
  refine evalE rfl Try.func78 l78 ?_ (Nat.le_of_ble_eq_true rfl)
  have hb1 : b.length ≤ 140737488355328 := by omega
  have hb2 : b.length + 1 ≤ 140737488355328 := by omega
  have hb3 : b.length + 1 + 1 ≤ 140737488355328 := by omega
  have hb4 : b.length + 1 + 1 + 1 ≤ 140737488355328 := by omega
  have hb5 : b.length + 1 + 1 + 1 + 1 ≤ 140737488355328 := by omega
  have hc3 : b.length + 2 ≤ 140737488355328 := by omega
  have hc4 : b.length + 3 ≤ 140737488355328 := by omega
  have hc5 : b.length + 4 ≤ 140737488355328 := by omega
  have q0 : n % 18446744073709551616 % 256 = n % 256 := by omega
  have q1 : n % 18446744073709551616 / 256 % 256 = n / 256 % 256 := by omega
  have q2 : n % 18446744073709551616 / 65536 % 256 = n / 65536 % 256 := by omega
  have q3 : n % 18446744073709551616 / 16777216 % 256 = n / 16777216 % 256 := by omega
  unfold wb4
  simp only [s78, n78, s78_0, ↓l_succ, ↓evPre, ev0, ev1, ev2, ev3, ev4, ev5, Nat.reduceLT, entE, getE, putE, ↓reduceIte, Nat.reduceEqDiff, argsE, Int.reduceEq, convertA, lenA, foldI, A.cells, A.leaf, List.replicate, viewA, getO, Nat.reduceLeDiff, loadA, cellsAt, cellsTo, faA, indexAddrA, asInt, Int.reduceLE, Int.reduceLT, Int.reduceToNat, eq_self, Nat.reducePow, Int.reducePow, Int.reduceAdd, Int.reduceMul, Int.reduceSub, Int.reduceNeg, keyOk, mapPutA, lookupA, mapOf, sliceA, boundI, elemsOf, appendA, storeA, setRange, indexA, Nat.reduceBEq, Int.cast_ofNat_Int, reduceCtorEq, Nat.reduceAdd, Nat.reduceMul, Nat.reduceSub, evTy0, evTy1, evTy2, evTy3, evTy4, evTy5, evTy6, evTy7, evTy8, w64, u8_mod, fd1, fd (m := 256) (by omega), fd (m := 65536) (by omega), fd (m := 16777216) (by omega), q0, q1, q2, q3, hb1, hb2, hb3, hb4, hb5, hc3, hc4, hc5, List.length_append, List.append_assoc, Nat.add_assoc]

theorem RPutNumber_ev (k : Nat) (hk : 9 ≤ k) (b : List Int) (n : Int) (hl : b.length ≤ 900000) : callF Try.prog Hs E1 k 61 [.d (.sl 1 (ints .u8 b)), .d (.int .i64 n), .d (.bool false)] [] = some (.arr 0 0 (b ++ wb4 n).length (b ++ wb4 n).length, [.arr 1 (ints .u8 (b ++ wb4 n)) false]) := by
  obtain ⟨k, rfl⟩ : ∃ j, k = j + 1 := ⟨k - 1, by omega⟩
  refine evalE rfl Try.func61 l61 ?_ (Nat.le_of_ble_eq_true rfl)
  have f1 := rput4_ev k (by omega) b n hl
  simp only [s61, n61, ↓evPre, ev0, ev1, ev2, ev3, ev4, ev5, Nat.reduceLT, entE, getE, putE, ↓reduceIte, Nat.reduceEqDiff, argsE, Int.reduceEq, convertA, lenA, foldI, A.cells, A.leaf, List.replicate, viewA, getO, Nat.reduceLeDiff, loadA, cellsAt, cellsTo, faA, indexAddrA, asInt, Int.reduceLE, Int.reduceLT, Int.reduceToNat, eq_self, Nat.reducePow, Int.reducePow, Int.reduceAdd, Int.reduceMul, Int.reduceSub, Int.reduceNeg, keyOk, mapPutA, lookupA, mapOf, sliceA, boundI, elemsOf, appendA, storeA, setRange, indexA, Nat.reduceBEq, Int.cast_ofNat_Int, reduceCtorEq, Nat.reduceAdd, Nat.reduceMul, Nat.reduceSub, evTy0, evTy1, evTy2, evTy3, evTy4, evTy5, evTy6, evTy7, evTy8, callR_new f1 rfl]

theorem within_ev (k : Nat) (hk : 1 ≤ k) (n m : Int) : callF Try.prog Hs E1 k 40 [.d (.int .i64 n), .d (.int .i64 m)] [] = some (.d (.bool (decide (0 ≤ n) && decide (n ≤ m))), []) := by
  obtain ⟨k, rfl⟩ : ∃ j, k = j + 1 := ⟨k - 1, by omega⟩
  refine evalE rfl Try.func40 l40 ?_ (Nat.le_of_ble_eq_true rfl)
  by_cases h : 0 ≤ n
  · simp only [s40, n40, ↓evPre, ev0, ev1, ev2, ev3, ev4, ev5, Nat.reduceLT, entE, getE, putE, ↓reduceIte, Nat.reduceEqDiff, argsE, Int.reduceEq, convertA, lenA, foldI, A.cells, A.leaf, List.replicate, viewA, getO, Nat.reduceLeDiff, loadA, cellsAt, cellsTo, faA, indexAddrA, asInt, Int.reduceLE, Int.reduceLT, Int.reduceToNat, eq_self, Nat.reducePow, Int.reducePow, Int.reduceAdd, Int.reduceMul, Int.reduceSub, Int.reduceNeg, keyOk, mapPutA, lookupA, mapOf, sliceA, boundI, elemsOf, appendA, storeA, setRange, indexA, Nat.reduceBEq, Int.cast_ofNat_Int, reduceCtorEq, Nat.reduceAdd, Nat.reduceMul, Nat.reduceSub, evTy0, evTy1, evTy2, evTy3, evTy4, evTy5, evTy6, evTy7, evTy8, h]
  · simp only [s40, n40, ↓evPre, ev0, ev1, ev2, ev3, ev4, ev5, Nat.reduceLT, entE, getE, putE, ↓reduceIte, Nat.reduceEqDiff, argsE, Int.reduceEq, convertA, lenA, foldI, A.cells, A.leaf, List.replicate, viewA, getO, Nat.reduceLeDiff, loadA, cellsAt, cellsTo, faA, indexAddrA, asInt, Int.reduceLE, Int.reduceLT, Int.reduceToNat, eq_self, Nat.reducePow, Int.reducePow, Int.reduceAdd, Int.reduceMul, Int.reduceSub, Int.reduceNeg, keyOk, mapPutA, lookupA, mapOf, sliceA, boundI, elemsOf, appendA, storeA, setRange, indexA, Nat.reduceBEq, Int.cast_ofNat_Int, reduceCtorEq, Nat.reduceAdd, Nat.reduceMul, Nat.reduceSub, evTy0, evTy1, evTy2, evTy3, evTy4, evTy5, evTy6, evTy7, evTy8, h]

theorem win_tm (n : Int) : (decide (0 ≤ n) && decide (n ≤ 4294967295)) = decide (tm n) := by
  have e : tm n ↔ 0 ≤ n ∧ n ≤ 4294967295 := Iff.rfl
  by_cases ht : tm n
  · rw [decide_eq_true ht]; rw [e] at ht; simp [ht]
  · rw [decide_eq_false ht]; rw [e] at ht; simp; omega

theorem REncSec_ev (k : Nat) (hk : 40 ≤ k) (s : Sec) (hs : s.label.size ≤ 100) (hkey : 0 ≤ s.key ∧ s.key ≤ 18446744073709551615) : callF Try.prog Hs E1 k 25 [.agg [.d (.str s.label), .d (.int .i64 s.time), .d (.int .i64 s.start), .d (.int .i64 s.fin), .d (.int .u64 s.key)]] [] = some (encT (encSec s), []) := by
  obtain ⟨k, rfl⟩ : ∃ j, k = j + 1 := ⟨k - 1, by omega⟩
  refine evalE rfl Try.func25 l25 ?_ (Nat.le_of_ble_eq_true rfl)
  have f1 := within_ev k (by omega) s.time 4294967295
  have f2 := within_ev k (by omega) s.start 4294967295
  have f2b := within_ev k (by omega) s.fin 4294967295
  have f3 := refValid_ev k (by omega) s.key hkey
  rw [win_tm] at f1 f2 f2b
  have hl := bOf_len s.label
  have f4 := RPutNumber_ev k (by omega) (bOf s.label) s.time (by omega)
  have f5 := Key.refBytes_ev k (by omega) s.key
  have f6 := RPutNumber_ev k (by omega) (bOf s.label ++ wb4 s.time) s.start (by simp [wb4]; omega)
  have f7 := RPutNumber_ev k (by omega) (bOf s.label ++ wb4 s.time ++ wb4 s.start) s.fin (by simp [wb4]; omega)
  have f8 := RPad_ev k (by omega) (bOf s.label ++ wb4 s.time ++ wb4 s.start ++ wb4 s.fin) (by simp [wb4]; omega)
  have f9 := RPad_ev k (by omega) (bOf s.label ++ wb4 s.time ++ bytesV s.key) (by simp [wb4, bytesV_eq]; omega)
  have b8 : (bOf s.label ++ wb4 s.time).length + (bytesV s.key).length ≤ 140737488355328 := by simp [wb4, bytesV_eq]; omega
  unfold encSec secE
  have cc := lab_cases s.label
  have eC : s.label = lChange → secB s = padV (bOf s.label ++ wb4 s.time ++ bytesV s.key) := fun h => by simp [secB, h]
  have eT : ¬ s.label = lChange → secB s = padV (bOf s.label ++ wb4 s.time ++ wb4 s.start ++ wb4 s.fin) := fun h => by simp [secB, h]
  generalize secB s = B at eC eT ⊢
  generalize bytesV s.key = Y at *
  generalize hL1 : bOf s.label ++ wb4 s.time = L1 at *
  generalize hL2 : L1 ++ wb4 s.start = L2 at *
  generalize hL3 : L2 ++ wb4 s.fin = L3 at *
  generalize hL4 : L1 ++ Y = L4 at *
  generalize padV L3 = P3 at *
  generalize padV L4 = P4 at *
  rcases cc with ⟨c1, c2, c3⟩ | ⟨c1, c2, c3⟩ | ⟨c1, c2, c3⟩ | ⟨c1, c2, c3⟩
  · have eB := eT c3
    have t1 := eq_true c1
    have t2 := eq_false c2
    have t3 := eq_false c3
    have g1 : (s.label = (⟨#[103, 84, 71, 83]⟩ : ByteArray)) = _ := t1
    have g2 : (s.label = (⟨#[103, 84, 75, 84]⟩ : ByteArray)) = _ := t2
    have g3 : (s.label = (⟨#[67, 80, 87, 108]⟩ : ByteArray)) = _ := t3
    by_cases v1 : tm s.time
    · by_cases v2 : tm s.start
      · by_cases v3 : tm s.fin
        · by_cases v4 : s.key = 0
          · simp only [s25, n25, ↓evPre, ev0, ev1, ev2, ev3, ev4, ev5, Nat.reduceLT, entE, getE, putE, ↓reduceIte, Nat.reduceEqDiff, argsE, Int.reduceEq, convertA, lenA, foldI, A.cells, A.leaf, List.replicate, viewA, getO, Nat.reduceLeDiff, loadA, cellsAt, cellsTo, faA, indexAddrA, asInt, Int.reduceLE, Int.reduceLT, Int.reduceToNat, eq_self, Nat.reducePow, Int.reducePow, Int.reduceAdd, Int.reduceMul, Int.reduceSub, Int.reduceNeg, keyOk, mapPutA, lookupA, mapOf, sliceA, boundI, elemsOf, appendA, storeA, setRange, indexA, Nat.reduceBEq, Int.cast_ofNat_Int, reduceCtorEq, Nat.reduceAdd, Nat.reduceMul, Nat.reduceSub, evTy0, evTy1, evTy2, evTy3, evTy4, evTy5, evTy6, evTy7, evTy8, str_eq, bytesD_eq, g1, g2, g3, t1, t2, t3, callR_data f1 rfl rfl, callR_data f2 rfl rfl, callR_data f2b rfl rfl, callR_data f3 rfl rfl, encT, ne_eq, or_self, or_false, false_or, not_or, v1, v2, v3, v4, eB, callR_new f4 rfl, callR_new f6 rfl, callR_new f7 rfl, callR_data f8 rfl rfl]
          · simp only [s25, n25, ↓evPre, ev0, ev1, ev2, ev3, ev4, ev5, Nat.reduceLT, entE, getE, putE, ↓reduceIte, Nat.reduceEqDiff, argsE, Int.reduceEq, convertA, lenA, foldI, A.cells, A.leaf, List.replicate, viewA, getO, Nat.reduceLeDiff, loadA, cellsAt, cellsTo, faA, indexAddrA, asInt, Int.reduceLE, Int.reduceLT, Int.reduceToNat, eq_self, Nat.reducePow, Int.reducePow, Int.reduceAdd, Int.reduceMul, Int.reduceSub, Int.reduceNeg, keyOk, mapPutA, lookupA, mapOf, sliceA, boundI, elemsOf, appendA, storeA, setRange, indexA, Nat.reduceBEq, Int.cast_ofNat_Int, reduceCtorEq, Nat.reduceAdd, Nat.reduceMul, Nat.reduceSub, evTy0, evTy1, evTy2, evTy3, evTy4, evTy5, evTy6, evTy7, evTy8, str_eq, bytesD_eq, g1, g2, g3, t1, t2, t3, callR_data f1 rfl rfl, callR_data f2 rfl rfl, callR_data f2b rfl rfl, callR_data f3 rfl rfl, encT, ne_eq, or_self, or_false, false_or, not_or, v1, v2, v3, v4]
        · simp only [s25, n25, ↓evPre, ev0, ev1, ev2, ev3, ev4, ev5, Nat.reduceLT, entE, getE, putE, ↓reduceIte, Nat.reduceEqDiff, argsE, Int.reduceEq, convertA, lenA, foldI, A.cells, A.leaf, List.replicate, viewA, getO, Nat.reduceLeDiff, loadA, cellsAt, cellsTo, faA, indexAddrA, asInt, Int.reduceLE, Int.reduceLT, Int.reduceToNat, eq_self, Nat.reducePow, Int.reducePow, Int.reduceAdd, Int.reduceMul, Int.reduceSub, Int.reduceNeg, keyOk, mapPutA, lookupA, mapOf, sliceA, boundI, elemsOf, appendA, storeA, setRange, indexA, Nat.reduceBEq, Int.cast_ofNat_Int, reduceCtorEq, Nat.reduceAdd, Nat.reduceMul, Nat.reduceSub, evTy0, evTy1, evTy2, evTy3, evTy4, evTy5, evTy6, evTy7, evTy8, str_eq, bytesD_eq, g1, g2, g3, t1, t2, t3, callR_data f1 rfl rfl, callR_data f2 rfl rfl, callR_data f2b rfl rfl, callR_data f3 rfl rfl, encT, ne_eq, or_self, or_false, false_or, not_or, v1, v2, v3]
      · simp only [s25, n25, ↓evPre, ev0, ev1, ev2, ev3, ev4, ev5, Nat.reduceLT, entE, getE, putE, ↓reduceIte, Nat.reduceEqDiff, argsE, Int.reduceEq, convertA, lenA, foldI, A.cells, A.leaf, List.replicate, viewA, getO, Nat.reduceLeDiff, loadA, cellsAt, cellsTo, faA, indexAddrA, asInt, Int.reduceLE, Int.reduceLT, Int.reduceToNat, eq_self, Nat.reducePow, Int.reducePow, Int.reduceAdd, Int.reduceMul, Int.reduceSub, Int.reduceNeg, keyOk, mapPutA, lookupA, mapOf, sliceA, boundI, elemsOf, appendA, storeA, setRange, indexA, Nat.reduceBEq, Int.cast_ofNat_Int, reduceCtorEq, Nat.reduceAdd, Nat.reduceMul, Nat.reduceSub, evTy0, evTy1, evTy2, evTy3, evTy4, evTy5, evTy6, evTy7, evTy8, str_eq, bytesD_eq, g1, g2, g3, t1, t2, t3, callR_data f1 rfl rfl, callR_data f2 rfl rfl, callR_data f2b rfl rfl, callR_data f3 rfl rfl, encT, ne_eq, or_self, or_false, false_or, not_or, v1, v2]
    · simp only [s25, n25, ↓evPre, ev0, ev1, ev2, ev3, ev4, ev5, Nat.reduceLT, entE, getE, putE, ↓reduceIte, Nat.reduceEqDiff, argsE, Int.reduceEq, convertA, lenA, foldI, A.cells, A.leaf, List.replicate, viewA, getO, Nat.reduceLeDiff, loadA, cellsAt, cellsTo, faA, indexAddrA, asInt, Int.reduceLE, Int.reduceLT, Int.reduceToNat, eq_self, Nat.reducePow, Int.reducePow, Int.reduceAdd, Int.reduceMul, Int.reduceSub, Int.reduceNeg, keyOk, mapPutA, lookupA, mapOf, sliceA, boundI, elemsOf, appendA, storeA, setRange, indexA, Nat.reduceBEq, Int.cast_ofNat_Int, reduceCtorEq, Nat.reduceAdd, Nat.reduceMul, Nat.reduceSub, evTy0, evTy1, evTy2, evTy3, evTy4, evTy5, evTy6, evTy7, evTy8, str_eq, bytesD_eq, g1, g2, g3, t1, t2, t3, callR_data f1 rfl rfl, callR_data f2 rfl rfl, callR_data f2b rfl rfl, callR_data f3 rfl rfl, encT, ne_eq, or_self, or_false, false_or, not_or, v1]
  · have eB := eT c3
    have t1 := eq_false c1
    have t2 := eq_true c2
    have t3 := eq_false c3
    have g1 : (s.label = (⟨#[103, 84, 71, 83]⟩ : ByteArray)) = _ := t1
    have g2 : (s.label = (⟨#[103, 84, 75, 84]⟩ : ByteArray)) = _ := t2
    have g3 : (s.label = (⟨#[67, 80, 87, 108]⟩ : ByteArray)) = _ := t3
    by_cases v1 : tm s.time
    · by_cases v2 : tm s.start
      · by_cases v3 : tm s.fin
        · by_cases v4 : s.key = 0
          · simp only [s25, n25, ↓evPre, ev0, ev1, ev2, ev3, ev4, ev5, Nat.reduceLT, entE, getE, putE, ↓reduceIte, Nat.reduceEqDiff, argsE, Int.reduceEq, convertA, lenA, foldI, A.cells, A.leaf, List.replicate, viewA, getO, Nat.reduceLeDiff, loadA, cellsAt, cellsTo, faA, indexAddrA, asInt, Int.reduceLE, Int.reduceLT, Int.reduceToNat, eq_self, Nat.reducePow, Int.reducePow, Int.reduceAdd, Int.reduceMul, Int.reduceSub, Int.reduceNeg, keyOk, mapPutA, lookupA, mapOf, sliceA, boundI, elemsOf, appendA, storeA, setRange, indexA, Nat.reduceBEq, Int.cast_ofNat_Int, reduceCtorEq, Nat.reduceAdd, Nat.reduceMul, Nat.reduceSub, evTy0, evTy1, evTy2, evTy3, evTy4, evTy5, evTy6, evTy7, evTy8, str_eq, bytesD_eq, g1, g2, g3, t1, t2, t3, callR_data f1 rfl rfl, callR_data f2 rfl rfl, callR_data f2b rfl rfl, callR_data f3 rfl rfl, encT, ne_eq, or_self, or_false, false_or, not_or, v1, v2, v3, v4, eB, callR_new f4 rfl, callR_new f6 rfl, callR_new f7 rfl, callR_data f8 rfl rfl]
          · simp only [s25, n25, ↓evPre, ev0, ev1, ev2, ev3, ev4, ev5, Nat.reduceLT, entE, getE, putE, ↓reduceIte, Nat.reduceEqDiff, argsE, Int.reduceEq, convertA, lenA, foldI, A.cells, A.leaf, List.replicate, viewA, getO, Nat.reduceLeDiff, loadA, cellsAt, cellsTo, faA, indexAddrA, asInt, Int.reduceLE, Int.reduceLT, Int.reduceToNat, eq_self, Nat.reducePow, Int.reducePow, Int.reduceAdd, Int.reduceMul, Int.reduceSub, Int.reduceNeg, keyOk, mapPutA, lookupA, mapOf, sliceA, boundI, elemsOf, appendA, storeA, setRange, indexA, Nat.reduceBEq, Int.cast_ofNat_Int, reduceCtorEq, Nat.reduceAdd, Nat.reduceMul, Nat.reduceSub, evTy0, evTy1, evTy2, evTy3, evTy4, evTy5, evTy6, evTy7, evTy8, str_eq, bytesD_eq, g1, g2, g3, t1, t2, t3, callR_data f1 rfl rfl, callR_data f2 rfl rfl, callR_data f2b rfl rfl, callR_data f3 rfl rfl, encT, ne_eq, or_self, or_false, false_or, not_or, v1, v2, v3, v4]
        · simp only [s25, n25, ↓evPre, ev0, ev1, ev2, ev3, ev4, ev5, Nat.reduceLT, entE, getE, putE, ↓reduceIte, Nat.reduceEqDiff, argsE, Int.reduceEq, convertA, lenA, foldI, A.cells, A.leaf, List.replicate, viewA, getO, Nat.reduceLeDiff, loadA, cellsAt, cellsTo, faA, indexAddrA, asInt, Int.reduceLE, Int.reduceLT, Int.reduceToNat, eq_self, Nat.reducePow, Int.reducePow, Int.reduceAdd, Int.reduceMul, Int.reduceSub, Int.reduceNeg, keyOk, mapPutA, lookupA, mapOf, sliceA, boundI, elemsOf, appendA, storeA, setRange, indexA, Nat.reduceBEq, Int.cast_ofNat_Int, reduceCtorEq, Nat.reduceAdd, Nat.reduceMul, Nat.reduceSub, evTy0, evTy1, evTy2, evTy3, evTy4, evTy5, evTy6, evTy7, evTy8, str_eq, bytesD_eq, g1, g2, g3, t1, t2, t3, callR_data f1 rfl rfl, callR_data f2 rfl rfl, callR_data f2b rfl rfl, callR_data f3 rfl rfl, encT, ne_eq, or_self, or_false, false_or, not_or, v1, v2, v3]
      · simp only [s25, n25, ↓evPre, ev0, ev1, ev2, ev3, ev4, ev5, Nat.reduceLT, entE, getE, putE, ↓reduceIte, Nat.reduceEqDiff, argsE, Int.reduceEq, convertA, lenA, foldI, A.cells, A.leaf, List.replicate, viewA, getO, Nat.reduceLeDiff, loadA, cellsAt, cellsTo, faA, indexAddrA, asInt, Int.reduceLE, Int.reduceLT, Int.reduceToNat, eq_self, Nat.reducePow, Int.reducePow, Int.reduceAdd, Int.reduceMul, Int.reduceSub, Int.reduceNeg, keyOk, mapPutA, lookupA, mapOf, sliceA, boundI, elemsOf, appendA, storeA, setRange, indexA, Nat.reduceBEq, Int.cast_ofNat_Int, reduceCtorEq, Nat.reduceAdd, Nat.reduceMul, Nat.reduceSub, evTy0, evTy1, evTy2, evTy3, evTy4, evTy5, evTy6, evTy7, evTy8, str_eq, bytesD_eq, g1, g2, g3, t1, t2, t3, callR_data f1 rfl rfl, callR_data f2 rfl rfl, callR_data f2b rfl rfl, callR_data f3 rfl rfl, encT, ne_eq, or_self, or_false, false_or, not_or, v1, v2]
    · simp only [s25, n25, ↓evPre, ev0, ev1, ev2, ev3, ev4, ev5, Nat.reduceLT, entE, getE, putE, ↓reduceIte, Nat.reduceEqDiff, argsE, Int.reduceEq, convertA, lenA, foldI, A.cells, A.leaf, List.replicate, viewA, getO, Nat.reduceLeDiff, loadA, cellsAt, cellsTo, faA, indexAddrA, asInt, Int.reduceLE, Int.reduceLT, Int.reduceToNat, eq_self, Nat.reducePow, Int.reducePow, Int.reduceAdd, Int.reduceMul, Int.reduceSub, Int.reduceNeg, keyOk, mapPutA, lookupA, mapOf, sliceA, boundI, elemsOf, appendA, storeA, setRange, indexA, Nat.reduceBEq, Int.cast_ofNat_Int, reduceCtorEq, Nat.reduceAdd, Nat.reduceMul, Nat.reduceSub, evTy0, evTy1, evTy2, evTy3, evTy4, evTy5, evTy6, evTy7, evTy8, str_eq, bytesD_eq, g1, g2, g3, t1, t2, t3, callR_data f1 rfl rfl, callR_data f2 rfl rfl, callR_data f2b rfl rfl, callR_data f3 rfl rfl, encT, ne_eq, or_self, or_false, false_or, not_or, v1]
  · have eB := eC c3
    have t1 := eq_false c1
    have t2 := eq_false c2
    have t3 := eq_true c3
    have g1 : (s.label = (⟨#[103, 84, 71, 83]⟩ : ByteArray)) = _ := t1
    have g2 : (s.label = (⟨#[103, 84, 75, 84]⟩ : ByteArray)) = _ := t2
    have g3 : (s.label = (⟨#[67, 80, 87, 108]⟩ : ByteArray)) = _ := t3
    by_cases v1 : tm s.time
    · by_cases v2 : validV s.key
      · by_cases v3 : s.start = 0
        · by_cases v4 : s.fin = 0
          · simp only [s25, n25, ↓evPre, ev0, ev1, ev2, ev3, ev4, ev5, Nat.reduceLT, entE, getE, putE, ↓reduceIte, Nat.reduceEqDiff, argsE, Int.reduceEq, convertA, lenA, foldI, A.cells, A.leaf, List.replicate, viewA, getO, Nat.reduceLeDiff, loadA, cellsAt, cellsTo, faA, indexAddrA, asInt, Int.reduceLE, Int.reduceLT, Int.reduceToNat, eq_self, Nat.reducePow, Int.reducePow, Int.reduceAdd, Int.reduceMul, Int.reduceSub, Int.reduceNeg, keyOk, mapPutA, lookupA, mapOf, sliceA, boundI, elemsOf, appendA, storeA, setRange, indexA, Nat.reduceBEq, Int.cast_ofNat_Int, reduceCtorEq, Nat.reduceAdd, Nat.reduceMul, Nat.reduceSub, evTy0, evTy1, evTy2, evTy3, evTy4, evTy5, evTy6, evTy7, evTy8, str_eq, bytesD_eq, g1, g2, g3, t1, t2, t3, callR_data f1 rfl rfl, callR_data f2 rfl rfl, callR_data f2b rfl rfl, callR_data f3 rfl rfl, encT, ne_eq, or_self, or_false, false_or, not_or, v1, v2, v3, v4, eB, callR_new f4 rfl, callR_data f5 rfl rfl, callR_data f9 rfl rfl, b8, hL4]
          · simp only [s25, n25, ↓evPre, ev0, ev1, ev2, ev3, ev4, ev5, Nat.reduceLT, entE, getE, putE, ↓reduceIte, Nat.reduceEqDiff, argsE, Int.reduceEq, convertA, lenA, foldI, A.cells, A.leaf, List.replicate, viewA, getO, Nat.reduceLeDiff, loadA, cellsAt, cellsTo, faA, indexAddrA, asInt, Int.reduceLE, Int.reduceLT, Int.reduceToNat, eq_self, Nat.reducePow, Int.reducePow, Int.reduceAdd, Int.reduceMul, Int.reduceSub, Int.reduceNeg, keyOk, mapPutA, lookupA, mapOf, sliceA, boundI, elemsOf, appendA, storeA, setRange, indexA, Nat.reduceBEq, Int.cast_ofNat_Int, reduceCtorEq, Nat.reduceAdd, Nat.reduceMul, Nat.reduceSub, evTy0, evTy1, evTy2, evTy3, evTy4, evTy5, evTy6, evTy7, evTy8, str_eq, bytesD_eq, g1, g2, g3, t1, t2, t3, callR_data f1 rfl rfl, callR_data f2 rfl rfl, callR_data f2b rfl rfl, callR_data f3 rfl rfl, encT, ne_eq, or_self, or_false, false_or, not_or, v1, v2, v3, v4]
        · simp only [s25, n25, ↓evPre, ev0, ev1, ev2, ev3, ev4, ev5, Nat.reduceLT, entE, getE, putE, ↓reduceIte, Nat.reduceEqDiff, argsE, Int.reduceEq, convertA, lenA, foldI, A.cells, A.leaf, List.replicate, viewA, getO, Nat.reduceLeDiff, loadA, cellsAt, cellsTo, faA, indexAddrA, asInt, Int.reduceLE, Int.reduceLT, Int.reduceToNat, eq_self, Nat.reducePow, Int.reducePow, Int.reduceAdd, Int.reduceMul, Int.reduceSub, Int.reduceNeg, keyOk, mapPutA, lookupA, mapOf, sliceA, boundI, elemsOf, appendA, storeA, setRange, indexA, Nat.reduceBEq, Int.cast_ofNat_Int, reduceCtorEq, Nat.reduceAdd, Nat.reduceMul, Nat.reduceSub, evTy0, evTy1, evTy2, evTy3, evTy4, evTy5, evTy6, evTy7, evTy8, str_eq, bytesD_eq, g1, g2, g3, t1, t2, t3, callR_data f1 rfl rfl, callR_data f2 rfl rfl, callR_data f2b rfl rfl, callR_data f3 rfl rfl, encT, ne_eq, or_self, or_false, false_or, not_or, v1, v2, v3]
      · simp only [s25, n25, ↓evPre, ev0, ev1, ev2, ev3, ev4, ev5, Nat.reduceLT, entE, getE, putE, ↓reduceIte, Nat.reduceEqDiff, argsE, Int.reduceEq, convertA, lenA, foldI, A.cells, A.leaf, List.replicate, viewA, getO, Nat.reduceLeDiff, loadA, cellsAt, cellsTo, faA, indexAddrA, asInt, Int.reduceLE, Int.reduceLT, Int.reduceToNat, eq_self, Nat.reducePow, Int.reducePow, Int.reduceAdd, Int.reduceMul, Int.reduceSub, Int.reduceNeg, keyOk, mapPutA, lookupA, mapOf, sliceA, boundI, elemsOf, appendA, storeA, setRange, indexA, Nat.reduceBEq, Int.cast_ofNat_Int, reduceCtorEq, Nat.reduceAdd, Nat.reduceMul, Nat.reduceSub, evTy0, evTy1, evTy2, evTy3, evTy4, evTy5, evTy6, evTy7, evTy8, str_eq, bytesD_eq, g1, g2, g3, t1, t2, t3, callR_data f1 rfl rfl, callR_data f2 rfl rfl, callR_data f2b rfl rfl, callR_data f3 rfl rfl, encT, ne_eq, or_self, or_false, false_or, not_or, v1, v2]
    · simp only [s25, n25, ↓evPre, ev0, ev1, ev2, ev3, ev4, ev5, Nat.reduceLT, entE, getE, putE, ↓reduceIte, Nat.reduceEqDiff, argsE, Int.reduceEq, convertA, lenA, foldI, A.cells, A.leaf, List.replicate, viewA, getO, Nat.reduceLeDiff, loadA, cellsAt, cellsTo, faA, indexAddrA, asInt, Int.reduceLE, Int.reduceLT, Int.reduceToNat, eq_self, Nat.reducePow, Int.reducePow, Int.reduceAdd, Int.reduceMul, Int.reduceSub, Int.reduceNeg, keyOk, mapPutA, lookupA, mapOf, sliceA, boundI, elemsOf, appendA, storeA, setRange, indexA, Nat.reduceBEq, Int.cast_ofNat_Int, reduceCtorEq, Nat.reduceAdd, Nat.reduceMul, Nat.reduceSub, evTy0, evTy1, evTy2, evTy3, evTy4, evTy5, evTy6, evTy7, evTy8, str_eq, bytesD_eq, g1, g2, g3, t1, t2, t3, callR_data f1 rfl rfl, callR_data f2 rfl rfl, callR_data f2b rfl rfl, callR_data f3 rfl rfl, encT, ne_eq, or_self, or_false, false_or, not_or, v1]
  · have t1 := eq_false c1
    have t2 := eq_false c2
    have t3 := eq_false c3
    have g1 : (s.label = (⟨#[103, 84, 71, 83]⟩ : ByteArray)) = _ := t1
    have g2 : (s.label = (⟨#[103, 84, 75, 84]⟩ : ByteArray)) = _ := t2
    have g3 : (s.label = (⟨#[67, 80, 87, 108]⟩ : ByteArray)) = _ := t3
    simp only [s25, n25, ↓evPre, ev0, ev1, ev2, ev3, ev4, ev5, Nat.reduceLT, entE, getE, putE, ↓reduceIte, Nat.reduceEqDiff, argsE, Int.reduceEq, convertA, lenA, foldI, A.cells, A.leaf, List.replicate, viewA, getO, Nat.reduceLeDiff, loadA, cellsAt, cellsTo, faA, indexAddrA, asInt, Int.reduceLE, Int.reduceLT, Int.reduceToNat, eq_self, Nat.reducePow, Int.reducePow, Int.reduceAdd, Int.reduceMul, Int.reduceSub, Int.reduceNeg, keyOk, mapPutA, lookupA, mapOf, sliceA, boundI, elemsOf, appendA, storeA, setRange, indexA, Nat.reduceBEq, Int.cast_ofNat_Int, reduceCtorEq, Nat.reduceAdd, Nat.reduceMul, Nat.reduceSub, evTy0, evTy1, evTy2, evTy3, evTy4, evTy5, evTy6, evTy7, evTy8, str_eq, bytesD_eq, g1, g2, g3, t1, t2, t3, callR_data f1 rfl rfl, callR_data f2 rfl rfl, callR_data f2b rfl rfl, callR_data f3 rfl rfl, encT, ne_eq, or_self, or_false, false_or, not_or, ints_nil]
end Ka
end Ab
namespace Ab
open Go Go.Proofs Go.IntWalk
set_option maxRecDepth 10000
set_option linter.unusedSimpArgs false
set_option linter.unusedVariables false
namespace Ka
open Pr Key Fi

structure Ask where
  op : Int
  user : Int
  kvno : Int
  serv : Int
  label : Int
  time : Int
  start : Int
  fin : Int
  key : Int
  tick : List Int
  box : List Int
  extra : Int

def b8 (n : Int) : Prop := 0 ≤ n ∧ n ≤ 255
def Ask.ok (a : Ask) : Prop := (b8 a.op ∧ b8 a.user ∧ b8 a.kvno ∧ b8 a.serv ∧ b8 a.label) ∧ (tm a.time ∧ tm a.start ∧ tm a.fin) ∧ b8 a.key ∧ (okL a.tick ∧ okL a.box) ∧ b8 a.extra

def secLab (n : Int) : ByteArray := if n % 4 = 0 then lGet else if n % 4 = 1 then lTicket else if n % 4 = 2 then lChange else lDone
def askSec (a : Ask) : Sec := ⟨secLab a.label, a.time, if a.label % 4 ≠ 2 ∨ a.extra % 16 = 9 then a.start else 0, if a.label % 4 ≠ 2 ∨ a.extra % 16 = 9 then a.fin else 0, if a.label % 4 = 2 ∨ a.extra % 16 = 10 then 72057594037927936 + (1 + a.key) else 0⟩

theorem Long_ev (k : Nat) (hk : 1 ≤ k) (n : Int) (hn : 0 ≤ n ∧ n ≤ 1000000) : callF Try.prog Hs E1 k 68 [.d (.int .i64 n)] [] = some (.d (.int .u64 (72057594037927936 + (1 + n))), []) := by
  obtain ⟨k, rfl⟩ : ∃ j, k = j + 1 := ⟨k - 1, by omega⟩
  refine evalE rfl Try.func68 l68 ?_ (Nat.le_of_ble_eq_true rfl)
  have w1 := i64_in (1 + n) (by omega)
  have w2 := u64_in (1 + n) (by omega)
  have o := or1 (s := 1 + n) (by omega)
  simp only [s68, n68, ↓evPre, ev0, ev1, ev2, ev3, ev4, ev5, Nat.reduceLT, entE, getE, putE, ↓reduceIte, Nat.reduceEqDiff, argsE, Int.reduceEq, convertA, lenA, foldI, A.cells, A.leaf, List.replicate, viewA, getO, Nat.reduceLeDiff, loadA, cellsAt, cellsTo, faA, indexAddrA, asInt, Int.reduceLE, Int.reduceLT, Int.reduceToNat, eq_self, Nat.reducePow, Int.reducePow, Int.reduceAdd, Int.reduceMul, Int.reduceSub, Int.reduceNeg, keyOk, mapPutA, lookupA, mapOf, sliceA, boundI, elemsOf, appendA, storeA, setRange, indexA, Nat.reduceBEq, Int.cast_ofNat_Int, reduceCtorEq, Nat.reduceAdd, Nat.reduceMul, Nat.reduceSub, evTy0, evTy1, evTy2, evTy3, evTy4, evTy5, evTy6, evTy7, evTy8, w1, w2, o]

theorem secret_ev (k : Nat) (hk : 5 ≤ k) (a : Ask) (ha : a.ok) : callF Try.prog Hs E1 k 23 [.agg [.d (.int .u8 a.op), .d (.int .u8 a.user), .d (.int .u8 a.kvno), .d (.int .u8 a.serv), .d (.int .u8 a.label), .d (.int .u32 a.time), .d (.int .u32 a.start), .d (.int .u32 a.fin), .d (.int .u8 a.key), .d (.sl 1 (ints .u8 a.tick)), .d (.sl 1 (ints .u8 a.box)), .d (.int .u8 a.extra)]] [] =
    some (.agg [.d (.str (askSec a).label), .d (.int .i64 (askSec a).time), .d (.int .i64 (askSec a).start), .d (.int .i64 (askSec a).fin), .d (.int .u64 (askSec a).key)], []) := by
  obtain ⟨k, rfl⟩ : ∃ j, k = j + 1 := ⟨k - 1, by omega⟩
  refine evalE rfl Try.func23 l23 ?_ (Nat.le_of_ble_eq_true rfl)
  obtain ⟨⟨_, _, _, _, h1⟩, ⟨h2, h3, h4⟩, h5, _, h6⟩ := ha
  simp only [b8, tm] at h1 h2 h3 h4 h5 h6
  have w1 := i64_in a.label (by omega)
  obtain ⟨t1, t2, t3⟩ := tmodB (m := 4) h1.1 (by omega)
  have w2 := i64_in a.time (by omega)
  have w3 := i64_in a.start (by omega)
  have w4 := i64_in a.fin (by omega)
  have w5 := i64_in a.key (by omega)
  obtain ⟨u1, u2, u3⟩ := tmodB (m := 16) h6.1 (by omega)
  have f1 := Long_ev k (by omega) a.key (by omega)
  have e1 : ((⟨#[103, 84, 71, 83]⟩ : ByteArray) = ⟨#[67, 80, 87, 108]⟩) = False := eq_false (by decide)
  have e2 : ((⟨#[103, 84, 75, 84]⟩ : ByteArray) = ⟨#[67, 80, 87, 108]⟩) = False := eq_false (by decide)
  have e3 : ((⟨#[67, 80, 87, 100]⟩ : ByteArray) = ⟨#[67, 80, 87, 108]⟩) = False := eq_false (by decide)
  unfold askSec secLab
  have hm : a.label % 4 = 0 ∨ a.label % 4 = 1 ∨ a.label % 4 = 2 ∨ a.label % 4 = 3 := by omega
  by_cases x1 : a.extra % 16 = 10
  · have x2 : ¬ a.extra % 16 = 9 := by omega
    rcases hm with hm | hm | hm | hm
    all_goals simp only [s23, n23, ↓evPre, ev0, ev1, ev2, ev3, ev4, ev5, Nat.reduceLT, entE, getE, putE, ↓reduceIte, Nat.reduceEqDiff, argsE, Int.reduceEq, convertA, lenA, foldI, A.cells, A.leaf, List.replicate, viewA, getO, Nat.reduceLeDiff, loadA, cellsAt, cellsTo, faA, indexAddrA, asInt, Int.reduceLE, Int.reduceLT, Int.reduceToNat, eq_self, Nat.reducePow, Int.reducePow, Int.reduceAdd, Int.reduceMul, Int.reduceSub, Int.reduceNeg, keyOk, mapPutA, lookupA, mapOf, sliceA, boundI, elemsOf, appendA, storeA, setRange, indexA, Nat.reduceBEq, Int.cast_ofNat_Int, reduceCtorEq, Nat.reduceAdd, Nat.reduceMul, Nat.reduceSub, evTy0, evTy1, evTy2, evTy3, evTy4, evTy5, evTy6, evTy7, evTy8, str_eq, e1, e2, e3, w1, t1, hm, w2, w3, w4, w5, u1, x1, x2, callR_data f1 rfl rfl, lGet, lTicket, lChange, lDone, ne_eq, or_self, false_or, or_false]
  · by_cases x2 : a.extra % 16 = 9
    · rcases hm with hm | hm | hm | hm
      all_goals simp only [s23, n23, ↓evPre, ev0, ev1, ev2, ev3, ev4, ev5, Nat.reduceLT, entE, getE, putE, ↓reduceIte, Nat.reduceEqDiff, argsE, Int.reduceEq, convertA, lenA, foldI, A.cells, A.leaf, List.replicate, viewA, getO, Nat.reduceLeDiff, loadA, cellsAt, cellsTo, faA, indexAddrA, asInt, Int.reduceLE, Int.reduceLT, Int.reduceToNat, eq_self, Nat.reducePow, Int.reducePow, Int.reduceAdd, Int.reduceMul, Int.reduceSub, Int.reduceNeg, keyOk, mapPutA, lookupA, mapOf, sliceA, boundI, elemsOf, appendA, storeA, setRange, indexA, Nat.reduceBEq, Int.cast_ofNat_Int, reduceCtorEq, Nat.reduceAdd, Nat.reduceMul, Nat.reduceSub, evTy0, evTy1, evTy2, evTy3, evTy4, evTy5, evTy6, evTy7, evTy8, str_eq, e1, e2, e3, w1, t1, hm, w2, w3, w4, w5, u1, x1, x2, callR_data f1 rfl rfl, lGet, lTicket, lChange, lDone, ne_eq, or_self, false_or, or_false]
    · rcases hm with hm | hm | hm | hm
      all_goals simp only [s23, n23, ↓evPre, ev0, ev1, ev2, ev3, ev4, ev5, Nat.reduceLT, entE, getE, putE, ↓reduceIte, Nat.reduceEqDiff, argsE, Int.reduceEq, convertA, lenA, foldI, A.cells, A.leaf, List.replicate, viewA, getO, Nat.reduceLeDiff, loadA, cellsAt, cellsTo, faA, indexAddrA, asInt, Int.reduceLE, Int.reduceLT, Int.reduceToNat, eq_self, Nat.reducePow, Int.reducePow, Int.reduceAdd, Int.reduceMul, Int.reduceSub, Int.reduceNeg, keyOk, mapPutA, lookupA, mapOf, sliceA, boundI, elemsOf, appendA, storeA, setRange, indexA, Nat.reduceBEq, Int.cast_ofNat_Int, reduceCtorEq, Nat.reduceAdd, Nat.reduceMul, Nat.reduceSub, evTy0, evTy1, evTy2, evTy3, evTy4, evTy5, evTy6, evTy7, evTy8, str_eq, e1, e2, e3, w1, t1, hm, w2, w3, w4, w5, u1, x1, x2, callR_data f1 rfl rfl, lGet, lTicket, lChange, lDone, ne_eq, or_self, false_or, or_false]
end Ka
end Ab
namespace Ab
open Go Go.Proofs Go.IntWalk
set_option maxRecDepth 10000
set_option linter.unusedSimpArgs false
set_option linter.unusedVariables false
namespace Ka
open Pr Key Fi

theorem secB_ok (s : Sec) : okL (secB s) := by
  unfold secB
  refine padV_ok ?_
  rw [okL_app, okL_app]
  refine ⟨bOf_ok _, wb4_ok _, ?_⟩
  split
  · exact bytesV_ok _
  · rw [okL_app]; exact ⟨wb4_ok _, wb4_ok _⟩

theorem secB_len (s : Sec) (h : s.label.size ≤ 100) : (secB s).length ≤ 60000 := by
  unfold secB
  have hl := bOf_len s.label
  have b8 : (bytesV s.key).length = 8 := rfl
  refine Nat.le_trans (padV_len _) ?_
  split <;> simp [wb4, b8] <;> omega

theorem askSec_ok {a : Ask} (h : a.ok) : (askSec a).label.size ≤ 100 ∧ 0 ≤ (askSec a).key ∧ (askSec a).key ≤ 18446744073709551615 := by
  obtain ⟨_, _, h5, _, _⟩ := h
  simp only [b8] at h5
  refine ⟨?_, ?_⟩
  · unfold askSec secLab
    simp only
    repeat' split
    all_goals decide
  · unfold askSec
    simp only
    split <;> omega

theorem Sec_loop (k : Nat) (hk : 400 ≤ k) (s : Sec) (hs1' : s.label.size ≤ 100) (hk1' : 0 ≤ s.key ∧ s.key ≤ 18446744073709551615) (a : Ask) (ha : a.ok) (K : X → Env → Store → Res) (res : Res) :
    ∀ (j : Nat) (z : Int) (e : Env) (o : Store), (∀ K, headE 64 0 (some ([2, 3, 5], 0)) e o K = K (.cons 2 (.bp 0 0) (.cons 3 (.bp 1 0) (.cons 5 (.d (.int .i64 z)) (.nil .top)))) [.box [.d (.str s.label), .d (.int .i64 s.time), .d (.int .i64 s.start), .d (.int .i64 s.fin), .d (.int .u64 s.key)],
        .box [.d (.int .u8 a.op), .d (.int .u8 a.user), .d (.int .u8 a.kvno), .d (.int .u8 a.serv), .d (.int .u8 a.label), .d (.int .u32 a.time), .d (.int .u32 a.start), .d (.int .u32 a.fin), .d (.int .u8 a.key), .d (.sl 1 (ints .u8 a.tick)), .d (.sl 1 (ints .u8 a.box)), .d (.int .u8 a.extra)]]) →
      0 ≤ z → z ≤ 2 → 2 - z < j →
      (∀ e o, K (.exit 0) e o = res) →
      loopC Try.prog Hs (callF Try.prog Hs E1 k) 64 k 0 (some ([2, 3, 5], 0)) s6_0 j e o K ⟨0⟩ = res := by
  generalize hS : s6_0 = S
  intro j
  induction j with
  | zero => intro z e o hh hz hz2 hj; omega
  | succ j ih =>
    intro z e o hh hz hz2 hj hX
    rw [l_succ2 hS, hh]
    have f0 := secret_ev k (by omega) a ha
    have st0 : strOf [] = some [] := rfl
    have hA := askSec_ok ha
    generalize askSec a = s2 at f0 hA
    have h4 : z = 0 ∨ z = 1 ∨ z = 2 := by omega
    rcases h4 with rfl | rfl | rfl
    · have hs1 := hs1'
      have hk1 := hk1'
      have f1 := EncSec_ev k (by omega) s hs1 hk1
      have f2 := REncSec_ev k (by omega) s hs1 hk1
      by_cases he : secE s = 0
      · have e1 : encSec s = (secB s, 0) := by unfold encSec; rw [if_pos he]
        rw [e1] at f1 f2
        have f3 := DecSec_ev k (by omega) (secB s) (secB_len _ hs1) (secB_ok _)
        rw [sec_round he] at f3
        generalize secB s = B at *
        simp only [encT, secT] at f1 f2 f3
        simp only [s6_0, ↓evPre, ev0, ev1, ev2, ev3, ev4, ev5, Nat.reduceLT, entE, getE, putE, ↓reduceIte, Nat.reduceEqDiff, argsE, Int.reduceEq, convertA, lenA, foldI, A.cells, A.leaf, List.replicate, viewA, getO, Nat.reduceLeDiff, loadA, cellsAt, cellsTo, faA, indexAddrA, asInt, Int.reduceLE, Int.reduceLT, Int.reduceToNat, eq_self, Nat.reducePow, Int.reducePow, Int.reduceAdd, Int.reduceMul, Int.reduceSub, Int.reduceNeg, keyOk, mapPutA, lookupA, mapOf, sliceA, boundI, elemsOf, appendA, storeA, setRange, indexA, Nat.reduceBEq, Int.cast_ofNat_Int, reduceCtorEq, Nat.reduceAdd, Nat.reduceMul, Nat.reduceSub, evTy0, evTy1, evTy2, evTy3, evTy4, evTy5, evTy6, evTy7, evTy8, callR_data f0 rfl rfl, callR_data f1 rfl rfl, callR_data f2 rfl rfl, callR_data f3 rfl rfl, strOf_ints]
        exact ih 1 _ _ (fun K => by simp only [↓evPre, ev0, ev1, ev2, ev3, ev4, ev5, Nat.reduceLT, entE, getE, putE, ↓reduceIte, Nat.reduceEqDiff, argsE, Int.reduceEq, convertA, lenA, foldI, A.cells, A.leaf, List.replicate, viewA, getO, Nat.reduceLeDiff, loadA, cellsAt, cellsTo, faA, indexAddrA, asInt, Int.reduceLE, Int.reduceLT, Int.reduceToNat, eq_self, Nat.reducePow, Int.reducePow, Int.reduceAdd, Int.reduceMul, Int.reduceSub, Int.reduceNeg, keyOk, mapPutA, lookupA, mapOf, sliceA, boundI, elemsOf, appendA, storeA, setRange, indexA, Nat.reduceBEq, Int.cast_ofNat_Int, reduceCtorEq, Nat.reduceAdd, Nat.reduceMul, Nat.reduceSub, evTy0, evTy1, evTy2, evTy3, evTy4, evTy5, evTy6, evTy7, evTy8]) (by omega) (by omega) (by omega) hX
      · have e1 : encSec s = ([], secE s) := by unfold encSec; rw [if_neg he]
        rw [e1] at f1 f2
        generalize secE s = ee at *
        simp only [encT, ints_nil] at f1 f2
        simp only [s6_0, ↓evPre, ev0, ev1, ev2, ev3, ev4, ev5, Nat.reduceLT, entE, getE, putE, ↓reduceIte, Nat.reduceEqDiff, argsE, Int.reduceEq, convertA, lenA, foldI, A.cells, A.leaf, List.replicate, viewA, getO, Nat.reduceLeDiff, loadA, cellsAt, cellsTo, faA, indexAddrA, asInt, Int.reduceLE, Int.reduceLT, Int.reduceToNat, eq_self, Nat.reducePow, Int.reducePow, Int.reduceAdd, Int.reduceMul, Int.reduceSub, Int.reduceNeg, keyOk, mapPutA, lookupA, mapOf, sliceA, boundI, elemsOf, appendA, storeA, setRange, indexA, Nat.reduceBEq, Int.cast_ofNat_Int, reduceCtorEq, Nat.reduceAdd, Nat.reduceMul, Nat.reduceSub, evTy0, evTy1, evTy2, evTy3, evTy4, evTy5, evTy6, evTy7, evTy8, callR_data f0 rfl rfl, callR_data f1 rfl rfl, callR_data f2 rfl rfl, he, st0]
        exact ih 1 _ _ (fun K => by simp only [↓evPre, ev0, ev1, ev2, ev3, ev4, ev5, Nat.reduceLT, entE, getE, putE, ↓reduceIte, Nat.reduceEqDiff, argsE, Int.reduceEq, convertA, lenA, foldI, A.cells, A.leaf, List.replicate, viewA, getO, Nat.reduceLeDiff, loadA, cellsAt, cellsTo, faA, indexAddrA, asInt, Int.reduceLE, Int.reduceLT, Int.reduceToNat, eq_self, Nat.reducePow, Int.reducePow, Int.reduceAdd, Int.reduceMul, Int.reduceSub, Int.reduceNeg, keyOk, mapPutA, lookupA, mapOf, sliceA, boundI, elemsOf, appendA, storeA, setRange, indexA, Nat.reduceBEq, Int.cast_ofNat_Int, reduceCtorEq, Nat.reduceAdd, Nat.reduceMul, Nat.reduceSub, evTy0, evTy1, evTy2, evTy3, evTy4, evTy5, evTy6, evTy7, evTy8]) (by omega) (by omega) (by omega) hX
    · have hs1 := hA.1
      have hk1 := hA.2
      have f1 := EncSec_ev k (by omega) s2 hs1 hk1
      have f2 := REncSec_ev k (by omega) s2 hs1 hk1
      by_cases he : secE s2 = 0
      · have e1 : encSec s2 = (secB s2, 0) := by unfold encSec; rw [if_pos he]
        rw [e1] at f1 f2
        have f3 := DecSec_ev k (by omega) (secB s2) (secB_len _ hs1) (secB_ok _)
        rw [sec_round he] at f3
        generalize secB s2 = B at *
        simp only [encT, secT] at f1 f2 f3
        simp only [s6_0, ↓evPre, ev0, ev1, ev2, ev3, ev4, ev5, Nat.reduceLT, entE, getE, putE, ↓reduceIte, Nat.reduceEqDiff, argsE, Int.reduceEq, convertA, lenA, foldI, A.cells, A.leaf, List.replicate, viewA, getO, Nat.reduceLeDiff, loadA, cellsAt, cellsTo, faA, indexAddrA, asInt, Int.reduceLE, Int.reduceLT, Int.reduceToNat, eq_self, Nat.reducePow, Int.reducePow, Int.reduceAdd, Int.reduceMul, Int.reduceSub, Int.reduceNeg, keyOk, mapPutA, lookupA, mapOf, sliceA, boundI, elemsOf, appendA, storeA, setRange, indexA, Nat.reduceBEq, Int.cast_ofNat_Int, reduceCtorEq, Nat.reduceAdd, Nat.reduceMul, Nat.reduceSub, evTy0, evTy1, evTy2, evTy3, evTy4, evTy5, evTy6, evTy7, evTy8, callR_data f0 rfl rfl, callR_data f1 rfl rfl, callR_data f2 rfl rfl, callR_data f3 rfl rfl, strOf_ints]
        exact ih 2 _ _ (fun K => by simp only [↓evPre, ev0, ev1, ev2, ev3, ev4, ev5, Nat.reduceLT, entE, getE, putE, ↓reduceIte, Nat.reduceEqDiff, argsE, Int.reduceEq, convertA, lenA, foldI, A.cells, A.leaf, List.replicate, viewA, getO, Nat.reduceLeDiff, loadA, cellsAt, cellsTo, faA, indexAddrA, asInt, Int.reduceLE, Int.reduceLT, Int.reduceToNat, eq_self, Nat.reducePow, Int.reducePow, Int.reduceAdd, Int.reduceMul, Int.reduceSub, Int.reduceNeg, keyOk, mapPutA, lookupA, mapOf, sliceA, boundI, elemsOf, appendA, storeA, setRange, indexA, Nat.reduceBEq, Int.cast_ofNat_Int, reduceCtorEq, Nat.reduceAdd, Nat.reduceMul, Nat.reduceSub, evTy0, evTy1, evTy2, evTy3, evTy4, evTy5, evTy6, evTy7, evTy8]) (by omega) (by omega) (by omega) hX
      · have e1 : encSec s2 = ([], secE s2) := by unfold encSec; rw [if_neg he]
        rw [e1] at f1 f2
        generalize secE s2 = ee at *
        simp only [encT, ints_nil] at f1 f2
        simp only [s6_0, ↓evPre, ev0, ev1, ev2, ev3, ev4, ev5, Nat.reduceLT, entE, getE, putE, ↓reduceIte, Nat.reduceEqDiff, argsE, Int.reduceEq, convertA, lenA, foldI, A.cells, A.leaf, List.replicate, viewA, getO, Nat.reduceLeDiff, loadA, cellsAt, cellsTo, faA, indexAddrA, asInt, Int.reduceLE, Int.reduceLT, Int.reduceToNat, eq_self, Nat.reducePow, Int.reducePow, Int.reduceAdd, Int.reduceMul, Int.reduceSub, Int.reduceNeg, keyOk, mapPutA, lookupA, mapOf, sliceA, boundI, elemsOf, appendA, storeA, setRange, indexA, Nat.reduceBEq, Int.cast_ofNat_Int, reduceCtorEq, Nat.reduceAdd, Nat.reduceMul, Nat.reduceSub, evTy0, evTy1, evTy2, evTy3, evTy4, evTy5, evTy6, evTy7, evTy8, callR_data f0 rfl rfl, callR_data f1 rfl rfl, callR_data f2 rfl rfl, he, st0]
        exact ih 2 _ _ (fun K => by simp only [↓evPre, ev0, ev1, ev2, ev3, ev4, ev5, Nat.reduceLT, entE, getE, putE, ↓reduceIte, Nat.reduceEqDiff, argsE, Int.reduceEq, convertA, lenA, foldI, A.cells, A.leaf, List.replicate, viewA, getO, Nat.reduceLeDiff, loadA, cellsAt, cellsTo, faA, indexAddrA, asInt, Int.reduceLE, Int.reduceLT, Int.reduceToNat, eq_self, Nat.reducePow, Int.reducePow, Int.reduceAdd, Int.reduceMul, Int.reduceSub, Int.reduceNeg, keyOk, mapPutA, lookupA, mapOf, sliceA, boundI, elemsOf, appendA, storeA, setRange, indexA, Nat.reduceBEq, Int.cast_ofNat_Int, reduceCtorEq, Nat.reduceAdd, Nat.reduceMul, Nat.reduceSub, evTy0, evTy1, evTy2, evTy3, evTy4, evTy5, evTy6, evTy7, evTy8]) (by omega) (by omega) (by omega) hX
    · simp only [s6_0, ↓evPre, ev0, ev1, ev2, ev3, ev4, ev5, Nat.reduceLT, entE, getE, putE, ↓reduceIte, Nat.reduceEqDiff, argsE, Int.reduceEq, convertA, lenA, foldI, A.cells, A.leaf, List.replicate, viewA, getO, Nat.reduceLeDiff, loadA, cellsAt, cellsTo, faA, indexAddrA, asInt, Int.reduceLE, Int.reduceLT, Int.reduceToNat, eq_self, Nat.reducePow, Int.reducePow, Int.reduceAdd, Int.reduceMul, Int.reduceSub, Int.reduceNeg, keyOk, mapPutA, lookupA, mapOf, sliceA, boundI, elemsOf, appendA, storeA, setRange, indexA, Nat.reduceBEq, Int.cast_ofNat_Int, reduceCtorEq, Nat.reduceAdd, Nat.reduceMul, Nat.reduceSub, evTy0, evTy1, evTy2, evTy3, evTy4, evTy5, evTy6, evTy7, evTy8]
      exact hX _ _

theorem Secrets_law (k : Nat) (hk : 500 ≤ k) (s : Sec) (hkey : 0 ≤ s.key ∧ s.key ≤ 18446744073709551615) (a : Ask) (ha : a.ok) :
    callF Try.prog Hs E1 k 6 [.agg [.d (.str s.label), .d (.int .i64 s.time), .d (.int .i64 s.start), .d (.int .i64 s.fin), .d (.int .u64 s.key)], .agg [.d (.int .u8 a.op), .d (.int .u8 a.user), .d (.int .u8 a.kvno), .d (.int .u8 a.serv), .d (.int .u8 a.label), .d (.int .u32 a.time), .d (.int .u32 a.start), .d (.int .u32 a.fin), .d (.int .u8 a.key), .d (.sl 1 (ints .u8 a.tick)), .d (.sl 1 (ints .u8 a.box)), .d (.int .u8 a.extra)]] [] = some (.d (.bool true), []) := by
  obtain ⟨k, rfl⟩ : ∃ j, k = j + 1 := ⟨k - 1, by omega⟩
  refine evalE rfl Try.func6 l6 ?_ (Nat.le_of_ble_eq_true rfl)
  have aw := awake_ev k (by omega)
  by_cases h1 : 100 < (s.label.size : Int)
  · simp only [s6, n6, ↓evPre, ev0, ev1, ev2, ev3, ev4, ev5, Nat.reduceLT, entE, getE, putE, ↓reduceIte, Nat.reduceEqDiff, argsE, Int.reduceEq, convertA, lenA, foldI, A.cells, A.leaf, List.replicate, viewA, getO, Nat.reduceLeDiff, loadA, cellsAt, cellsTo, faA, indexAddrA, asInt, Int.reduceLE, Int.reduceLT, Int.reduceToNat, eq_self, Nat.reducePow, Int.reducePow, Int.reduceAdd, Int.reduceMul, Int.reduceSub, Int.reduceNeg, keyOk, mapPutA, lookupA, mapOf, sliceA, boundI, elemsOf, appendA, storeA, setRange, indexA, Nat.reduceBEq, Int.cast_ofNat_Int, reduceCtorEq, Nat.reduceAdd, Nat.reduceMul, Nat.reduceSub, evTy0, evTy1, evTy2, evTy3, evTy4, evTy5, evTy6, evTy7, evTy8, callR_data aw rfl rfl, h1]
  simp only [s6, n6, ↓evPre, ev0, ev1, ev2, ev3, ev4, ev5, Nat.reduceLT, entE, getE, putE, ↓reduceIte, Nat.reduceEqDiff, argsE, Int.reduceEq, convertA, lenA, foldI, A.cells, A.leaf, List.replicate, viewA, getO, Nat.reduceLeDiff, loadA, cellsAt, cellsTo, faA, indexAddrA, asInt, Int.reduceLE, Int.reduceLT, Int.reduceToNat, eq_self, Nat.reducePow, Int.reducePow, Int.reduceAdd, Int.reduceMul, Int.reduceSub, Int.reduceNeg, keyOk, mapPutA, lookupA, mapOf, sliceA, boundI, elemsOf, appendA, storeA, setRange, indexA, Nat.reduceBEq, Int.cast_ofNat_Int, reduceCtorEq, Nat.reduceAdd, Nat.reduceMul, Nat.reduceSub, evTy0, evTy1, evTy2, evTy3, evTy4, evTy5, evTy6, evTy7, evTy8, callR_data aw rfl rfl, h1]
  refine Sec_loop k (by omega) s (by omega) hkey a ha _ _ k 0 _ _ (fun K => by simp only [↓evPre, ev0, ev1, ev2, ev3, ev4, ev5, Nat.reduceLT, entE, getE, putE, ↓reduceIte, Nat.reduceEqDiff, argsE, Int.reduceEq, convertA, lenA, foldI, A.cells, A.leaf, List.replicate, viewA, getO, Nat.reduceLeDiff, loadA, cellsAt, cellsTo, faA, indexAddrA, asInt, Int.reduceLE, Int.reduceLT, Int.reduceToNat, eq_self, Nat.reducePow, Int.reducePow, Int.reduceAdd, Int.reduceMul, Int.reduceSub, Int.reduceNeg, keyOk, mapPutA, lookupA, mapOf, sliceA, boundI, elemsOf, appendA, storeA, setRange, indexA, Nat.reduceBEq, Int.cast_ofNat_Int, reduceCtorEq, Nat.reduceAdd, Nat.reduceMul, Nat.reduceSub, evTy0, evTy1, evTy2, evTy3, evTy4, evTy5, evTy6, evTy7, evTy8]) (by omega) (by omega) (by omega) (fun e o => ?_)
  simp only [s6, n6, ↓evPre, ev0, ev1, ev2, ev3, ev4, ev5, Nat.reduceLT, entE, getE, putE, ↓reduceIte, Nat.reduceEqDiff, argsE, Int.reduceEq, convertA, lenA, foldI, A.cells, A.leaf, List.replicate, viewA, getO, Nat.reduceLeDiff, loadA, cellsAt, cellsTo, faA, indexAddrA, asInt, Int.reduceLE, Int.reduceLT, Int.reduceToNat, eq_self, Nat.reducePow, Int.reducePow, Int.reduceAdd, Int.reduceMul, Int.reduceSub, Int.reduceNeg, keyOk, mapPutA, lookupA, mapOf, sliceA, boundI, elemsOf, appendA, storeA, setRange, indexA, Nat.reduceBEq, Int.cast_ofNat_Int, reduceCtorEq, Nat.reduceAdd, Nat.reduceMul, Nat.reduceSub, evTy0, evTy1, evTy2, evTy3, evTy4, evTy5, evTy6, evTy7, evTy8]
end Ka
end Ab
