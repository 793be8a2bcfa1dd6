/- A part of the proof of a row by an interpreter that is proved sound; no conditions of its own. -/
import Derived.Test.YtipfkflogjfbjaaAbKeyb
namespace Ab
open Go Go.Proofs Go.IntWalk
set_option maxRecDepth 10000
set_option linter.unusedSimpArgs false
set_option linter.unusedVariables false
namespace Cv
open Pr Key

def sel3 (a b c : ByteArray) (i : Int) : ByteArray := if i = 0 then a else if i = 1 then b else c

def realmS (n : Int) : ByteArray := sel3 ⟨#[65, 84, 72]⟩ ⟨#[66, 79, 83]⟩ ⟨#[67, 65, 77]⟩ (n % 3)

theorem mod3 {n : Int} (h : 0 ≤ n) : n.tmod 3 = n % 3 ∧ (n % 3 = 0 ∨ n % 3 = 1 ∨ n % 3 = 2) := by
  refine ⟨Int.tmod_eq_emod_of_nonneg h, ?_⟩
  omega

theorem Realms_ev (k : Nat) (hk : 1 ≤ k) : callF Try.prog Hs E1 k 92 [] [] = some (.d (.sl 1 [[.str ⟨#[65, 84, 72]⟩], [.str ⟨#[66, 79, 83]⟩], [.str ⟨#[67, 65, 77]⟩]]), []) := by
  obtain ⟨k, rfl⟩ : ∃ j, k = j + 1 := ⟨k - 1, by omega⟩
  refine evalE rfl Try.func92 l92 ?_ (Nat.le_of_ble_eq_true rfl)
  simp only [s92, n92, ↓evPre, ev0, ev1, ev2, ev3, ev4, ev5, Nat.reduceLT, entE, getE, putE, ↓reduceIte, Nat.reduceEqDiff, argsE, Int.reduceEq, convertA, lenA, foldI, A.cells, A.leaf, List.replicate, viewA, getO, Nat.reduceLeDiff, loadA, cellsAt, cellsTo, faA, indexAddrA, asInt, Int.reduceLE, Int.reduceLT, Int.reduceToNat, eq_self, Nat.reducePow, Int.reducePow, Int.reduceAdd, Int.reduceMul, Int.reduceSub, Int.reduceNeg, keyOk, mapPutA, lookupA, mapOf, sliceA, boundI, elemsOf, appendA, storeA, setRange, indexA, Nat.reduceBEq, Int.cast_ofNat_Int, reduceCtorEq, Nat.reduceAdd, Nat.reduceMul, Nat.reduceSub, evTy0, evTy1, evTy2, evTy3, evTy4, evTy5]

theorem Realm_ev (k : Nat) (hk : 2 ≤ k) (n : Int) (hn : 0 ≤ n) : callF Try.prog Hs E1 k 56 [.d (.int .i64 n)] [] = some (.d (.str (realmS n)), []) := by
  obtain ⟨k, rfl⟩ : ∃ j, k = j + 1 := ⟨k - 1, by omega⟩
  refine evalE rfl Try.func56 l56 ?_ (Nat.le_of_ble_eq_true rfl)
  obtain ⟨t1, t2⟩ := mod3 hn
  rcases t2 with t2 | t2 | t2
  · simp only [s56, n56, ↓evPre, ev0, ev1, ev2, ev3, ev4, ev5, Nat.reduceLT, entE, getE, putE, ↓reduceIte, Nat.reduceEqDiff, argsE, Int.reduceEq, convertA, lenA, foldI, A.cells, A.leaf, List.replicate, viewA, getO, Nat.reduceLeDiff, loadA, cellsAt, cellsTo, faA, indexAddrA, asInt, Int.reduceLE, Int.reduceLT, Int.reduceToNat, eq_self, Nat.reducePow, Int.reducePow, Int.reduceAdd, Int.reduceMul, Int.reduceSub, Int.reduceNeg, keyOk, mapPutA, lookupA, mapOf, sliceA, boundI, elemsOf, appendA, storeA, setRange, indexA, Nat.reduceBEq, Int.cast_ofNat_Int, reduceCtorEq, Nat.reduceAdd, Nat.reduceMul, Nat.reduceSub, evTy0, evTy1, evTy2, evTy3, evTy4, evTy5, t1, t2, realmS, sel3, callR_data (Realms_ev k (by omega)) rfl rfl]
  · simp only [s56, n56, ↓evPre, ev0, ev1, ev2, ev3, ev4, ev5, Nat.reduceLT, entE, getE, putE, ↓reduceIte, Nat.reduceEqDiff, argsE, Int.reduceEq, convertA, lenA, foldI, A.cells, A.leaf, List.replicate, viewA, getO, Nat.reduceLeDiff, loadA, cellsAt, cellsTo, faA, indexAddrA, asInt, Int.reduceLE, Int.reduceLT, Int.reduceToNat, eq_self, Nat.reducePow, Int.reducePow, Int.reduceAdd, Int.reduceMul, Int.reduceSub, Int.reduceNeg, keyOk, mapPutA, lookupA, mapOf, sliceA, boundI, elemsOf, appendA, storeA, setRange, indexA, Nat.reduceBEq, Int.cast_ofNat_Int, reduceCtorEq, Nat.reduceAdd, Nat.reduceMul, Nat.reduceSub, evTy0, evTy1, evTy2, evTy3, evTy4, evTy5, t1, t2, realmS, sel3, callR_data (Realms_ev k (by omega)) rfl rfl, Int.reduceToNat]
  · simp only [s56, n56, ↓evPre, ev0, ev1, ev2, ev3, ev4, ev5, Nat.reduceLT, entE, getE, putE, ↓reduceIte, Nat.reduceEqDiff, argsE, Int.reduceEq, convertA, lenA, foldI, A.cells, A.leaf, List.replicate, viewA, getO, Nat.reduceLeDiff, loadA, cellsAt, cellsTo, faA, indexAddrA, asInt, Int.reduceLE, Int.reduceLT, Int.reduceToNat, eq_self, Nat.reducePow, Int.reducePow, Int.reduceAdd, Int.reduceMul, Int.reduceSub, Int.reduceNeg, keyOk, mapPutA, lookupA, mapOf, sliceA, boundI, elemsOf, appendA, storeA, setRange, indexA, Nat.reduceBEq, Int.cast_ofNat_Int, reduceCtorEq, Nat.reduceAdd, Nat.reduceMul, Nat.reduceSub, evTy0, evTy1, evTy2, evTy3, evTy4, evTy5, t1, t2, realmS, sel3, callR_data (Realms_ev k (by omega)) rfl rfl, Int.reduceToNat]

def userP (n : Int) : Prin := ⟨sel3 ⟨#[97, 110, 110]⟩ ⟨#[98, 111, 98]⟩ ⟨#[99, 97, 116]⟩ (n % 3), ByteArray.empty, realmS (n / 3)⟩

theorem User_ev (k : Nat) (hk : 3 ≤ k) (n : Int) (hn : 0 ≤ n ∧ n ≤ 1000000) : callF Try.prog Hs E1 k 16 [.d (.int .i64 n)] [] = some (.agg (userP n).cells, []) := by
  obtain ⟨k, rfl⟩ : ∃ j, k = j + 1 := ⟨k - 1, by omega⟩
  refine evalE rfl Try.func16 l16 ?_ (Nat.le_of_ble_eq_true rfl)
  obtain ⟨t1, t2⟩ := mod3 hn.1
  have hq := i64_quo n 3 ⟨by omega, by omega, by omega⟩
  unfold userP Prin.cells
  rcases t2 with t2 | t2 | t2
  · simp only [s16, n16, ↓evPre, ev0, ev1, ev2, ev3, ev4, ev5, Nat.reduceLT, entE, getE, putE, ↓reduceIte, Nat.reduceEqDiff, argsE, Int.reduceEq, convertA, lenA, foldI, A.cells, A.leaf, List.replicate, viewA, getO, Nat.reduceLeDiff, loadA, cellsAt, cellsTo, faA, indexAddrA, asInt, Int.reduceLE, Int.reduceLT, Int.reduceToNat, eq_self, Nat.reducePow, Int.reducePow, Int.reduceAdd, Int.reduceMul, Int.reduceSub, Int.reduceNeg, keyOk, mapPutA, lookupA, mapOf, sliceA, boundI, elemsOf, appendA, storeA, setRange, indexA, Nat.reduceBEq, Int.cast_ofNat_Int, reduceCtorEq, Nat.reduceAdd, Nat.reduceMul, Nat.reduceSub, evTy0, evTy1, evTy2, evTy3, evTy4, evTy5, t1, t2, hq, sel3, callR_data (Realm_ev k (by omega) (n / 3) (by omega)) rfl rfl]
  · simp only [s16, n16, ↓evPre, ev0, ev1, ev2, ev3, ev4, ev5, Nat.reduceLT, entE, getE, putE, ↓reduceIte, Nat.reduceEqDiff, argsE, Int.reduceEq, convertA, lenA, foldI, A.cells, A.leaf, List.replicate, viewA, getO, Nat.reduceLeDiff, loadA, cellsAt, cellsTo, faA, indexAddrA, asInt, Int.reduceLE, Int.reduceLT, Int.reduceToNat, eq_self, Nat.reducePow, Int.reducePow, Int.reduceAdd, Int.reduceMul, Int.reduceSub, Int.reduceNeg, keyOk, mapPutA, lookupA, mapOf, sliceA, boundI, elemsOf, appendA, storeA, setRange, indexA, Nat.reduceBEq, Int.cast_ofNat_Int, reduceCtorEq, Nat.reduceAdd, Nat.reduceMul, Nat.reduceSub, evTy0, evTy1, evTy2, evTy3, evTy4, evTy5, t1, t2, hq, sel3, callR_data (Realm_ev k (by omega) (n / 3) (by omega)) rfl rfl]
  · simp only [s16, n16, ↓evPre, ev0, ev1, ev2, ev3, ev4, ev5, Nat.reduceLT, entE, getE, putE, ↓reduceIte, Nat.reduceEqDiff, argsE, Int.reduceEq, convertA, lenA, foldI, A.cells, A.leaf, List.replicate, viewA, getO, Nat.reduceLeDiff, loadA, cellsAt, cellsTo, faA, indexAddrA, asInt, Int.reduceLE, Int.reduceLT, Int.reduceToNat, eq_self, Nat.reducePow, Int.reducePow, Int.reduceAdd, Int.reduceMul, Int.reduceSub, Int.reduceNeg, keyOk, mapPutA, lookupA, mapOf, sliceA, boundI, elemsOf, appendA, storeA, setRange, indexA, Nat.reduceBEq, Int.cast_ofNat_Int, reduceCtorEq, Nat.reduceAdd, Nat.reduceMul, Nat.reduceSub, evTy0, evTy1, evTy2, evTy3, evTy4, evTy5, t1, t2, hq, sel3, callR_data (Realm_ev k (by omega) (n / 3) (by omega)) rfl rfl]

def serviceP (n : Int) : Prin := ⟨sel3 ⟨#[109, 97, 105, 108]⟩ ⟨#[110, 102, 115]⟩ ⟨#[107, 114, 98, 116, 103, 116]⟩ (n % 3), sel3 ByteArray.empty ⟨#[104, 111, 109, 101]⟩ ⟨#[65, 84, 72]⟩ (n % 3), realmS (n / 3)⟩

theorem Service_ev (k : Nat) (hk : 3 ≤ k) (n : Int) (hn : 0 ≤ n ∧ n ≤ 1000000) : callF Try.prog Hs E1 k 17 [.d (.int .i64 n)] [] = some (.agg (serviceP n).cells, []) := by
  obtain ⟨k, rfl⟩ : ∃ j, k = j + 1 := ⟨k - 1, by omega⟩
  refine evalE rfl Try.func17 l17 ?_ (Nat.le_of_ble_eq_true rfl)
  obtain ⟨t1, t2⟩ := mod3 hn.1
  have hq := i64_quo n 3 ⟨by omega, by omega, by omega⟩
  unfold serviceP Prin.cells
  rcases t2 with t2 | t2 | t2
  · simp only [s17, n17, ↓evPre, ev0, ev1, ev2, ev3, ev4, ev5, Nat.reduceLT, entE, getE, putE, ↓reduceIte, Nat.reduceEqDiff, argsE, Int.reduceEq, convertA, lenA, foldI, A.cells, A.leaf, List.replicate, viewA, getO, Nat.reduceLeDiff, loadA, cellsAt, cellsTo, faA, indexAddrA, asInt, Int.reduceLE, Int.reduceLT, Int.reduceToNat, eq_self, Nat.reducePow, Int.reducePow, Int.reduceAdd, Int.reduceMul, Int.reduceSub, Int.reduceNeg, keyOk, mapPutA, lookupA, mapOf, sliceA, boundI, elemsOf, appendA, storeA, setRange, indexA, Nat.reduceBEq, Int.cast_ofNat_Int, reduceCtorEq, Nat.reduceAdd, Nat.reduceMul, Nat.reduceSub, evTy0, evTy1, evTy2, evTy3, evTy4, evTy5, t1, t2, hq, sel3, callR_data (Realm_ev k (by omega) (n / 3) (by omega)) rfl rfl]
  · simp only [s17, n17, ↓evPre, ev0, ev1, ev2, ev3, ev4, ev5, Nat.reduceLT, entE, getE, putE, ↓reduceIte, Nat.reduceEqDiff, argsE, Int.reduceEq, convertA, lenA, foldI, A.cells, A.leaf, List.replicate, viewA, getO, Nat.reduceLeDiff, loadA, cellsAt, cellsTo, faA, indexAddrA, asInt, Int.reduceLE, Int.reduceLT, Int.reduceToNat, eq_self, Nat.reducePow, Int.reducePow, Int.reduceAdd, Int.reduceMul, Int.reduceSub, Int.reduceNeg, keyOk, mapPutA, lookupA, mapOf, sliceA, boundI, elemsOf, appendA, storeA, setRange, indexA, Nat.reduceBEq, Int.cast_ofNat_Int, reduceCtorEq, Nat.reduceAdd, Nat.reduceMul, Nat.reduceSub, evTy0, evTy1, evTy2, evTy3, evTy4, evTy5, t1, t2, hq, sel3, callR_data (Realm_ev k (by omega) (n / 3) (by omega)) rfl rfl]
  · simp only [s17, n17, ↓evPre, ev0, ev1, ev2, ev3, ev4, ev5, Nat.reduceLT, entE, getE, putE, ↓reduceIte, Nat.reduceEqDiff, argsE, Int.reduceEq, convertA, lenA, foldI, A.cells, A.leaf, List.replicate, viewA, getO, Nat.reduceLeDiff, loadA, cellsAt, cellsTo, faA, indexAddrA, asInt, Int.reduceLE, Int.reduceLT, Int.reduceToNat, eq_self, Nat.reducePow, Int.reducePow, Int.reduceAdd, Int.reduceMul, Int.reduceSub, Int.reduceNeg, keyOk, mapPutA, lookupA, mapOf, sliceA, boundI, elemsOf, appendA, storeA, setRange, indexA, Nat.reduceBEq, Int.cast_ofNat_Int, reduceCtorEq, Nat.reduceAdd, Nat.reduceMul, Nat.reduceSub, evTy0, evTy1, evTy2, evTy3, evTy4, evTy5, t1, t2, hq, sel3, callR_data (Realm_ev k (by omega) (n / 3) (by omega)) rfl rfl]

theorem Session_ev (k : Nat) (hk : 1 ≤ k) (n : Int) (hn : 0 ≤ n ∧ n ≤ 1000000) : callF Try.prog Hs E1 k 18 [.d (.int .i64 n)] [] = some (.d (.int .u64 (144115188075855872 + (1 + n))), []) := by
  obtain ⟨k, rfl⟩ : ∃ j, k = j + 1 := ⟨k - 1, by omega⟩
  refine evalE rfl Try.func18 l18 ?_ (Nat.le_of_ble_eq_true rfl)
  have w1 := i64_in (1 + n) (by omega)
  have w2 := u64_in (1 + n) (by omega)
  simp only [s18, n18, ↓evPre, ev0, ev1, ev2, ev3, ev4, ev5, Nat.reduceLT, entE, getE, putE, ↓reduceIte, Nat.reduceEqDiff, argsE, Int.reduceEq, convertA, lenA, foldI, A.cells, A.leaf, List.replicate, viewA, getO, Nat.reduceLeDiff, loadA, cellsAt, cellsTo, faA, indexAddrA, asInt, Int.reduceLE, Int.reduceLT, Int.reduceToNat, eq_self, Nat.reducePow, Int.reducePow, Int.reduceAdd, Int.reduceMul, Int.reduceSub, Int.reduceNeg, keyOk, mapPutA, lookupA, mapOf, sliceA, boundI, elemsOf, appendA, storeA, setRange, indexA, Nat.reduceBEq, Int.cast_ofNat_Int, reduceCtorEq, Nat.reduceAdd, Nat.reduceMul, Nat.reduceSub, evTy0, evTy1, evTy2, evTy3, evTy4, evTy5, w1, w2, or2 (s := 1 + n) (by omega)]

def fromQ (n : Int) : Int := if 255 < n / 300 - 1 then 255 else n / 300 - 1

def tupF (n : Int) : A := if n < 300 then .tup [.d (.int .i64 0), .d (.bool false)] else .tup [.d (.int .i64 (fromQ n)), .d (.bool true)]

theorem From_ev (k : Nat) (hk : 1 ≤ k) (n : Int) (hn : n ≤ 9223372036854775807) : callF Try.prog Hs E1 k 63 [.d (.int .i64 n)] [] = some (tupF n, []) := by
  obtain ⟨k, rfl⟩ : ∃ j, k = j + 1 := ⟨k - 1, by omega⟩
  refine evalE rfl Try.func63 l63 ?_ (Nat.le_of_ble_eq_true rfl)
  by_cases h : n < 300
  · simp only [s63, n63, ↓evPre, ev0, ev1, ev2, ev3, ev4, ev5, Nat.reduceLT, entE, getE, putE, ↓reduceIte, Nat.reduceEqDiff, argsE, Int.reduceEq, convertA, lenA, foldI, A.cells, A.leaf, List.replicate, viewA, getO, Nat.reduceLeDiff, loadA, cellsAt, cellsTo, faA, indexAddrA, asInt, Int.reduceLE, Int.reduceLT, Int.reduceToNat, eq_self, Nat.reducePow, Int.reducePow, Int.reduceAdd, Int.reduceMul, Int.reduceSub, Int.reduceNeg, keyOk, mapPutA, lookupA, mapOf, sliceA, boundI, elemsOf, appendA, storeA, setRange, indexA, Nat.reduceBEq, Int.cast_ofNat_Int, reduceCtorEq, Nat.reduceAdd, Nat.reduceMul, Nat.reduceSub, evTy0, evTy1, evTy2, evTy3, evTy4, evTy5, h, tupF]
  · have hq := i64_quo n 300 ⟨by omega, hn, by omega⟩
    have hw := i64_in (n / 300 - 1) (by omega)
    simp only [s63, n63, ↓evPre, ev0, ev1, ev2, ev3, ev4, ev5, Nat.reduceLT, entE, getE, putE, ↓reduceIte, Nat.reduceEqDiff, argsE, Int.reduceEq, convertA, lenA, foldI, A.cells, A.leaf, List.replicate, viewA, getO, Nat.reduceLeDiff, loadA, cellsAt, cellsTo, faA, indexAddrA, asInt, Int.reduceLE, Int.reduceLT, Int.reduceToNat, eq_self, Nat.reducePow, Int.reducePow, Int.reduceAdd, Int.reduceMul, Int.reduceSub, Int.reduceNeg, keyOk, mapPutA, lookupA, mapOf, sliceA, boundI, elemsOf, appendA, storeA, setRange, indexA, Nat.reduceBEq, Int.cast_ofNat_Int, reduceCtorEq, Nat.reduceAdd, Nat.reduceMul, Nat.reduceSub, evTy0, evTy1, evTy2, evTy3, evTy4, evTy5, h, hq, hw, tupF, fromQ, gt_iff_lt]

theorem refFrom_ev (k : Nat) (hk : 1 ≤ k) (n : Int) (hn : n ≤ 9223372036854775807) : callF Try.prog Hs E1 k 65 [.d (.int .i64 n)] [] = some (tupF n, []) := by
  obtain ⟨k, rfl⟩ : ∃ j, k = j + 1 := ⟨k - 1, by omega⟩
  refine evalE rfl Try.func65 l65 ?_ (Nat.le_of_ble_eq_true rfl)
  by_cases h : n < 300
  · simp only [s65, n65, ↓evPre, ev0, ev1, ev2, ev3, ev4, ev5, Nat.reduceLT, entE, getE, putE, ↓reduceIte, Nat.reduceEqDiff, argsE, Int.reduceEq, convertA, lenA, foldI, A.cells, A.leaf, List.replicate, viewA, getO, Nat.reduceLeDiff, loadA, cellsAt, cellsTo, faA, indexAddrA, asInt, Int.reduceLE, Int.reduceLT, Int.reduceToNat, eq_self, Nat.reducePow, Int.reducePow, Int.reduceAdd, Int.reduceMul, Int.reduceSub, Int.reduceNeg, keyOk, mapPutA, lookupA, mapOf, sliceA, boundI, elemsOf, appendA, storeA, setRange, indexA, Nat.reduceBEq, Int.cast_ofNat_Int, reduceCtorEq, Nat.reduceAdd, Nat.reduceMul, Nat.reduceSub, evTy0, evTy1, evTy2, evTy3, evTy4, evTy5, h, tupF]
  · have hq := i64_quo n 300 ⟨by omega, hn, by omega⟩
    have hw := i64_in (n / 300 - 1) (by omega)
    simp only [s65, n65, ↓evPre, ev0, ev1, ev2, ev3, ev4, ev5, Nat.reduceLT, entE, getE, putE, ↓reduceIte, Nat.reduceEqDiff, argsE, Int.reduceEq, convertA, lenA, foldI, A.cells, A.leaf, List.replicate, viewA, getO, Nat.reduceLeDiff, loadA, cellsAt, cellsTo, faA, indexAddrA, asInt, Int.reduceLE, Int.reduceLT, Int.reduceToNat, eq_self, Nat.reducePow, Int.reducePow, Int.reduceAdd, Int.reduceMul, Int.reduceSub, Int.reduceNeg, keyOk, mapPutA, lookupA, mapOf, sliceA, boundI, elemsOf, appendA, storeA, setRange, indexA, Nat.reduceBEq, Int.cast_ofNat_Int, reduceCtorEq, Nat.reduceAdd, Nat.reduceMul, Nat.reduceSub, evTy0, evTy1, evTy2, evTy3, evTy4, evTy5, h, hq, hw, tupF, fromQ, gt_iff_lt]

theorem outside_ev (k : Nat) (hk : 1 ≤ k) (n m : Int) : callF Try.prog Hs E1 k 97 [.d (.int .i64 n), .d (.int .i64 m)] [] = some (.d (.bool (!decide (0 ≤ n ∧ n ≤ m))), []) := by
  obtain ⟨k, rfl⟩ : ∃ j, k = j + 1 := ⟨k - 1, by omega⟩
  refine evalE rfl Try.func97 l97 ?_ (Nat.le_of_ble_eq_true rfl)
  by_cases h : n < 0
  · have h' : ¬ (0 ≤ n ∧ n ≤ m) := by omega
    simp only [s97, n97, ↓evPre, ev0, ev1, ev2, ev3, ev4, ev5, Nat.reduceLT, entE, getE, putE, ↓reduceIte, Nat.reduceEqDiff, argsE, Int.reduceEq, convertA, lenA, foldI, A.cells, A.leaf, List.replicate, viewA, getO, Nat.reduceLeDiff, loadA, cellsAt, cellsTo, faA, indexAddrA, asInt, Int.reduceLE, Int.reduceLT, Int.reduceToNat, eq_self, Nat.reducePow, Int.reducePow, Int.reduceAdd, Int.reduceMul, Int.reduceSub, Int.reduceNeg, keyOk, mapPutA, lookupA, mapOf, sliceA, boundI, elemsOf, appendA, storeA, setRange, indexA, Nat.reduceBEq, Int.cast_ofNat_Int, reduceCtorEq, Nat.reduceAdd, Nat.reduceMul, Nat.reduceSub, evTy0, evTy1, evTy2, evTy3, evTy4, evTy5, h, h']
  · by_cases h2 : m < n
    · have h' : ¬ (0 ≤ n ∧ n ≤ m) := by omega
      simp only [s97, n97, ↓evPre, ev0, ev1, ev2, ev3, ev4, ev5, Nat.reduceLT, entE, getE, putE, ↓reduceIte, Nat.reduceEqDiff, argsE, Int.reduceEq, convertA, lenA, foldI, A.cells, A.leaf, List.replicate, viewA, getO, Nat.reduceLeDiff, loadA, cellsAt, cellsTo, faA, indexAddrA, asInt, Int.reduceLE, Int.reduceLT, Int.reduceToNat, eq_self, Nat.reducePow, Int.reducePow, Int.reduceAdd, Int.reduceMul, Int.reduceSub, Int.reduceNeg, keyOk, mapPutA, lookupA, mapOf, sliceA, boundI, elemsOf, appendA, storeA, setRange, indexA, Nat.reduceBEq, Int.cast_ofNat_Int, reduceCtorEq, Nat.reduceAdd, Nat.reduceMul, Nat.reduceSub, evTy0, evTy1, evTy2, evTy3, evTy4, evTy5, h, h2, h']
    · have h' : (0 ≤ n ∧ n ≤ m) := by omega
      simp only [s97, n97, ↓evPre, ev0, ev1, ev2, ev3, ev4, ev5, Nat.reduceLT, entE, getE, putE, ↓reduceIte, Nat.reduceEqDiff, argsE, Int.reduceEq, convertA, lenA, foldI, A.cells, A.leaf, List.replicate, viewA, getO, Nat.reduceLeDiff, loadA, cellsAt, cellsTo, faA, indexAddrA, asInt, Int.reduceLE, Int.reduceLT, Int.reduceToNat, eq_self, Nat.reducePow, Int.reducePow, Int.reduceAdd, Int.reduceMul, Int.reduceSub, Int.reduceNeg, keyOk, mapPutA, lookupA, mapOf, sliceA, boundI, elemsOf, appendA, storeA, setRange, indexA, Nat.reduceBEq, Int.cast_ofNat_Int, reduceCtorEq, Nat.reduceAdd, Nat.reduceMul, Nat.reduceSub, evTy0, evTy1, evTy2, evTy3, evTy4, evTy5, h, h2, h']

theorem within_ev (k : Nat) (hk : 1 ≤ k) (n m : Int) : callF Try.prog Hs E1 k 101 [.d (.int .i64 n), .d (.int .i64 m)] [] = some (.d (.bool (decide (0 ≤ n ∧ n ≤ m))), []) := by
  obtain ⟨k, rfl⟩ : ∃ j, k = j + 1 := ⟨k - 1, by omega⟩
  refine evalE rfl Try.func101 l101 ?_ (Nat.le_of_ble_eq_true rfl)
  by_cases h : 0 ≤ n
  · simp only [s101, n101, ↓evPre, ev0, ev1, ev2, ev3, ev4, ev5, Nat.reduceLT, entE, getE, putE, ↓reduceIte, Nat.reduceEqDiff, argsE, Int.reduceEq, convertA, lenA, foldI, A.cells, A.leaf, List.replicate, viewA, getO, Nat.reduceLeDiff, loadA, cellsAt, cellsTo, faA, indexAddrA, asInt, Int.reduceLE, Int.reduceLT, Int.reduceToNat, eq_self, Nat.reducePow, Int.reducePow, Int.reduceAdd, Int.reduceMul, Int.reduceSub, Int.reduceNeg, keyOk, mapPutA, lookupA, mapOf, sliceA, boundI, elemsOf, appendA, storeA, setRange, indexA, Nat.reduceBEq, Int.cast_ofNat_Int, reduceCtorEq, Nat.reduceAdd, Nat.reduceMul, Nat.reduceSub, evTy0, evTy1, evTy2, evTy3, evTy4, evTy5, h]
  · simp only [s101, n101, ↓evPre, ev0, ev1, ev2, ev3, ev4, ev5, Nat.reduceLT, entE, getE, putE, ↓reduceIte, Nat.reduceEqDiff, argsE, Int.reduceEq, convertA, lenA, foldI, A.cells, A.leaf, List.replicate, viewA, getO, Nat.reduceLeDiff, loadA, cellsAt, cellsTo, faA, indexAddrA, asInt, Int.reduceLE, Int.reduceLT, Int.reduceToNat, eq_self, Nat.reducePow, Int.reducePow, Int.reduceAdd, Int.reduceMul, Int.reduceSub, Int.reduceNeg, keyOk, mapPutA, lookupA, mapOf, sliceA, boundI, elemsOf, appendA, storeA, setRange, indexA, Nat.reduceBEq, Int.cast_ofNat_Int, reduceCtorEq, Nat.reduceAdd, Nat.reduceMul, Nat.reduceSub, evTy0, evTy1, evTy2, evTy3, evTy4, evTy5, h]

/-- A ticket. -/
structure Tick where
  little : Bool
  client : Prin
  addr : Int
  key : Int
  life : Int
  issued : Int
  service : ByteArray
  inst : ByteArray

def Tick.a (t : Tick) : A := .agg [.d (.bool t.little), .d (.str t.client.name), .d (.str t.client.inst), .d (.str t.client.realm), .d (.int .i64 t.addr), .d (.int .u64 t.key), .d (.int .i64 t.life), .d (.int .i64 t.issued), .d (.str t.service), .d (.str t.inst)]

/-- A ticket's first error. -/
def checkV (t : Tick) : Int :=
  if (validB t.client && nameB t.service && instB t.inst) = true then
    if classV t.key = 2 then
      if (0 ≤ t.addr ∧ t.addr ≤ 4294967295) ∧ (0 ≤ t.life ∧ t.life ≤ 255) ∧ (0 ≤ t.issued ∧ t.issued ≤ 4294967295) then 0 else 104
    else 10
  else 103

def Tick.ok (t : Tick) (n : Nat) : Prop := t.client.ok n ∧ t.service.size ≤ n ∧ t.inst.size ≤ n ∧ 0 ≤ t.key ∧ t.key ≤ 18446744073709551615


theorem Check_ev (k n : Nat) (t : Tick) (hk : n + 20 ≤ k) (ht : t.ok n) (hn : n ≤ 9223372036854775807) : callF Try.prog Hs E1 k 64 [t.a] [] = some (.d (.int .i64 (checkV t)), []) := by
  obtain ⟨k, rfl⟩ : ∃ j, k = j + 1 := ⟨k - 1, by omega⟩
  refine evalE rfl Try.func64 l64 ?_ (Nat.le_of_ble_eq_true rfl)
  obtain ⟨h1, h2, h3, h4⟩ := ht
  cases n1 : validB t.client
  · simp only [s64, n64, ↓evPre, ev0, ev1, ev2, ev3, ev4, ev5, Nat.reduceLT, entE, getE, putE, ↓reduceIte, Nat.reduceEqDiff, argsE, Int.reduceEq, convertA, lenA, foldI, A.cells, A.leaf, List.replicate, viewA, getO, Nat.reduceLeDiff, loadA, cellsAt, cellsTo, faA, indexAddrA, asInt, Int.reduceLE, Int.reduceLT, Int.reduceToNat, eq_self, Nat.reducePow, Int.reducePow, Int.reduceAdd, Int.reduceMul, Int.reduceSub, Int.reduceNeg, keyOk, mapPutA, lookupA, mapOf, sliceA, boundI, elemsOf, appendA, storeA, setRange, indexA, Nat.reduceBEq, Int.cast_ofNat_Int, reduceCtorEq, Nat.reduceAdd, Nat.reduceMul, Nat.reduceSub, evTy0, evTy1, evTy2, evTy3, evTy4, evTy5, Tick.a, checkV, n1, callR_data (Pr.Valid_ev k n t.client (by omega) h1 hn) rfl rfl]
  cases n2 : nameB t.service
  · simp only [s64, n64, ↓evPre, ev0, ev1, ev2, ev3, ev4, ev5, Nat.reduceLT, entE, getE, putE, ↓reduceIte, Nat.reduceEqDiff, argsE, Int.reduceEq, convertA, lenA, foldI, A.cells, A.leaf, List.replicate, viewA, getO, Nat.reduceLeDiff, loadA, cellsAt, cellsTo, faA, indexAddrA, asInt, Int.reduceLE, Int.reduceLT, Int.reduceToNat, eq_self, Nat.reducePow, Int.reducePow, Int.reduceAdd, Int.reduceMul, Int.reduceSub, Int.reduceNeg, keyOk, mapPutA, lookupA, mapOf, sliceA, boundI, elemsOf, appendA, storeA, setRange, indexA, Nat.reduceBEq, Int.cast_ofNat_Int, reduceCtorEq, Nat.reduceAdd, Nat.reduceMul, Nat.reduceSub, evTy0, evTy1, evTy2, evTy3, evTy4, evTy5, Tick.a, checkV, n1, n2, callR_data (Pr.Valid_ev k n t.client (by omega) h1 hn) rfl rfl, callR_data (Name_ev k t.service (by omega) (by omega)) rfl rfl]
  cases n3 : instB t.inst
  · simp only [s64, n64, ↓evPre, ev0, ev1, ev2, ev3, ev4, ev5, Nat.reduceLT, entE, getE, putE, ↓reduceIte, Nat.reduceEqDiff, argsE, Int.reduceEq, convertA, lenA, foldI, A.cells, A.leaf, List.replicate, viewA, getO, Nat.reduceLeDiff, loadA, cellsAt, cellsTo, faA, indexAddrA, asInt, Int.reduceLE, Int.reduceLT, Int.reduceToNat, eq_self, Nat.reducePow, Int.reducePow, Int.reduceAdd, Int.reduceMul, Int.reduceSub, Int.reduceNeg, keyOk, mapPutA, lookupA, mapOf, sliceA, boundI, elemsOf, appendA, storeA, setRange, indexA, Nat.reduceBEq, Int.cast_ofNat_Int, reduceCtorEq, Nat.reduceAdd, Nat.reduceMul, Nat.reduceSub, evTy0, evTy1, evTy2, evTy3, evTy4, evTy5, Tick.a, checkV, n1, n2, n3, callR_data (Pr.Valid_ev k n t.client (by omega) h1 hn) rfl rfl, callR_data (Name_ev k t.service (by omega) (by omega)) rfl rfl, callR_data (Inst_ev k t.inst (by omega) (by omega)) rfl rfl]
  by_cases c : classV t.key = 2
  · by_cases a1 : 0 ≤ t.addr ∧ t.addr ≤ 4294967295
    · by_cases a2 : 0 ≤ t.life ∧ t.life ≤ 255
      · by_cases a3 : 0 ≤ t.issued ∧ t.issued ≤ 4294967295
        · simp only [s64, n64, ↓evPre, ev0, ev1, ev2, ev3, ev4, ev5, Nat.reduceLT, entE, getE, putE, ↓reduceIte, Nat.reduceEqDiff, argsE, Int.reduceEq, convertA, lenA, foldI, A.cells, A.leaf, List.replicate, viewA, getO, Nat.reduceLeDiff, loadA, cellsAt, cellsTo, faA, indexAddrA, asInt, Int.reduceLE, Int.reduceLT, Int.reduceToNat, eq_self, Nat.reducePow, Int.reducePow, Int.reduceAdd, Int.reduceMul, Int.reduceSub, Int.reduceNeg, keyOk, mapPutA, lookupA, mapOf, sliceA, boundI, elemsOf, appendA, storeA, setRange, indexA, Nat.reduceBEq, Int.cast_ofNat_Int, reduceCtorEq, Nat.reduceAdd, Nat.reduceMul, Nat.reduceSub, evTy0, evTy1, evTy2, evTy3, evTy4, evTy5, Tick.a, checkV, n1, n2, n3, c, a1, a2, a3, callR_data (Pr.Valid_ev k n t.client (by omega) h1 hn) rfl rfl, callR_data (Name_ev k t.service (by omega) (by omega)) rfl rfl, callR_data (Inst_ev k t.inst (by omega) (by omega)) rfl rfl, callR_data (Class_ev k (by omega) t.key h4) rfl rfl, callR_data (outside_ev k (by omega) _ _) rfl rfl]
        · simp only [s64, n64, ↓evPre, ev0, ev1, ev2, ev3, ev4, ev5, Nat.reduceLT, entE, getE, putE, ↓reduceIte, Nat.reduceEqDiff, argsE, Int.reduceEq, convertA, lenA, foldI, A.cells, A.leaf, List.replicate, viewA, getO, Nat.reduceLeDiff, loadA, cellsAt, cellsTo, faA, indexAddrA, asInt, Int.reduceLE, Int.reduceLT, Int.reduceToNat, eq_self, Nat.reducePow, Int.reducePow, Int.reduceAdd, Int.reduceMul, Int.reduceSub, Int.reduceNeg, keyOk, mapPutA, lookupA, mapOf, sliceA, boundI, elemsOf, appendA, storeA, setRange, indexA, Nat.reduceBEq, Int.cast_ofNat_Int, reduceCtorEq, Nat.reduceAdd, Nat.reduceMul, Nat.reduceSub, evTy0, evTy1, evTy2, evTy3, evTy4, evTy5, Tick.a, checkV, n1, n2, n3, c, a1, a2, a3, callR_data (Pr.Valid_ev k n t.client (by omega) h1 hn) rfl rfl, callR_data (Name_ev k t.service (by omega) (by omega)) rfl rfl, callR_data (Inst_ev k t.inst (by omega) (by omega)) rfl rfl, callR_data (Class_ev k (by omega) t.key h4) rfl rfl, callR_data (outside_ev k (by omega) _ _) rfl rfl]
      · simp only [s64, n64, ↓evPre, ev0, ev1, ev2, ev3, ev4, ev5, Nat.reduceLT, entE, getE, putE, ↓reduceIte, Nat.reduceEqDiff, argsE, Int.reduceEq, convertA, lenA, foldI, A.cells, A.leaf, List.replicate, viewA, getO, Nat.reduceLeDiff, loadA, cellsAt, cellsTo, faA, indexAddrA, asInt, Int.reduceLE, Int.reduceLT, Int.reduceToNat, eq_self, Nat.reducePow, Int.reducePow, Int.reduceAdd, Int.reduceMul, Int.reduceSub, Int.reduceNeg, keyOk, mapPutA, lookupA, mapOf, sliceA, boundI, elemsOf, appendA, storeA, setRange, indexA, Nat.reduceBEq, Int.cast_ofNat_Int, reduceCtorEq, Nat.reduceAdd, Nat.reduceMul, Nat.reduceSub, evTy0, evTy1, evTy2, evTy3, evTy4, evTy5, Tick.a, checkV, n1, n2, n3, c, a1, a2, callR_data (Pr.Valid_ev k n t.client (by omega) h1 hn) rfl rfl, callR_data (Name_ev k t.service (by omega) (by omega)) rfl rfl, callR_data (Inst_ev k t.inst (by omega) (by omega)) rfl rfl, callR_data (Class_ev k (by omega) t.key h4) rfl rfl, callR_data (outside_ev k (by omega) _ _) rfl rfl]
    · simp only [s64, n64, ↓evPre, ev0, ev1, ev2, ev3, ev4, ev5, Nat.reduceLT, entE, getE, putE, ↓reduceIte, Nat.reduceEqDiff, argsE, Int.reduceEq, convertA, lenA, foldI, A.cells, A.leaf, List.replicate, viewA, getO, Nat.reduceLeDiff, loadA, cellsAt, cellsTo, faA, indexAddrA, asInt, Int.reduceLE, Int.reduceLT, Int.reduceToNat, eq_self, Nat.reducePow, Int.reducePow, Int.reduceAdd, Int.reduceMul, Int.reduceSub, Int.reduceNeg, keyOk, mapPutA, lookupA, mapOf, sliceA, boundI, elemsOf, appendA, storeA, setRange, indexA, Nat.reduceBEq, Int.cast_ofNat_Int, reduceCtorEq, Nat.reduceAdd, Nat.reduceMul, Nat.reduceSub, evTy0, evTy1, evTy2, evTy3, evTy4, evTy5, Tick.a, checkV, n1, n2, n3, c, a1, callR_data (Pr.Valid_ev k n t.client (by omega) h1 hn) rfl rfl, callR_data (Name_ev k t.service (by omega) (by omega)) rfl rfl, callR_data (Inst_ev k t.inst (by omega) (by omega)) rfl rfl, callR_data (Class_ev k (by omega) t.key h4) rfl rfl, callR_data (outside_ev k (by omega) _ _) rfl rfl]
  · simp only [s64, n64, ↓evPre, ev0, ev1, ev2, ev3, ev4, ev5, Nat.reduceLT, entE, getE, putE, ↓reduceIte, Nat.reduceEqDiff, argsE, Int.reduceEq, convertA, lenA, foldI, A.cells, A.leaf, List.replicate, viewA, getO, Nat.reduceLeDiff, loadA, cellsAt, cellsTo, faA, indexAddrA, asInt, Int.reduceLE, Int.reduceLT, Int.reduceToNat, eq_self, Nat.reducePow, Int.reducePow, Int.reduceAdd, Int.reduceMul, Int.reduceSub, Int.reduceNeg, keyOk, mapPutA, lookupA, mapOf, sliceA, boundI, elemsOf, appendA, storeA, setRange, indexA, Nat.reduceBEq, Int.cast_ofNat_Int, reduceCtorEq, Nat.reduceAdd, Nat.reduceMul, Nat.reduceSub, evTy0, evTy1, evTy2, evTy3, evTy4, evTy5, Tick.a, checkV, n1, n2, n3, c, callR_data (Pr.Valid_ev k n t.client (by omega) h1 hn) rfl rfl, callR_data (Name_ev k t.service (by omega) (by omega)) rfl rfl, callR_data (Inst_ev k t.inst (by omega) (by omega)) rfl rfl, callR_data (Class_ev k (by omega) t.key h4) rfl rfl]

theorem refCheck_ev (k n : Nat) (t : Tick) (hk : n + 20 ≤ k) (ht : t.ok n) (hn : n ≤ 9223372036854775807) : callF Try.prog Hs E1 k 66 [t.a] [] = some (.d (.int .i64 (checkV t)), []) := by
  obtain ⟨k, rfl⟩ : ∃ j, k = j + 1 := ⟨k - 1, by omega⟩
  refine evalE rfl Try.func66 l66 ?_ (Nat.le_of_ble_eq_true rfl)
  obtain ⟨h1, h2, h3, h4⟩ := ht
  cases n1 : validB t.client
  · simp only [s66, n66, ↓evPre, ev0, ev1, ev2, ev3, ev4, ev5, Nat.reduceLT, entE, getE, putE, ↓reduceIte, Nat.reduceEqDiff, argsE, Int.reduceEq, convertA, lenA, foldI, A.cells, A.leaf, List.replicate, viewA, getO, Nat.reduceLeDiff, loadA, cellsAt, cellsTo, faA, indexAddrA, asInt, Int.reduceLE, Int.reduceLT, Int.reduceToNat, eq_self, Nat.reducePow, Int.reducePow, Int.reduceAdd, Int.reduceMul, Int.reduceSub, Int.reduceNeg, keyOk, mapPutA, lookupA, mapOf, sliceA, boundI, elemsOf, appendA, storeA, setRange, indexA, Nat.reduceBEq, Int.cast_ofNat_Int, reduceCtorEq, Nat.reduceAdd, Nat.reduceMul, Nat.reduceSub, evTy0, evTy1, evTy2, evTy3, evTy4, evTy5, Tick.a, checkV, n1, callR_data (Pr.refValid_ev k n t.client (by omega) h1 hn) rfl rfl]
  cases n2 : nameB t.service
  · simp only [s66, n66, ↓evPre, ev0, ev1, ev2, ev3, ev4, ev5, Nat.reduceLT, entE, getE, putE, ↓reduceIte, Nat.reduceEqDiff, argsE, Int.reduceEq, convertA, lenA, foldI, A.cells, A.leaf, List.replicate, viewA, getO, Nat.reduceLeDiff, loadA, cellsAt, cellsTo, faA, indexAddrA, asInt, Int.reduceLE, Int.reduceLT, Int.reduceToNat, eq_self, Nat.reducePow, Int.reducePow, Int.reduceAdd, Int.reduceMul, Int.reduceSub, Int.reduceNeg, keyOk, mapPutA, lookupA, mapOf, sliceA, boundI, elemsOf, appendA, storeA, setRange, indexA, Nat.reduceBEq, Int.cast_ofNat_Int, reduceCtorEq, Nat.reduceAdd, Nat.reduceMul, Nat.reduceSub, evTy0, evTy1, evTy2, evTy3, evTy4, evTy5, Tick.a, checkV, n1, n2, callR_data (Pr.refValid_ev k n t.client (by omega) h1 hn) rfl rfl, callR_data (refName_ev k t.service (by omega) (by omega)) rfl rfl]
  cases n3 : instB t.inst
  · simp only [s66, n66, ↓evPre, ev0, ev1, ev2, ev3, ev4, ev5, Nat.reduceLT, entE, getE, putE, ↓reduceIte, Nat.reduceEqDiff, argsE, Int.reduceEq, convertA, lenA, foldI, A.cells, A.leaf, List.replicate, viewA, getO, Nat.reduceLeDiff, loadA, cellsAt, cellsTo, faA, indexAddrA, asInt, Int.reduceLE, Int.reduceLT, Int.reduceToNat, eq_self, Nat.reducePow, Int.reducePow, Int.reduceAdd, Int.reduceMul, Int.reduceSub, Int.reduceNeg, keyOk, mapPutA, lookupA, mapOf, sliceA, boundI, elemsOf, appendA, storeA, setRange, indexA, Nat.reduceBEq, Int.cast_ofNat_Int, reduceCtorEq, Nat.reduceAdd, Nat.reduceMul, Nat.reduceSub, evTy0, evTy1, evTy2, evTy3, evTy4, evTy5, Tick.a, checkV, n1, n2, n3, callR_data (Pr.refValid_ev k n t.client (by omega) h1 hn) rfl rfl, callR_data (refName_ev k t.service (by omega) (by omega)) rfl rfl, callR_data (refInst_ev k t.inst (by omega) (by omega)) rfl rfl]
  by_cases c : classV t.key = 2
  · by_cases a1 : 0 ≤ t.addr ∧ t.addr ≤ 4294967295
    · by_cases a2 : 0 ≤ t.life ∧ t.life ≤ 255
      · by_cases a3 : 0 ≤ t.issued ∧ t.issued ≤ 4294967295
        · simp only [s66, n66, ↓evPre, ev0, ev1, ev2, ev3, ev4, ev5, Nat.reduceLT, entE, getE, putE, ↓reduceIte, Nat.reduceEqDiff, argsE, Int.reduceEq, convertA, lenA, foldI, A.cells, A.leaf, List.replicate, viewA, getO, Nat.reduceLeDiff, loadA, cellsAt, cellsTo, faA, indexAddrA, asInt, Int.reduceLE, Int.reduceLT, Int.reduceToNat, eq_self, Nat.reducePow, Int.reducePow, Int.reduceAdd, Int.reduceMul, Int.reduceSub, Int.reduceNeg, keyOk, mapPutA, lookupA, mapOf, sliceA, boundI, elemsOf, appendA, storeA, setRange, indexA, Nat.reduceBEq, Int.cast_ofNat_Int, reduceCtorEq, Nat.reduceAdd, Nat.reduceMul, Nat.reduceSub, evTy0, evTy1, evTy2, evTy3, evTy4, evTy5, Tick.a, checkV, n1, n2, n3, c, a1, a2, a3, callR_data (Pr.refValid_ev k n t.client (by omega) h1 hn) rfl rfl, callR_data (refName_ev k t.service (by omega) (by omega)) rfl rfl, callR_data (refInst_ev k t.inst (by omega) (by omega)) rfl rfl, callR_data (refClass_ev k (by omega) t.key h4) rfl rfl, callR_data (within_ev k (by omega) _ _) rfl rfl]
        · simp only [s66, n66, ↓evPre, ev0, ev1, ev2, ev3, ev4, ev5, Nat.reduceLT, entE, getE, putE, ↓reduceIte, Nat.reduceEqDiff, argsE, Int.reduceEq, convertA, lenA, foldI, A.cells, A.leaf, List.replicate, viewA, getO, Nat.reduceLeDiff, loadA, cellsAt, cellsTo, faA, indexAddrA, asInt, Int.reduceLE, Int.reduceLT, Int.reduceToNat, eq_self, Nat.reducePow, Int.reducePow, Int.reduceAdd, Int.reduceMul, Int.reduceSub, Int.reduceNeg, keyOk, mapPutA, lookupA, mapOf, sliceA, boundI, elemsOf, appendA, storeA, setRange, indexA, Nat.reduceBEq, Int.cast_ofNat_Int, reduceCtorEq, Nat.reduceAdd, Nat.reduceMul, Nat.reduceSub, evTy0, evTy1, evTy2, evTy3, evTy4, evTy5, Tick.a, checkV, n1, n2, n3, c, a1, a2, a3, callR_data (Pr.refValid_ev k n t.client (by omega) h1 hn) rfl rfl, callR_data (refName_ev k t.service (by omega) (by omega)) rfl rfl, callR_data (refInst_ev k t.inst (by omega) (by omega)) rfl rfl, callR_data (refClass_ev k (by omega) t.key h4) rfl rfl, callR_data (within_ev k (by omega) _ _) rfl rfl]
      · simp only [s66, n66, ↓evPre, ev0, ev1, ev2, ev3, ev4, ev5, Nat.reduceLT, entE, getE, putE, ↓reduceIte, Nat.reduceEqDiff, argsE, Int.reduceEq, convertA, lenA, foldI, A.cells, A.leaf, List.replicate, viewA, getO, Nat.reduceLeDiff, loadA, cellsAt, cellsTo, faA, indexAddrA, asInt, Int.reduceLE, Int.reduceLT, Int.reduceToNat, eq_self, Nat.reducePow, Int.reducePow, Int.reduceAdd, Int.reduceMul, Int.reduceSub, Int.reduceNeg, keyOk, mapPutA, lookupA, mapOf, sliceA, boundI, elemsOf, appendA, storeA, setRange, indexA, Nat.reduceBEq, Int.cast_ofNat_Int, reduceCtorEq, Nat.reduceAdd, Nat.reduceMul, Nat.reduceSub, evTy0, evTy1, evTy2, evTy3, evTy4, evTy5, Tick.a, checkV, n1, n2, n3, c, a1, a2, callR_data (Pr.refValid_ev k n t.client (by omega) h1 hn) rfl rfl, callR_data (refName_ev k t.service (by omega) (by omega)) rfl rfl, callR_data (refInst_ev k t.inst (by omega) (by omega)) rfl rfl, callR_data (refClass_ev k (by omega) t.key h4) rfl rfl, callR_data (within_ev k (by omega) _ _) rfl rfl]
    · simp only [s66, n66, ↓evPre, ev0, ev1, ev2, ev3, ev4, ev5, Nat.reduceLT, entE, getE, putE, ↓reduceIte, Nat.reduceEqDiff, argsE, Int.reduceEq, convertA, lenA, foldI, A.cells, A.leaf, List.replicate, viewA, getO, Nat.reduceLeDiff, loadA, cellsAt, cellsTo, faA, indexAddrA, asInt, Int.reduceLE, Int.reduceLT, Int.reduceToNat, eq_self, Nat.reducePow, Int.reducePow, Int.reduceAdd, Int.reduceMul, Int.reduceSub, Int.reduceNeg, keyOk, mapPutA, lookupA, mapOf, sliceA, boundI, elemsOf, appendA, storeA, setRange, indexA, Nat.reduceBEq, Int.cast_ofNat_Int, reduceCtorEq, Nat.reduceAdd, Nat.reduceMul, Nat.reduceSub, evTy0, evTy1, evTy2, evTy3, evTy4, evTy5, Tick.a, checkV, n1, n2, n3, c, a1, callR_data (Pr.refValid_ev k n t.client (by omega) h1 hn) rfl rfl, callR_data (refName_ev k t.service (by omega) (by omega)) rfl rfl, callR_data (refInst_ev k t.inst (by omega) (by omega)) rfl rfl, callR_data (refClass_ev k (by omega) t.key h4) rfl rfl, callR_data (within_ev k (by omega) _ _) rfl rfl]
  · simp only [s66, n66, ↓evPre, ev0, ev1, ev2, ev3, ev4, ev5, Nat.reduceLT, entE, getE, putE, ↓reduceIte, Nat.reduceEqDiff, argsE, Int.reduceEq, convertA, lenA, foldI, A.cells, A.leaf, List.replicate, viewA, getO, Nat.reduceLeDiff, loadA, cellsAt, cellsTo, faA, indexAddrA, asInt, Int.reduceLE, Int.reduceLT, Int.reduceToNat, eq_self, Nat.reducePow, Int.reducePow, Int.reduceAdd, Int.reduceMul, Int.reduceSub, Int.reduceNeg, keyOk, mapPutA, lookupA, mapOf, sliceA, boundI, elemsOf, appendA, storeA, setRange, indexA, Nat.reduceBEq, Int.cast_ofNat_Int, reduceCtorEq, Nat.reduceAdd, Nat.reduceMul, Nat.reduceSub, evTy0, evTy1, evTy2, evTy3, evTy4, evTy5, Tick.a, checkV, n1, n2, n3, c, callR_data (Pr.refValid_ev k n t.client (by omega) h1 hn) rfl rfl, callR_data (refName_ev k t.service (by omega) (by omega)) rfl rfl, callR_data (refInst_ev k t.inst (by omega) (by omega)) rfl rfl, callR_data (refClass_ev k (by omega) t.key h4) rfl rfl]

/-- A record of version 5. -/
structure Rec where
  client : Prin
  service : Prin
  key : Int
  start : Int
  fin : Int
  addr : Int

def Rec.a (r : Rec) : A := .agg [.d (.str r.client.name), .d (.str r.client.inst), .d (.str r.client.realm), .d (.str r.service.name), .d (.str r.service.inst), .d (.str r.service.realm), .d (.int .u64 r.key), .d (.int .i64 r.start), .d (.int .i64 r.fin), .d (.int .i64 r.addr)]

def Rec.ok (r : Rec) (n : Nat) : Prop := r.client.ok n ∧ r.service.ok n ∧ (0 ≤ r.key ∧ r.key ≤ 18446744073709551615) ∧ (-9223372036854775808 ≤ r.start ∧ r.start ≤ 9223372036854775807) ∧ (-9223372036854775808 ≤ r.fin ∧ r.fin ≤ 9223372036854775807)

def convL (r : Rec) (l : Int) : Tick := ⟨false, r.client, r.addr, r.key, l, r.start, r.service.name, r.service.inst⟩
def convT (r : Rec) : Tick := convL r (fromQ (r.fin - r.start))
def convB (r : Rec) : Bool := decide ((0 ≤ r.start ∧ r.start ≤ 4294967295) ∧ r.start ≤ r.fin ∧ 300 ≤ r.fin - r.start) && decide (checkV (convT r) = 0)
def zeroT : Tick := ⟨false, ⟨ByteArray.empty, ByteArray.empty, ByteArray.empty⟩, 0, 0, 0, 0, ByteArray.empty, ByteArray.empty⟩
def convR (r : Rec) : A := .tup [(if convB r = true then convT r else zeroT).a, .d (.bool (convB r))]

theorem check_range {t : Tick} (h : ¬ (0 ≤ t.issued ∧ t.issued ≤ 4294967295)) : ¬ checkV t = 0 := by
  unfold checkV
  split
  · split
    · rw [if_neg (fun h' => h h'.2.2)]; decide
    · decide
  · decide

theorem Convert_ev (k n : Nat) (r : Rec) (hk : n + 25 ≤ k) (hr : r.ok n) (hn : n ≤ 9223372036854775807) : callF Try.prog Hs E1 k 19 [r.a] [] = some (convR r, []) := by
  obtain ⟨k, rfl⟩ : ∃ j, k = j + 1 := ⟨k - 1, by omega⟩
  refine evalE rfl Try.func19 l19 ?_ (Nat.le_of_ble_eq_true rfl)
  obtain ⟨h1, h2, h3, h4, h5⟩ := hr
  have hd : -9223372036854775808 ≤ IntKind.i64.wrap (r.fin - r.start) ∧ IntKind.i64.wrap (r.fin - r.start) ≤ 9223372036854775807 := by
    rw [IntKind.wrap_i64]; omega
  have hin : (0 ≤ r.start ∧ r.start ≤ 4294967295) → r.start ≤ r.fin → IntKind.i64.wrap (r.fin - r.start) = r.fin - r.start := fun a b => i64_in _ (by omega)
  have hf := From_ev k (by omega) (IntKind.i64.wrap (r.fin - r.start)) hd.2
  by_cases q : IntKind.i64.wrap (r.fin - r.start) < 300
  · have hb : convB r = false := by
      unfold convB
      rw [decide_eq_false, Bool.false_and]
      rintro ⟨a, b, c⟩
      rw [hin a b] at q
      omega
    simp only [tupF, q, if_true] at hf
    simp only [s19, n19, ↓evPre, ev0, ev1, ev2, ev3, ev4, ev5, Nat.reduceLT, entE, getE, putE, ↓reduceIte, Nat.reduceEqDiff, argsE, Int.reduceEq, convertA, lenA, foldI, A.cells, A.leaf, List.replicate, viewA, getO, Nat.reduceLeDiff, loadA, cellsAt, cellsTo, faA, indexAddrA, asInt, Int.reduceLE, Int.reduceLT, Int.reduceToNat, eq_self, Nat.reducePow, Int.reducePow, Int.reduceAdd, Int.reduceMul, Int.reduceSub, Int.reduceNeg, keyOk, mapPutA, lookupA, mapOf, sliceA, boundI, elemsOf, appendA, storeA, setRange, indexA, Nat.reduceBEq, Int.cast_ofNat_Int, reduceCtorEq, Nat.reduceAdd, Nat.reduceMul, Nat.reduceSub, evTy0, evTy1, evTy2, evTy3, evTy4, evTy5, Rec.a, convR, hb, zeroT, Tick.a, callR_data hf rfl rfl]
  · simp only [tupF, q, if_false] at hf
    by_cases q2 : r.fin < r.start
    · have hb : convB r = false := by
        unfold convB
        rw [decide_eq_false, Bool.false_and]
        rintro ⟨a, b, c⟩
        omega
      simp only [s19, n19, ↓evPre, ev0, ev1, ev2, ev3, ev4, ev5, Nat.reduceLT, entE, getE, putE, ↓reduceIte, Nat.reduceEqDiff, argsE, Int.reduceEq, convertA, lenA, foldI, A.cells, A.leaf, List.replicate, viewA, getO, Nat.reduceLeDiff, loadA, cellsAt, cellsTo, faA, indexAddrA, asInt, Int.reduceLE, Int.reduceLT, Int.reduceToNat, eq_self, Nat.reducePow, Int.reducePow, Int.reduceAdd, Int.reduceMul, Int.reduceSub, Int.reduceNeg, keyOk, mapPutA, lookupA, mapOf, sliceA, boundI, elemsOf, appendA, storeA, setRange, indexA, Nat.reduceBEq, Int.cast_ofNat_Int, reduceCtorEq, Nat.reduceAdd, Nat.reduceMul, Nat.reduceSub, evTy0, evTy1, evTy2, evTy3, evTy4, evTy5, Rec.a, convR, hb, zeroT, Tick.a, callR_data hf rfl rfl, q2]
    · have hck := Check_ev k n (convL r (fromQ (IntKind.i64.wrap (r.fin - r.start)))) (by omega) ⟨h1, h2.1, h2.2.1, h3.1, h3.2⟩ hn
      simp only [Tick.a, convL] at hck
      by_cases q3 : 0 ≤ r.start ∧ r.start ≤ 4294967295
      · have hw := hin q3 (by omega)
        rw [hw] at hck hf q
        have hb : convB r = decide (checkV (convT r) = 0) := by
          unfold convB
          rw [decide_eq_true ⟨q3, by omega, by omega⟩, Bool.true_and]
        have hct : checkV (convT r) = checkV ⟨false, r.client, r.addr, r.key, fromQ (r.fin - r.start), r.start, r.service.name, r.service.inst⟩ := rfl
        rw [hct] at hb
        by_cases q4 : checkV ⟨false, r.client, r.addr, r.key, fromQ (r.fin - r.start), r.start, r.service.name, r.service.inst⟩ = 0
        · simp only [s19, n19, ↓evPre, ev0, ev1, ev2, ev3, ev4, ev5, Nat.reduceLT, entE, getE, putE, ↓reduceIte, Nat.reduceEqDiff, argsE, Int.reduceEq, convertA, lenA, foldI, A.cells, A.leaf, List.replicate, viewA, getO, Nat.reduceLeDiff, loadA, cellsAt, cellsTo, faA, indexAddrA, asInt, Int.reduceLE, Int.reduceLT, Int.reduceToNat, eq_self, Nat.reducePow, Int.reducePow, Int.reduceAdd, Int.reduceMul, Int.reduceSub, Int.reduceNeg, keyOk, mapPutA, lookupA, mapOf, sliceA, boundI, elemsOf, appendA, storeA, setRange, indexA, Nat.reduceBEq, Int.cast_ofNat_Int, reduceCtorEq, Nat.reduceAdd, Nat.reduceMul, Nat.reduceSub, evTy0, evTy1, evTy2, evTy3, evTy4, evTy5, Rec.a, convR, hb, hw, convT, convL, Tick.a, callR_data hf rfl rfl, callR_data hck rfl rfl, q2, q4]
        · simp only [s19, n19, ↓evPre, ev0, ev1, ev2, ev3, ev4, ev5, Nat.reduceLT, entE, getE, putE, ↓reduceIte, Nat.reduceEqDiff, argsE, Int.reduceEq, convertA, lenA, foldI, A.cells, A.leaf, List.replicate, viewA, getO, Nat.reduceLeDiff, loadA, cellsAt, cellsTo, faA, indexAddrA, asInt, Int.reduceLE, Int.reduceLT, Int.reduceToNat, eq_self, Nat.reducePow, Int.reducePow, Int.reduceAdd, Int.reduceMul, Int.reduceSub, Int.reduceNeg, keyOk, mapPutA, lookupA, mapOf, sliceA, boundI, elemsOf, appendA, storeA, setRange, indexA, Nat.reduceBEq, Int.cast_ofNat_Int, reduceCtorEq, Nat.reduceAdd, Nat.reduceMul, Nat.reduceSub, evTy0, evTy1, evTy2, evTy3, evTy4, evTy5, Rec.a, convR, hb, hw, zeroT, Tick.a, callR_data hf rfl rfl, callR_data hck rfl rfl, q2, q4]
      · have hb : convB r = false := by
          unfold convB
          rw [decide_eq_false, Bool.false_and]
          rintro ⟨a, b, c⟩
          exact q3 a
        have q4 : ¬ checkV ⟨false, r.client, r.addr, r.key, fromQ (IntKind.i64.wrap (r.fin - r.start)), r.start, r.service.name, r.service.inst⟩ = 0 := check_range q3
        simp only [s19, n19, ↓evPre, ev0, ev1, ev2, ev3, ev4, ev5, Nat.reduceLT, entE, getE, putE, ↓reduceIte, Nat.reduceEqDiff, argsE, Int.reduceEq, convertA, lenA, foldI, A.cells, A.leaf, List.replicate, viewA, getO, Nat.reduceLeDiff, loadA, cellsAt, cellsTo, faA, indexAddrA, asInt, Int.reduceLE, Int.reduceLT, Int.reduceToNat, eq_self, Nat.reducePow, Int.reducePow, Int.reduceAdd, Int.reduceMul, Int.reduceSub, Int.reduceNeg, keyOk, mapPutA, lookupA, mapOf, sliceA, boundI, elemsOf, appendA, storeA, setRange, indexA, Nat.reduceBEq, Int.cast_ofNat_Int, reduceCtorEq, Nat.reduceAdd, Nat.reduceMul, Nat.reduceSub, evTy0, evTy1, evTy2, evTy3, evTy4, evTy5, Rec.a, convR, hb, zeroT, Tick.a, callR_data hf rfl rfl, callR_data hck rfl rfl, q2, q4]

theorem refConvert_ev (k n : Nat) (r : Rec) (hk : n + 25 ≤ k) (hr : r.ok n) (hn : n ≤ 9223372036854775807) : callF Try.prog Hs E1 k 20 [r.a] [] = some (convR r, []) := by
  obtain ⟨k, rfl⟩ : ∃ j, k = j + 1 := ⟨k - 1, by omega⟩
  refine evalE rfl Try.func20 l20 ?_ (Nat.le_of_ble_eq_true rfl)
  obtain ⟨h1, h2, h3, h4, h5⟩ := hr
  have no : ¬ ((0 ≤ r.start ∧ r.start ≤ 4294967295) ∧ r.start ≤ r.fin ∧ 300 ≤ r.fin - r.start) → convB r = false := fun h => by
    unfold convB
    rw [decide_eq_false h, Bool.false_and]
  by_cases a1 : r.start < 0
  · have hb := no (by omega)
    simp only [s20, n20, ↓evPre, ev0, ev1, ev2, ev3, ev4, ev5, Nat.reduceLT, entE, getE, putE, ↓reduceIte, Nat.reduceEqDiff, argsE, Int.reduceEq, convertA, lenA, foldI, A.cells, A.leaf, List.replicate, viewA, getO, Nat.reduceLeDiff, loadA, cellsAt, cellsTo, faA, indexAddrA, asInt, Int.reduceLE, Int.reduceLT, Int.reduceToNat, eq_self, Nat.reducePow, Int.reducePow, Int.reduceAdd, Int.reduceMul, Int.reduceSub, Int.reduceNeg, keyOk, mapPutA, lookupA, mapOf, sliceA, boundI, elemsOf, appendA, storeA, setRange, indexA, Nat.reduceBEq, Int.cast_ofNat_Int, reduceCtorEq, Nat.reduceAdd, Nat.reduceMul, Nat.reduceSub, evTy0, evTy1, evTy2, evTy3, evTy4, evTy5, Rec.a, convR, hb, zeroT, Tick.a, a1]
  by_cases a2 : 4294967295 < r.start
  · have hb := no (by omega)
    simp only [s20, n20, ↓evPre, ev0, ev1, ev2, ev3, ev4, ev5, Nat.reduceLT, entE, getE, putE, ↓reduceIte, Nat.reduceEqDiff, argsE, Int.reduceEq, convertA, lenA, foldI, A.cells, A.leaf, List.replicate, viewA, getO, Nat.reduceLeDiff, loadA, cellsAt, cellsTo, faA, indexAddrA, asInt, Int.reduceLE, Int.reduceLT, Int.reduceToNat, eq_self, Nat.reducePow, Int.reducePow, Int.reduceAdd, Int.reduceMul, Int.reduceSub, Int.reduceNeg, keyOk, mapPutA, lookupA, mapOf, sliceA, boundI, elemsOf, appendA, storeA, setRange, indexA, Nat.reduceBEq, Int.cast_ofNat_Int, reduceCtorEq, Nat.reduceAdd, Nat.reduceMul, Nat.reduceSub, evTy0, evTy1, evTy2, evTy3, evTy4, evTy5, Rec.a, convR, hb, zeroT, Tick.a, a1, a2]
  by_cases a3 : r.fin < r.start
  · have hb := no (by omega)
    simp only [s20, n20, ↓evPre, ev0, ev1, ev2, ev3, ev4, ev5, Nat.reduceLT, entE, getE, putE, ↓reduceIte, Nat.reduceEqDiff, argsE, Int.reduceEq, convertA, lenA, foldI, A.cells, A.leaf, List.replicate, viewA, getO, Nat.reduceLeDiff, loadA, cellsAt, cellsTo, faA, indexAddrA, asInt, Int.reduceLE, Int.reduceLT, Int.reduceToNat, eq_self, Nat.reducePow, Int.reducePow, Int.reduceAdd, Int.reduceMul, Int.reduceSub, Int.reduceNeg, keyOk, mapPutA, lookupA, mapOf, sliceA, boundI, elemsOf, appendA, storeA, setRange, indexA, Nat.reduceBEq, Int.cast_ofNat_Int, reduceCtorEq, Nat.reduceAdd, Nat.reduceMul, Nat.reduceSub, evTy0, evTy1, evTy2, evTy3, evTy4, evTy5, Rec.a, convR, hb, zeroT, Tick.a, a1, a2, a3]
  have hw := i64_in (r.fin - r.start) (by omega)
  have hf := refFrom_ev k (by omega) (r.fin - r.start) (by omega)
  by_cases q : r.fin - r.start < 300
  · have hb := no (by omega)
    simp only [tupF, q, if_true] at hf
    simp only [s20, n20, ↓evPre, ev0, ev1, ev2, ev3, ev4, ev5, Nat.reduceLT, entE, getE, putE, ↓reduceIte, Nat.reduceEqDiff, argsE, Int.reduceEq, convertA, lenA, foldI, A.cells, A.leaf, List.replicate, viewA, getO, Nat.reduceLeDiff, loadA, cellsAt, cellsTo, faA, indexAddrA, asInt, Int.reduceLE, Int.reduceLT, Int.reduceToNat, eq_self, Nat.reducePow, Int.reducePow, Int.reduceAdd, Int.reduceMul, Int.reduceSub, Int.reduceNeg, keyOk, mapPutA, lookupA, mapOf, sliceA, boundI, elemsOf, appendA, storeA, setRange, indexA, Nat.reduceBEq, Int.cast_ofNat_Int, reduceCtorEq, Nat.reduceAdd, Nat.reduceMul, Nat.reduceSub, evTy0, evTy1, evTy2, evTy3, evTy4, evTy5, Rec.a, convR, hb, hw, zeroT, Tick.a, a1, a2, a3, callR_data hf rfl rfl]
  · simp only [tupF, q, if_false] at hf
    have hck := refCheck_ev k n (convL r (fromQ (r.fin - r.start))) (by omega) ⟨h1, h2.1, h2.2.1, h3.1, h3.2⟩ hn
    simp only [Tick.a, convL] at hck
    have hb : convB r = decide (checkV (convT r) = 0) := by
      unfold convB
      rw [decide_eq_true ⟨by omega, by omega, by omega⟩, Bool.true_and]
    have hct : checkV (convT r) = checkV ⟨false, r.client, r.addr, r.key, fromQ (r.fin - r.start), r.start, r.service.name, r.service.inst⟩ := rfl
    rw [hct] at hb
    by_cases q4 : checkV ⟨false, r.client, r.addr, r.key, fromQ (r.fin - r.start), r.start, r.service.name, r.service.inst⟩ = 0
    · simp only [s20, n20, ↓evPre, ev0, ev1, ev2, ev3, ev4, ev5, Nat.reduceLT, entE, getE, putE, ↓reduceIte, Nat.reduceEqDiff, argsE, Int.reduceEq, convertA, lenA, foldI, A.cells, A.leaf, List.replicate, viewA, getO, Nat.reduceLeDiff, loadA, cellsAt, cellsTo, faA, indexAddrA, asInt, Int.reduceLE, Int.reduceLT, Int.reduceToNat, eq_self, Nat.reducePow, Int.reducePow, Int.reduceAdd, Int.reduceMul, Int.reduceSub, Int.reduceNeg, keyOk, mapPutA, lookupA, mapOf, sliceA, boundI, elemsOf, appendA, storeA, setRange, indexA, Nat.reduceBEq, Int.cast_ofNat_Int, reduceCtorEq, Nat.reduceAdd, Nat.reduceMul, Nat.reduceSub, evTy0, evTy1, evTy2, evTy3, evTy4, evTy5, Rec.a, convR, hb, hw, convT, convL, Tick.a, a1, a2, a3, callR_data hf rfl rfl, callR_data hck rfl rfl, q4]
    · simp only [s20, n20, ↓evPre, ev0, ev1, ev2, ev3, ev4, ev5, Nat.reduceLT, entE, getE, putE, ↓reduceIte, Nat.reduceEqDiff, argsE, Int.reduceEq, convertA, lenA, foldI, A.cells, A.leaf, List.replicate, viewA, getO, Nat.reduceLeDiff, loadA, cellsAt, cellsTo, faA, indexAddrA, asInt, Int.reduceLE, Int.reduceLT, Int.reduceToNat, eq_self, Nat.reducePow, Int.reducePow, Int.reduceAdd, Int.reduceMul, Int.reduceSub, Int.reduceNeg, keyOk, mapPutA, lookupA, mapOf, sliceA, boundI, elemsOf, appendA, storeA, setRange, indexA, Nat.reduceBEq, Int.cast_ofNat_Int, reduceCtorEq, Nat.reduceAdd, Nat.reduceMul, Nat.reduceSub, evTy0, evTy1, evTy2, evTy3, evTy4, evTy5, Rec.a, convR, hb, hw, zeroT, Tick.a, a1, a2, a3, callR_data hf rfl rfl, callR_data hck rfl rfl, q4]
end Cv
end Ab
