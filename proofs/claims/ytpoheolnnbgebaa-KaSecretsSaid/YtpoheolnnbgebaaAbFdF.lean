/- A part of the proof of a row by an interpreter that is proved sound; no conditions of its own. -/
import Derived.Test.YtpoheolnnbgebaaAbFdC
namespace Ab
open Go Go.Proofs Go.IntWalk
set_option maxRecDepth 10000
set_option linter.unusedSimpArgs false
set_option linter.unusedVariables false
namespace Fi
open Pr Key

theorem resA_bp {H : Hints} {f : FuncId} {o : Store} {i a : Nat} (h : H.own f = false) : resA H f o (.bp i a) = some (.bp i a, o) := by
  simp [resA, h, A.flat, exA, exCell, shutA]

theorem callR_back {call : FuncId → List A → Store → Option (A × Store)} {o : Store} {f : FuncId} {args : List A} {dr : Option Nat} {r : A} {sub : Store} (hc : call f args [] = some (r, sub)) (ha : (args.all A.data1) = true) : callR call f args o dr = backA [] o dr r sub := by
  obtain ⟨h1, h2, h3, h4, h5⟩ := datas_ok ha
  simp [callR, h1, reach_nil, h2, renOs, hc]

/-- A cursor's cells. -/
def cu (b : List Int) (c : Cu) : O := .box [.d (.sl 1 (ints .u8 b)), .d (.int .i64 c.p), .d (.bool false), .d (.bool c.bad)]

theorem New_ev (k : Nat) (hk : 1 ≤ k) (b : List Int) (p : Int) : callF Try.prog Hs E1 k 65 [.d (.sl 1 (ints .u8 b)), .d (.int .i64 p), .d (.bool false)] [] = some (.bp 0 0, [cu b ⟨p, false⟩]) := by
  obtain ⟨k, rfl⟩ : ∃ j, k = j + 1 := ⟨k - 1, by omega⟩
  refine evalE rfl Try.func65 l65 ?_ (Nat.le_of_ble_eq_true rfl)
  simp only [s65, n65, ↓evPre, ev0, ev1, ev2, ev3, ev4, ev5, Nat.reduceLT, entE, getE, putE, ↓reduceIte, Nat.reduceEqDiff, argsE, Int.reduceEq, convertA, lenA, foldI, A.cells, A.leaf, List.replicate, viewA, getO, Nat.reduceLeDiff, loadA, cellsAt, cellsTo, faA, indexAddrA, asInt, Int.reduceLE, Int.reduceLT, Int.reduceToNat, eq_self, Nat.reducePow, Int.reducePow, Int.reduceAdd, Int.reduceMul, Int.reduceSub, Int.reduceNeg, keyOk, mapPutA, lookupA, mapOf, sliceA, boundI, elemsOf, appendA, storeA, setRange, indexA, Nat.reduceBEq, Int.cast_ofNat_Int, reduceCtorEq, Nat.reduceAdd, Nat.reduceMul, Nat.reduceSub, evTy0, evTy1, evTy2, evTy3, evTy4, evTy5, evTy6, evTy7, evTy8, resA_bp, cu]

theorem Octet1_ev (k : Nat) (hk : 80 ≤ k) (b : List Int) (hb : b.length ≤ 1000000) (ho : okL b) (q : Int) (bad : Bool) (p : Int) (hp : p ≤ 2000000 ∧ -9223372036854775808 ≤ p) :
    callF Try.prog Hs E1 k 81 [.d (.int .i64 p), .bp 0 0] [.box [.bp 1 0], .box [.d (.sl 1 (ints .u8 b)), .d (.int .i64 q), .d (.bool false), .d (.bool bad)]] = some (rdT (rdV b p 1), [.box [.bp 1 0], .box [.d (.sl 1 (ints .u8 b)), .d (.int .i64 q), .d (.bool false), .d (.bool bad)]]) := by
  obtain ⟨k, rfl⟩ : ∃ j, k = j + 1 := ⟨k - 1, by omega⟩
  refine evalE rfl Try.func81 l81 ?_ (Nat.le_of_ble_eq_true rfl)
  have f1 := Octet_ev k (by omega) b hb ho p hp
  simp only [rdT] at f1
  simp only [s81, n81, ↓evPre, ev0, ev1, ev2, ev3, ev4, ev5, Nat.reduceLT, entE, getE, putE, ↓reduceIte, Nat.reduceEqDiff, argsE, Int.reduceEq, convertA, lenA, foldI, A.cells, A.leaf, List.replicate, viewA, getO, Nat.reduceLeDiff, loadA, cellsAt, cellsTo, faA, indexAddrA, asInt, Int.reduceLE, Int.reduceLT, Int.reduceToNat, eq_self, Nat.reducePow, Int.reducePow, Int.reduceAdd, Int.reduceMul, Int.reduceSub, Int.reduceNeg, keyOk, mapPutA, lookupA, mapOf, sliceA, boundI, elemsOf, appendA, storeA, setRange, indexA, Nat.reduceBEq, Int.cast_ofNat_Int, reduceCtorEq, Nat.reduceAdd, Nat.reduceMul, Nat.reduceSub, evTy0, evTy1, evTy2, evTy3, evTy4, evTy5, evTy6, evTy7, evTy8, callR_data f1 rfl rfl, rdT]

theorem nextOctet_ev (k : Nat) (hk : 82 ≤ k) (b : List Int) (hb : b.length ≤ 1000000) (ho : okL b) (c : Cu) (hp : c.p ≤ 2000000 ∧ -9223372036854775808 ≤ c.p) :
    callF Try.prog Hs E1 k 80 [.bp 0 0, .fn 81 [] [.bp 1 0]] [cu b c, .box [.bp 0 0]] = some (.d (.int .i64 (nxN b 1 c).1), [cu b (nxN b 1 c).2, .box [.bp 0 0]]) := by
  obtain ⟨k, rfl⟩ : ∃ j, k = j + 1 := ⟨k - 1, by omega⟩
  refine evalE rfl Try.func80 l80 ?_ (Nat.le_of_ble_eq_true rfl)
  obtain ⟨p, bad⟩ := c
  simp only [nxN, nx]
  simp only at hp
  cases bad
  · have f1 := Octet1_ev k (by omega) b hb ho p false p hp
    simp only [Bool.false_eq_true, if_false]
    generalize rdV b p 1 = v at f1
    obtain ⟨x, q, e⟩ := v
    simp only [rdT] at f1
    by_cases he : e = 0
    · simp only [he, if_true]
      simp only [he] at f1
      simp only [s80, n80, ↓evPre, ev0, ev1, ev2, ev3, ev4, ev5, Nat.reduceLT, entE, getE, putE, ↓reduceIte, Nat.reduceEqDiff, argsE, Int.reduceEq, convertA, lenA, foldI, A.cells, A.leaf, List.replicate, viewA, getO, Nat.reduceLeDiff, loadA, cellsAt, cellsTo, faA, indexAddrA, asInt, Int.reduceLE, Int.reduceLT, Int.reduceToNat, eq_self, Nat.reducePow, Int.reducePow, Int.reduceAdd, Int.reduceMul, Int.reduceSub, Int.reduceNeg, keyOk, mapPutA, lookupA, mapOf, sliceA, boundI, elemsOf, appendA, storeA, setRange, indexA, Nat.reduceBEq, Int.cast_ofNat_Int, reduceCtorEq, Nat.reduceAdd, Nat.reduceMul, Nat.reduceSub, evTy0, evTy1, evTy2, evTy3, evTy4, evTy5, evTy6, evTy7, evTy8, cu, f1]
    · simp only [he, if_false]
      simp only [s80, n80, ↓evPre, ev0, ev1, ev2, ev3, ev4, ev5, Nat.reduceLT, entE, getE, putE, ↓reduceIte, Nat.reduceEqDiff, argsE, Int.reduceEq, convertA, lenA, foldI, A.cells, A.leaf, List.replicate, viewA, getO, Nat.reduceLeDiff, loadA, cellsAt, cellsTo, faA, indexAddrA, asInt, Int.reduceLE, Int.reduceLT, Int.reduceToNat, eq_self, Nat.reducePow, Int.reducePow, Int.reduceAdd, Int.reduceMul, Int.reduceSub, Int.reduceNeg, keyOk, mapPutA, lookupA, mapOf, sliceA, boundI, elemsOf, appendA, storeA, setRange, indexA, Nat.reduceBEq, Int.cast_ofNat_Int, reduceCtorEq, Nat.reduceAdd, Nat.reduceMul, Nat.reduceSub, evTy0, evTy1, evTy2, evTy3, evTy4, evTy5, evTy6, evTy7, evTy8, cu, f1, he, zP]
      try rfl
  · simp only [if_true]
    simp only [s80, n80, ↓evPre, ev0, ev1, ev2, ev3, ev4, ev5, Nat.reduceLT, entE, getE, putE, ↓reduceIte, Nat.reduceEqDiff, argsE, Int.reduceEq, convertA, lenA, foldI, A.cells, A.leaf, List.replicate, viewA, getO, Nat.reduceLeDiff, loadA, cellsAt, cellsTo, faA, indexAddrA, asInt, Int.reduceLE, Int.reduceLT, Int.reduceToNat, eq_self, Nat.reducePow, Int.reducePow, Int.reduceAdd, Int.reduceMul, Int.reduceSub, Int.reduceNeg, keyOk, mapPutA, lookupA, mapOf, sliceA, boundI, elemsOf, appendA, storeA, setRange, indexA, Nat.reduceBEq, Int.cast_ofNat_Int, reduceCtorEq, Nat.reduceAdd, Nat.reduceMul, Nat.reduceSub, evTy0, evTy1, evTy2, evTy3, evTy4, evTy5, evTy6, evTy7, evTy8, cu, zP]
    try rfl

theorem cOctet_ev (k : Nat) (hk : 84 ≤ k) (b : List Int) (hb : b.length ≤ 1000000) (ho : okL b) (c : Cu) (hp : c.p ≤ 2000000 ∧ -9223372036854775808 ≤ c.p) :
    callF Try.prog Hs E1 k 47 [.bp 0 0] [cu b c] = some (.d (.int .i64 (nxN b 1 c).1), [cu b (nxN b 1 c).2]) := by
  obtain ⟨k, rfl⟩ : ∃ j, k = j + 1 := ⟨k - 1, by omega⟩
  refine evalE rfl Try.func47 l47 ?_ (Nat.le_of_ble_eq_true rfl)
  have f1 := nextOctet_ev k (by omega) b hb ho c hp
  generalize nxN b 1 c = v at f1 ⊢
  simp only [cu] at f1 ⊢
  simp only [s47, n47, ↓evPre, ev0, ev1, ev2, ev3, ev4, ev5, Nat.reduceLT, entE, getE, putE, ↓reduceIte, Nat.reduceEqDiff, argsE, Int.reduceEq, convertA, lenA, foldI, A.cells, A.leaf, List.replicate, viewA, getO, Nat.reduceLeDiff, loadA, cellsAt, cellsTo, faA, indexAddrA, asInt, Int.reduceLE, Int.reduceLT, Int.reduceToNat, eq_self, Nat.reducePow, Int.reducePow, Int.reduceAdd, Int.reduceMul, Int.reduceSub, Int.reduceNeg, keyOk, mapPutA, lookupA, mapOf, sliceA, boundI, elemsOf, appendA, storeA, setRange, indexA, Nat.reduceBEq, Int.cast_ofNat_Int, reduceCtorEq, Nat.reduceAdd, Nat.reduceMul, Nat.reduceSub, evTy0, evTy1, evTy2, evTy3, evTy4, evTy5, evTy6, evTy7, evTy8, f1]

theorem Short1_ev (k : Nat) (hk : 80 ≤ k) (b : List Int) (hb : b.length ≤ 1000000) (ho : okL b) (q : Int) (bad : Bool) (p : Int) (hp : p ≤ 2000000 ∧ -9223372036854775808 ≤ p) :
    callF Try.prog Hs E1 k 92 [.d (.int .i64 p), .bp 0 0] [.box [.bp 1 0], .box [.d (.sl 1 (ints .u8 b)), .d (.int .i64 q), .d (.bool false), .d (.bool bad)]] = some (rdT (rdV b p 2), [.box [.bp 1 0], .box [.d (.sl 1 (ints .u8 b)), .d (.int .i64 q), .d (.bool false), .d (.bool bad)]]) := by
  obtain ⟨k, rfl⟩ : ∃ j, k = j + 1 := ⟨k - 1, by omega⟩
  refine evalE rfl Try.func92 l92 ?_ (Nat.le_of_ble_eq_true rfl)
  have f1 := Short_ev k (by omega) b hb ho p hp
  simp only [rdT] at f1
  simp only [s92, n92, ↓evPre, ev0, ev1, ev2, ev3, ev4, ev5, Nat.reduceLT, entE, getE, putE, ↓reduceIte, Nat.reduceEqDiff, argsE, Int.reduceEq, convertA, lenA, foldI, A.cells, A.leaf, List.replicate, viewA, getO, Nat.reduceLeDiff, loadA, cellsAt, cellsTo, faA, indexAddrA, asInt, Int.reduceLE, Int.reduceLT, Int.reduceToNat, eq_self, Nat.reducePow, Int.reducePow, Int.reduceAdd, Int.reduceMul, Int.reduceSub, Int.reduceNeg, keyOk, mapPutA, lookupA, mapOf, sliceA, boundI, elemsOf, appendA, storeA, setRange, indexA, Nat.reduceBEq, Int.cast_ofNat_Int, reduceCtorEq, Nat.reduceAdd, Nat.reduceMul, Nat.reduceSub, evTy0, evTy1, evTy2, evTy3, evTy4, evTy5, evTy6, evTy7, evTy8, callR_data f1 rfl rfl, rdT]

theorem nextShort_ev (k : Nat) (hk : 82 ≤ k) (b : List Int) (hb : b.length ≤ 1000000) (ho : okL b) (c : Cu) (hp : c.p ≤ 2000000 ∧ -9223372036854775808 ≤ c.p) :
    callF Try.prog Hs E1 k 80 [.bp 0 0, .fn 92 [] [.bp 1 0]] [cu b c, .box [.bp 0 0]] = some (.d (.int .i64 (nxN b 2 c).1), [cu b (nxN b 2 c).2, .box [.bp 0 0]]) := by
  obtain ⟨k, rfl⟩ : ∃ j, k = j + 1 := ⟨k - 1, by omega⟩
  refine evalE rfl Try.func80 l80 ?_ (Nat.le_of_ble_eq_true rfl)
  obtain ⟨p, bad⟩ := c
  simp only [nxN, nx]
  simp only at hp
  cases bad
  · have f1 := Short1_ev k (by omega) b hb ho p false p hp
    simp only [Bool.false_eq_true, if_false]
    generalize rdV b p 2 = v at f1
    obtain ⟨x, q, e⟩ := v
    simp only [rdT] at f1
    by_cases he : e = 0
    · simp only [he, if_true]
      simp only [he] at f1
      simp only [s80, n80, ↓evPre, ev0, ev1, ev2, ev3, ev4, ev5, Nat.reduceLT, entE, getE, putE, ↓reduceIte, Nat.reduceEqDiff, argsE, Int.reduceEq, convertA, lenA, foldI, A.cells, A.leaf, List.replicate, viewA, getO, Nat.reduceLeDiff, loadA, cellsAt, cellsTo, faA, indexAddrA, asInt, Int.reduceLE, Int.reduceLT, Int.reduceToNat, eq_self, Nat.reducePow, Int.reducePow, Int.reduceAdd, Int.reduceMul, Int.reduceSub, Int.reduceNeg, keyOk, mapPutA, lookupA, mapOf, sliceA, boundI, elemsOf, appendA, storeA, setRange, indexA, Nat.reduceBEq, Int.cast_ofNat_Int, reduceCtorEq, Nat.reduceAdd, Nat.reduceMul, Nat.reduceSub, evTy0, evTy1, evTy2, evTy3, evTy4, evTy5, evTy6, evTy7, evTy8, cu, f1]
    · simp only [he, if_false]
      simp only [s80, n80, ↓evPre, ev0, ev1, ev2, ev3, ev4, ev5, Nat.reduceLT, entE, getE, putE, ↓reduceIte, Nat.reduceEqDiff, argsE, Int.reduceEq, convertA, lenA, foldI, A.cells, A.leaf, List.replicate, viewA, getO, Nat.reduceLeDiff, loadA, cellsAt, cellsTo, faA, indexAddrA, asInt, Int.reduceLE, Int.reduceLT, Int.reduceToNat, eq_self, Nat.reducePow, Int.reducePow, Int.reduceAdd, Int.reduceMul, Int.reduceSub, Int.reduceNeg, keyOk, mapPutA, lookupA, mapOf, sliceA, boundI, elemsOf, appendA, storeA, setRange, indexA, Nat.reduceBEq, Int.cast_ofNat_Int, reduceCtorEq, Nat.reduceAdd, Nat.reduceMul, Nat.reduceSub, evTy0, evTy1, evTy2, evTy3, evTy4, evTy5, evTy6, evTy7, evTy8, cu, f1, he, zP]
      try rfl
  · simp only [if_true]
    simp only [s80, n80, ↓evPre, ev0, ev1, ev2, ev3, ev4, ev5, Nat.reduceLT, entE, getE, putE, ↓reduceIte, Nat.reduceEqDiff, argsE, Int.reduceEq, convertA, lenA, foldI, A.cells, A.leaf, List.replicate, viewA, getO, Nat.reduceLeDiff, loadA, cellsAt, cellsTo, faA, indexAddrA, asInt, Int.reduceLE, Int.reduceLT, Int.reduceToNat, eq_self, Nat.reducePow, Int.reducePow, Int.reduceAdd, Int.reduceMul, Int.reduceSub, Int.reduceNeg, keyOk, mapPutA, lookupA, mapOf, sliceA, boundI, elemsOf, appendA, storeA, setRange, indexA, Nat.reduceBEq, Int.cast_ofNat_Int, reduceCtorEq, Nat.reduceAdd, Nat.reduceMul, Nat.reduceSub, evTy0, evTy1, evTy2, evTy3, evTy4, evTy5, evTy6, evTy7, evTy8, cu, zP]
    try rfl

theorem cShort_ev (k : Nat) (hk : 84 ≤ k) (b : List Int) (hb : b.length ≤ 1000000) (ho : okL b) (c : Cu) (hp : c.p ≤ 2000000 ∧ -9223372036854775808 ≤ c.p) :
    callF Try.prog Hs E1 k 51 [.bp 0 0] [cu b c] = some (.d (.int .i64 (nxN b 2 c).1), [cu b (nxN b 2 c).2]) := by
  obtain ⟨k, rfl⟩ : ∃ j, k = j + 1 := ⟨k - 1, by omega⟩
  refine evalE rfl Try.func51 l51 ?_ (Nat.le_of_ble_eq_true rfl)
  have f1 := nextShort_ev k (by omega) b hb ho c hp
  generalize nxN b 2 c = v at f1 ⊢
  simp only [cu] at f1 ⊢
  simp only [s51, n51, ↓evPre, ev0, ev1, ev2, ev3, ev4, ev5, Nat.reduceLT, entE, getE, putE, ↓reduceIte, Nat.reduceEqDiff, argsE, Int.reduceEq, convertA, lenA, foldI, A.cells, A.leaf, List.replicate, viewA, getO, Nat.reduceLeDiff, loadA, cellsAt, cellsTo, faA, indexAddrA, asInt, Int.reduceLE, Int.reduceLT, Int.reduceToNat, eq_self, Nat.reducePow, Int.reducePow, Int.reduceAdd, Int.reduceMul, Int.reduceSub, Int.reduceNeg, keyOk, mapPutA, lookupA, mapOf, sliceA, boundI, elemsOf, appendA, storeA, setRange, indexA, Nat.reduceBEq, Int.cast_ofNat_Int, reduceCtorEq, Nat.reduceAdd, Nat.reduceMul, Nat.reduceSub, evTy0, evTy1, evTy2, evTy3, evTy4, evTy5, evTy6, evTy7, evTy8, f1]

theorem Number1_ev (k : Nat) (hk : 80 ≤ k) (b : List Int) (hb : b.length ≤ 1000000) (ho : okL b) (q : Int) (bad : Bool) (p : Int) (hp : p ≤ 2000000 ∧ -9223372036854775808 ≤ p) :
    callF Try.prog Hs E1 k 100 [.d (.int .i64 p), .bp 0 0] [.box [.bp 1 0], .box [.d (.sl 1 (ints .u8 b)), .d (.int .i64 q), .d (.bool false), .d (.bool bad)]] = some (rdT (rdV b p 4), [.box [.bp 1 0], .box [.d (.sl 1 (ints .u8 b)), .d (.int .i64 q), .d (.bool false), .d (.bool bad)]]) := by
  obtain ⟨k, rfl⟩ : ∃ j, k = j + 1 := ⟨k - 1, by omega⟩
  refine evalE rfl Try.func100 l100 ?_ (Nat.le_of_ble_eq_true rfl)
  have f1 := Number_ev k (by omega) b hb ho p hp
  simp only [rdT] at f1
  simp only [s100, n100, ↓evPre, ev0, ev1, ev2, ev3, ev4, ev5, Nat.reduceLT, entE, getE, putE, ↓reduceIte, Nat.reduceEqDiff, argsE, Int.reduceEq, convertA, lenA, foldI, A.cells, A.leaf, List.replicate, viewA, getO, Nat.reduceLeDiff, loadA, cellsAt, cellsTo, faA, indexAddrA, asInt, Int.reduceLE, Int.reduceLT, Int.reduceToNat, eq_self, Nat.reducePow, Int.reducePow, Int.reduceAdd, Int.reduceMul, Int.reduceSub, Int.reduceNeg, keyOk, mapPutA, lookupA, mapOf, sliceA, boundI, elemsOf, appendA, storeA, setRange, indexA, Nat.reduceBEq, Int.cast_ofNat_Int, reduceCtorEq, Nat.reduceAdd, Nat.reduceMul, Nat.reduceSub, evTy0, evTy1, evTy2, evTy3, evTy4, evTy5, evTy6, evTy7, evTy8, callR_data f1 rfl rfl, rdT]

theorem nextNumber_ev (k : Nat) (hk : 82 ≤ k) (b : List Int) (hb : b.length ≤ 1000000) (ho : okL b) (c : Cu) (hp : c.p ≤ 2000000 ∧ -9223372036854775808 ≤ c.p) :
    callF Try.prog Hs E1 k 80 [.bp 0 0, .fn 100 [] [.bp 1 0]] [cu b c, .box [.bp 0 0]] = some (.d (.int .i64 (nxN b 4 c).1), [cu b (nxN b 4 c).2, .box [.bp 0 0]]) := by
  obtain ⟨k, rfl⟩ : ∃ j, k = j + 1 := ⟨k - 1, by omega⟩
  refine evalE rfl Try.func80 l80 ?_ (Nat.le_of_ble_eq_true rfl)
  obtain ⟨p, bad⟩ := c
  simp only [nxN, nx]
  simp only at hp
  cases bad
  · have f1 := Number1_ev k (by omega) b hb ho p false p hp
    simp only [Bool.false_eq_true, if_false]
    generalize rdV b p 4 = v at f1
    obtain ⟨x, q, e⟩ := v
    simp only [rdT] at f1
    by_cases he : e = 0
    · simp only [he, if_true]
      simp only [he] at f1
      simp only [s80, n80, ↓evPre, ev0, ev1, ev2, ev3, ev4, ev5, Nat.reduceLT, entE, getE, putE, ↓reduceIte, Nat.reduceEqDiff, argsE, Int.reduceEq, convertA, lenA, foldI, A.cells, A.leaf, List.replicate, viewA, getO, Nat.reduceLeDiff, loadA, cellsAt, cellsTo, faA, indexAddrA, asInt, Int.reduceLE, Int.reduceLT, Int.reduceToNat, eq_self, Nat.reducePow, Int.reducePow, Int.reduceAdd, Int.reduceMul, Int.reduceSub, Int.reduceNeg, keyOk, mapPutA, lookupA, mapOf, sliceA, boundI, elemsOf, appendA, storeA, setRange, indexA, Nat.reduceBEq, Int.cast_ofNat_Int, reduceCtorEq, Nat.reduceAdd, Nat.reduceMul, Nat.reduceSub, evTy0, evTy1, evTy2, evTy3, evTy4, evTy5, evTy6, evTy7, evTy8, cu, f1]
    · simp only [he, if_false]
      simp only [s80, n80, ↓evPre, ev0, ev1, ev2, ev3, ev4, ev5, Nat.reduceLT, entE, getE, putE, ↓reduceIte, Nat.reduceEqDiff, argsE, Int.reduceEq, convertA, lenA, foldI, A.cells, A.leaf, List.replicate, viewA, getO, Nat.reduceLeDiff, loadA, cellsAt, cellsTo, faA, indexAddrA, asInt, Int.reduceLE, Int.reduceLT, Int.reduceToNat, eq_self, Nat.reducePow, Int.reducePow, Int.reduceAdd, Int.reduceMul, Int.reduceSub, Int.reduceNeg, keyOk, mapPutA, lookupA, mapOf, sliceA, boundI, elemsOf, appendA, storeA, setRange, indexA, Nat.reduceBEq, Int.cast_ofNat_Int, reduceCtorEq, Nat.reduceAdd, Nat.reduceMul, Nat.reduceSub, evTy0, evTy1, evTy2, evTy3, evTy4, evTy5, evTy6, evTy7, evTy8, cu, f1, he, zP]
      try rfl
  · simp only [if_true]
    simp only [s80, n80, ↓evPre, ev0, ev1, ev2, ev3, ev4, ev5, Nat.reduceLT, entE, getE, putE, ↓reduceIte, Nat.reduceEqDiff, argsE, Int.reduceEq, convertA, lenA, foldI, A.cells, A.leaf, List.replicate, viewA, getO, Nat.reduceLeDiff, loadA, cellsAt, cellsTo, faA, indexAddrA, asInt, Int.reduceLE, Int.reduceLT, Int.reduceToNat, eq_self, Nat.reducePow, Int.reducePow, Int.reduceAdd, Int.reduceMul, Int.reduceSub, Int.reduceNeg, keyOk, mapPutA, lookupA, mapOf, sliceA, boundI, elemsOf, appendA, storeA, setRange, indexA, Nat.reduceBEq, Int.cast_ofNat_Int, reduceCtorEq, Nat.reduceAdd, Nat.reduceMul, Nat.reduceSub, evTy0, evTy1, evTy2, evTy3, evTy4, evTy5, evTy6, evTy7, evTy8, cu, zP]
    try rfl

theorem cNumber_ev (k : Nat) (hk : 84 ≤ k) (b : List Int) (hb : b.length ≤ 1000000) (ho : okL b) (c : Cu) (hp : c.p ≤ 2000000 ∧ -9223372036854775808 ≤ c.p) :
    callF Try.prog Hs E1 k 66 [.bp 0 0] [cu b c] = some (.d (.int .i64 (nxN b 4 c).1), [cu b (nxN b 4 c).2]) := by
  obtain ⟨k, rfl⟩ : ∃ j, k = j + 1 := ⟨k - 1, by omega⟩
  refine evalE rfl Try.func66 l66 ?_ (Nat.le_of_ble_eq_true rfl)
  have f1 := nextNumber_ev k (by omega) b hb ho c hp
  generalize nxN b 4 c = v at f1 ⊢
  simp only [cu] at f1 ⊢
  simp only [s66, n66, ↓evPre, ev0, ev1, ev2, ev3, ev4, ev5, Nat.reduceLT, entE, getE, putE, ↓reduceIte, Nat.reduceEqDiff, argsE, Int.reduceEq, convertA, lenA, foldI, A.cells, A.leaf, List.replicate, viewA, getO, Nat.reduceLeDiff, loadA, cellsAt, cellsTo, faA, indexAddrA, asInt, Int.reduceLE, Int.reduceLT, Int.reduceToNat, eq_self, Nat.reducePow, Int.reducePow, Int.reduceAdd, Int.reduceMul, Int.reduceSub, Int.reduceNeg, keyOk, mapPutA, lookupA, mapOf, sliceA, boundI, elemsOf, appendA, storeA, setRange, indexA, Nat.reduceBEq, Int.cast_ofNat_Int, reduceCtorEq, Nat.reduceAdd, Nat.reduceMul, Nat.reduceSub, evTy0, evTy1, evTy2, evTy3, evTy4, evTy5, evTy6, evTy7, evTy8, f1]

theorem Text1_ev (k : Nat) (hk : 80 ≤ k) (b : List Int) (hb : b.length ≤ 1000000) (ho : okL b) (q : Int) (bad : Bool) (p : Int) (hp : p ≤ 2000000 ∧ -9223372036854775808 ≤ p) :
    callF Try.prog Hs E1 k 84 [.d (.int .i64 p), .bp 0 0] [.box [.bp 1 0], .box [.d (.sl 1 (ints .u8 b)), .d (.int .i64 q), .d (.bool false), .d (.bool bad)]] = some (txT (txV b p), [.box [.bp 1 0], .box [.d (.sl 1 (ints .u8 b)), .d (.int .i64 q), .d (.bool false), .d (.bool bad)]]) := by
  obtain ⟨k, rfl⟩ : ∃ j, k = j + 1 := ⟨k - 1, by omega⟩
  refine evalE rfl Try.func84 l84 ?_ (Nat.le_of_ble_eq_true rfl)
  have f1 := Text_ev k (by omega) b hb ho p hp
  simp only [txT] at f1
  simp only [s84, n84, ↓evPre, ev0, ev1, ev2, ev3, ev4, ev5, Nat.reduceLT, entE, getE, putE, ↓reduceIte, Nat.reduceEqDiff, argsE, Int.reduceEq, convertA, lenA, foldI, A.cells, A.leaf, List.replicate, viewA, getO, Nat.reduceLeDiff, loadA, cellsAt, cellsTo, faA, indexAddrA, asInt, Int.reduceLE, Int.reduceLT, Int.reduceToNat, eq_self, Nat.reducePow, Int.reducePow, Int.reduceAdd, Int.reduceMul, Int.reduceSub, Int.reduceNeg, keyOk, mapPutA, lookupA, mapOf, sliceA, boundI, elemsOf, appendA, storeA, setRange, indexA, Nat.reduceBEq, Int.cast_ofNat_Int, reduceCtorEq, Nat.reduceAdd, Nat.reduceMul, Nat.reduceSub, evTy0, evTy1, evTy2, evTy3, evTy4, evTy5, evTy6, evTy7, evTy8, callR_data f1 rfl rfl, txT]

theorem nextText_ev (k : Nat) (hk : 82 ≤ k) (b : List Int) (hb : b.length ≤ 1000000) (ho : okL b) (c : Cu) (hp : c.p ≤ 2000000 ∧ -9223372036854775808 ≤ c.p) :
    callF Try.prog Hs E1 k 83 [.bp 0 0, .fn 84 [] [.bp 1 0]] [cu b c, .box [.bp 0 0]] = some (.d (.str (nxT b c).1), [cu b (nxT b c).2, .box [.bp 0 0]]) := by
  obtain ⟨k, rfl⟩ : ∃ j, k = j + 1 := ⟨k - 1, by omega⟩
  refine evalE rfl Try.func83 l83 ?_ (Nat.le_of_ble_eq_true rfl)
  obtain ⟨p, bad⟩ := c
  simp only [nxT, nx]
  simp only at hp
  cases bad
  · have f1 := Text1_ev k (by omega) b hb ho p false p hp
    simp only [Bool.false_eq_true, if_false]
    generalize txV b p = v at f1
    obtain ⟨x, q, e⟩ := v
    simp only [txT] at f1
    by_cases he : e = 0
    · simp only [he, if_true]
      simp only [he] at f1
      simp only [s83, n83, ↓evPre, ev0, ev1, ev2, ev3, ev4, ev5, Nat.reduceLT, entE, getE, putE, ↓reduceIte, Nat.reduceEqDiff, argsE, Int.reduceEq, convertA, lenA, foldI, A.cells, A.leaf, List.replicate, viewA, getO, Nat.reduceLeDiff, loadA, cellsAt, cellsTo, faA, indexAddrA, asInt, Int.reduceLE, Int.reduceLT, Int.reduceToNat, eq_self, Nat.reducePow, Int.reducePow, Int.reduceAdd, Int.reduceMul, Int.reduceSub, Int.reduceNeg, keyOk, mapPutA, lookupA, mapOf, sliceA, boundI, elemsOf, appendA, storeA, setRange, indexA, Nat.reduceBEq, Int.cast_ofNat_Int, reduceCtorEq, Nat.reduceAdd, Nat.reduceMul, Nat.reduceSub, evTy0, evTy1, evTy2, evTy3, evTy4, evTy5, evTy6, evTy7, evTy8, cu, f1]
    · simp only [he, if_false]
      simp only [s83, n83, ↓evPre, ev0, ev1, ev2, ev3, ev4, ev5, Nat.reduceLT, entE, getE, putE, ↓reduceIte, Nat.reduceEqDiff, argsE, Int.reduceEq, convertA, lenA, foldI, A.cells, A.leaf, List.replicate, viewA, getO, Nat.reduceLeDiff, loadA, cellsAt, cellsTo, faA, indexAddrA, asInt, Int.reduceLE, Int.reduceLT, Int.reduceToNat, eq_self, Nat.reducePow, Int.reducePow, Int.reduceAdd, Int.reduceMul, Int.reduceSub, Int.reduceNeg, keyOk, mapPutA, lookupA, mapOf, sliceA, boundI, elemsOf, appendA, storeA, setRange, indexA, Nat.reduceBEq, Int.cast_ofNat_Int, reduceCtorEq, Nat.reduceAdd, Nat.reduceMul, Nat.reduceSub, evTy0, evTy1, evTy2, evTy3, evTy4, evTy5, evTy6, evTy7, evTy8, cu, f1, he, zP]
      try rfl
  · simp only [if_true]
    simp only [s83, n83, ↓evPre, ev0, ev1, ev2, ev3, ev4, ev5, Nat.reduceLT, entE, getE, putE, ↓reduceIte, Nat.reduceEqDiff, argsE, Int.reduceEq, convertA, lenA, foldI, A.cells, A.leaf, List.replicate, viewA, getO, Nat.reduceLeDiff, loadA, cellsAt, cellsTo, faA, indexAddrA, asInt, Int.reduceLE, Int.reduceLT, Int.reduceToNat, eq_self, Nat.reducePow, Int.reducePow, Int.reduceAdd, Int.reduceMul, Int.reduceSub, Int.reduceNeg, keyOk, mapPutA, lookupA, mapOf, sliceA, boundI, elemsOf, appendA, storeA, setRange, indexA, Nat.reduceBEq, Int.cast_ofNat_Int, reduceCtorEq, Nat.reduceAdd, Nat.reduceMul, Nat.reduceSub, evTy0, evTy1, evTy2, evTy3, evTy4, evTy5, evTy6, evTy7, evTy8, cu, zP]
    try rfl

theorem cText_ev (k : Nat) (hk : 84 ≤ k) (b : List Int) (hb : b.length ≤ 1000000) (ho : okL b) (c : Cu) (hp : c.p ≤ 2000000 ∧ -9223372036854775808 ≤ c.p) :
    callF Try.prog Hs E1 k 48 [.bp 0 0] [cu b c] = some (.d (.str (nxT b c).1), [cu b (nxT b c).2]) := by
  obtain ⟨k, rfl⟩ : ∃ j, k = j + 1 := ⟨k - 1, by omega⟩
  refine evalE rfl Try.func48 l48 ?_ (Nat.le_of_ble_eq_true rfl)
  have f1 := nextText_ev k (by omega) b hb ho c hp
  generalize nxT b c = v at f1 ⊢
  simp only [cu] at f1 ⊢
  simp only [s48, n48, ↓evPre, ev0, ev1, ev2, ev3, ev4, ev5, Nat.reduceLT, entE, getE, putE, ↓reduceIte, Nat.reduceEqDiff, argsE, Int.reduceEq, convertA, lenA, foldI, A.cells, A.leaf, List.replicate, viewA, getO, Nat.reduceLeDiff, loadA, cellsAt, cellsTo, faA, indexAddrA, asInt, Int.reduceLE, Int.reduceLT, Int.reduceToNat, eq_self, Nat.reducePow, Int.reducePow, Int.reduceAdd, Int.reduceMul, Int.reduceSub, Int.reduceNeg, keyOk, mapPutA, lookupA, mapOf, sliceA, boundI, elemsOf, appendA, storeA, setRange, indexA, Nat.reduceBEq, Int.cast_ofNat_Int, reduceCtorEq, Nat.reduceAdd, Nat.reduceMul, Nat.reduceSub, evTy0, evTy1, evTy2, evTy3, evTy4, evTy5, evTy6, evTy7, evTy8, f1]

theorem Principal1_ev (k : Nat) (hk : 80 ≤ k) (b : List Int) (hb : b.length ≤ 1000000) (ho : okL b) (q : Int) (bad : Bool) (p : Int) (hp : p ≤ 2000000 ∧ -9223372036854775808 ≤ p) :
    callF Try.prog Hs E1 k 90 [.d (.int .i64 p), .bp 0 0] [.box [.bp 1 0], .box [.d (.sl 1 (ints .u8 b)), .d (.int .i64 q), .d (.bool false), .d (.bool bad)]] = some (prT (prV b p), [.box [.bp 1 0], .box [.d (.sl 1 (ints .u8 b)), .d (.int .i64 q), .d (.bool false), .d (.bool bad)]]) := by
  obtain ⟨k, rfl⟩ : ∃ j, k = j + 1 := ⟨k - 1, by omega⟩
  refine evalE rfl Try.func90 l90 ?_ (Nat.le_of_ble_eq_true rfl)
  have f1 := Principal_ev k (by omega) b hb ho p hp
  simp only [prT] at f1
  simp only [s90, n90, ↓evPre, ev0, ev1, ev2, ev3, ev4, ev5, Nat.reduceLT, entE, getE, putE, ↓reduceIte, Nat.reduceEqDiff, argsE, Int.reduceEq, convertA, lenA, foldI, A.cells, A.leaf, List.replicate, viewA, getO, Nat.reduceLeDiff, loadA, cellsAt, cellsTo, faA, indexAddrA, asInt, Int.reduceLE, Int.reduceLT, Int.reduceToNat, eq_self, Nat.reducePow, Int.reducePow, Int.reduceAdd, Int.reduceMul, Int.reduceSub, Int.reduceNeg, keyOk, mapPutA, lookupA, mapOf, sliceA, boundI, elemsOf, appendA, storeA, setRange, indexA, Nat.reduceBEq, Int.cast_ofNat_Int, reduceCtorEq, Nat.reduceAdd, Nat.reduceMul, Nat.reduceSub, evTy0, evTy1, evTy2, evTy3, evTy4, evTy5, evTy6, evTy7, evTy8, callR_data f1 rfl rfl, prT]

theorem nextPrincipal_ev (k : Nat) (hk : 82 ≤ k) (b : List Int) (hb : b.length ≤ 1000000) (ho : okL b) (c : Cu) (hp : c.p ≤ 2000000 ∧ -9223372036854775808 ≤ c.p) :
    callF Try.prog Hs E1 k 89 [.bp 0 0, .fn 90 [] [.bp 1 0]] [cu b c, .box [.bp 0 0]] = some (.agg [.d (.str (nxP b c).1.name), .d (.str (nxP b c).1.inst), .d (.str (nxP b c).1.realm)], [cu b (nxP b c).2, .box [.bp 0 0]]) := by
  obtain ⟨k, rfl⟩ : ∃ j, k = j + 1 := ⟨k - 1, by omega⟩
  refine evalE rfl Try.func89 l89 ?_ (Nat.le_of_ble_eq_true rfl)
  obtain ⟨p, bad⟩ := c
  simp only [nxP, nx]
  simp only at hp
  cases bad
  · have f1 := Principal1_ev k (by omega) b hb ho p false p hp
    simp only [Bool.false_eq_true, if_false]
    generalize prV b p = v at f1
    obtain ⟨x, q, e⟩ := v
    simp only [prT] at f1
    by_cases he : e = 0
    · simp only [he, if_true]
      simp only [he] at f1
      simp only [s89, n89, ↓evPre, ev0, ev1, ev2, ev3, ev4, ev5, Nat.reduceLT, entE, getE, putE, ↓reduceIte, Nat.reduceEqDiff, argsE, Int.reduceEq, convertA, lenA, foldI, A.cells, A.leaf, List.replicate, viewA, getO, Nat.reduceLeDiff, loadA, cellsAt, cellsTo, faA, indexAddrA, asInt, Int.reduceLE, Int.reduceLT, Int.reduceToNat, eq_self, Nat.reducePow, Int.reducePow, Int.reduceAdd, Int.reduceMul, Int.reduceSub, Int.reduceNeg, keyOk, mapPutA, lookupA, mapOf, sliceA, boundI, elemsOf, appendA, storeA, setRange, indexA, Nat.reduceBEq, Int.cast_ofNat_Int, reduceCtorEq, Nat.reduceAdd, Nat.reduceMul, Nat.reduceSub, evTy0, evTy1, evTy2, evTy3, evTy4, evTy5, evTy6, evTy7, evTy8, cu, f1]
    · simp only [he, if_false]
      simp only [s89, n89, ↓evPre, ev0, ev1, ev2, ev3, ev4, ev5, Nat.reduceLT, entE, getE, putE, ↓reduceIte, Nat.reduceEqDiff, argsE, Int.reduceEq, convertA, lenA, foldI, A.cells, A.leaf, List.replicate, viewA, getO, Nat.reduceLeDiff, loadA, cellsAt, cellsTo, faA, indexAddrA, asInt, Int.reduceLE, Int.reduceLT, Int.reduceToNat, eq_self, Nat.reducePow, Int.reducePow, Int.reduceAdd, Int.reduceMul, Int.reduceSub, Int.reduceNeg, keyOk, mapPutA, lookupA, mapOf, sliceA, boundI, elemsOf, appendA, storeA, setRange, indexA, Nat.reduceBEq, Int.cast_ofNat_Int, reduceCtorEq, Nat.reduceAdd, Nat.reduceMul, Nat.reduceSub, evTy0, evTy1, evTy2, evTy3, evTy4, evTy5, evTy6, evTy7, evTy8, cu, f1, he, zP]
      try rfl
  · simp only [if_true]
    simp only [s89, n89, ↓evPre, ev0, ev1, ev2, ev3, ev4, ev5, Nat.reduceLT, entE, getE, putE, ↓reduceIte, Nat.reduceEqDiff, argsE, Int.reduceEq, convertA, lenA, foldI, A.cells, A.leaf, List.replicate, viewA, getO, Nat.reduceLeDiff, loadA, cellsAt, cellsTo, faA, indexAddrA, asInt, Int.reduceLE, Int.reduceLT, Int.reduceToNat, eq_self, Nat.reducePow, Int.reducePow, Int.reduceAdd, Int.reduceMul, Int.reduceSub, Int.reduceNeg, keyOk, mapPutA, lookupA, mapOf, sliceA, boundI, elemsOf, appendA, storeA, setRange, indexA, Nat.reduceBEq, Int.cast_ofNat_Int, reduceCtorEq, Nat.reduceAdd, Nat.reduceMul, Nat.reduceSub, evTy0, evTy1, evTy2, evTy3, evTy4, evTy5, evTy6, evTy7, evTy8, cu, zP]
    try rfl

theorem cPrincipal_ev (k : Nat) (hk : 84 ≤ k) (b : List Int) (hb : b.length ≤ 1000000) (ho : okL b) (c : Cu) (hp : c.p ≤ 2000000 ∧ -9223372036854775808 ≤ c.p) :
    callF Try.prog Hs E1 k 50 [.bp 0 0] [cu b c] = some (.agg [.d (.str (nxP b c).1.name), .d (.str (nxP b c).1.inst), .d (.str (nxP b c).1.realm)], [cu b (nxP b c).2]) := by
  obtain ⟨k, rfl⟩ : ∃ j, k = j + 1 := ⟨k - 1, by omega⟩
  refine evalE rfl Try.func50 l50 ?_ (Nat.le_of_ble_eq_true rfl)
  have f1 := nextPrincipal_ev k (by omega) b hb ho c hp
  generalize nxP b c = v at f1 ⊢
  simp only [cu] at f1 ⊢
  simp only [s50, n50, ↓evPre, ev0, ev1, ev2, ev3, ev4, ev5, Nat.reduceLT, entE, getE, putE, ↓reduceIte, Nat.reduceEqDiff, argsE, Int.reduceEq, convertA, lenA, foldI, A.cells, A.leaf, List.replicate, viewA, getO, Nat.reduceLeDiff, loadA, cellsAt, cellsTo, faA, indexAddrA, asInt, Int.reduceLE, Int.reduceLT, Int.reduceToNat, eq_self, Nat.reducePow, Int.reducePow, Int.reduceAdd, Int.reduceMul, Int.reduceSub, Int.reduceNeg, keyOk, mapPutA, lookupA, mapOf, sliceA, boundI, elemsOf, appendA, storeA, setRange, indexA, Nat.reduceBEq, Int.cast_ofNat_Int, reduceCtorEq, Nat.reduceAdd, Nat.reduceMul, Nat.reduceSub, evTy0, evTy1, evTy2, evTy3, evTy4, evTy5, evTy6, evTy7, evTy8, f1]

theorem Bytes1_ev (k : Nat) (hk : 12 ≤ k) (b : List Int) (hb : b.length ≤ 1000000) (n : Int) (hn : n ≤ 2000000) (q : Int) (bad : Bool) (p : Int) (hp : p ≤ 2000000 ∧ -9223372036854775808 ≤ p) :
    callF Try.prog Hs E1 k 87 [.d (.int .i64 p), .bp 0 0, .bp 1 0] [.box [.bp 2 0], .box [.d (.int .i64 n)], .box [.d (.sl 1 (ints .u8 b)), .d (.int .i64 q), .d (.bool false), .d (.bool bad)]] = some (tkT (tkV b p n), [.box [.bp 2 0], .box [.d (.int .i64 n)], .box [.d (.sl 1 (ints .u8 b)), .d (.int .i64 q), .d (.bool false), .d (.bool bad)]]) := by
  obtain ⟨k, rfl⟩ : ∃ j, k = j + 1 := ⟨k - 1, by omega⟩
  refine evalE rfl Try.func87 l87 ?_ (Nat.le_of_ble_eq_true rfl)
  have f1 := Bytes_ev k (by omega) b hb p n hp hn
  simp only [tkT] at f1
  simp only [s87, n87, ↓evPre, ev0, ev1, ev2, ev3, ev4, ev5, Nat.reduceLT, entE, getE, putE, ↓reduceIte, Nat.reduceEqDiff, argsE, Int.reduceEq, convertA, lenA, foldI, A.cells, A.leaf, List.replicate, viewA, getO, Nat.reduceLeDiff, loadA, cellsAt, cellsTo, faA, indexAddrA, asInt, Int.reduceLE, Int.reduceLT, Int.reduceToNat, eq_self, Nat.reducePow, Int.reducePow, Int.reduceAdd, Int.reduceMul, Int.reduceSub, Int.reduceNeg, keyOk, mapPutA, lookupA, mapOf, sliceA, boundI, elemsOf, appendA, storeA, setRange, indexA, Nat.reduceBEq, Int.cast_ofNat_Int, reduceCtorEq, Nat.reduceAdd, Nat.reduceMul, Nat.reduceSub, evTy0, evTy1, evTy2, evTy3, evTy4, evTy5, evTy6, evTy7, evTy8, callR_data f1 rfl rfl, tkT]

theorem nextBytes_ev (k : Nat) (hk : 14 ≤ k) (b : List Int) (hb : b.length ≤ 1000000) (n : Int) (hn : n ≤ 2000000) (c : Cu) (hp : c.p ≤ 2000000 ∧ -9223372036854775808 ≤ c.p) :
    callF Try.prog Hs E1 k 86 [.bp 0 0, .fn 87 [] [.bp 1 0, .bp 2 0]] [cu b c, .box [.bp 0 0], .box [.d (.int .i64 n)]] = some (.d (.sl 1 (ints .u8 (nxB b n c).1)), [cu b (nxB b n c).2, .box [.bp 0 0], .box [.d (.int .i64 n)]]) := by
  obtain ⟨k, rfl⟩ : ∃ j, k = j + 1 := ⟨k - 1, by omega⟩
  refine evalE rfl Try.func86 l86 ?_ (Nat.le_of_ble_eq_true rfl)
  obtain ⟨p, bad⟩ := c
  simp only [nxB, nx]
  simp only at hp
  cases bad
  · have f1 := Bytes1_ev k (by omega) b hb n hn p false p hp
    simp only [Bool.false_eq_true, if_false]
    generalize tkV b p n = v at f1
    obtain ⟨x, q, e⟩ := v
    simp only [tkT] at f1
    by_cases he : e = 0
    · simp only [he, if_true]
      simp only [he] at f1
      simp only [s86, n86, ↓evPre, ev0, ev1, ev2, ev3, ev4, ev5, Nat.reduceLT, entE, getE, putE, ↓reduceIte, Nat.reduceEqDiff, argsE, Int.reduceEq, convertA, lenA, foldI, A.cells, A.leaf, List.replicate, viewA, getO, Nat.reduceLeDiff, loadA, cellsAt, cellsTo, faA, indexAddrA, asInt, Int.reduceLE, Int.reduceLT, Int.reduceToNat, eq_self, Nat.reducePow, Int.reducePow, Int.reduceAdd, Int.reduceMul, Int.reduceSub, Int.reduceNeg, keyOk, mapPutA, lookupA, mapOf, sliceA, boundI, elemsOf, appendA, storeA, setRange, indexA, Nat.reduceBEq, Int.cast_ofNat_Int, reduceCtorEq, Nat.reduceAdd, Nat.reduceMul, Nat.reduceSub, evTy0, evTy1, evTy2, evTy3, evTy4, evTy5, evTy6, evTy7, evTy8, cu, f1]
    · simp only [he, if_false]
      simp only [s86, n86, ↓evPre, ev0, ev1, ev2, ev3, ev4, ev5, Nat.reduceLT, entE, getE, putE, ↓reduceIte, Nat.reduceEqDiff, argsE, Int.reduceEq, convertA, lenA, foldI, A.cells, A.leaf, List.replicate, viewA, getO, Nat.reduceLeDiff, loadA, cellsAt, cellsTo, faA, indexAddrA, asInt, Int.reduceLE, Int.reduceLT, Int.reduceToNat, eq_self, Nat.reducePow, Int.reducePow, Int.reduceAdd, Int.reduceMul, Int.reduceSub, Int.reduceNeg, keyOk, mapPutA, lookupA, mapOf, sliceA, boundI, elemsOf, appendA, storeA, setRange, indexA, Nat.reduceBEq, Int.cast_ofNat_Int, reduceCtorEq, Nat.reduceAdd, Nat.reduceMul, Nat.reduceSub, evTy0, evTy1, evTy2, evTy3, evTy4, evTy5, evTy6, evTy7, evTy8, cu, f1, he]
  · simp only [if_true]
    simp only [s86, n86, ↓evPre, ev0, ev1, ev2, ev3, ev4, ev5, Nat.reduceLT, entE, getE, putE, ↓reduceIte, Nat.reduceEqDiff, argsE, Int.reduceEq, convertA, lenA, foldI, A.cells, A.leaf, List.replicate, viewA, getO, Nat.reduceLeDiff, loadA, cellsAt, cellsTo, faA, indexAddrA, asInt, Int.reduceLE, Int.reduceLT, Int.reduceToNat, eq_self, Nat.reducePow, Int.reducePow, Int.reduceAdd, Int.reduceMul, Int.reduceSub, Int.reduceNeg, keyOk, mapPutA, lookupA, mapOf, sliceA, boundI, elemsOf, appendA, storeA, setRange, indexA, Nat.reduceBEq, Int.cast_ofNat_Int, reduceCtorEq, Nat.reduceAdd, Nat.reduceMul, Nat.reduceSub, evTy0, evTy1, evTy2, evTy3, evTy4, evTy5, evTy6, evTy7, evTy8, cu]

theorem cBytes_ev (k : Nat) (hk : 16 ≤ k) (b : List Int) (hb : b.length ≤ 1000000) (n : Int) (hn : n ≤ 2000000) (c : Cu) (hp : c.p ≤ 2000000 ∧ -9223372036854775808 ≤ c.p) :
    callF Try.prog Hs E1 k 49 [.bp 0 0, .d (.int .i64 n)] [cu b c] = some (.d (.sl 1 (ints .u8 (nxB b n c).1)), [cu b (nxB b n c).2]) := by
  obtain ⟨k, rfl⟩ : ∃ j, k = j + 1 := ⟨k - 1, by omega⟩
  refine evalE rfl Try.func49 l49 ?_ (Nat.le_of_ble_eq_true rfl)
  have f1 := nextBytes_ev k (by omega) b hb n hn c hp
  generalize nxB b n c = v at f1 ⊢
  simp only [cu] at f1 ⊢
  simp only [s49, n49, ↓evPre, ev0, ev1, ev2, ev3, ev4, ev5, Nat.reduceLT, entE, getE, putE, ↓reduceIte, Nat.reduceEqDiff, argsE, Int.reduceEq, convertA, lenA, foldI, A.cells, A.leaf, List.replicate, viewA, getO, Nat.reduceLeDiff, loadA, cellsAt, cellsTo, faA, indexAddrA, asInt, Int.reduceLE, Int.reduceLT, Int.reduceToNat, eq_self, Nat.reducePow, Int.reducePow, Int.reduceAdd, Int.reduceMul, Int.reduceSub, Int.reduceNeg, keyOk, mapPutA, lookupA, mapOf, sliceA, boundI, elemsOf, appendA, storeA, setRange, indexA, Nat.reduceBEq, Int.cast_ofNat_Int, reduceCtorEq, Nat.reduceAdd, Nat.reduceMul, Nat.reduceSub, evTy0, evTy1, evTy2, evTy3, evTy4, evTy5, evTy6, evTy7, evTy8, f1]

theorem cBad_ev (k : Nat) (hk : 1 ≤ k) (b : List Int) (c : Cu) :
    callF Try.prog Hs E1 k 94 [.bp 0 0] [cu b c] = some (.d (.bool c.bad), [cu b c]) := by
  obtain ⟨k, rfl⟩ : ∃ j, k = j + 1 := ⟨k - 1, by omega⟩
  refine evalE rfl Try.func94 l94 ?_ (Nat.le_of_ble_eq_true rfl)
  simp only [s94, n94, ↓evPre, ev0, ev1, ev2, ev3, ev4, ev5, Nat.reduceLT, entE, getE, putE, ↓reduceIte, Nat.reduceEqDiff, argsE, Int.reduceEq, convertA, lenA, foldI, A.cells, A.leaf, List.replicate, viewA, getO, Nat.reduceLeDiff, loadA, cellsAt, cellsTo, faA, indexAddrA, asInt, Int.reduceLE, Int.reduceLT, Int.reduceToNat, eq_self, Nat.reducePow, Int.reducePow, Int.reduceAdd, Int.reduceMul, Int.reduceSub, Int.reduceNeg, keyOk, mapPutA, lookupA, mapOf, sliceA, boundI, elemsOf, appendA, storeA, setRange, indexA, Nat.reduceBEq, Int.cast_ofNat_Int, reduceCtorEq, Nat.reduceAdd, Nat.reduceMul, Nat.reduceSub, evTy0, evTy1, evTy2, evTy3, evTy4, evTy5, evTy6, evTy7, evTy8, cu]
end Fi
end Ab
namespace Ab
open Go Go.Proofs Go.IntWalk
set_option maxRecDepth 10000
set_option linter.unusedSimpArgs false
set_option linter.unusedVariables false
namespace Fi
open Pr Key

/-! ### Where a cursor stands -/
def Cu.ok (b : List Int) (c : Cu) : Prop := 0 ≤ c.p ∧ c.p ≤ b.length + 40

theorem num_range : ∀ (l : List Int) (a : Int), okL l → 0 ≤ a → 0 ≤ num a l ∧ num a l < (a + 1) * 256 ^ l.length := by
  intro l
  induction l with
  | nil => intro a _ h; simp [num]; omega
  | cons n l ih =>
    intro a h ha
    rw [okL_cons] at h
    have := ih (a * 256 + n) h.2 (by omega)
    refine ⟨this.1, Int.lt_of_lt_of_le this.2 ?_⟩
    rw [List.length_cons, Int.pow_succ]
    have hp : (0 : Int) ≤ 256 ^ l.length := Int.pow_nonneg (by omega)
    have e : (a + 1) * (256 ^ l.length * 256) = (a * 256 + 256) * 256 ^ l.length := by
      rw [Int.add_mul, Int.add_mul]
      have : a * (256 ^ l.length * 256) = a * 256 * 256 ^ l.length := by rw [Int.mul_comm (256 ^ l.length) 256, Int.mul_assoc]
      omega
    rw [e]
    exact Int.mul_le_mul_of_nonneg_right (by omega) hp

theorem rd_good {b : List Int} {p n : Int} (h : (rdV b p n).2.2 = 0) : 0 ≤ p ∧ 0 ≤ n ∧ p + n ≤ b.length ∧ (rdV b p n).2.1 = p + n := by
  unfold rdV at h ⊢
  split at h
  · rename_i q
    rw [if_pos q]
    obtain ⟨_, h2, h3, h4, h5, _⟩ := tk_good q
    exact ⟨h2, h3, h4, h5⟩
  · rename_i q; simp only at h; contradiction

theorem rd_range {b : List Int} {p : Int} {n : Nat} (ho : okL b) : 0 ≤ (rdV b p n).1 ∧ (rdV b p n).1 < 256 ^ n := by
  unfold rdV
  split
  · rename_i q
    obtain ⟨h1, _, _, _, _, h6⟩ := tk_good q
    have := num_range (tkV b p n).1 0 (h6 ho) (by omega)
    rw [h1] at this
    simpa using this
  · exact ⟨Int.le_refl _, Int.pow_pos (by omega)⟩

theorem nxN_ok {b : List Int} {n : Int} {c : Cu} (h : c.ok b) : (nxN b n c).2.ok b := by
  unfold nxN nx
  split
  · exact h
  · split
    · rename_i q
      have := rd_good q
      simp only [Cu.ok] at h ⊢
      omega
    · exact h

theorem nxN_range {b : List Int} {n : Nat} {c : Cu} (ho : okL b) : 0 ≤ (nxN b n c).1 ∧ (nxN b n c).1 < 256 ^ n := by
  unfold nxN nx
  split
  · exact ⟨Int.le_refl _, Int.pow_pos (by omega)⟩
  · split
    · exact rd_range ho
    · exact ⟨Int.le_refl _, Int.pow_pos (by omega)⟩

theorem nxB_ok {b : List Int} {n : Int} {c : Cu} (h : c.ok b) : (nxB b n c).2.ok b := by
  unfold nxB nx
  split
  · exact h
  · split
    · rename_i q
      have := tk_good q
      simp only [Cu.ok] at h ⊢
      omega
    · exact h

theorem nxB_okL {b : List Int} {n : Int} {c : Cu} (ho : okL b) : okL (nxB b n c).1 ∧ (nxB b n c).1.length ≤ b.length := by
  unfold nxB nx
  split
  · exact ⟨okL_nil, Nat.zero_le _⟩
  · split
    · rename_i q
      have h := tk_good q
      refine ⟨h.2.2.2.2.2 ho, ?_⟩
      simp only
      omega
    · exact ⟨okL_nil, Nat.zero_le _⟩

theorem nxT_ok {b : List Int} {c : Cu} (h : c.ok b) : (nxT b c).2.ok b := by
  unfold nxT nx
  split
  · exact h
  · split
    · rename_i q
      have := tx_good q
      simp only [Cu.ok] at h ⊢
      omega
    · exact h

theorem nxT_len (b : List Int) (c : Cu) : (nxT b c).1.size ≤ 40 := by
  unfold nxT nx
  split
  · exact Nat.zero_le _
  · split
    · exact tx_len b c.p
    · exact Nat.zero_le _

theorem pr_good {b : List Int} {p : Int} (h : (prV b p).2.2 = 0) : 0 ≤ (prV b p).2.1 ∧ (prV b p).2.1 ≤ b.length + 40 := by
  unfold prV at h ⊢
  split at h
  · rename_i q1
    split at h
    · rename_i q2
      split at h
      · rename_i q3
        split at h
        · rename_i q4
          simp only [if_pos q1, if_pos q2, if_pos q3, if_pos q4]
          have := tx_good q3
          omega
        · simp at h
      · rename_i q3; simp only at h; contradiction
    · rename_i q2; simp only at h; contradiction
  · rename_i q1; simp only at h; contradiction

theorem nxP_ok {b : List Int} {c : Cu} (h : c.ok b) : (nxP b c).2.ok b := by
  unfold nxP nx
  split
  · exact h
  · split
    · rename_i q
      have := pr_good q
      simp only [Cu.ok] at h ⊢
      omega
    · exact h

theorem prV_len (b : List Int) (p : Int) : (prV b p).1.ok 40 := by
  have z : zP.ok 40 := ⟨Nat.zero_le _, Nat.zero_le _, Nat.zero_le _⟩
  unfold prV
  split
  · split
    · split
      · split
        · exact ⟨tx_len _ _, tx_len _ _, tx_len _ _⟩
        · exact z
      · exact z
    · exact z
  · exact z

theorem nxP_len (b : List Int) (c : Cu) : (nxP b c).1.ok 40 := by
  have z : zP.ok 40 := ⟨Nat.zero_le _, Nat.zero_le _, Nat.zero_le _⟩
  unfold nxP nx
  split
  · exact z
  · split
    · exact prV_len b c.p
    · exact z

theorem ok_p {b : List Int} {c : Cu} (hb : b.length ≤ 1000000) (h : c.ok b) : c.p ≤ 2000000 ∧ -9223372036854775808 ≤ c.p := by
  simp only [Cu.ok] at h
  omega

theorem cKey_ev (k : Nat) (hk : 30 ≤ k) (b : List Int) (hb : b.length ≤ 1000000) (ho : okL b) (c : Cu) (hc : c.ok b) :
    callF Try.prog Hs E1 k 67 [.bp 0 0] [cu b c] = some (.d (.int .u64 (readK (nxB b 8 c).1).1), [cu b (nxB b 8 c).2]) := by
  obtain ⟨k, rfl⟩ : ∃ j, k = j + 1 := ⟨k - 1, by omega⟩
  refine evalE rfl Try.func67 l67 ?_ (Nat.le_of_ble_eq_true rfl)
  have f1 := cBytes_ev k (by omega) b hb 8 (by omega) c (ok_p hb hc)
  have h1 := nxB_okL (n := 8) (c := c) ho
  have f2 := Read_ev k (by omega) (nxB b 8 c).1 h1.1 (by omega)
  generalize nxB b 8 c = v at f1 f2 ⊢
  simp only [cu] at f1 ⊢
  generalize readK v.1 = r at f2 ⊢
  obtain ⟨r1, r2⟩ := r
  simp only [tupR] at f2
  simp only [s67, n67, ↓evPre, ev0, ev1, ev2, ev3, ev4, ev5, Nat.reduceLT, entE, getE, putE, ↓reduceIte, Nat.reduceEqDiff, argsE, Int.reduceEq, convertA, lenA, foldI, A.cells, A.leaf, List.replicate, viewA, getO, Nat.reduceLeDiff, loadA, cellsAt, cellsTo, faA, indexAddrA, asInt, Int.reduceLE, Int.reduceLT, Int.reduceToNat, eq_self, Nat.reducePow, Int.reducePow, Int.reduceAdd, Int.reduceMul, Int.reduceSub, Int.reduceNeg, keyOk, mapPutA, lookupA, mapOf, sliceA, boundI, elemsOf, appendA, storeA, setRange, indexA, Nat.reduceBEq, Int.cast_ofNat_Int, reduceCtorEq, Nat.reduceAdd, Nat.reduceMul, Nat.reduceSub, evTy0, evTy1, evTy2, evTy3, evTy4, evTy5, evTy6, evTy7, evTy8, f1, callR_data f2 rfl rfl]

/-! ### Headers -/
theorem HPut_ev (k : Nat) (hk : 5 ≤ k) : callF Try.prog Hs E1 k 31 [.d (.int .i64 9), .d (.bool false)] [] = some (.d (.sl 1 (ints .u8 [4, 18])), []) := by
  obtain ⟨k, rfl⟩ : ∃ j, k = j + 5 := ⟨k - 5, by omega⟩
  kernel_rfl

theorem isType_ev (k : Nat) (hk : 1 ≤ k) (n : Int) : callF Try.prog Hs E1 k 75 [.d (.int .i64 n)] [] = some (.d (.bool (decide (1 ≤ n ∧ n ≤ 10))), []) := by
  obtain ⟨k, rfl⟩ : ∃ j, k = j + 1 := ⟨k - 1, by omega⟩
  refine evalE rfl Try.func75 l75 ?_ (Nat.le_of_ble_eq_true rfl)
  by_cases h : 1 ≤ n
  · simp only [s75, n75, ↓evPre, ev0, ev1, ev2, ev3, ev4, ev5, Nat.reduceLT, entE, getE, putE, ↓reduceIte, Nat.reduceEqDiff, argsE, Int.reduceEq, convertA, lenA, foldI, A.cells, A.leaf, List.replicate, viewA, getO, Nat.reduceLeDiff, loadA, cellsAt, cellsTo, faA, indexAddrA, asInt, Int.reduceLE, Int.reduceLT, Int.reduceToNat, eq_self, Nat.reducePow, Int.reducePow, Int.reduceAdd, Int.reduceMul, Int.reduceSub, Int.reduceNeg, keyOk, mapPutA, lookupA, mapOf, sliceA, boundI, elemsOf, appendA, storeA, setRange, indexA, Nat.reduceBEq, Int.cast_ofNat_Int, reduceCtorEq, Nat.reduceAdd, Nat.reduceMul, Nat.reduceSub, evTy0, evTy1, evTy2, evTy3, evTy4, evTy5, evTy6, evTy7, evTy8, h, true_and]
  · simp only [s75, n75, ↓evPre, ev0, ev1, ev2, ev3, ev4, ev5, Nat.reduceLT, entE, getE, putE, ↓reduceIte, Nat.reduceEqDiff, argsE, Int.reduceEq, convertA, lenA, foldI, A.cells, A.leaf, List.replicate, viewA, getO, Nat.reduceLeDiff, loadA, cellsAt, cellsTo, faA, indexAddrA, asInt, Int.reduceLE, Int.reduceLT, Int.reduceToNat, eq_self, Nat.reducePow, Int.reducePow, Int.reduceAdd, Int.reduceMul, Int.reduceSub, Int.reduceNeg, keyOk, mapPutA, lookupA, mapOf, sliceA, boundI, elemsOf, appendA, storeA, setRange, indexA, Nat.reduceBEq, Int.cast_ofNat_Int, reduceCtorEq, Nat.reduceAdd, Nat.reduceMul, Nat.reduceSub, evTy0, evTy1, evTy2, evTy3, evTy4, evTy5, evTy6, evTy7, evTy8, h, false_and]

/-- What a message's first bytes say. -/
def readV : List Int → Int × Bool × Int
  | a :: b :: _ => if a = 4 then if 1 ≤ b / 2 ∧ b / 2 ≤ 10 then (b / 2, decide (b % 2 = 1), 0) else (0, false, 40) else (0, false, 39)
  | _ => (0, false, 101)
def tup3 (v : Int × Bool × Int) : A := .tup [.d (.int .i64 v.1), .d (.bool v.2.1), .d (.int .i64 v.2.2)]

theorem HRead_ev (k : Nat) (hk : 2 ≤ k) (b : List Int) (ho : okL b) : callF Try.prog Hs E1 k 107 [.d (.sl 1 (ints .u8 b))] [] = some (tup3 (readV b), []) := by
  obtain ⟨k, rfl⟩ : ∃ j, k = j + 1 := ⟨k - 1, by omega⟩
  refine evalE rfl Try.func107 l107 ?_ (Nat.le_of_ble_eq_true rfl)
  rcases b with _ | ⟨a, _ | ⟨c, r⟩⟩
  · simp only [s107, n107, ↓evPre, ev0, ev1, ev2, ev3, ev4, ev5, Nat.reduceLT, entE, getE, putE, ↓reduceIte, Nat.reduceEqDiff, argsE, Int.reduceEq, convertA, lenA, foldI, A.cells, A.leaf, List.replicate, viewA, getO, Nat.reduceLeDiff, loadA, cellsAt, cellsTo, faA, indexAddrA, asInt, Int.reduceLE, Int.reduceLT, Int.reduceToNat, eq_self, Nat.reducePow, Int.reducePow, Int.reduceAdd, Int.reduceMul, Int.reduceSub, Int.reduceNeg, keyOk, mapPutA, lookupA, mapOf, sliceA, boundI, elemsOf, appendA, storeA, setRange, indexA, Nat.reduceBEq, Int.cast_ofNat_Int, reduceCtorEq, Nat.reduceAdd, Nat.reduceMul, Nat.reduceSub, evTy0, evTy1, evTy2, evTy3, evTy4, evTy5, evTy6, evTy7, evTy8, readV, tup3]
  · simp only [s107, n107, ↓evPre, ev0, ev1, ev2, ev3, ev4, ev5, Nat.reduceLT, entE, getE, putE, ↓reduceIte, Nat.reduceEqDiff, argsE, Int.reduceEq, convertA, lenA, foldI, A.cells, A.leaf, List.replicate, viewA, getO, Nat.reduceLeDiff, loadA, cellsAt, cellsTo, faA, indexAddrA, asInt, Int.reduceLE, Int.reduceLT, Int.reduceToNat, eq_self, Nat.reducePow, Int.reducePow, Int.reduceAdd, Int.reduceMul, Int.reduceSub, Int.reduceNeg, keyOk, mapPutA, lookupA, mapOf, sliceA, boundI, elemsOf, appendA, storeA, setRange, indexA, Nat.reduceBEq, Int.cast_ofNat_Int, reduceCtorEq, Nat.reduceAdd, Nat.reduceMul, Nat.reduceSub, evTy0, evTy1, evTy2, evTy3, evTy4, evTy5, evTy6, evTy7, evTy8, readV, tup3]
  · rw [okL_cons, okL_cons] at ho
    have h1 : ¬ (((r.length + 1 + 1 : Nat) : Int) < 2) := by omega
    have h0 : 0 < r.length + 1 + 1 := by omega
    have h2 : 1 < r.length + 1 + 1 := by omega
    have hq := u8_quo c 2 ⟨ho.2.1.1, ho.2.1.2, by decide⟩
    obtain ⟨t1, t2, t3⟩ := tmodB (m := 2) ho.2.1.1 (by omega)
    have w1 := i64_in (c / 2) (by omega)
    have f1 := isType_ev k (by omega) (c / 2)
    unfold readV
    by_cases ha : a = 4
    · by_cases hc : 1 ≤ c / 2 ∧ c / 2 ≤ 10
      · simp only [s107, n107, ↓evPre, ev0, ev1, ev2, ev3, ev4, ev5, Nat.reduceLT, entE, getE, putE, ↓reduceIte, Nat.reduceEqDiff, argsE, Int.reduceEq, convertA, lenA, foldI, A.cells, A.leaf, List.replicate, viewA, getO, Nat.reduceLeDiff, loadA, cellsAt, cellsTo, faA, indexAddrA, asInt, Int.reduceLE, Int.reduceLT, Int.reduceToNat, eq_self, Nat.reducePow, Int.reducePow, Int.reduceAdd, Int.reduceMul, Int.reduceSub, Int.reduceNeg, keyOk, mapPutA, lookupA, mapOf, sliceA, boundI, elemsOf, appendA, storeA, setRange, indexA, Nat.reduceBEq, Int.cast_ofNat_Int, reduceCtorEq, Nat.reduceAdd, Nat.reduceMul, Nat.reduceSub, evTy0, evTy1, evTy2, evTy3, evTy4, evTy5, evTy6, evTy7, evTy8, h1, h0, h2, ha, hq, t1, w1, callR_data f1 rfl rfl, hc, tup3]
      · simp only [s107, n107, ↓evPre, ev0, ev1, ev2, ev3, ev4, ev5, Nat.reduceLT, entE, getE, putE, ↓reduceIte, Nat.reduceEqDiff, argsE, Int.reduceEq, convertA, lenA, foldI, A.cells, A.leaf, List.replicate, viewA, getO, Nat.reduceLeDiff, loadA, cellsAt, cellsTo, faA, indexAddrA, asInt, Int.reduceLE, Int.reduceLT, Int.reduceToNat, eq_self, Nat.reducePow, Int.reducePow, Int.reduceAdd, Int.reduceMul, Int.reduceSub, Int.reduceNeg, keyOk, mapPutA, lookupA, mapOf, sliceA, boundI, elemsOf, appendA, storeA, setRange, indexA, Nat.reduceBEq, Int.cast_ofNat_Int, reduceCtorEq, Nat.reduceAdd, Nat.reduceMul, Nat.reduceSub, evTy0, evTy1, evTy2, evTy3, evTy4, evTy5, evTy6, evTy7, evTy8, h1, h0, h2, ha, hq, t1, w1, callR_data f1 rfl rfl, hc, tup3]
    · simp only [s107, n107, ↓evPre, ev0, ev1, ev2, ev3, ev4, ev5, Nat.reduceLT, entE, getE, putE, ↓reduceIte, Nat.reduceEqDiff, argsE, Int.reduceEq, convertA, lenA, foldI, A.cells, A.leaf, List.replicate, viewA, getO, Nat.reduceLeDiff, loadA, cellsAt, cellsTo, faA, indexAddrA, asInt, Int.reduceLE, Int.reduceLT, Int.reduceToNat, eq_self, Nat.reducePow, Int.reducePow, Int.reduceAdd, Int.reduceMul, Int.reduceSub, Int.reduceNeg, keyOk, mapPutA, lookupA, mapOf, sliceA, boundI, elemsOf, appendA, storeA, setRange, indexA, Nat.reduceBEq, Int.cast_ofNat_Int, reduceCtorEq, Nat.reduceAdd, Nat.reduceMul, Nat.reduceSub, evTy0, evTy1, evTy2, evTy3, evTy4, evTy5, evTy6, evTy7, evTy8, h1, h0, h2, ha, tup3]
end Fi
end Ab
namespace Ab
open Go Go.Proofs Go.IntWalk
set_option maxRecDepth 10000
set_option linter.unusedSimpArgs false
set_option linter.unusedVariables false
namespace Ka
open Pr Key Fi

theorem Index9_ev (k : Nat) (hk : 4 ≤ k) (n : Int) : callF Try.prog Hs E1 k 115 [.d (.sl 1 (ints .i64 [9])), .d (.int .i64 n)] [] = some (.d (.int .i64 (if n = 9 then 0 else -1)), []) := by
  obtain ⟨k, rfl⟩ : ∃ j, k = j + 4 := ⟨k - 4, by omega⟩
  refine evalE rfl Try.func115 l115 ?_ (Nat.le_of_ble_eq_true rfl)
  by_cases h : n = 9
  · simp only [s115, n115, s115_0, ↓l_succ, ↓evPre, ev0, ev1, ev2, ev3, ev4, ev5, Nat.reduceLT, entE, getE, putE, ↓reduceIte, Nat.reduceEqDiff, argsE, Int.reduceEq, convertA, lenA, foldI, A.cells, A.leaf, List.replicate, viewA, getO, Nat.reduceLeDiff, loadA, cellsAt, cellsTo, faA, indexAddrA, asInt, Int.reduceLE, Int.reduceLT, Int.reduceToNat, eq_self, Nat.reducePow, Int.reducePow, Int.reduceAdd, Int.reduceMul, Int.reduceSub, Int.reduceNeg, keyOk, mapPutA, lookupA, mapOf, sliceA, boundI, elemsOf, appendA, storeA, setRange, indexA, Nat.reduceBEq, Int.cast_ofNat_Int, reduceCtorEq, Nat.reduceAdd, Nat.reduceMul, Nat.reduceSub, evTy0, evTy1, evTy2, evTy3, evTy4, evTy5, evTy6, evTy7, evTy8, h]
  · simp only [s115, n115, s115_0, ↓l_succ, ↓evPre, ev0, ev1, ev2, ev3, ev4, ev5, Nat.reduceLT, entE, getE, putE, ↓reduceIte, Nat.reduceEqDiff, argsE, Int.reduceEq, convertA, lenA, foldI, A.cells, A.leaf, List.replicate, viewA, getO, Nat.reduceLeDiff, loadA, cellsAt, cellsTo, faA, indexAddrA, asInt, Int.reduceLE, Int.reduceLT, Int.reduceToNat, eq_self, Nat.reducePow, Int.reducePow, Int.reduceAdd, Int.reduceMul, Int.reduceSub, Int.reduceNeg, keyOk, mapPutA, lookupA, mapOf, sliceA, boundI, elemsOf, appendA, storeA, setRange, indexA, Nat.reduceBEq, Int.cast_ofNat_Int, reduceCtorEq, Nat.reduceAdd, Nat.reduceMul, Nat.reduceSub, evTy0, evTy1, evTy2, evTy3, evTy4, evTy5, evTy6, evTy7, evTy8, h]

theorem Contains9_ev (k : Nat) (hk : 5 ≤ k) (n : Int) : callF Try.prog Hs E1 k 108 [.d (.sl 1 (ints .i64 [9])), .d (.int .i64 n)] [] = some (.d (.bool (decide (n = 9))), []) := by
  obtain ⟨k, rfl⟩ : ∃ j, k = j + 1 := ⟨k - 1, by omega⟩
  refine evalE rfl Try.func108 l108 ?_ (Nat.le_of_ble_eq_true rfl)
  have f1 := Index9_ev k (by omega) n
  by_cases h : n = 9
  · rw [if_pos h] at f1
    subst h
    simp only [s108, n108, ↓evPre, ev0, ev1, ev2, ev3, ev4, ev5, Nat.reduceLT, entE, getE, putE, ↓reduceIte, Nat.reduceEqDiff, argsE, Int.reduceEq, convertA, lenA, foldI, A.cells, A.leaf, List.replicate, viewA, getO, Nat.reduceLeDiff, loadA, cellsAt, cellsTo, faA, indexAddrA, asInt, Int.reduceLE, Int.reduceLT, Int.reduceToNat, eq_self, Nat.reducePow, Int.reducePow, Int.reduceAdd, Int.reduceMul, Int.reduceSub, Int.reduceNeg, keyOk, mapPutA, lookupA, mapOf, sliceA, boundI, elemsOf, appendA, storeA, setRange, indexA, Nat.reduceBEq, Int.cast_ofNat_Int, reduceCtorEq, Nat.reduceAdd, Nat.reduceMul, Nat.reduceSub, evTy0, evTy1, evTy2, evTy3, evTy4, evTy5, evTy6, evTy7, evTy8, callR_data f1 rfl rfl]
  · rw [if_neg h] at f1
    simp only [s108, n108, ↓evPre, ev0, ev1, ev2, ev3, ev4, ev5, Nat.reduceLT, entE, getE, putE, ↓reduceIte, Nat.reduceEqDiff, argsE, Int.reduceEq, convertA, lenA, foldI, A.cells, A.leaf, List.replicate, viewA, getO, Nat.reduceLeDiff, loadA, cellsAt, cellsTo, faA, indexAddrA, asInt, Int.reduceLE, Int.reduceLT, Int.reduceToNat, eq_self, Nat.reducePow, Int.reducePow, Int.reduceAdd, Int.reduceMul, Int.reduceSub, Int.reduceNeg, keyOk, mapPutA, lookupA, mapOf, sliceA, boundI, elemsOf, appendA, storeA, setRange, indexA, Nat.reduceBEq, Int.cast_ofNat_Int, reduceCtorEq, Nat.reduceAdd, Nat.reduceMul, Nat.reduceSub, evTy0, evTy1, evTy2, evTy3, evTy4, evTy5, evTy6, evTy7, evTy8, callR_data f1 rfl rfl, h]

def hdL (b : List Int) : Bool := if hdE b = 0 then (readV b).2.1 else false

theorem HIs_ev (k : Nat) (hk : 8 ≤ k) (b : List Int) (ho : okL b) : callF Try.prog Hs E1 k 79 [.d (.sl 1 (ints .u8 b)), .d (.sl 1 (ints .i64 [9]))] [] = some (.tup [.d (.bool (hdL b)), .d (.int .i64 (hdE b))], []) := by
  obtain ⟨k, rfl⟩ : ∃ j, k = j + 1 := ⟨k - 1, by omega⟩
  refine evalE rfl Try.func79 l79 ?_ (Nat.le_of_ble_eq_true rfl)
  have f1 := HRead_ev k (by omega) b ho
  unfold hdL
  have key : ((readV b).2.2 = 0 ∧ (readV b).1 = 9 ∧ hdE b = 0) ∨ ((readV b).2.2 = 0 ∧ ¬ (readV b).1 = 9 ∧ hdE b = 40) ∨ (¬ (readV b).2.2 = 0 ∧ hdE b = (readV b).2.2) := by
    rcases b with _ | ⟨a, _ | ⟨c, r⟩⟩
    · exact .inr (.inr ⟨by decide, rfl⟩)
    · exact .inr (.inr ⟨by simp [readV], rfl⟩)
    · rw [okL_cons, okL_cons] at ho
      by_cases ha : a = 4
      · by_cases hc : 1 ≤ c / 2 ∧ c / 2 ≤ 10
        · by_cases h9 : c / 2 = 9
          · exact .inl ⟨by simp [readV, ha, h9], by simp [readV, ha, h9], by simp [hdE, ha, h9]⟩
          · exact .inr (.inl ⟨by simp [readV, ha, hc], by simp [readV, ha, hc, h9], by simp [hdE, ha, h9]⟩)
        · have h9 : ¬ c / 2 = 9 := by omega
          exact .inr (.inr ⟨by simp [readV, ha, hc], by simp [readV, hdE, ha, hc, h9]⟩)
      · exact .inr (.inr ⟨by simp [readV, ha], by simp [readV, hdE, ha]⟩)
  generalize readV b = v at f1 key ⊢
  obtain ⟨v1, v2, v3⟩ := v
  simp only [tup3] at f1
  simp only at key ⊢
  have f2 := Contains9_ev k (by omega) v1
  rcases key with ⟨h1, h2, h3⟩ | ⟨h1, h2, h3⟩ | ⟨h1, h3⟩
  · simp only [h2] at f2
    subst h1
    simp only [h2] at f1
    simp only [s79, n79, ↓evPre, ev0, ev1, ev2, ev3, ev4, ev5, Nat.reduceLT, entE, getE, putE, ↓reduceIte, Nat.reduceEqDiff, argsE, Int.reduceEq, convertA, lenA, foldI, A.cells, A.leaf, List.replicate, viewA, getO, Nat.reduceLeDiff, loadA, cellsAt, cellsTo, faA, indexAddrA, asInt, Int.reduceLE, Int.reduceLT, Int.reduceToNat, eq_self, Nat.reducePow, Int.reducePow, Int.reduceAdd, Int.reduceMul, Int.reduceSub, Int.reduceNeg, keyOk, mapPutA, lookupA, mapOf, sliceA, boundI, elemsOf, appendA, storeA, setRange, indexA, Nat.reduceBEq, Int.cast_ofNat_Int, reduceCtorEq, Nat.reduceAdd, Nat.reduceMul, Nat.reduceSub, evTy0, evTy1, evTy2, evTy3, evTy4, evTy5, evTy6, evTy7, evTy8, callR_data f1 rfl rfl, callR_data f2 rfl rfl, h3]
  · subst h1
    simp only [h2] at f2
    have h0 : ¬ hdE b = 0 := by omega
    simp only [s79, n79, ↓evPre, ev0, ev1, ev2, ev3, ev4, ev5, Nat.reduceLT, entE, getE, putE, ↓reduceIte, Nat.reduceEqDiff, argsE, Int.reduceEq, convertA, lenA, foldI, A.cells, A.leaf, List.replicate, viewA, getO, Nat.reduceLeDiff, loadA, cellsAt, cellsTo, faA, indexAddrA, asInt, Int.reduceLE, Int.reduceLT, Int.reduceToNat, eq_self, Nat.reducePow, Int.reducePow, Int.reduceAdd, Int.reduceMul, Int.reduceSub, Int.reduceNeg, keyOk, mapPutA, lookupA, mapOf, sliceA, boundI, elemsOf, appendA, storeA, setRange, indexA, Nat.reduceBEq, Int.cast_ofNat_Int, reduceCtorEq, Nat.reduceAdd, Nat.reduceMul, Nat.reduceSub, evTy0, evTy1, evTy2, evTy3, evTy4, evTy5, evTy6, evTy7, evTy8, callR_data f1 rfl rfl, callR_data f2 rfl rfl, h2, h0, h3]
  · have h0 : ¬ hdE b = 0 := by omega
    rw [if_neg h0, h3]
    simp only [s79, n79, ↓evPre, ev0, ev1, ev2, ev3, ev4, ev5, Nat.reduceLT, entE, getE, putE, ↓reduceIte, Nat.reduceEqDiff, argsE, Int.reduceEq, convertA, lenA, foldI, A.cells, A.leaf, List.replicate, viewA, getO, Nat.reduceLeDiff, loadA, cellsAt, cellsTo, faA, indexAddrA, asInt, Int.reduceLE, Int.reduceLT, Int.reduceToNat, eq_self, Nat.reducePow, Int.reducePow, Int.reduceAdd, Int.reduceMul, Int.reduceSub, Int.reduceNeg, keyOk, mapPutA, lookupA, mapOf, sliceA, boundI, elemsOf, appendA, storeA, setRange, indexA, Nat.reduceBEq, Int.cast_ofNat_Int, reduceCtorEq, Nat.reduceAdd, Nat.reduceMul, Nat.reduceSub, evTy0, evTy1, evTy2, evTy3, evTy4, evTy5, evTy6, evTy7, evTy8, callR_data f1 rfl rfl, h1]

theorem open_ok (k : Nat) (hk : 10 ≤ k) (b : List Int) (ho : okL b) (h : hdE b = 0) : callF Try.prog Hs E1 k 46 [.d (.sl 1 (ints .u8 b))] [] = some (.tup [.bp 0 0, .d (.int .i64 0)], [cu b ⟨2, false⟩]) := by
  obtain ⟨k, rfl⟩ : ∃ j, k = j + 1 := ⟨k - 1, by omega⟩
  refine evalE rfl Try.func46 l46 ?_ (Nat.le_of_ble_eq_true rfl)
  have f1 := HIs_ev k (by omega) b ho
  have f2 := New_ev k (by omega) b 2
  rw [h] at f1
  simp only [cu] at f2 ⊢
  simp only [s46, n46, ↓evPre, ev0, ev1, ev2, ev3, ev4, ev5, Nat.reduceLT, entE, getE, putE, ↓reduceIte, Nat.reduceEqDiff, argsE, Int.reduceEq, convertA, lenA, foldI, A.cells, A.leaf, List.replicate, viewA, getO, Nat.reduceLeDiff, loadA, cellsAt, cellsTo, faA, indexAddrA, asInt, Int.reduceLE, Int.reduceLT, Int.reduceToNat, eq_self, Nat.reducePow, Int.reducePow, Int.reduceAdd, Int.reduceMul, Int.reduceSub, Int.reduceNeg, keyOk, mapPutA, lookupA, mapOf, sliceA, boundI, elemsOf, appendA, storeA, setRange, indexA, Nat.reduceBEq, Int.cast_ofNat_Int, reduceCtorEq, Nat.reduceAdd, Nat.reduceMul, Nat.reduceSub, evTy0, evTy1, evTy2, evTy3, evTy4, evTy5, evTy6, evTy7, evTy8, resA_bp, callR_data f1 rfl rfl, callR_back f2 rfl]

theorem open_no (k : Nat) (hk : 10 ≤ k) (b : List Int) (ho : okL b) (h : ¬ hdE b = 0) : callF Try.prog Hs E1 k 46 [.d (.sl 1 (ints .u8 b))] [] = some (.tup [.d .nilp, .d (.int .i64 (hdE b))], []) := by
  obtain ⟨k, rfl⟩ : ∃ j, k = j + 1 := ⟨k - 1, by omega⟩
  refine evalE rfl Try.func46 l46 ?_ (Nat.le_of_ble_eq_true rfl)
  have f1 := HIs_ev k (by omega) b ho
  simp only [s46, n46, ↓evPre, ev0, ev1, ev2, ev3, ev4, ev5, Nat.reduceLT, entE, getE, putE, ↓reduceIte, Nat.reduceEqDiff, argsE, Int.reduceEq, convertA, lenA, foldI, A.cells, A.leaf, List.replicate, viewA, getO, Nat.reduceLeDiff, loadA, cellsAt, cellsTo, faA, indexAddrA, asInt, Int.reduceLE, Int.reduceLT, Int.reduceToNat, eq_self, Nat.reducePow, Int.reducePow, Int.reduceAdd, Int.reduceMul, Int.reduceSub, Int.reduceNeg, keyOk, mapPutA, lookupA, mapOf, sliceA, boundI, elemsOf, appendA, storeA, setRange, indexA, Nat.reduceBEq, Int.cast_ofNat_Int, reduceCtorEq, Nat.reduceAdd, Nat.reduceMul, Nat.reduceSub, evTy0, evTy1, evTy2, evTy3, evTy4, evTy5, evTy6, evTy7, evTy8, callR_data f1 rfl rfl, h]

/-! ### Numbers that are outside -/
def outB (m n : Int) : Bool := decide (n < 0) || decide (m < n)

theorem out1_ev (k : Nat) (hk : 1 ≤ k) (m n : Int) : callF Try.prog Hs E1 k 97 [.d (.int .i64 n), .bp 0 0] [.box [.d (.int .i64 m)]] = some (.d (.bool (outB m n)), [.box [.d (.int .i64 m)]]) := by
  obtain ⟨k, rfl⟩ : ∃ j, k = j + 1 := ⟨k - 1, by omega⟩
  refine evalE rfl Try.func97 l97 ?_ (Nat.le_of_ble_eq_true rfl)
  unfold outB
  by_cases h : n < 0
  · simp only [s97, n97, ↓evPre, ev0, ev1, ev2, ev3, ev4, ev5, Nat.reduceLT, entE, getE, putE, ↓reduceIte, Nat.reduceEqDiff, argsE, Int.reduceEq, convertA, lenA, foldI, A.cells, A.leaf, List.replicate, viewA, getO, Nat.reduceLeDiff, loadA, cellsAt, cellsTo, faA, indexAddrA, asInt, Int.reduceLE, Int.reduceLT, Int.reduceToNat, eq_self, Nat.reducePow, Int.reducePow, Int.reduceAdd, Int.reduceMul, Int.reduceSub, Int.reduceNeg, keyOk, mapPutA, lookupA, mapOf, sliceA, boundI, elemsOf, appendA, storeA, setRange, indexA, Nat.reduceBEq, Int.cast_ofNat_Int, reduceCtorEq, Nat.reduceAdd, Nat.reduceMul, Nat.reduceSub, evTy0, evTy1, evTy2, evTy3, evTy4, evTy5, evTy6, evTy7, evTy8, h]
  · simp only [s97, n97, ↓evPre, ev0, ev1, ev2, ev3, ev4, ev5, Nat.reduceLT, entE, getE, putE, ↓reduceIte, Nat.reduceEqDiff, argsE, Int.reduceEq, convertA, lenA, foldI, A.cells, A.leaf, List.replicate, viewA, getO, Nat.reduceLeDiff, loadA, cellsAt, cellsTo, faA, indexAddrA, asInt, Int.reduceLE, Int.reduceLT, Int.reduceToNat, eq_self, Nat.reducePow, Int.reducePow, Int.reduceAdd, Int.reduceMul, Int.reduceSub, Int.reduceNeg, keyOk, mapPutA, lookupA, mapOf, sliceA, boundI, elemsOf, appendA, storeA, setRange, indexA, Nat.reduceBEq, Int.cast_ofNat_Int, reduceCtorEq, Nat.reduceAdd, Nat.reduceMul, Nat.reduceSub, evTy0, evTy1, evTy2, evTy3, evTy4, evTy5, evTy6, evTy7, evTy8, h]

theorem idxF1_ev (k : Nat) (hk : 5 ≤ k) (m a : Int) : callF Try.prog Hs E1 k 112 [.d (.sl 1 (ints .i64 [a])), .fn 97 [] [.bp 0 0]] [.box [.d (.int .i64 m)]] = some (.d (.int .i64 (if outB m a then 0 else -1)), [.box [.d (.int .i64 m)]]) := by
  obtain ⟨k, rfl⟩ : ∃ j, k = j + 4 := ⟨k - 4, by omega⟩
  refine evalE rfl Try.func112 l112 ?_ (Nat.le_of_ble_eq_true rfl)
  have f1 := out1_ev (k + 3) (by omega) m a
  cases h : outB m a <;> rw [h] at f1
  · simp only [s112, n112, s112_0, ↓l_succ, ↓evPre, ev0, ev1, ev2, ev3, ev4, ev5, Nat.reduceLT, entE, getE, putE, ↓reduceIte, Nat.reduceEqDiff, argsE, Int.reduceEq, convertA, lenA, foldI, A.cells, A.leaf, List.replicate, viewA, getO, Nat.reduceLeDiff, loadA, cellsAt, cellsTo, faA, indexAddrA, asInt, Int.reduceLE, Int.reduceLT, Int.reduceToNat, eq_self, Nat.reducePow, Int.reducePow, Int.reduceAdd, Int.reduceMul, Int.reduceSub, Int.reduceNeg, keyOk, mapPutA, lookupA, mapOf, sliceA, boundI, elemsOf, appendA, storeA, setRange, indexA, Nat.reduceBEq, Int.cast_ofNat_Int, reduceCtorEq, Nat.reduceAdd, Nat.reduceMul, Nat.reduceSub, evTy0, evTy1, evTy2, evTy3, evTy4, evTy5, evTy6, evTy7, evTy8, f1]
  · simp only [s112, n112, s112_0, ↓l_succ, ↓evPre, ev0, ev1, ev2, ev3, ev4, ev5, Nat.reduceLT, entE, getE, putE, ↓reduceIte, Nat.reduceEqDiff, argsE, Int.reduceEq, convertA, lenA, foldI, A.cells, A.leaf, List.replicate, viewA, getO, Nat.reduceLeDiff, loadA, cellsAt, cellsTo, faA, indexAddrA, asInt, Int.reduceLE, Int.reduceLT, Int.reduceToNat, eq_self, Nat.reducePow, Int.reducePow, Int.reduceAdd, Int.reduceMul, Int.reduceSub, Int.reduceNeg, keyOk, mapPutA, lookupA, mapOf, sliceA, boundI, elemsOf, appendA, storeA, setRange, indexA, Nat.reduceBEq, Int.cast_ofNat_Int, reduceCtorEq, Nat.reduceAdd, Nat.reduceMul, Nat.reduceSub, evTy0, evTy1, evTy2, evTy3, evTy4, evTy5, evTy6, evTy7, evTy8, f1]

theorem idxF2_ev (k : Nat) (hk : 5 ≤ k) (m a b : Int) : callF Try.prog Hs E1 k 112 [.d (.sl 1 (ints .i64 [a, b])), .fn 97 [] [.bp 0 0]] [.box [.d (.int .i64 m)]] = some (.d (.int .i64 (if outB m a then 0 else if outB m b then 1 else -1)), [.box [.d (.int .i64 m)]]) := by
  obtain ⟨k, rfl⟩ : ∃ j, k = j + 4 := ⟨k - 4, by omega⟩
  refine evalE rfl Try.func112 l112 ?_ (Nat.le_of_ble_eq_true rfl)
  have f1 := out1_ev (k + 3) (by omega) m a
  have f2 := out1_ev (k + 3) (by omega) m b
  cases h : outB m a <;> rw [h] at f1
  · cases h2 : outB m b <;> rw [h2] at f2
    · simp only [s112, n112, s112_0, ↓l_succ, ↓evPre, ev0, ev1, ev2, ev3, ev4, ev5, Nat.reduceLT, entE, getE, putE, ↓reduceIte, Nat.reduceEqDiff, argsE, Int.reduceEq, convertA, lenA, foldI, A.cells, A.leaf, List.replicate, viewA, getO, Nat.reduceLeDiff, loadA, cellsAt, cellsTo, faA, indexAddrA, asInt, Int.reduceLE, Int.reduceLT, Int.reduceToNat, eq_self, Nat.reducePow, Int.reducePow, Int.reduceAdd, Int.reduceMul, Int.reduceSub, Int.reduceNeg, keyOk, mapPutA, lookupA, mapOf, sliceA, boundI, elemsOf, appendA, storeA, setRange, indexA, Nat.reduceBEq, Int.cast_ofNat_Int, reduceCtorEq, Nat.reduceAdd, Nat.reduceMul, Nat.reduceSub, evTy0, evTy1, evTy2, evTy3, evTy4, evTy5, evTy6, evTy7, evTy8, f1, f2]
    · simp only [s112, n112, s112_0, ↓l_succ, ↓evPre, ev0, ev1, ev2, ev3, ev4, ev5, Nat.reduceLT, entE, getE, putE, ↓reduceIte, Nat.reduceEqDiff, argsE, Int.reduceEq, convertA, lenA, foldI, A.cells, A.leaf, List.replicate, viewA, getO, Nat.reduceLeDiff, loadA, cellsAt, cellsTo, faA, indexAddrA, asInt, Int.reduceLE, Int.reduceLT, Int.reduceToNat, eq_self, Nat.reducePow, Int.reducePow, Int.reduceAdd, Int.reduceMul, Int.reduceSub, Int.reduceNeg, keyOk, mapPutA, lookupA, mapOf, sliceA, boundI, elemsOf, appendA, storeA, setRange, indexA, Nat.reduceBEq, Int.cast_ofNat_Int, reduceCtorEq, Nat.reduceAdd, Nat.reduceMul, Nat.reduceSub, evTy0, evTy1, evTy2, evTy3, evTy4, evTy5, evTy6, evTy7, evTy8, f1, f2]
  · simp only [s112, n112, s112_0, ↓l_succ, ↓evPre, ev0, ev1, ev2, ev3, ev4, ev5, Nat.reduceLT, entE, getE, putE, ↓reduceIte, Nat.reduceEqDiff, argsE, Int.reduceEq, convertA, lenA, foldI, A.cells, A.leaf, List.replicate, viewA, getO, Nat.reduceLeDiff, loadA, cellsAt, cellsTo, faA, indexAddrA, asInt, Int.reduceLE, Int.reduceLT, Int.reduceToNat, eq_self, Nat.reducePow, Int.reducePow, Int.reduceAdd, Int.reduceMul, Int.reduceSub, Int.reduceNeg, keyOk, mapPutA, lookupA, mapOf, sliceA, boundI, elemsOf, appendA, storeA, setRange, indexA, Nat.reduceBEq, Int.cast_ofNat_Int, reduceCtorEq, Nat.reduceAdd, Nat.reduceMul, Nat.reduceSub, evTy0, evTy1, evTy2, evTy3, evTy4, evTy5, evTy6, evTy7, evTy8, f1]

theorem outside1_ev (k : Nat) (hk : 8 ≤ k) (m a : Int) : callF Try.prog Hs E1 k 54 [.d (.int .i64 m), .d (.sl 1 (ints .i64 [a]))] [] = some (.d (.bool (outB m a)), []) := by
  obtain ⟨k, rfl⟩ : ∃ j, k = j + 2 := ⟨k - 2, by omega⟩
  have f0 : callF Try.prog Hs E1 (k + 1) 96 [.d (.sl 1 (ints .i64 [a])), .fn 97 [] [.bp 0 0]] [.box [.d (.int .i64 m)]] = some (.d (.bool (outB m a)), [.box [.d (.int .i64 m)]]) := by
    refine evalE rfl Try.func96 l96 ?_ (Nat.le_of_ble_eq_true rfl)
    have f1 := idxF1_ev k (by omega) m a
    cases h : outB m a <;> rw [h] at f1
    · simp only [Bool.false_eq_true, if_false] at f1
      simp only [s96, n96, ↓evPre, ev0, ev1, ev2, ev3, ev4, ev5, Nat.reduceLT, entE, getE, putE, ↓reduceIte, Nat.reduceEqDiff, argsE, Int.reduceEq, convertA, lenA, foldI, A.cells, A.leaf, List.replicate, viewA, getO, Nat.reduceLeDiff, loadA, cellsAt, cellsTo, faA, indexAddrA, asInt, Int.reduceLE, Int.reduceLT, Int.reduceToNat, eq_self, Nat.reducePow, Int.reducePow, Int.reduceAdd, Int.reduceMul, Int.reduceSub, Int.reduceNeg, keyOk, mapPutA, lookupA, mapOf, sliceA, boundI, elemsOf, appendA, storeA, setRange, indexA, Nat.reduceBEq, Int.cast_ofNat_Int, reduceCtorEq, Nat.reduceAdd, Nat.reduceMul, Nat.reduceSub, evTy0, evTy1, evTy2, evTy3, evTy4, evTy5, evTy6, evTy7, evTy8, f1]
    · simp only [if_true] at f1
      simp only [s96, n96, ↓evPre, ev0, ev1, ev2, ev3, ev4, ev5, Nat.reduceLT, entE, getE, putE, ↓reduceIte, Nat.reduceEqDiff, argsE, Int.reduceEq, convertA, lenA, foldI, A.cells, A.leaf, List.replicate, viewA, getO, Nat.reduceLeDiff, loadA, cellsAt, cellsTo, faA, indexAddrA, asInt, Int.reduceLE, Int.reduceLT, Int.reduceToNat, eq_self, Nat.reducePow, Int.reducePow, Int.reduceAdd, Int.reduceMul, Int.reduceSub, Int.reduceNeg, keyOk, mapPutA, lookupA, mapOf, sliceA, boundI, elemsOf, appendA, storeA, setRange, indexA, Nat.reduceBEq, Int.cast_ofNat_Int, reduceCtorEq, Nat.reduceAdd, Nat.reduceMul, Nat.reduceSub, evTy0, evTy1, evTy2, evTy3, evTy4, evTy5, evTy6, evTy7, evTy8, f1]
  refine evalE rfl Try.func54 l54 ?_ (Nat.le_of_ble_eq_true rfl)
  simp only [s54, n54, ↓evPre, ev0, ev1, ev2, ev3, ev4, ev5, Nat.reduceLT, entE, getE, putE, ↓reduceIte, Nat.reduceEqDiff, argsE, Int.reduceEq, convertA, lenA, foldI, A.cells, A.leaf, List.replicate, viewA, getO, Nat.reduceLeDiff, loadA, cellsAt, cellsTo, faA, indexAddrA, asInt, Int.reduceLE, Int.reduceLT, Int.reduceToNat, eq_self, Nat.reducePow, Int.reducePow, Int.reduceAdd, Int.reduceMul, Int.reduceSub, Int.reduceNeg, keyOk, mapPutA, lookupA, mapOf, sliceA, boundI, elemsOf, appendA, storeA, setRange, indexA, Nat.reduceBEq, Int.cast_ofNat_Int, reduceCtorEq, Nat.reduceAdd, Nat.reduceMul, Nat.reduceSub, evTy0, evTy1, evTy2, evTy3, evTy4, evTy5, evTy6, evTy7, evTy8, f0]

theorem outside2_ev (k : Nat) (hk : 8 ≤ k) (m a b : Int) : callF Try.prog Hs E1 k 54 [.d (.int .i64 m), .d (.sl 1 (ints .i64 [a, b]))] [] = some (.d (.bool (outB m a || outB m b)), []) := by
  obtain ⟨k, rfl⟩ : ∃ j, k = j + 2 := ⟨k - 2, by omega⟩
  have f0 : callF Try.prog Hs E1 (k + 1) 96 [.d (.sl 1 (ints .i64 [a, b])), .fn 97 [] [.bp 0 0]] [.box [.d (.int .i64 m)]] = some (.d (.bool (outB m a || outB m b)), [.box [.d (.int .i64 m)]]) := by
    refine evalE rfl Try.func96 l96 ?_ (Nat.le_of_ble_eq_true rfl)
    have f1 := idxF2_ev k (by omega) m a b
    cases h : outB m a <;> rw [h] at f1
    · cases h2 : outB m b <;> rw [h2] at f1
      · simp only [Bool.false_eq_true, if_false] at f1
        simp only [s96, n96, ↓evPre, ev0, ev1, ev2, ev3, ev4, ev5, Nat.reduceLT, entE, getE, putE, ↓reduceIte, Nat.reduceEqDiff, argsE, Int.reduceEq, convertA, lenA, foldI, A.cells, A.leaf, List.replicate, viewA, getO, Nat.reduceLeDiff, loadA, cellsAt, cellsTo, faA, indexAddrA, asInt, Int.reduceLE, Int.reduceLT, Int.reduceToNat, eq_self, Nat.reducePow, Int.reducePow, Int.reduceAdd, Int.reduceMul, Int.reduceSub, Int.reduceNeg, keyOk, mapPutA, lookupA, mapOf, sliceA, boundI, elemsOf, appendA, storeA, setRange, indexA, Nat.reduceBEq, Int.cast_ofNat_Int, reduceCtorEq, Nat.reduceAdd, Nat.reduceMul, Nat.reduceSub, evTy0, evTy1, evTy2, evTy3, evTy4, evTy5, evTy6, evTy7, evTy8, f1]
      · simp only [Bool.false_eq_true, if_false, if_true] at f1
        simp only [s96, n96, ↓evPre, ev0, ev1, ev2, ev3, ev4, ev5, Nat.reduceLT, entE, getE, putE, ↓reduceIte, Nat.reduceEqDiff, argsE, Int.reduceEq, convertA, lenA, foldI, A.cells, A.leaf, List.replicate, viewA, getO, Nat.reduceLeDiff, loadA, cellsAt, cellsTo, faA, indexAddrA, asInt, Int.reduceLE, Int.reduceLT, Int.reduceToNat, eq_self, Nat.reducePow, Int.reducePow, Int.reduceAdd, Int.reduceMul, Int.reduceSub, Int.reduceNeg, keyOk, mapPutA, lookupA, mapOf, sliceA, boundI, elemsOf, appendA, storeA, setRange, indexA, Nat.reduceBEq, Int.cast_ofNat_Int, reduceCtorEq, Nat.reduceAdd, Nat.reduceMul, Nat.reduceSub, evTy0, evTy1, evTy2, evTy3, evTy4, evTy5, evTy6, evTy7, evTy8, f1]
    · simp only [if_true] at f1
      simp only [s96, n96, ↓evPre, ev0, ev1, ev2, ev3, ev4, ev5, Nat.reduceLT, entE, getE, putE, ↓reduceIte, Nat.reduceEqDiff, argsE, Int.reduceEq, convertA, lenA, foldI, A.cells, A.leaf, List.replicate, viewA, getO, Nat.reduceLeDiff, loadA, cellsAt, cellsTo, faA, indexAddrA, asInt, Int.reduceLE, Int.reduceLT, Int.reduceToNat, eq_self, Nat.reducePow, Int.reducePow, Int.reduceAdd, Int.reduceMul, Int.reduceSub, Int.reduceNeg, keyOk, mapPutA, lookupA, mapOf, sliceA, boundI, elemsOf, appendA, storeA, setRange, indexA, Nat.reduceBEq, Int.cast_ofNat_Int, reduceCtorEq, Nat.reduceAdd, Nat.reduceMul, Nat.reduceSub, evTy0, evTy1, evTy2, evTy3, evTy4, evTy5, evTy6, evTy7, evTy8, f1]
  refine evalE rfl Try.func54 l54 ?_ (Nat.le_of_ble_eq_true rfl)
  simp only [s54, n54, ↓evPre, ev0, ev1, ev2, ev3, ev4, ev5, Nat.reduceLT, entE, getE, putE, ↓reduceIte, Nat.reduceEqDiff, argsE, Int.reduceEq, convertA, lenA, foldI, A.cells, A.leaf, List.replicate, viewA, getO, Nat.reduceLeDiff, loadA, cellsAt, cellsTo, faA, indexAddrA, asInt, Int.reduceLE, Int.reduceLT, Int.reduceToNat, eq_self, Nat.reducePow, Int.reducePow, Int.reduceAdd, Int.reduceMul, Int.reduceSub, Int.reduceNeg, keyOk, mapPutA, lookupA, mapOf, sliceA, boundI, elemsOf, appendA, storeA, setRange, indexA, Nat.reduceBEq, Int.cast_ofNat_Int, reduceCtorEq, Nat.reduceAdd, Nat.reduceMul, Nat.reduceSub, evTy0, evTy1, evTy2, evTy3, evTy4, evTy5, evTy6, evTy7, evTy8, f0]
end Ka
end Ab
