/- A part of the proof of a row by an interpreter that is proved sound; no conditions of its own. -/
import Derived.Test.YtipfkflogjfbjaaAbCv
namespace Ab
open Go Go.Proofs Go.IntWalk
set_option maxRecDepth 10000
set_option linter.unusedSimpArgs false
set_option linter.unusedVariables false
namespace Cv
open Pr Key

theorem awake_ev (k : Nat) (hk : 60 ≤ k) : callF Try.prog Hs E1 k 14 [] [] = some (.d (.bool true), []) := by
  obtain ⟨k, rfl⟩ : ∃ j, k = j + 60 := ⟨k - 60, by omega⟩
  kernel_rfl

def longB (p : Prin) : Bool := decide (100 < (p.name.size : Int)) || (decide (100 < (p.inst.size : Int)) || decide (100 < (p.realm.size : Int)))
def rowD (p : Prin) : List D := [.str p.name, .str p.inst, .str p.realm]

theorem long_ev (k : Nat) (hk : 5 ≤ k) (p q : Prin) : callF Try.prog Hs E1 k 15 [.d (.sl 3 [[.str p.name, .str p.inst, .str p.realm], [.str q.name, .str q.inst, .str q.realm]])] [] = some (.d (.bool (longB p || longB q)), []) := by
  obtain ⟨k, rfl⟩ : ∃ j, k = j + 5 := ⟨k - 5, by omega⟩
  refine evalE rfl Try.func15 l15 ?_ (Nat.le_of_ble_eq_true rfl)
  simp only [s15, n15, ↓evPre, ev0, ev1, ev2, ev3, ev4, ev5, Nat.reduceLT, entE, getE, putE, ↓reduceIte, Nat.reduceEqDiff, argsE, Int.reduceEq, convertA, lenA, foldI, A.cells, A.leaf, List.replicate, viewA, getO, Nat.reduceLeDiff, loadA, cellsAt, cellsTo, faA, indexAddrA, asInt, Int.reduceLE, Int.reduceLT, Int.reduceToNat, eq_self, Nat.reducePow, Int.reducePow, Int.reduceAdd, Int.reduceMul, Int.reduceSub, Int.reduceNeg, keyOk, mapPutA, lookupA, mapOf, sliceA, boundI, elemsOf, appendA, storeA, setRange, indexA, Nat.reduceBEq, Int.cast_ofNat_Int, reduceCtorEq, Nat.reduceAdd, Nat.reduceMul, Nat.reduceSub, evTy0, evTy1, evTy2, evTy3, evTy4, evTy5]
  rw [l_succ]
  by_cases a1 : 100 < (p.name.size : Int)
  · simp only [s15_0, s15, n15, ↓evPre, ev0, ev1, ev2, ev3, ev4, ev5, Nat.reduceLT, entE, getE, putE, ↓reduceIte, Nat.reduceEqDiff, argsE, Int.reduceEq, convertA, lenA, foldI, A.cells, A.leaf, List.replicate, viewA, getO, Nat.reduceLeDiff, loadA, cellsAt, cellsTo, faA, indexAddrA, asInt, Int.reduceLE, Int.reduceLT, Int.reduceToNat, eq_self, Nat.reducePow, Int.reducePow, Int.reduceAdd, Int.reduceMul, Int.reduceSub, Int.reduceNeg, keyOk, mapPutA, lookupA, mapOf, sliceA, boundI, elemsOf, appendA, storeA, setRange, indexA, Nat.reduceBEq, Int.cast_ofNat_Int, reduceCtorEq, Nat.reduceAdd, Nat.reduceMul, Nat.reduceSub, evTy0, evTy1, evTy2, evTy3, evTy4, evTy5, longB, a1]
  by_cases a2 : 100 < (p.inst.size : Int)
  · simp only [s15_0, s15, n15, ↓evPre, ev0, ev1, ev2, ev3, ev4, ev5, Nat.reduceLT, entE, getE, putE, ↓reduceIte, Nat.reduceEqDiff, argsE, Int.reduceEq, convertA, lenA, foldI, A.cells, A.leaf, List.replicate, viewA, getO, Nat.reduceLeDiff, loadA, cellsAt, cellsTo, faA, indexAddrA, asInt, Int.reduceLE, Int.reduceLT, Int.reduceToNat, eq_self, Nat.reducePow, Int.reducePow, Int.reduceAdd, Int.reduceMul, Int.reduceSub, Int.reduceNeg, keyOk, mapPutA, lookupA, mapOf, sliceA, boundI, elemsOf, appendA, storeA, setRange, indexA, Nat.reduceBEq, Int.cast_ofNat_Int, reduceCtorEq, Nat.reduceAdd, Nat.reduceMul, Nat.reduceSub, evTy0, evTy1, evTy2, evTy3, evTy4, evTy5, longB, a1, a2]
  by_cases a3 : 100 < (p.realm.size : Int)
  · simp only [s15_0, s15, n15, ↓evPre, ev0, ev1, ev2, ev3, ev4, ev5, Nat.reduceLT, entE, getE, putE, ↓reduceIte, Nat.reduceEqDiff, argsE, Int.reduceEq, convertA, lenA, foldI, A.cells, A.leaf, List.replicate, viewA, getO, Nat.reduceLeDiff, loadA, cellsAt, cellsTo, faA, indexAddrA, asInt, Int.reduceLE, Int.reduceLT, Int.reduceToNat, eq_self, Nat.reducePow, Int.reducePow, Int.reduceAdd, Int.reduceMul, Int.reduceSub, Int.reduceNeg, keyOk, mapPutA, lookupA, mapOf, sliceA, boundI, elemsOf, appendA, storeA, setRange, indexA, Nat.reduceBEq, Int.cast_ofNat_Int, reduceCtorEq, Nat.reduceAdd, Nat.reduceMul, Nat.reduceSub, evTy0, evTy1, evTy2, evTy3, evTy4, evTy5, longB, a1, a2, a3]
  simp only [s15_0, ↓evPre, ev0, ev1, ev2, ev3, ev4, ev5, Nat.reduceLT, entE, getE, putE, ↓reduceIte, Nat.reduceEqDiff, argsE, Int.reduceEq, convertA, lenA, foldI, A.cells, A.leaf, List.replicate, viewA, getO, Nat.reduceLeDiff, loadA, cellsAt, cellsTo, faA, indexAddrA, asInt, Int.reduceLE, Int.reduceLT, Int.reduceToNat, eq_self, Nat.reducePow, Int.reducePow, Int.reduceAdd, Int.reduceMul, Int.reduceSub, Int.reduceNeg, keyOk, mapPutA, lookupA, mapOf, sliceA, boundI, elemsOf, appendA, storeA, setRange, indexA, Nat.reduceBEq, Int.cast_ofNat_Int, reduceCtorEq, Nat.reduceAdd, Nat.reduceMul, Nat.reduceSub, evTy0, evTy1, evTy2, evTy3, evTy4, evTy5, longB, a1, a2, a3]
  rw [l_succ]
  by_cases b1 : 100 < (q.name.size : Int)
  · simp only [s15, n15, ↓evPre, ev0, ev1, ev2, ev3, ev4, ev5, Nat.reduceLT, entE, getE, putE, ↓reduceIte, Nat.reduceEqDiff, argsE, Int.reduceEq, convertA, lenA, foldI, A.cells, A.leaf, List.replicate, viewA, getO, Nat.reduceLeDiff, loadA, cellsAt, cellsTo, faA, indexAddrA, asInt, Int.reduceLE, Int.reduceLT, Int.reduceToNat, eq_self, Nat.reducePow, Int.reducePow, Int.reduceAdd, Int.reduceMul, Int.reduceSub, Int.reduceNeg, keyOk, mapPutA, lookupA, mapOf, sliceA, boundI, elemsOf, appendA, storeA, setRange, indexA, Nat.reduceBEq, Int.cast_ofNat_Int, reduceCtorEq, Nat.reduceAdd, Nat.reduceMul, Nat.reduceSub, evTy0, evTy1, evTy2, evTy3, evTy4, evTy5, b1]
  by_cases b2 : 100 < (q.inst.size : Int)
  · simp only [s15, n15, ↓evPre, ev0, ev1, ev2, ev3, ev4, ev5, Nat.reduceLT, entE, getE, putE, ↓reduceIte, Nat.reduceEqDiff, argsE, Int.reduceEq, convertA, lenA, foldI, A.cells, A.leaf, List.replicate, viewA, getO, Nat.reduceLeDiff, loadA, cellsAt, cellsTo, faA, indexAddrA, asInt, Int.reduceLE, Int.reduceLT, Int.reduceToNat, eq_self, Nat.reducePow, Int.reducePow, Int.reduceAdd, Int.reduceMul, Int.reduceSub, Int.reduceNeg, keyOk, mapPutA, lookupA, mapOf, sliceA, boundI, elemsOf, appendA, storeA, setRange, indexA, Nat.reduceBEq, Int.cast_ofNat_Int, reduceCtorEq, Nat.reduceAdd, Nat.reduceMul, Nat.reduceSub, evTy0, evTy1, evTy2, evTy3, evTy4, evTy5, b1, b2]
  by_cases b3 : 100 < (q.realm.size : Int)
  · simp only [s15, n15, ↓evPre, ev0, ev1, ev2, ev3, ev4, ev5, Nat.reduceLT, entE, getE, putE, ↓reduceIte, Nat.reduceEqDiff, argsE, Int.reduceEq, convertA, lenA, foldI, A.cells, A.leaf, List.replicate, viewA, getO, Nat.reduceLeDiff, loadA, cellsAt, cellsTo, faA, indexAddrA, asInt, Int.reduceLE, Int.reduceLT, Int.reduceToNat, eq_self, Nat.reducePow, Int.reducePow, Int.reduceAdd, Int.reduceMul, Int.reduceSub, Int.reduceNeg, keyOk, mapPutA, lookupA, mapOf, sliceA, boundI, elemsOf, appendA, storeA, setRange, indexA, Nat.reduceBEq, Int.cast_ofNat_Int, reduceCtorEq, Nat.reduceAdd, Nat.reduceMul, Nat.reduceSub, evTy0, evTy1, evTy2, evTy3, evTy4, evTy5, b1, b2, b3]
  simp only [↓evPre, ev0, ev1, ev2, ev3, ev4, ev5, Nat.reduceLT, entE, getE, putE, ↓reduceIte, Nat.reduceEqDiff, argsE, Int.reduceEq, convertA, lenA, foldI, A.cells, A.leaf, List.replicate, viewA, getO, Nat.reduceLeDiff, loadA, cellsAt, cellsTo, faA, indexAddrA, asInt, Int.reduceLE, Int.reduceLT, Int.reduceToNat, eq_self, Nat.reducePow, Int.reducePow, Int.reduceAdd, Int.reduceMul, Int.reduceSub, Int.reduceNeg, keyOk, mapPutA, lookupA, mapOf, sliceA, boundI, elemsOf, appendA, storeA, setRange, indexA, Nat.reduceBEq, Int.cast_ofNat_Int, reduceCtorEq, Nat.reduceAdd, Nat.reduceMul, Nat.reduceSub, evTy0, evTy1, evTy2, evTy3, evTy4, evTy5, b1, b2, b3]
  rw [l_succ]
  simp only [s15, n15, ↓evPre, ev0, ev1, ev2, ev3, ev4, ev5, Nat.reduceLT, entE, getE, putE, ↓reduceIte, Nat.reduceEqDiff, argsE, Int.reduceEq, convertA, lenA, foldI, A.cells, A.leaf, List.replicate, viewA, getO, Nat.reduceLeDiff, loadA, cellsAt, cellsTo, faA, indexAddrA, asInt, Int.reduceLE, Int.reduceLT, Int.reduceToNat, eq_self, Nat.reducePow, Int.reducePow, Int.reduceAdd, Int.reduceMul, Int.reduceSub, Int.reduceNeg, keyOk, mapPutA, lookupA, mapOf, sliceA, boundI, elemsOf, appendA, storeA, setRange, indexA, Nat.reduceBEq, Int.cast_ofNat_Int, reduceCtorEq, Nat.reduceAdd, Nat.reduceMul, Nat.reduceSub, evTy0, evTy1, evTy2, evTy3, evTy4, evTy5]

theorem sel3_size {a b c : ByteArray} {i : Int} (h1 : a.size ≤ 10) (h2 : b.size ≤ 10) (h3 : c.size ≤ 10) : (sel3 a b c i).size ≤ 10 := by
  unfold sel3; split
  · exact h1
  · split <;> assumption
theorem user_ok (n : Int) : (userP n).ok 100 := ⟨Nat.le_trans (sel3_size (by decide) (by decide) (by decide)) (by decide), Nat.zero_le _, Nat.le_trans (sel3_size (by decide) (by decide) (by decide)) (by decide)⟩
theorem service_ok (n : Int) : (serviceP n).ok 100 := ⟨Nat.le_trans (sel3_size (by decide) (by decide) (by decide)) (by decide), Nat.le_trans (sel3_size (by decide) (by decide) (by decide)) (by decide), Nat.le_trans (sel3_size (by decide) (by decide) (by decide)) (by decide)⟩

/-- The record that the law makes. -/
def made (a b c start len addr : Int) : Rec := ⟨userP a, serviceP b, 144115188075855872 + (1 + c), start % 100000, start % 100000 + len % 100000, addr⟩

theorem Conv_law (k : Nat) (hk : 400 ≤ k) (r : Rec) (hr : (0 ≤ r.key ∧ r.key ≤ 18446744073709551615) ∧ (-9223372036854775808 ≤ r.start ∧ r.start ≤ 9223372036854775807) ∧ (-9223372036854775808 ≤ r.fin ∧ r.fin ≤ 9223372036854775807)) (a b c start len addr : Int) (ha : 0 ≤ a ∧ a ≤ 255) (hb : 0 ≤ b ∧ b ≤ 255) (hc : 0 ≤ c ∧ c ≤ 255) (hs : 0 ≤ start ∧ start ≤ 4294967295) (hl : 0 ≤ len ∧ len ≤ 4294967295) (hd : 0 ≤ addr ∧ addr ≤ 255) :
    callF Try.prog Hs E1 k 3 [r.a, .d (.int .u8 a), .d (.int .u8 b), .d (.int .u8 c), .d (.int .u32 start), .d (.int .u32 len), .d (.int .u8 addr)] [] = some (.d (.bool true), []) := by
  obtain ⟨k, rfl⟩ : ∃ j, k = j + 10 := ⟨k - 10, by omega⟩
  refine evalE rfl Try.func3 l3 ?_ (Nat.le_of_ble_eq_true rfl)
  have hlong := long_ev (k + 9) (by omega) r.client r.service
  cases q : longB r.client || longB r.service
  case true =>
    rw [q] at hlong
    simp only [s3, n3, ↓evPre, ev0, ev1, ev2, ev3, ev4, ev5, Nat.reduceLT, entE, getE, putE, ↓reduceIte, Nat.reduceEqDiff, argsE, Int.reduceEq, convertA, lenA, foldI, A.cells, A.leaf, List.replicate, viewA, getO, Nat.reduceLeDiff, loadA, cellsAt, cellsTo, faA, indexAddrA, asInt, Int.reduceLE, Int.reduceLT, Int.reduceToNat, eq_self, Nat.reducePow, Int.reducePow, Int.reduceAdd, Int.reduceMul, Int.reduceSub, Int.reduceNeg, keyOk, mapPutA, lookupA, mapOf, sliceA, boundI, elemsOf, appendA, storeA, setRange, indexA, Nat.reduceBEq, Int.cast_ofNat_Int, reduceCtorEq, Nat.reduceAdd, Nat.reduceMul, Nat.reduceSub, evTy0, evTy1, evTy2, evTy3, evTy4, evTy5, Rec.a, callR_data (awake_ev (k + 9) (by omega)) rfl rfl, callR_data hlong rfl rfl]
  rw [q] at hlong
  have hok : r.ok 100 := by
    simp only [longB, Bool.or_eq_false_iff, decide_eq_false_iff_not] at q
    exact ⟨⟨by omega, by omega, by omega⟩, ⟨by omega, by omega, by omega⟩, hr⟩
  have w1 := i64_in a (by omega)
  have w2 := i64_in b (by omega)
  have w3 := i64_in c (by omega)
  have w4 := i64_in addr (by omega)
  obtain ⟨t1, t2, t3⟩ := tmodB (m := 100000) hs.1 (by omega)
  obtain ⟨u1, u2, u3⟩ := tmodB (m := 100000) hl.1 (by omega)
  have w5 := i64_in (start % 100000) (by omega)
  have w6 := i64_in (len % 100000) (by omega)
  have w7 := i64_in (start % 100000 + len % 100000) (by omega)
  have hmk : (made a b c start len addr).ok 100 := ⟨user_ok a, service_ok b, ⟨by simp only [made]; omega, by simp only [made]; omega⟩, ⟨by simp only [made]; omega, by simp only [made]; omega⟩, ⟨by simp only [made]; omega, by simp only [made]; omega⟩⟩
  obtain ⟨T1, q1, c1, c2⟩ : ∃ (T : Tick) (q : Bool), callF Try.prog Hs E1 (k + 9) 19 [r.a] [] = some (.tup [T.a, .d (.bool q)], []) ∧ callF Try.prog Hs E1 (k + 9) 20 [r.a] [] = some (.tup [T.a, .d (.bool q)], []) :=
    ⟨_, _, Convert_ev (k + 9) 100 r (by omega) hok (by omega), refConvert_ev (k + 9) 100 r (by omega) hok (by omega)⟩
  obtain ⟨T2, q2, c3, c4⟩ : ∃ (T : Tick) (q : Bool), callF Try.prog Hs E1 (k + 9) 19 [(made a b c start len addr).a] [] = some (.tup [T.a, .d (.bool q)], []) ∧ callF Try.prog Hs E1 (k + 9) 20 [(made a b c start len addr).a] [] = some (.tup [T.a, .d (.bool q)], []) :=
    ⟨_, _, Convert_ev (k + 9) 100 _ (by omega) hmk (by omega), refConvert_ev (k + 9) 100 _ (by omega) hmk (by omega)⟩
  simp only [Rec.a, made, Tick.a] at c1 c2 c3 c4
  have f1 := User_ev (k + 9) (by omega) a (by omega)
  have f2 := Service_ev (k + 9) (by omega) b (by omega)
  have f3 := Session_ev (k + 9) (by omega) c (by omega)
  simp only [Prin.cells] at f1 f2
  simp only [s3, n3, ↓evPre, ev0, ev1, ev2, ev3, ev4, ev5, Nat.reduceLT, entE, getE, putE, ↓reduceIte, Nat.reduceEqDiff, argsE, Int.reduceEq, convertA, lenA, foldI, A.cells, A.leaf, List.replicate, viewA, getO, Nat.reduceLeDiff, loadA, cellsAt, cellsTo, faA, indexAddrA, asInt, Int.reduceLE, Int.reduceLT, Int.reduceToNat, eq_self, Nat.reducePow, Int.reducePow, Int.reduceAdd, Int.reduceMul, Int.reduceSub, Int.reduceNeg, keyOk, mapPutA, lookupA, mapOf, sliceA, boundI, elemsOf, appendA, storeA, setRange, indexA, Nat.reduceBEq, Int.cast_ofNat_Int, reduceCtorEq, Nat.reduceAdd, Nat.reduceMul, Nat.reduceSub, evTy0, evTy1, evTy2, evTy3, evTy4, evTy5, Rec.a, callR_data (awake_ev (k + 9) (by omega)) rfl rfl, callR_data hlong rfl rfl, callR_data f1 rfl rfl, callR_data f2 rfl rfl, callR_data f3 rfl rfl, w1, w2, w3, w4, w5, w6, w7, t1, u1]
  rw [l_succ]
  simp only [s3_0, ↓evPre, ev0, ev1, ev2, ev3, ev4, ev5, Nat.reduceLT, entE, getE, putE, ↓reduceIte, Nat.reduceEqDiff, argsE, Int.reduceEq, convertA, lenA, foldI, A.cells, A.leaf, List.replicate, viewA, getO, Nat.reduceLeDiff, loadA, cellsAt, cellsTo, faA, indexAddrA, asInt, Int.reduceLE, Int.reduceLT, Int.reduceToNat, eq_self, Nat.reducePow, Int.reducePow, Int.reduceAdd, Int.reduceMul, Int.reduceSub, Int.reduceNeg, keyOk, mapPutA, lookupA, mapOf, sliceA, boundI, elemsOf, appendA, storeA, setRange, indexA, Nat.reduceBEq, Int.cast_ofNat_Int, reduceCtorEq, Nat.reduceAdd, Nat.reduceMul, Nat.reduceSub, evTy0, evTy1, evTy2, evTy3, evTy4, evTy5, callR_data c1 rfl rfl, callR_data c2 rfl rfl]
  rw [l_succ]
  simp only [↓evPre, ev0, ev1, ev2, ev3, ev4, ev5, Nat.reduceLT, entE, getE, putE, ↓reduceIte, Nat.reduceEqDiff, argsE, Int.reduceEq, convertA, lenA, foldI, A.cells, A.leaf, List.replicate, viewA, getO, Nat.reduceLeDiff, loadA, cellsAt, cellsTo, faA, indexAddrA, asInt, Int.reduceLE, Int.reduceLT, Int.reduceToNat, eq_self, Nat.reducePow, Int.reducePow, Int.reduceAdd, Int.reduceMul, Int.reduceSub, Int.reduceNeg, keyOk, mapPutA, lookupA, mapOf, sliceA, boundI, elemsOf, appendA, storeA, setRange, indexA, Nat.reduceBEq, Int.cast_ofNat_Int, reduceCtorEq, Nat.reduceAdd, Nat.reduceMul, Nat.reduceSub, evTy0, evTy1, evTy2, evTy3, evTy4, evTy5, callR_data c3 rfl rfl, callR_data c4 rfl rfl]
  rw [l_succ]
  simp only [s3, n3, ↓evPre, ev0, ev1, ev2, ev3, ev4, ev5, Nat.reduceLT, entE, getE, putE, ↓reduceIte, Nat.reduceEqDiff, argsE, Int.reduceEq, convertA, lenA, foldI, A.cells, A.leaf, List.replicate, viewA, getO, Nat.reduceLeDiff, loadA, cellsAt, cellsTo, faA, indexAddrA, asInt, Int.reduceLE, Int.reduceLT, Int.reduceToNat, eq_self, Nat.reducePow, Int.reducePow, Int.reduceAdd, Int.reduceMul, Int.reduceSub, Int.reduceNeg, keyOk, mapPutA, lookupA, mapOf, sliceA, boundI, elemsOf, appendA, storeA, setRange, indexA, Nat.reduceBEq, Int.cast_ofNat_Int, reduceCtorEq, Nat.reduceAdd, Nat.reduceMul, Nat.reduceSub, evTy0, evTy1, evTy2, evTy3, evTy4, evTy5]
end Cv
end Ab
