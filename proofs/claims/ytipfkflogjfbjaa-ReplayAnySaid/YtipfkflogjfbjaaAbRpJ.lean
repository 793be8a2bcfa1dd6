/- A part of the proof of a row by an interpreter that is proved sound; no conditions of its own. -/
import Derived.Test.YtipfkflogjfbjaaAbRpI
namespace Ab
open Go Go.Proofs Go.IntWalk
set_option maxRecDepth 10000
set_option linter.unusedSimpArgs false
set_option linter.unusedVariables false
namespace Rp
open Pr Cv

theorem Any_loop (k : Nat) (hk : 330 ≤ k) (now sk : Int) (c : Ca) (hc : c.ok) (m : Mk) (hm : m.c.ok 100) (u : Us) (hu : u.ok) (K : X → Env → Store → Res) (r : Res) :
    ∀ (j : Nat) (z : Int) (e : Env) (o : Store), (∀ K, headE 98 0 (some ([2, 3, 5, 6, 9, 11], 0)) e o K = K (.cons 2 (.d (.int .i64 now)) (.cons 3 (.d (.int .i64 sk)) (.cons 5 (.bp 0 0) (.cons 6 (.bp 1 0) (.cons 9 (.bp 2 0) (.cons 11 (.d (.int .i64 z)) (.nil .top))))))) [.box [.d (.int .i64 c.s), .d (.int .i64 c.f), .d (.sl 5 (c.ms.map Mk.d))], .box [.d (.str m.n), .d (.str m.i), .d (.str m.r), .d (.int .i64 m.t), .d (.int .i64 m.k)], .box [.d (.int .u8 u.w), .d (.int .u8 u.t), .d (.int .u8 u.k), .d (.int .u8 u.n)]]) →
      0 ≤ z → z ≤ 2 → 2 - z < j →
      (∀ e o, K (.exit 0) e o = r) →
      loopC Try.prog Hs (callF Try.prog Hs E1 k) 98 k 0 (some ([2, 3, 5, 6, 9, 11], 0)) s8_0 j e o K ⟨0⟩ = r := by
  generalize hS : s8_0 = S
  intro j
  induction j with
  | zero => intro z e o hh hz hz2 hj; omega
  | succ j ih =>
    intro z e o hh hz hz2 hj hX
    rw [l_succ2 hS, hh]
    have hcl := hc.1
    have f1 := mark_ev k (by omega) u hu
    have hmu := mark_valid u hu
    generalize markV u = b at f1 hmu
    have w1 := i64_in u.n (by have := hu.2.2.2; omega)
    have q1 := i64_quo u.n 2 (by have := hu.2.2.2; exact ⟨by omega, by omega, by omega⟩)
    have w2 := i64_in (1000 + u.n / 2) (by have := hu.2.2.2; omega)
    have h4 : z = 0 ∨ z = 1 ∨ z = 2 := by omega
    rcases h4 with rfl | rfl | rfl
    · have p1 := Add_ev k (by omega) c hc m hm now sk
      have p2 := refAdd_ev k (by omega) c hc m hm now sk
      have al := add_len c m now sk
      have p3 := Same_ev k (addV c m now sk).1 (by omega) (by omega)
      generalize addV c m now sk = a at p1 p2 p3
      obtain ⟨⟨a1, a2, a3⟩, a4⟩ := a
      have f5 := Has_ev k c.s c.f c.ms m (by omega) (by omega)
      have f6 := refHas_ev k c.s c.f c.ms m (by omega) (by omega)
      generalize hasB c.ms m = hb at f5 f6
      simp only [tupC] at p1 p2 p3
      simp only [s8_0, ↓evPre, ev0, ev1, ev2, ev3, ev4, ev5, Nat.reduceLT, entE, getE, putE, ↓reduceIte, Nat.reduceEqDiff, argsE, Int.reduceEq, convertA, lenA, foldI, A.cells, A.leaf, List.replicate, viewA, getO, Nat.reduceLeDiff, loadA, cellsAt, cellsTo, faA, indexAddrA, asInt, Int.reduceLE, Int.reduceLT, Int.reduceToNat, eq_self, Nat.reducePow, Int.reducePow, Int.reduceAdd, Int.reduceMul, Int.reduceSub, Int.reduceNeg, keyOk, mapPutA, lookupA, mapOf, sliceA, boundI, elemsOf, appendA, storeA, setRange, indexA, Nat.reduceBEq, Int.cast_ofNat_Int, reduceCtorEq, Nat.reduceAdd, Nat.reduceMul, Nat.reduceSub, evTy0, evTy1, evTy2, evTy3, evTy4, evTy5, w1, q1, w2, callR_data f1 rfl rfl, callR_data p1 rfl rfl, callR_data p2 rfl rfl, callR_data p3 rfl rfl, callR_data f5 rfl rfl, callR_data f6 rfl rfl]
      exact ih 1 _ _ (fun K => by simp only [↓evPre, ev0, ev1, ev2, ev3, ev4, ev5, Nat.reduceLT, entE, getE, putE, ↓reduceIte, Nat.reduceEqDiff, argsE, Int.reduceEq, convertA, lenA, foldI, A.cells, A.leaf, List.replicate, viewA, getO, Nat.reduceLeDiff, loadA, cellsAt, cellsTo, faA, indexAddrA, asInt, Int.reduceLE, Int.reduceLT, Int.reduceToNat, eq_self, Nat.reducePow, Int.reducePow, Int.reduceAdd, Int.reduceMul, Int.reduceSub, Int.reduceNeg, keyOk, mapPutA, lookupA, mapOf, sliceA, boundI, elemsOf, appendA, storeA, setRange, indexA, Nat.reduceBEq, Int.cast_ofNat_Int, reduceCtorEq, Nat.reduceAdd, Nat.reduceMul, Nat.reduceSub, evTy0, evTy1, evTy2, evTy3, evTy4, evTy5]) (by omega) (by omega) (by omega) hX
    · have p1 := Add_ev k (by omega) c hc b hmu (1000 + u.n / 2) sk
      have p2 := refAdd_ev k (by omega) c hc b hmu (1000 + u.n / 2) sk
      have al := add_len c b (1000 + u.n / 2) sk
      have p3 := Same_ev k (addV c b (1000 + u.n / 2) sk).1 (by omega) (by omega)
      generalize addV c b (1000 + u.n / 2) sk = a at p1 p2 p3
      obtain ⟨⟨a1, a2, a3⟩, a4⟩ := a
      have f5 := Has_ev k c.s c.f c.ms b (by omega) (by omega)
      have f6 := refHas_ev k c.s c.f c.ms b (by omega) (by omega)
      generalize hasB c.ms b = hb at f5 f6
      simp only [tupC] at p1 p2 p3
      simp only [s8_0, ↓evPre, ev0, ev1, ev2, ev3, ev4, ev5, Nat.reduceLT, entE, getE, putE, ↓reduceIte, Nat.reduceEqDiff, argsE, Int.reduceEq, convertA, lenA, foldI, A.cells, A.leaf, List.replicate, viewA, getO, Nat.reduceLeDiff, loadA, cellsAt, cellsTo, faA, indexAddrA, asInt, Int.reduceLE, Int.reduceLT, Int.reduceToNat, eq_self, Nat.reducePow, Int.reducePow, Int.reduceAdd, Int.reduceMul, Int.reduceSub, Int.reduceNeg, keyOk, mapPutA, lookupA, mapOf, sliceA, boundI, elemsOf, appendA, storeA, setRange, indexA, Nat.reduceBEq, Int.cast_ofNat_Int, reduceCtorEq, Nat.reduceAdd, Nat.reduceMul, Nat.reduceSub, evTy0, evTy1, evTy2, evTy3, evTy4, evTy5, w1, q1, w2, callR_data f1 rfl rfl, callR_data p1 rfl rfl, callR_data p2 rfl rfl, callR_data p3 rfl rfl, callR_data f5 rfl rfl, callR_data f6 rfl rfl]
      exact ih 2 _ _ (fun K => by simp only [↓evPre, ev0, ev1, ev2, ev3, ev4, ev5, Nat.reduceLT, entE, getE, putE, ↓reduceIte, Nat.reduceEqDiff, argsE, Int.reduceEq, convertA, lenA, foldI, A.cells, A.leaf, List.replicate, viewA, getO, Nat.reduceLeDiff, loadA, cellsAt, cellsTo, faA, indexAddrA, asInt, Int.reduceLE, Int.reduceLT, Int.reduceToNat, eq_self, Nat.reducePow, Int.reducePow, Int.reduceAdd, Int.reduceMul, Int.reduceSub, Int.reduceNeg, keyOk, mapPutA, lookupA, mapOf, sliceA, boundI, elemsOf, appendA, storeA, setRange, indexA, Nat.reduceBEq, Int.cast_ofNat_Int, reduceCtorEq, Nat.reduceAdd, Nat.reduceMul, Nat.reduceSub, evTy0, evTy1, evTy2, evTy3, evTy4, evTy5]) (by omega) (by omega) (by omega) hX
    · simp only [s8_0, ↓evPre, ev0, ev1, ev2, ev3, ev4, ev5, Nat.reduceLT, entE, getE, putE, ↓reduceIte, Nat.reduceEqDiff, argsE, Int.reduceEq, convertA, lenA, foldI, A.cells, A.leaf, List.replicate, viewA, getO, Nat.reduceLeDiff, loadA, cellsAt, cellsTo, faA, indexAddrA, asInt, Int.reduceLE, Int.reduceLT, Int.reduceToNat, eq_self, Nat.reducePow, Int.reducePow, Int.reduceAdd, Int.reduceMul, Int.reduceSub, Int.reduceNeg, keyOk, mapPutA, lookupA, mapOf, sliceA, boundI, elemsOf, appendA, storeA, setRange, indexA, Nat.reduceBEq, Int.cast_ofNat_Int, reduceCtorEq, Nat.reduceAdd, Nat.reduceMul, Nat.reduceSub, evTy0, evTy1, evTy2, evTy3, evTy4, evTy5]
      exact hX _ _

theorem Any_law (k : Nat) (hk : 400 ≤ k) (c : Ca) (m : Mk) (now sk : Int) (u : Us) (hu : u.ok) :
    callF Try.prog Hs E1 k 8 [.agg [.d (.int .i64 c.s), .d (.int .i64 c.f), .d (.sl 5 (c.ms.map Mk.d))], .agg [.d (.str m.n), .d (.str m.i), .d (.str m.r), .d (.int .i64 m.t), .d (.int .i64 m.k)], .d (.int .i64 now), .d (.int .i64 sk), .agg [.d (.int .u8 u.w), .d (.int .u8 u.t), .d (.int .u8 u.k), .d (.int .u8 u.n)]] [] = some (.d (.bool true), []) := by
  obtain ⟨k, rfl⟩ : ∃ j, k = j + 1 := ⟨k - 1, by omega⟩
  refine evalE rfl Try.func8 l8 ?_ (Nat.le_of_ble_eq_true rfl)
  have aw := awake_ev k (by omega)
  have lg := long_ev k (by omega) c
  cases hlong : longB c <;> rw [hlong] at lg
  · by_cases g1 : 100 < (m.n.size : Int)
    · simp only [s8, n8, ↓evPre, ev0, ev1, ev2, ev3, ev4, ev5, Nat.reduceLT, entE, getE, putE, ↓reduceIte, Nat.reduceEqDiff, argsE, Int.reduceEq, convertA, lenA, foldI, A.cells, A.leaf, List.replicate, viewA, getO, Nat.reduceLeDiff, loadA, cellsAt, cellsTo, faA, indexAddrA, asInt, Int.reduceLE, Int.reduceLT, Int.reduceToNat, eq_self, Nat.reducePow, Int.reducePow, Int.reduceAdd, Int.reduceMul, Int.reduceSub, Int.reduceNeg, keyOk, mapPutA, lookupA, mapOf, sliceA, boundI, elemsOf, appendA, storeA, setRange, indexA, Nat.reduceBEq, Int.cast_ofNat_Int, reduceCtorEq, Nat.reduceAdd, Nat.reduceMul, Nat.reduceSub, evTy0, evTy1, evTy2, evTy3, evTy4, evTy5, callR_data aw rfl rfl, callR_data lg rfl rfl, g1]
    by_cases g2 : 100 < (m.i.size : Int)
    · simp only [s8, n8, ↓evPre, ev0, ev1, ev2, ev3, ev4, ev5, Nat.reduceLT, entE, getE, putE, ↓reduceIte, Nat.reduceEqDiff, argsE, Int.reduceEq, convertA, lenA, foldI, A.cells, A.leaf, List.replicate, viewA, getO, Nat.reduceLeDiff, loadA, cellsAt, cellsTo, faA, indexAddrA, asInt, Int.reduceLE, Int.reduceLT, Int.reduceToNat, eq_self, Nat.reducePow, Int.reducePow, Int.reduceAdd, Int.reduceMul, Int.reduceSub, Int.reduceNeg, keyOk, mapPutA, lookupA, mapOf, sliceA, boundI, elemsOf, appendA, storeA, setRange, indexA, Nat.reduceBEq, Int.cast_ofNat_Int, reduceCtorEq, Nat.reduceAdd, Nat.reduceMul, Nat.reduceSub, evTy0, evTy1, evTy2, evTy3, evTy4, evTy5, callR_data aw rfl rfl, callR_data lg rfl rfl, g1, g2]
    by_cases g3 : 100 < (m.r.size : Int)
    · simp only [s8, n8, ↓evPre, ev0, ev1, ev2, ev3, ev4, ev5, Nat.reduceLT, entE, getE, putE, ↓reduceIte, Nat.reduceEqDiff, argsE, Int.reduceEq, convertA, lenA, foldI, A.cells, A.leaf, List.replicate, viewA, getO, Nat.reduceLeDiff, loadA, cellsAt, cellsTo, faA, indexAddrA, asInt, Int.reduceLE, Int.reduceLT, Int.reduceToNat, eq_self, Nat.reducePow, Int.reducePow, Int.reduceAdd, Int.reduceMul, Int.reduceSub, Int.reduceNeg, keyOk, mapPutA, lookupA, mapOf, sliceA, boundI, elemsOf, appendA, storeA, setRange, indexA, Nat.reduceBEq, Int.cast_ofNat_Int, reduceCtorEq, Nat.reduceAdd, Nat.reduceMul, Nat.reduceSub, evTy0, evTy1, evTy2, evTy3, evTy4, evTy5, callR_data aw rfl rfl, callR_data lg rfl rfl, g1, g2, g3]
    have hm : m.c.ok 100 := ⟨by simp only [Mk.c]; omega, by simp only [Mk.c]; omega, by simp only [Mk.c]; omega⟩
    simp only [s8, n8, ↓evPre, ev0, ev1, ev2, ev3, ev4, ev5, Nat.reduceLT, entE, getE, putE, ↓reduceIte, Nat.reduceEqDiff, argsE, Int.reduceEq, convertA, lenA, foldI, A.cells, A.leaf, List.replicate, viewA, getO, Nat.reduceLeDiff, loadA, cellsAt, cellsTo, faA, indexAddrA, asInt, Int.reduceLE, Int.reduceLT, Int.reduceToNat, eq_self, Nat.reducePow, Int.reducePow, Int.reduceAdd, Int.reduceMul, Int.reduceSub, Int.reduceNeg, keyOk, mapPutA, lookupA, mapOf, sliceA, boundI, elemsOf, appendA, storeA, setRange, indexA, Nat.reduceBEq, Int.cast_ofNat_Int, reduceCtorEq, Nat.reduceAdd, Nat.reduceMul, Nat.reduceSub, evTy0, evTy1, evTy2, evTy3, evTy4, evTy5, callR_data aw rfl rfl, callR_data lg rfl rfl, g1, g2, g3]
    refine Any_loop k (by omega) now sk c (long_ok hlong) m hm u hu _ _ k 0 _ _ (fun K => by simp only [↓evPre, ev0, ev1, ev2, ev3, ev4, ev5, Nat.reduceLT, entE, getE, putE, ↓reduceIte, Nat.reduceEqDiff, argsE, Int.reduceEq, convertA, lenA, foldI, A.cells, A.leaf, List.replicate, viewA, getO, Nat.reduceLeDiff, loadA, cellsAt, cellsTo, faA, indexAddrA, asInt, Int.reduceLE, Int.reduceLT, Int.reduceToNat, eq_self, Nat.reducePow, Int.reducePow, Int.reduceAdd, Int.reduceMul, Int.reduceSub, Int.reduceNeg, keyOk, mapPutA, lookupA, mapOf, sliceA, boundI, elemsOf, appendA, storeA, setRange, indexA, Nat.reduceBEq, Int.cast_ofNat_Int, reduceCtorEq, Nat.reduceAdd, Nat.reduceMul, Nat.reduceSub, evTy0, evTy1, evTy2, evTy3, evTy4, evTy5]) (by omega) (by omega) (by omega) (fun e o => ?_)
    simp only [s8, n8, ↓evPre, ev0, ev1, ev2, ev3, ev4, ev5, Nat.reduceLT, entE, getE, putE, ↓reduceIte, Nat.reduceEqDiff, argsE, Int.reduceEq, convertA, lenA, foldI, A.cells, A.leaf, List.replicate, viewA, getO, Nat.reduceLeDiff, loadA, cellsAt, cellsTo, faA, indexAddrA, asInt, Int.reduceLE, Int.reduceLT, Int.reduceToNat, eq_self, Nat.reducePow, Int.reducePow, Int.reduceAdd, Int.reduceMul, Int.reduceSub, Int.reduceNeg, keyOk, mapPutA, lookupA, mapOf, sliceA, boundI, elemsOf, appendA, storeA, setRange, indexA, Nat.reduceBEq, Int.cast_ofNat_Int, reduceCtorEq, Nat.reduceAdd, Nat.reduceMul, Nat.reduceSub, evTy0, evTy1, evTy2, evTy3, evTy4, evTy5]
  · simp only [s8, n8, ↓evPre, ev0, ev1, ev2, ev3, ev4, ev5, Nat.reduceLT, entE, getE, putE, ↓reduceIte, Nat.reduceEqDiff, argsE, Int.reduceEq, convertA, lenA, foldI, A.cells, A.leaf, List.replicate, viewA, getO, Nat.reduceLeDiff, loadA, cellsAt, cellsTo, faA, indexAddrA, asInt, Int.reduceLE, Int.reduceLT, Int.reduceToNat, eq_self, Nat.reducePow, Int.reducePow, Int.reduceAdd, Int.reduceMul, Int.reduceSub, Int.reduceNeg, keyOk, mapPutA, lookupA, mapOf, sliceA, boundI, elemsOf, appendA, storeA, setRange, indexA, Nat.reduceBEq, Int.cast_ofNat_Int, reduceCtorEq, Nat.reduceAdd, Nat.reduceMul, Nat.reduceSub, evTy0, evTy1, evTy2, evTy3, evTy4, evTy5, callR_data aw rfl rfl, callR_data lg rfl rfl]
end Rp
end Ab
