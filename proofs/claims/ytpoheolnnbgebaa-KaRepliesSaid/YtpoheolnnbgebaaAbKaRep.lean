/- A part of the proof of a row by an interpreter that is proved sound; no conditions of its own. -/
import Derived.Test.YtpoheolnnbgebaaAbFrA
namespace Ab
open Go Go.Proofs Go.IntWalk
set_option maxRecDepth 10000
set_option linter.unusedSimpArgs false
set_option linter.unusedVariables false
namespace Ka
open Pr Key Fi

theorem Rep_loop (k : Nat) (hk : 400 ≤ k) (r : Rep) (hr : r.box.length ≤ 1100) (hro : okL r.box) (op code size : Int) (box : List Int) (hop : 0 ≤ op ∧ op ≤ 255) (hco : 0 ≤ code ∧ code ≤ 255) (hsi : 0 ≤ size ∧ size ≤ 65535) (hb : box.length ≤ 900) (hbo : okL box) (K : X → Env → Store → Res) (res : Res) :
    ∀ (j : Nat) (z : Int) (e : Env) (o : Store), (∀ K, headE 106 0 (some ([1, 2, 3, 4, 5, 11], 0)) e o K = K (.cons 1 (.d (.int .u8 op)) (.cons 2 (.d (.int .u8 code)) (.cons 3 (.d (.sl 1 (ints .u8 box))) (.cons 4 (.d (.int .u16 size)) (.cons 5 (.bp 0 0) (.cons 11 (.d (.int .i64 z)) (.nil .top))))))) [.box [.d (.int .i64 r.op), .d (.int .i64 r.code), .d (.sl 1 (ints .u8 r.box))]]) →
      0 ≤ z → z ≤ 3 → 3 - z < j →
      (∀ e o, K (.exit 0) e o = res) →
      loopC Try.prog Hs (callF Try.prog Hs E1 k) 106 k 0 (some ([1, 2, 3, 4, 5, 11], 0)) s4_0 j e o K ⟨0⟩ = res := by
  generalize hS : s4_0 = S
  intro j
  induction j with
  | zero => intro z e o hh hz hz2 hj; omega
  | succ j ih =>
    intro z e o hh hz hz2 hj hX
    rw [l_succ2 hS, hh]
    have w1 := i64_in op (by omega)
    obtain ⟨t1, t2, t3⟩ := tmodB (m := 3) hop.1 (by omega)
    have w2 := i64_in (1 + op % 3) (by omega)
    obtain ⟨t4, t5, t6⟩ := tmodB (m := 2) hco.1 (by omega)
    have q1 := u8_quo code 2 ⟨hco.1, hco.2, by decide⟩
    have hm : 0 ≤ code % 2 * (code / 2) ∧ code % 2 * (code / 2) ≤ 127 := by
      have h2 : code % 2 = 0 ∨ code % 2 = 1 := by omega
      rcases h2 with h | h <;> rw [h] <;> omega
    have w3 := u8_in (code % 2 * (code / 2)) (by omega)
    have w4 := i64_in (code % 2 * (code / 2)) (by omega)
    obtain ⟨t7, t8, t9⟩ := tmodB (m := 5) hop.1 (by omega)
    have w5 := i64_in size (by omega)
    obtain ⟨u1, u2, u3⟩ := tmodB (m := 3) hsi.1 (by omega)
    have w6 := i64_in (1011 + size % 3) (by omega)
    have l1 : 0 ≤ 1011 + size % 3 := by omega
    have l2 : (1011 + size % 3) * 1 ≤ 140737488355328 := by omega
    have hrp : ∀ n, (List.replicate n [D.int .u8 0]) = ints .u8 (List.replicate n 0) := by intro n; simp [ints]
    have htk : ∀ n, (ints .u8 (List.replicate n 0)).take n = ints .u8 (List.replicate n 0) := by intro n; simp [ints]
    have htk2 : ∀ n : Nat, (List.replicate n (0 : Int)).take n = List.replicate n 0 := by intro n; simp
    have st0 : strOf [] = some [] := rfl
    have h4 : z = 0 ∨ z = 1 ∨ z = 2 ∨ z = 3 := by omega
    rcases h4 with rfl | rfl | rfl | rfl
    · have hlen : r.box.length ≤ 70000 := by omega
      have hok := hro
      have f1 := EncRep_ev k (by omega) r hlen
      have f2 := REncRep_ev k (by omega) r hlen
      have f5 := SameRep_ev k (by omega) r
      by_cases he : repE r = 0
      · have e1 : encRep r = (repB r, 0) := by unfold encRep; rw [if_pos he]
        rw [e1] at f1 f2
        have hB := repB_ok (r := r) hok
        have hBl : (repB r).length ≤ 60000 := by have := (repE_zero he).2.2; simp only [repB, wb1, wb2, List.length_append, List.length_cons, List.length_nil] at this ⊢; omega
        have f3 := DecRep_ev k (by omega) (repB r) hBl hB
        rw [rep_round he] at f3
        have f4 := DecReq_ev k (by omega) (repB r) hBl hB
        have ne := rep_not_req he
        generalize decReq (repB r) = y at f4 ne
        obtain ⟨y, ye⟩ := y
        simp only at ne
        generalize repB r = B at *
        simp only [encT, repT, reqT] at f1 f2 f3 f4
        simp only [s4_0, ↓evPre, ev0, ev1, ev2, ev3, ev4, ev5, Nat.reduceLT, entE, getE, putE, ↓reduceIte, Nat.reduceEqDiff, argsE, Int.reduceEq, convertA, lenA, foldI, A.cells, A.leaf, List.replicate, viewA, getO, Nat.reduceLeDiff, loadA, cellsAt, cellsTo, faA, indexAddrA, asInt, Int.reduceLE, Int.reduceLT, Int.reduceToNat, eq_self, Nat.reducePow, Int.reducePow, Int.reduceAdd, Int.reduceMul, Int.reduceSub, Int.reduceNeg, keyOk, mapPutA, lookupA, mapOf, sliceA, boundI, elemsOf, appendA, storeA, setRange, indexA, Nat.reduceBEq, Int.cast_ofNat_Int, reduceCtorEq, Nat.reduceAdd, Nat.reduceMul, Nat.reduceSub, evTy0, evTy1, evTy2, evTy3, evTy4, evTy5, evTy6, evTy7, evTy8, callR_data f1 rfl rfl, callR_data f2 rfl rfl, callR_data f3 rfl rfl, callR_data f4 rfl rfl, callR_data f5 rfl rfl, ne, strOf_ints, w1, t1, w2, t4, q1, w3, w4, t7, w5, u1, w6, l1, l2, hrp, htk, htk2, st0]
        exact ih 1 _ _ (fun K => by simp only [↓evPre, ev0, ev1, ev2, ev3, ev4, ev5, Nat.reduceLT, entE, getE, putE, ↓reduceIte, Nat.reduceEqDiff, argsE, Int.reduceEq, convertA, lenA, foldI, A.cells, A.leaf, List.replicate, viewA, getO, Nat.reduceLeDiff, loadA, cellsAt, cellsTo, faA, indexAddrA, asInt, Int.reduceLE, Int.reduceLT, Int.reduceToNat, eq_self, Nat.reducePow, Int.reducePow, Int.reduceAdd, Int.reduceMul, Int.reduceSub, Int.reduceNeg, keyOk, mapPutA, lookupA, mapOf, sliceA, boundI, elemsOf, appendA, storeA, setRange, indexA, Nat.reduceBEq, Int.cast_ofNat_Int, reduceCtorEq, Nat.reduceAdd, Nat.reduceMul, Nat.reduceSub, evTy0, evTy1, evTy2, evTy3, evTy4, evTy5, evTy6, evTy7, evTy8]) (by omega) (by omega) (by omega) hX
      · have e1 : encRep r = ([], repE r) := by unfold encRep; rw [if_neg he]
        rw [e1] at f1 f2
        generalize repE r = ee at *
        simp only [encT, ints_nil] at f1 f2
        simp only [s4_0, ↓evPre, ev0, ev1, ev2, ev3, ev4, ev5, Nat.reduceLT, entE, getE, putE, ↓reduceIte, Nat.reduceEqDiff, argsE, Int.reduceEq, convertA, lenA, foldI, A.cells, A.leaf, List.replicate, viewA, getO, Nat.reduceLeDiff, loadA, cellsAt, cellsTo, faA, indexAddrA, asInt, Int.reduceLE, Int.reduceLT, Int.reduceToNat, eq_self, Nat.reducePow, Int.reducePow, Int.reduceAdd, Int.reduceMul, Int.reduceSub, Int.reduceNeg, keyOk, mapPutA, lookupA, mapOf, sliceA, boundI, elemsOf, appendA, storeA, setRange, indexA, Nat.reduceBEq, Int.cast_ofNat_Int, reduceCtorEq, Nat.reduceAdd, Nat.reduceMul, Nat.reduceSub, evTy0, evTy1, evTy2, evTy3, evTy4, evTy5, evTy6, evTy7, evTy8, callR_data f1 rfl rfl, callR_data f2 rfl rfl, he, w1, t1, w2, t4, q1, w3, w4, t7, w5, u1, w6, l1, l2, hrp, htk, htk2, st0]
        exact ih 1 _ _ (fun K => by simp only [↓evPre, ev0, ev1, ev2, ev3, ev4, ev5, Nat.reduceLT, entE, getE, putE, ↓reduceIte, Nat.reduceEqDiff, argsE, Int.reduceEq, convertA, lenA, foldI, A.cells, A.leaf, List.replicate, viewA, getO, Nat.reduceLeDiff, loadA, cellsAt, cellsTo, faA, indexAddrA, asInt, Int.reduceLE, Int.reduceLT, Int.reduceToNat, eq_self, Nat.reducePow, Int.reducePow, Int.reduceAdd, Int.reduceMul, Int.reduceSub, Int.reduceNeg, keyOk, mapPutA, lookupA, mapOf, sliceA, boundI, elemsOf, appendA, storeA, setRange, indexA, Nat.reduceBEq, Int.cast_ofNat_Int, reduceCtorEq, Nat.reduceAdd, Nat.reduceMul, Nat.reduceSub, evTy0, evTy1, evTy2, evTy3, evTy4, evTy5, evTy6, evTy7, evTy8]) (by omega) (by omega) (by omega) hX
    · have hlen : (⟨1 + op % 3, code % 2 * (code / 2), box⟩ : Rep).box.length ≤ 70000 := by simp only; omega
      have hok : okL (⟨1 + op % 3, code % 2 * (code / 2), box⟩ : Rep).box := hbo
      have f1 := EncRep_ev k (by omega) ⟨1 + op % 3, code % 2 * (code / 2), box⟩ hlen
      have f2 := REncRep_ev k (by omega) ⟨1 + op % 3, code % 2 * (code / 2), box⟩ hlen
      have f5 := SameRep_ev k (by omega) ⟨1 + op % 3, code % 2 * (code / 2), box⟩
      by_cases he : repE ⟨1 + op % 3, code % 2 * (code / 2), box⟩ = 0
      · have e1 : encRep ⟨1 + op % 3, code % 2 * (code / 2), box⟩ = (repB ⟨1 + op % 3, code % 2 * (code / 2), box⟩, 0) := by unfold encRep; rw [if_pos he]
        rw [e1] at f1 f2
        have hB := repB_ok (r := ⟨1 + op % 3, code % 2 * (code / 2), box⟩) hok
        have hBl : (repB ⟨1 + op % 3, code % 2 * (code / 2), box⟩).length ≤ 60000 := by have := (repE_zero he).2.2; simp only [repB, wb1, wb2, List.length_append, List.length_cons, List.length_nil] at this ⊢; omega
        have f3 := DecRep_ev k (by omega) (repB ⟨1 + op % 3, code % 2 * (code / 2), box⟩) hBl hB
        rw [rep_round he] at f3
        have f4 := DecReq_ev k (by omega) (repB ⟨1 + op % 3, code % 2 * (code / 2), box⟩) hBl hB
        have ne := rep_not_req he
        generalize decReq (repB ⟨1 + op % 3, code % 2 * (code / 2), box⟩) = y at f4 ne
        obtain ⟨y, ye⟩ := y
        simp only at ne
        generalize repB ⟨1 + op % 3, code % 2 * (code / 2), box⟩ = B at *
        simp only [encT, repT, reqT] at f1 f2 f3 f4
        simp only [s4_0, ↓evPre, ev0, ev1, ev2, ev3, ev4, ev5, Nat.reduceLT, entE, getE, putE, ↓reduceIte, Nat.reduceEqDiff, argsE, Int.reduceEq, convertA, lenA, foldI, A.cells, A.leaf, List.replicate, viewA, getO, Nat.reduceLeDiff, loadA, cellsAt, cellsTo, faA, indexAddrA, asInt, Int.reduceLE, Int.reduceLT, Int.reduceToNat, eq_self, Nat.reducePow, Int.reducePow, Int.reduceAdd, Int.reduceMul, Int.reduceSub, Int.reduceNeg, keyOk, mapPutA, lookupA, mapOf, sliceA, boundI, elemsOf, appendA, storeA, setRange, indexA, Nat.reduceBEq, Int.cast_ofNat_Int, reduceCtorEq, Nat.reduceAdd, Nat.reduceMul, Nat.reduceSub, evTy0, evTy1, evTy2, evTy3, evTy4, evTy5, evTy6, evTy7, evTy8, callR_data f1 rfl rfl, callR_data f2 rfl rfl, callR_data f3 rfl rfl, callR_data f4 rfl rfl, callR_data f5 rfl rfl, ne, strOf_ints, w1, t1, w2, t4, q1, w3, w4, t7, w5, u1, w6, l1, l2, hrp, htk, htk2, st0]
        exact ih 2 _ _ (fun K => by simp only [↓evPre, ev0, ev1, ev2, ev3, ev4, ev5, Nat.reduceLT, entE, getE, putE, ↓reduceIte, Nat.reduceEqDiff, argsE, Int.reduceEq, convertA, lenA, foldI, A.cells, A.leaf, List.replicate, viewA, getO, Nat.reduceLeDiff, loadA, cellsAt, cellsTo, faA, indexAddrA, asInt, Int.reduceLE, Int.reduceLT, Int.reduceToNat, eq_self, Nat.reducePow, Int.reducePow, Int.reduceAdd, Int.reduceMul, Int.reduceSub, Int.reduceNeg, keyOk, mapPutA, lookupA, mapOf, sliceA, boundI, elemsOf, appendA, storeA, setRange, indexA, Nat.reduceBEq, Int.cast_ofNat_Int, reduceCtorEq, Nat.reduceAdd, Nat.reduceMul, Nat.reduceSub, evTy0, evTy1, evTy2, evTy3, evTy4, evTy5, evTy6, evTy7, evTy8]) (by omega) (by omega) (by omega) hX
      · have e1 : encRep ⟨1 + op % 3, code % 2 * (code / 2), box⟩ = ([], repE ⟨1 + op % 3, code % 2 * (code / 2), box⟩) := by unfold encRep; rw [if_neg he]
        rw [e1] at f1 f2
        generalize repE ⟨1 + op % 3, code % 2 * (code / 2), box⟩ = ee at *
        simp only [encT, ints_nil] at f1 f2
        simp only [s4_0, ↓evPre, ev0, ev1, ev2, ev3, ev4, ev5, Nat.reduceLT, entE, getE, putE, ↓reduceIte, Nat.reduceEqDiff, argsE, Int.reduceEq, convertA, lenA, foldI, A.cells, A.leaf, List.replicate, viewA, getO, Nat.reduceLeDiff, loadA, cellsAt, cellsTo, faA, indexAddrA, asInt, Int.reduceLE, Int.reduceLT, Int.reduceToNat, eq_self, Nat.reducePow, Int.reducePow, Int.reduceAdd, Int.reduceMul, Int.reduceSub, Int.reduceNeg, keyOk, mapPutA, lookupA, mapOf, sliceA, boundI, elemsOf, appendA, storeA, setRange, indexA, Nat.reduceBEq, Int.cast_ofNat_Int, reduceCtorEq, Nat.reduceAdd, Nat.reduceMul, Nat.reduceSub, evTy0, evTy1, evTy2, evTy3, evTy4, evTy5, evTy6, evTy7, evTy8, callR_data f1 rfl rfl, callR_data f2 rfl rfl, he, w1, t1, w2, t4, q1, w3, w4, t7, w5, u1, w6, l1, l2, hrp, htk, htk2, st0]
        exact ih 2 _ _ (fun K => by simp only [↓evPre, ev0, ev1, ev2, ev3, ev4, ev5, Nat.reduceLT, entE, getE, putE, ↓reduceIte, Nat.reduceEqDiff, argsE, Int.reduceEq, convertA, lenA, foldI, A.cells, A.leaf, List.replicate, viewA, getO, Nat.reduceLeDiff, loadA, cellsAt, cellsTo, faA, indexAddrA, asInt, Int.reduceLE, Int.reduceLT, Int.reduceToNat, eq_self, Nat.reducePow, Int.reducePow, Int.reduceAdd, Int.reduceMul, Int.reduceSub, Int.reduceNeg, keyOk, mapPutA, lookupA, mapOf, sliceA, boundI, elemsOf, appendA, storeA, setRange, indexA, Nat.reduceBEq, Int.cast_ofNat_Int, reduceCtorEq, Nat.reduceAdd, Nat.reduceMul, Nat.reduceSub, evTy0, evTy1, evTy2, evTy3, evTy4, evTy5, evTy6, evTy7, evTy8]) (by omega) (by omega) (by omega) hX
    · have hlen : (⟨op % 5, 0, List.replicate (1011 + size % 3).toNat 0⟩ : Rep).box.length ≤ 70000 := by simp only [List.length_replicate]; omega
      have hok : okL (⟨op % 5, 0, List.replicate (1011 + size % 3).toNat 0⟩ : Rep).box := by
        intro n hn
        have := List.eq_of_mem_replicate hn
        omega
      have f1 := EncRep_ev k (by omega) ⟨op % 5, 0, List.replicate (1011 + size % 3).toNat 0⟩ hlen
      have f2 := REncRep_ev k (by omega) ⟨op % 5, 0, List.replicate (1011 + size % 3).toNat 0⟩ hlen
      have f5 := SameRep_ev k (by omega) ⟨op % 5, 0, List.replicate (1011 + size % 3).toNat 0⟩
      by_cases he : repE ⟨op % 5, 0, List.replicate (1011 + size % 3).toNat 0⟩ = 0
      · have e1 : encRep ⟨op % 5, 0, List.replicate (1011 + size % 3).toNat 0⟩ = (repB ⟨op % 5, 0, List.replicate (1011 + size % 3).toNat 0⟩, 0) := by unfold encRep; rw [if_pos he]
        rw [e1] at f1 f2
        have hB := repB_ok (r := ⟨op % 5, 0, List.replicate (1011 + size % 3).toNat 0⟩) hok
        have hBl : (repB ⟨op % 5, 0, List.replicate (1011 + size % 3).toNat 0⟩).length ≤ 60000 := by have := (repE_zero he).2.2; simp only [repB, wb1, wb2, List.length_append, List.length_cons, List.length_nil] at this ⊢; omega
        have f3 := DecRep_ev k (by omega) (repB ⟨op % 5, 0, List.replicate (1011 + size % 3).toNat 0⟩) hBl hB
        rw [rep_round he] at f3
        have f4 := DecReq_ev k (by omega) (repB ⟨op % 5, 0, List.replicate (1011 + size % 3).toNat 0⟩) hBl hB
        have ne := rep_not_req he
        generalize decReq (repB ⟨op % 5, 0, List.replicate (1011 + size % 3).toNat 0⟩) = y at f4 ne
        obtain ⟨y, ye⟩ := y
        simp only at ne
        generalize repB ⟨op % 5, 0, List.replicate (1011 + size % 3).toNat 0⟩ = B at *
        simp only [encT, repT, reqT] at f1 f2 f3 f4
        simp only [s4_0, ↓evPre, ev0, ev1, ev2, ev3, ev4, ev5, Nat.reduceLT, entE, getE, putE, ↓reduceIte, Nat.reduceEqDiff, argsE, Int.reduceEq, convertA, lenA, foldI, A.cells, A.leaf, List.replicate, viewA, getO, Nat.reduceLeDiff, loadA, cellsAt, cellsTo, faA, indexAddrA, asInt, Int.reduceLE, Int.reduceLT, Int.reduceToNat, eq_self, Nat.reducePow, Int.reducePow, Int.reduceAdd, Int.reduceMul, Int.reduceSub, Int.reduceNeg, keyOk, mapPutA, lookupA, mapOf, sliceA, boundI, elemsOf, appendA, storeA, setRange, indexA, Nat.reduceBEq, Int.cast_ofNat_Int, reduceCtorEq, Nat.reduceAdd, Nat.reduceMul, Nat.reduceSub, evTy0, evTy1, evTy2, evTy3, evTy4, evTy5, evTy6, evTy7, evTy8, callR_data f1 rfl rfl, callR_data f2 rfl rfl, callR_data f3 rfl rfl, callR_data f4 rfl rfl, callR_data f5 rfl rfl, ne, strOf_ints, w1, t1, w2, t4, q1, w3, w4, t7, w5, u1, w6, l1, l2, hrp, htk, htk2, st0]
        exact ih 3 _ _ (fun K => by simp only [↓evPre, ev0, ev1, ev2, ev3, ev4, ev5, Nat.reduceLT, entE, getE, putE, ↓reduceIte, Nat.reduceEqDiff, argsE, Int.reduceEq, convertA, lenA, foldI, A.cells, A.leaf, List.replicate, viewA, getO, Nat.reduceLeDiff, loadA, cellsAt, cellsTo, faA, indexAddrA, asInt, Int.reduceLE, Int.reduceLT, Int.reduceToNat, eq_self, Nat.reducePow, Int.reducePow, Int.reduceAdd, Int.reduceMul, Int.reduceSub, Int.reduceNeg, keyOk, mapPutA, lookupA, mapOf, sliceA, boundI, elemsOf, appendA, storeA, setRange, indexA, Nat.reduceBEq, Int.cast_ofNat_Int, reduceCtorEq, Nat.reduceAdd, Nat.reduceMul, Nat.reduceSub, evTy0, evTy1, evTy2, evTy3, evTy4, evTy5, evTy6, evTy7, evTy8]) (by omega) (by omega) (by omega) hX
      · have e1 : encRep ⟨op % 5, 0, List.replicate (1011 + size % 3).toNat 0⟩ = ([], repE ⟨op % 5, 0, List.replicate (1011 + size % 3).toNat 0⟩) := by unfold encRep; rw [if_neg he]
        rw [e1] at f1 f2
        generalize repE ⟨op % 5, 0, List.replicate (1011 + size % 3).toNat 0⟩ = ee at *
        simp only [encT, ints_nil] at f1 f2
        simp only [s4_0, ↓evPre, ev0, ev1, ev2, ev3, ev4, ev5, Nat.reduceLT, entE, getE, putE, ↓reduceIte, Nat.reduceEqDiff, argsE, Int.reduceEq, convertA, lenA, foldI, A.cells, A.leaf, List.replicate, viewA, getO, Nat.reduceLeDiff, loadA, cellsAt, cellsTo, faA, indexAddrA, asInt, Int.reduceLE, Int.reduceLT, Int.reduceToNat, eq_self, Nat.reducePow, Int.reducePow, Int.reduceAdd, Int.reduceMul, Int.reduceSub, Int.reduceNeg, keyOk, mapPutA, lookupA, mapOf, sliceA, boundI, elemsOf, appendA, storeA, setRange, indexA, Nat.reduceBEq, Int.cast_ofNat_Int, reduceCtorEq, Nat.reduceAdd, Nat.reduceMul, Nat.reduceSub, evTy0, evTy1, evTy2, evTy3, evTy4, evTy5, evTy6, evTy7, evTy8, callR_data f1 rfl rfl, callR_data f2 rfl rfl, he, w1, t1, w2, t4, q1, w3, w4, t7, w5, u1, w6, l1, l2, hrp, htk, htk2, st0]
        exact ih 3 _ _ (fun K => by simp only [↓evPre, ev0, ev1, ev2, ev3, ev4, ev5, Nat.reduceLT, entE, getE, putE, ↓reduceIte, Nat.reduceEqDiff, argsE, Int.reduceEq, convertA, lenA, foldI, A.cells, A.leaf, List.replicate, viewA, getO, Nat.reduceLeDiff, loadA, cellsAt, cellsTo, faA, indexAddrA, asInt, Int.reduceLE, Int.reduceLT, Int.reduceToNat, eq_self, Nat.reducePow, Int.reducePow, Int.reduceAdd, Int.reduceMul, Int.reduceSub, Int.reduceNeg, keyOk, mapPutA, lookupA, mapOf, sliceA, boundI, elemsOf, appendA, storeA, setRange, indexA, Nat.reduceBEq, Int.cast_ofNat_Int, reduceCtorEq, Nat.reduceAdd, Nat.reduceMul, Nat.reduceSub, evTy0, evTy1, evTy2, evTy3, evTy4, evTy5, evTy6, evTy7, evTy8]) (by omega) (by omega) (by omega) hX
    · simp only [s4_0, ↓evPre, ev0, ev1, ev2, ev3, ev4, ev5, Nat.reduceLT, entE, getE, putE, ↓reduceIte, Nat.reduceEqDiff, argsE, Int.reduceEq, convertA, lenA, foldI, A.cells, A.leaf, List.replicate, viewA, getO, Nat.reduceLeDiff, loadA, cellsAt, cellsTo, faA, indexAddrA, asInt, Int.reduceLE, Int.reduceLT, Int.reduceToNat, eq_self, Nat.reducePow, Int.reducePow, Int.reduceAdd, Int.reduceMul, Int.reduceSub, Int.reduceNeg, keyOk, mapPutA, lookupA, mapOf, sliceA, boundI, elemsOf, appendA, storeA, setRange, indexA, Nat.reduceBEq, Int.cast_ofNat_Int, reduceCtorEq, Nat.reduceAdd, Nat.reduceMul, Nat.reduceSub, evTy0, evTy1, evTy2, evTy3, evTy4, evTy5, evTy6, evTy7, evTy8]
      exact hX _ _

theorem Replies_law (k : Nat) (hk : 500 ≤ k) (r : Rep) (hro : okL r.box) (op code size : Int) (box : List Int) (hop : 0 ≤ op ∧ op ≤ 255) (hco : 0 ≤ code ∧ code ≤ 255) (hsi : 0 ≤ size ∧ size ≤ 65535) (hbo : okL box) :
    callF Try.prog Hs E1 k 4 [.agg [.d (.int .i64 r.op), .d (.int .i64 r.code), .d (.sl 1 (ints .u8 r.box))], .d (.int .u8 op), .d (.int .u8 code), .d (.sl 1 (ints .u8 box)), .d (.int .u16 size)] [] = some (.d (.bool true), []) := by
  obtain ⟨k, rfl⟩ : ∃ j, k = j + 1 := ⟨k - 1, by omega⟩
  refine evalE rfl Try.func4 l4 ?_ (Nat.le_of_ble_eq_true rfl)
  have aw := awake_ev k (by omega)
  by_cases h1 : 1100 < (r.box.length : Int)
  · simp only [s4, n4, ↓evPre, ev0, ev1, ev2, ev3, ev4, ev5, Nat.reduceLT, entE, getE, putE, ↓reduceIte, Nat.reduceEqDiff, argsE, Int.reduceEq, convertA, lenA, foldI, A.cells, A.leaf, List.replicate, viewA, getO, Nat.reduceLeDiff, loadA, cellsAt, cellsTo, faA, indexAddrA, asInt, Int.reduceLE, Int.reduceLT, Int.reduceToNat, eq_self, Nat.reducePow, Int.reducePow, Int.reduceAdd, Int.reduceMul, Int.reduceSub, Int.reduceNeg, keyOk, mapPutA, lookupA, mapOf, sliceA, boundI, elemsOf, appendA, storeA, setRange, indexA, Nat.reduceBEq, Int.cast_ofNat_Int, reduceCtorEq, Nat.reduceAdd, Nat.reduceMul, Nat.reduceSub, evTy0, evTy1, evTy2, evTy3, evTy4, evTy5, evTy6, evTy7, evTy8, callR_data aw rfl rfl, h1]
  by_cases h2 : 900 < (box.length : Int)
  · simp only [s4, n4, ↓evPre, ev0, ev1, ev2, ev3, ev4, ev5, Nat.reduceLT, entE, getE, putE, ↓reduceIte, Nat.reduceEqDiff, argsE, Int.reduceEq, convertA, lenA, foldI, A.cells, A.leaf, List.replicate, viewA, getO, Nat.reduceLeDiff, loadA, cellsAt, cellsTo, faA, indexAddrA, asInt, Int.reduceLE, Int.reduceLT, Int.reduceToNat, eq_self, Nat.reducePow, Int.reducePow, Int.reduceAdd, Int.reduceMul, Int.reduceSub, Int.reduceNeg, keyOk, mapPutA, lookupA, mapOf, sliceA, boundI, elemsOf, appendA, storeA, setRange, indexA, Nat.reduceBEq, Int.cast_ofNat_Int, reduceCtorEq, Nat.reduceAdd, Nat.reduceMul, Nat.reduceSub, evTy0, evTy1, evTy2, evTy3, evTy4, evTy5, evTy6, evTy7, evTy8, callR_data aw rfl rfl, h1, h2]
  simp only [s4, n4, ↓evPre, ev0, ev1, ev2, ev3, ev4, ev5, Nat.reduceLT, entE, getE, putE, ↓reduceIte, Nat.reduceEqDiff, argsE, Int.reduceEq, convertA, lenA, foldI, A.cells, A.leaf, List.replicate, viewA, getO, Nat.reduceLeDiff, loadA, cellsAt, cellsTo, faA, indexAddrA, asInt, Int.reduceLE, Int.reduceLT, Int.reduceToNat, eq_self, Nat.reducePow, Int.reducePow, Int.reduceAdd, Int.reduceMul, Int.reduceSub, Int.reduceNeg, keyOk, mapPutA, lookupA, mapOf, sliceA, boundI, elemsOf, appendA, storeA, setRange, indexA, Nat.reduceBEq, Int.cast_ofNat_Int, reduceCtorEq, Nat.reduceAdd, Nat.reduceMul, Nat.reduceSub, evTy0, evTy1, evTy2, evTy3, evTy4, evTy5, evTy6, evTy7, evTy8, callR_data aw rfl rfl, h1, h2]
  refine Rep_loop k (by omega) r (by omega) hro op code size box hop hco hsi (by omega) hbo _ _ k 0 _ _ (fun K => by simp only [↓evPre, ev0, ev1, ev2, ev3, ev4, ev5, Nat.reduceLT, entE, getE, putE, ↓reduceIte, Nat.reduceEqDiff, argsE, Int.reduceEq, convertA, lenA, foldI, A.cells, A.leaf, List.replicate, viewA, getO, Nat.reduceLeDiff, loadA, cellsAt, cellsTo, faA, indexAddrA, asInt, Int.reduceLE, Int.reduceLT, Int.reduceToNat, eq_self, Nat.reducePow, Int.reducePow, Int.reduceAdd, Int.reduceMul, Int.reduceSub, Int.reduceNeg, keyOk, mapPutA, lookupA, mapOf, sliceA, boundI, elemsOf, appendA, storeA, setRange, indexA, Nat.reduceBEq, Int.cast_ofNat_Int, reduceCtorEq, Nat.reduceAdd, Nat.reduceMul, Nat.reduceSub, evTy0, evTy1, evTy2, evTy3, evTy4, evTy5, evTy6, evTy7, evTy8]) (by omega) (by omega) (by omega) (fun e o => ?_)
  simp only [s4, n4, ↓evPre, ev0, ev1, ev2, ev3, ev4, ev5, Nat.reduceLT, entE, getE, putE, ↓reduceIte, Nat.reduceEqDiff, argsE, Int.reduceEq, convertA, lenA, foldI, A.cells, A.leaf, List.replicate, viewA, getO, Nat.reduceLeDiff, loadA, cellsAt, cellsTo, faA, indexAddrA, asInt, Int.reduceLE, Int.reduceLT, Int.reduceToNat, eq_self, Nat.reducePow, Int.reducePow, Int.reduceAdd, Int.reduceMul, Int.reduceSub, Int.reduceNeg, keyOk, mapPutA, lookupA, mapOf, sliceA, boundI, elemsOf, appendA, storeA, setRange, indexA, Nat.reduceBEq, Int.cast_ofNat_Int, reduceCtorEq, Nat.reduceAdd, Nat.reduceMul, Nat.reduceSub, evTy0, evTy1, evTy2, evTy3, evTy4, evTy5, evTy6, evTy7, evTy8]
end Ka
end Ab
