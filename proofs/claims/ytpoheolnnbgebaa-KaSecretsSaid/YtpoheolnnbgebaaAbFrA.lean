/- A part of the proof of a row by an interpreter that is proved sound; no conditions of its own. -/
import Derived.Test.YtpoheolnnbgebaaAbFdF
namespace Ab
open Go Go.Proofs Go.IntWalk
set_option maxRecDepth 10000
set_option linter.unusedSimpArgs false
set_option linter.unusedVariables false
namespace Ka
open Pr Key Fi

theorem str_eq (s t : ByteArray) : (s.toList == t.toList) = decide (s = t) := by
  rw [ByteArray.toList_eq, ByteArray.toList_eq]
  obtain ⟨⟨a⟩⟩ := s
  obtain ⟨⟨b⟩⟩ := t
  by_cases h : a = b
  · subst h; simp
  · have h2 : ¬ ((⟨⟨a⟩⟩ : ByteArray) = ⟨⟨b⟩⟩) := by
      intro q; injection q with q; injection q with q; exact h q
    rw [decide_eq_false h2]
    exact beq_eq_false_iff_ne.2 h

theorem isOp_ev (k : Nat) (hk : 1 ≤ k) (n : Int) : callF Try.prog Hs E1 k 53 [.d (.int .i64 n)] [] = some (.d (.bool (decide (1 ≤ n ∧ n ≤ 3))), []) := by
  obtain ⟨k, rfl⟩ : ∃ j, k = j + 1 := ⟨k - 1, by omega⟩
  refine evalE rfl Try.func53 l53 ?_ (Nat.le_of_ble_eq_true rfl)
  by_cases h : 1 ≤ n
  · simp only [s53, n53, ↓evPre, ev0, ev1, ev2, ev3, ev4, ev5, Nat.reduceLT, entE, getE, putE, ↓reduceIte, Nat.reduceEqDiff, argsE, Int.reduceEq, convertA, lenA, foldI, A.cells, A.leaf, List.replicate, viewA, getO, Nat.reduceLeDiff, loadA, cellsAt, cellsTo, faA, indexAddrA, asInt, Int.reduceLE, Int.reduceLT, Int.reduceToNat, eq_self, Nat.reducePow, Int.reducePow, Int.reduceAdd, Int.reduceMul, Int.reduceSub, Int.reduceNeg, keyOk, mapPutA, lookupA, mapOf, sliceA, boundI, elemsOf, appendA, storeA, setRange, indexA, Nat.reduceBEq, Int.cast_ofNat_Int, reduceCtorEq, Nat.reduceAdd, Nat.reduceMul, Nat.reduceSub, evTy0, evTy1, evTy2, evTy3, evTy4, evTy5, evTy6, evTy7, evTy8, h, true_and]
  · simp only [s53, n53, ↓evPre, ev0, ev1, ev2, ev3, ev4, ev5, Nat.reduceLT, entE, getE, putE, ↓reduceIte, Nat.reduceEqDiff, argsE, Int.reduceEq, convertA, lenA, foldI, A.cells, A.leaf, List.replicate, viewA, getO, Nat.reduceLeDiff, loadA, cellsAt, cellsTo, faA, indexAddrA, asInt, Int.reduceLE, Int.reduceLT, Int.reduceToNat, eq_self, Nat.reducePow, Int.reducePow, Int.reduceAdd, Int.reduceMul, Int.reduceSub, Int.reduceNeg, keyOk, mapPutA, lookupA, mapOf, sliceA, boundI, elemsOf, appendA, storeA, setRange, indexA, Nat.reduceBEq, Int.cast_ofNat_Int, reduceCtorEq, Nat.reduceAdd, Nat.reduceMul, Nat.reduceSub, evTy0, evTy1, evTy2, evTy3, evTy4, evTy5, evTy6, evTy7, evTy8, h, false_and]

theorem empty_ev (k : Nat) (hk : 1 ≤ k) (r : Req) : callF Try.prog Hs E1 k 73 [.agg [.d (.int .i64 r.op), .d (.str r.user.name), .d (.str r.user.inst), .d (.str r.user.realm), .d (.int .i64 r.kvno), .d (.str r.realm), .d (.sl 1 (ints .u8 r.tick)), .d (.str r.serv), .d (.str r.inst), .d (.sl 1 (ints .u8 r.box))]] [] = some (.d (.bool (decide (r.kvno = 0 ∧ r.realm = ByteArray.empty ∧ r.tick = [] ∧ r.serv = ByteArray.empty ∧ r.inst = ByteArray.empty))), []) := by
  obtain ⟨k, rfl⟩ : ∃ j, k = j + 1 := ⟨k - 1, by omega⟩
  refine evalE rfl Try.func73 l73 ?_ (Nat.le_of_ble_eq_true rfl)
  obtain ⟨op, user, kvno, realm, tick, serv, inst, box⟩ := r
  have e : (⟨#[]⟩ : ByteArray) = ByteArray.empty := rfl
  by_cases h1 : kvno = 0
  · by_cases h2 : realm = ByteArray.empty
    · by_cases h3 : tick = []
      · by_cases h4 : serv = ByteArray.empty
        · by_cases h5 : inst = ByteArray.empty
          · simp only [s73, n73, ↓evPre, ev0, ev1, ev2, ev3, ev4, ev5, Nat.reduceLT, entE, getE, putE, ↓reduceIte, Nat.reduceEqDiff, argsE, Int.reduceEq, convertA, lenA, foldI, A.cells, A.leaf, List.replicate, viewA, getO, Nat.reduceLeDiff, loadA, cellsAt, cellsTo, faA, indexAddrA, asInt, Int.reduceLE, Int.reduceLT, Int.reduceToNat, eq_self, Nat.reducePow, Int.reducePow, Int.reduceAdd, Int.reduceMul, Int.reduceSub, Int.reduceNeg, keyOk, mapPutA, lookupA, mapOf, sliceA, boundI, elemsOf, appendA, storeA, setRange, indexA, Nat.reduceBEq, Int.cast_ofNat_Int, reduceCtorEq, Nat.reduceAdd, Nat.reduceMul, Nat.reduceSub, evTy0, evTy1, evTy2, evTy3, evTy4, evTy5, evTy6, evTy7, evTy8, e, str_eq, h1, h2, h3, h4, h5]
          · simp only [s73, n73, ↓evPre, ev0, ev1, ev2, ev3, ev4, ev5, Nat.reduceLT, entE, getE, putE, ↓reduceIte, Nat.reduceEqDiff, argsE, Int.reduceEq, convertA, lenA, foldI, A.cells, A.leaf, List.replicate, viewA, getO, Nat.reduceLeDiff, loadA, cellsAt, cellsTo, faA, indexAddrA, asInt, Int.reduceLE, Int.reduceLT, Int.reduceToNat, eq_self, Nat.reducePow, Int.reducePow, Int.reduceAdd, Int.reduceMul, Int.reduceSub, Int.reduceNeg, keyOk, mapPutA, lookupA, mapOf, sliceA, boundI, elemsOf, appendA, storeA, setRange, indexA, Nat.reduceBEq, Int.cast_ofNat_Int, reduceCtorEq, Nat.reduceAdd, Nat.reduceMul, Nat.reduceSub, evTy0, evTy1, evTy2, evTy3, evTy4, evTy5, evTy6, evTy7, evTy8, e, str_eq, h1, h2, h3, h4, h5]
        · simp only [s73, n73, ↓evPre, ev0, ev1, ev2, ev3, ev4, ev5, Nat.reduceLT, entE, getE, putE, ↓reduceIte, Nat.reduceEqDiff, argsE, Int.reduceEq, convertA, lenA, foldI, A.cells, A.leaf, List.replicate, viewA, getO, Nat.reduceLeDiff, loadA, cellsAt, cellsTo, faA, indexAddrA, asInt, Int.reduceLE, Int.reduceLT, Int.reduceToNat, eq_self, Nat.reducePow, Int.reducePow, Int.reduceAdd, Int.reduceMul, Int.reduceSub, Int.reduceNeg, keyOk, mapPutA, lookupA, mapOf, sliceA, boundI, elemsOf, appendA, storeA, setRange, indexA, Nat.reduceBEq, Int.cast_ofNat_Int, reduceCtorEq, Nat.reduceAdd, Nat.reduceMul, Nat.reduceSub, evTy0, evTy1, evTy2, evTy3, evTy4, evTy5, evTy6, evTy7, evTy8, e, str_eq, h1, h2, h3, h4]
      · have h3' : ¬ (tick.length : Int) = 0 := by
          intro q
          exact h3 (List.length_eq_zero_iff.1 (by omega))
        simp only [s73, n73, ↓evPre, ev0, ev1, ev2, ev3, ev4, ev5, Nat.reduceLT, entE, getE, putE, ↓reduceIte, Nat.reduceEqDiff, argsE, Int.reduceEq, convertA, lenA, foldI, A.cells, A.leaf, List.replicate, viewA, getO, Nat.reduceLeDiff, loadA, cellsAt, cellsTo, faA, indexAddrA, asInt, Int.reduceLE, Int.reduceLT, Int.reduceToNat, eq_self, Nat.reducePow, Int.reducePow, Int.reduceAdd, Int.reduceMul, Int.reduceSub, Int.reduceNeg, keyOk, mapPutA, lookupA, mapOf, sliceA, boundI, elemsOf, appendA, storeA, setRange, indexA, Nat.reduceBEq, Int.cast_ofNat_Int, reduceCtorEq, Nat.reduceAdd, Nat.reduceMul, Nat.reduceSub, evTy0, evTy1, evTy2, evTy3, evTy4, evTy5, evTy6, evTy7, evTy8, e, str_eq, h1, h2, h3, h3']
    · simp only [s73, n73, ↓evPre, ev0, ev1, ev2, ev3, ev4, ev5, Nat.reduceLT, entE, getE, putE, ↓reduceIte, Nat.reduceEqDiff, argsE, Int.reduceEq, convertA, lenA, foldI, A.cells, A.leaf, List.replicate, viewA, getO, Nat.reduceLeDiff, loadA, cellsAt, cellsTo, faA, indexAddrA, asInt, Int.reduceLE, Int.reduceLT, Int.reduceToNat, eq_self, Nat.reducePow, Int.reducePow, Int.reduceAdd, Int.reduceMul, Int.reduceSub, Int.reduceNeg, keyOk, mapPutA, lookupA, mapOf, sliceA, boundI, elemsOf, appendA, storeA, setRange, indexA, Nat.reduceBEq, Int.cast_ofNat_Int, reduceCtorEq, Nat.reduceAdd, Nat.reduceMul, Nat.reduceSub, evTy0, evTy1, evTy2, evTy3, evTy4, evTy5, evTy6, evTy7, evTy8, e, str_eq, h1, h2]
  · simp only [s73, n73, ↓evPre, ev0, ev1, ev2, ev3, ev4, ev5, Nat.reduceLT, entE, getE, putE, ↓reduceIte, Nat.reduceEqDiff, argsE, Int.reduceEq, convertA, lenA, foldI, A.cells, A.leaf, List.replicate, viewA, getO, Nat.reduceLeDiff, loadA, cellsAt, cellsTo, faA, indexAddrA, asInt, Int.reduceLE, Int.reduceLT, Int.reduceToNat, eq_self, Nat.reducePow, Int.reducePow, Int.reduceAdd, Int.reduceMul, Int.reduceSub, Int.reduceNeg, keyOk, mapPutA, lookupA, mapOf, sliceA, boundI, elemsOf, appendA, storeA, setRange, indexA, Nat.reduceBEq, Int.cast_ofNat_Int, reduceCtorEq, Nat.reduceAdd, Nat.reduceMul, Nat.reduceSub, evTy0, evTy1, evTy2, evTy3, evTy4, evTy5, evTy6, evTy7, evTy8, e, str_eq, h1]

/-- A request that the laws consider. -/
def Req.fit (r : Req) : Prop := r.user.ok 100 ∧ r.realm.size ≤ 100 ∧ r.serv.size ≤ 100 ∧ r.inst.size ≤ 100 ∧ r.tick.length ≤ 70000 ∧ r.box.length ≤ 70000

theorem nilI {l : List Int} (h : ¬ l = []) : ¬ (l.length : Int) = 0 := by
  intro q
  exact h (List.length_eq_zero_iff.1 (by omega))

theorem check_ev (k : Nat) (hk : 130 ≤ k) (r : Req) (hr : r.fit) : callF Try.prog Hs E1 k 29 [.agg [.d (.int .i64 r.op), .d (.str r.user.name), .d (.str r.user.inst), .d (.str r.user.realm), .d (.int .i64 r.kvno), .d (.str r.realm), .d (.sl 1 (ints .u8 r.tick)), .d (.str r.serv), .d (.str r.inst), .d (.sl 1 (ints .u8 r.box))]] [] = some (.d (.int .i64 (reqE r)), []) := by
  obtain ⟨k, rfl⟩ : ∃ j, k = j + 1 := ⟨k - 1, by omega⟩
  refine evalE rfl Try.func29 l29 ?_ (Nat.le_of_ble_eq_true rfl)
  obtain ⟨fu, fr, fs, fi, ft, fb⟩ := hr
  have f1 := isOp_ev k (by omega) r.op
  have f2 := Valid_ev k 100 r.user (by omega) fu (by omega)
  have f3 := Realm_ev k r.realm (by omega) (by omega)
  have f4 := Name_ev k r.serv (by omega) (by omega)
  have f5 := Inst_ev k r.inst (by omega) (by omega)
  have f6 := outside1_ev k (by omega) 255 r.kvno
  have f7 := empty_ev k (by omega) r
  unfold reqE
  by_cases h1 : 1 ≤ r.op ∧ r.op ≤ 3
  · rw [if_neg (by simpa using h1)]
    by_cases h2 : r.op = 2
    · simp only [h2, ne_eq, not_true_eq_false, false_and, false_or, true_and]
      have z1 : (1 : Int) ≤ 2 ∧ (2 : Int) ≤ 3 := by omega
      rw [h2] at f1
      cases v1 : realmB r.realm <;> rw [v1] at f3
      · simp only [s29, n29, ↓evPre, ev0, ev1, ev2, ev3, ev4, ev5, Nat.reduceLT, entE, getE, putE, ↓reduceIte, Nat.reduceEqDiff, argsE, Int.reduceEq, convertA, lenA, foldI, A.cells, A.leaf, List.replicate, viewA, getO, Nat.reduceLeDiff, loadA, cellsAt, cellsTo, faA, indexAddrA, asInt, Int.reduceLE, Int.reduceLT, Int.reduceToNat, eq_self, Nat.reducePow, Int.reducePow, Int.reduceAdd, Int.reduceMul, Int.reduceSub, Int.reduceNeg, keyOk, mapPutA, lookupA, mapOf, sliceA, boundI, elemsOf, appendA, storeA, setRange, indexA, Nat.reduceBEq, Int.cast_ofNat_Int, reduceCtorEq, Nat.reduceAdd, Nat.reduceMul, Nat.reduceSub, evTy0, evTy1, evTy2, evTy3, evTy4, evTy5, evTy6, evTy7, evTy8, callR_data f1 rfl rfl, callR_data f3 rfl rfl, z1, h2]
      · cases v2 : nameB r.serv <;> rw [v2] at f4
        · simp only [s29, n29, ↓evPre, ev0, ev1, ev2, ev3, ev4, ev5, Nat.reduceLT, entE, getE, putE, ↓reduceIte, Nat.reduceEqDiff, argsE, Int.reduceEq, convertA, lenA, foldI, A.cells, A.leaf, List.replicate, viewA, getO, Nat.reduceLeDiff, loadA, cellsAt, cellsTo, faA, indexAddrA, asInt, Int.reduceLE, Int.reduceLT, Int.reduceToNat, eq_self, Nat.reducePow, Int.reducePow, Int.reduceAdd, Int.reduceMul, Int.reduceSub, Int.reduceNeg, keyOk, mapPutA, lookupA, mapOf, sliceA, boundI, elemsOf, appendA, storeA, setRange, indexA, Nat.reduceBEq, Int.cast_ofNat_Int, reduceCtorEq, Nat.reduceAdd, Nat.reduceMul, Nat.reduceSub, evTy0, evTy1, evTy2, evTy3, evTy4, evTy5, evTy6, evTy7, evTy8, callR_data f1 rfl rfl, callR_data f3 rfl rfl, callR_data f4 rfl rfl, z1, h2]
        · cases v3 : instB r.inst <;> rw [v3] at f5
          · simp only [s29, n29, ↓evPre, ev0, ev1, ev2, ev3, ev4, ev5, Nat.reduceLT, entE, getE, putE, ↓reduceIte, Nat.reduceEqDiff, argsE, Int.reduceEq, convertA, lenA, foldI, A.cells, A.leaf, List.replicate, viewA, getO, Nat.reduceLeDiff, loadA, cellsAt, cellsTo, faA, indexAddrA, asInt, Int.reduceLE, Int.reduceLT, Int.reduceToNat, eq_self, Nat.reducePow, Int.reducePow, Int.reduceAdd, Int.reduceMul, Int.reduceSub, Int.reduceNeg, keyOk, mapPutA, lookupA, mapOf, sliceA, boundI, elemsOf, appendA, storeA, setRange, indexA, Nat.reduceBEq, Int.cast_ofNat_Int, reduceCtorEq, Nat.reduceAdd, Nat.reduceMul, Nat.reduceSub, evTy0, evTy1, evTy2, evTy3, evTy4, evTy5, evTy6, evTy7, evTy8, callR_data f1 rfl rfl, callR_data f3 rfl rfl, callR_data f4 rfl rfl, callR_data f5 rfl rfl, z1, h2]
          · simp only [not_true_eq_false, if_false]
            by_cases v4 : 0 ≤ r.kvno ∧ r.kvno ≤ 255
            · have o1 : outB 255 r.kvno = false := by simp [outB]; omega
              rw [o1] at f6
              simp only [v4, not_true_eq_false, if_false]
              by_cases v5 : 255 < (r.tick.length : Int)
              · simp only [s29, n29, ↓evPre, ev0, ev1, ev2, ev3, ev4, ev5, Nat.reduceLT, entE, getE, putE, ↓reduceIte, Nat.reduceEqDiff, argsE, Int.reduceEq, convertA, lenA, foldI, A.cells, A.leaf, List.replicate, viewA, getO, Nat.reduceLeDiff, loadA, cellsAt, cellsTo, faA, indexAddrA, asInt, Int.reduceLE, Int.reduceLT, Int.reduceToNat, eq_self, Nat.reducePow, Int.reducePow, Int.reduceAdd, Int.reduceMul, Int.reduceSub, Int.reduceNeg, keyOk, mapPutA, lookupA, mapOf, sliceA, boundI, elemsOf, appendA, storeA, setRange, indexA, Nat.reduceBEq, Int.cast_ofNat_Int, reduceCtorEq, Nat.reduceAdd, Nat.reduceMul, Nat.reduceSub, evTy0, evTy1, evTy2, evTy3, evTy4, evTy5, evTy6, evTy7, evTy8, callR_data f1 rfl rfl, callR_data f3 rfl rfl, callR_data f4 rfl rfl, callR_data f5 rfl rfl, callR_data f6 rfl rfl, z1, h2, v5]
              · by_cases v6 : 1012 < (r.box.length : Int)
                · simp only [s29, n29, ↓evPre, ev0, ev1, ev2, ev3, ev4, ev5, Nat.reduceLT, entE, getE, putE, ↓reduceIte, Nat.reduceEqDiff, argsE, Int.reduceEq, convertA, lenA, foldI, A.cells, A.leaf, List.replicate, viewA, getO, Nat.reduceLeDiff, loadA, cellsAt, cellsTo, faA, indexAddrA, asInt, Int.reduceLE, Int.reduceLT, Int.reduceToNat, eq_self, Nat.reducePow, Int.reducePow, Int.reduceAdd, Int.reduceMul, Int.reduceSub, Int.reduceNeg, keyOk, mapPutA, lookupA, mapOf, sliceA, boundI, elemsOf, appendA, storeA, setRange, indexA, Nat.reduceBEq, Int.cast_ofNat_Int, reduceCtorEq, Nat.reduceAdd, Nat.reduceMul, Nat.reduceSub, evTy0, evTy1, evTy2, evTy3, evTy4, evTy5, evTy6, evTy7, evTy8, callR_data f1 rfl rfl, callR_data f3 rfl rfl, callR_data f4 rfl rfl, callR_data f5 rfl rfl, callR_data f6 rfl rfl, z1, h2, v5, v6]
                · have hu : (r.user = zP) = (r.user.name = ByteArray.empty ∧ r.user.inst = ByteArray.empty ∧ r.user.realm = ByteArray.empty) := by
                    apply propext
                    cases r.user
                    simp [zP]
                  simp only [hu]
                  have e : (⟨#[]⟩ : ByteArray) = ByteArray.empty := rfl
                  by_cases u1 : r.user.name = ByteArray.empty
                  · by_cases u2 : r.user.inst = ByteArray.empty
                    · by_cases u3 : r.user.realm = ByteArray.empty
                      · simp only [s29, n29, ↓evPre, ev0, ev1, ev2, ev3, ev4, ev5, Nat.reduceLT, entE, getE, putE, ↓reduceIte, Nat.reduceEqDiff, argsE, Int.reduceEq, convertA, lenA, foldI, A.cells, A.leaf, List.replicate, viewA, getO, Nat.reduceLeDiff, loadA, cellsAt, cellsTo, faA, indexAddrA, asInt, Int.reduceLE, Int.reduceLT, Int.reduceToNat, eq_self, Nat.reducePow, Int.reducePow, Int.reduceAdd, Int.reduceMul, Int.reduceSub, Int.reduceNeg, keyOk, mapPutA, lookupA, mapOf, sliceA, boundI, elemsOf, appendA, storeA, setRange, indexA, Nat.reduceBEq, Int.cast_ofNat_Int, reduceCtorEq, Nat.reduceAdd, Nat.reduceMul, Nat.reduceSub, evTy0, evTy1, evTy2, evTy3, evTy4, evTy5, evTy6, evTy7, evTy8, callR_data f1 rfl rfl, callR_data f3 rfl rfl, callR_data f4 rfl rfl, callR_data f5 rfl rfl, callR_data f6 rfl rfl, z1, h2, v5, v6, or_self, e, u1, u2, u3]
                      · simp only [s29, n29, ↓evPre, ev0, ev1, ev2, ev3, ev4, ev5, Nat.reduceLT, entE, getE, putE, ↓reduceIte, Nat.reduceEqDiff, argsE, Int.reduceEq, convertA, lenA, foldI, A.cells, A.leaf, List.replicate, viewA, getO, Nat.reduceLeDiff, loadA, cellsAt, cellsTo, faA, indexAddrA, asInt, Int.reduceLE, Int.reduceLT, Int.reduceToNat, eq_self, Nat.reducePow, Int.reducePow, Int.reduceAdd, Int.reduceMul, Int.reduceSub, Int.reduceNeg, keyOk, mapPutA, lookupA, mapOf, sliceA, boundI, elemsOf, appendA, storeA, setRange, indexA, Nat.reduceBEq, Int.cast_ofNat_Int, reduceCtorEq, Nat.reduceAdd, Nat.reduceMul, Nat.reduceSub, evTy0, evTy1, evTy2, evTy3, evTy4, evTy5, evTy6, evTy7, evTy8, callR_data f1 rfl rfl, callR_data f3 rfl rfl, callR_data f4 rfl rfl, callR_data f5 rfl rfl, callR_data f6 rfl rfl, z1, h2, v5, v6, or_self, e, u1, u2, u3]
                    · simp only [s29, n29, ↓evPre, ev0, ev1, ev2, ev3, ev4, ev5, Nat.reduceLT, entE, getE, putE, ↓reduceIte, Nat.reduceEqDiff, argsE, Int.reduceEq, convertA, lenA, foldI, A.cells, A.leaf, List.replicate, viewA, getO, Nat.reduceLeDiff, loadA, cellsAt, cellsTo, faA, indexAddrA, asInt, Int.reduceLE, Int.reduceLT, Int.reduceToNat, eq_self, Nat.reducePow, Int.reducePow, Int.reduceAdd, Int.reduceMul, Int.reduceSub, Int.reduceNeg, keyOk, mapPutA, lookupA, mapOf, sliceA, boundI, elemsOf, appendA, storeA, setRange, indexA, Nat.reduceBEq, Int.cast_ofNat_Int, reduceCtorEq, Nat.reduceAdd, Nat.reduceMul, Nat.reduceSub, evTy0, evTy1, evTy2, evTy3, evTy4, evTy5, evTy6, evTy7, evTy8, callR_data f1 rfl rfl, callR_data f3 rfl rfl, callR_data f4 rfl rfl, callR_data f5 rfl rfl, callR_data f6 rfl rfl, z1, h2, v5, v6, or_self, e, u1, u2]
                  · simp only [s29, n29, ↓evPre, ev0, ev1, ev2, ev3, ev4, ev5, Nat.reduceLT, entE, getE, putE, ↓reduceIte, Nat.reduceEqDiff, argsE, Int.reduceEq, convertA, lenA, foldI, A.cells, A.leaf, List.replicate, viewA, getO, Nat.reduceLeDiff, loadA, cellsAt, cellsTo, faA, indexAddrA, asInt, Int.reduceLE, Int.reduceLT, Int.reduceToNat, eq_self, Nat.reducePow, Int.reducePow, Int.reduceAdd, Int.reduceMul, Int.reduceSub, Int.reduceNeg, keyOk, mapPutA, lookupA, mapOf, sliceA, boundI, elemsOf, appendA, storeA, setRange, indexA, Nat.reduceBEq, Int.cast_ofNat_Int, reduceCtorEq, Nat.reduceAdd, Nat.reduceMul, Nat.reduceSub, evTy0, evTy1, evTy2, evTy3, evTy4, evTy5, evTy6, evTy7, evTy8, callR_data f1 rfl rfl, callR_data f3 rfl rfl, callR_data f4 rfl rfl, callR_data f5 rfl rfl, callR_data f6 rfl rfl, z1, h2, v5, v6, or_self, e, u1]
            · have o1 : outB 255 r.kvno = true := by simp [outB]; omega
              rw [o1] at f6
              simp only [s29, n29, ↓evPre, ev0, ev1, ev2, ev3, ev4, ev5, Nat.reduceLT, entE, getE, putE, ↓reduceIte, Nat.reduceEqDiff, argsE, Int.reduceEq, convertA, lenA, foldI, A.cells, A.leaf, List.replicate, viewA, getO, Nat.reduceLeDiff, loadA, cellsAt, cellsTo, faA, indexAddrA, asInt, Int.reduceLE, Int.reduceLT, Int.reduceToNat, eq_self, Nat.reducePow, Int.reducePow, Int.reduceAdd, Int.reduceMul, Int.reduceSub, Int.reduceNeg, keyOk, mapPutA, lookupA, mapOf, sliceA, boundI, elemsOf, appendA, storeA, setRange, indexA, Nat.reduceBEq, Int.cast_ofNat_Int, reduceCtorEq, Nat.reduceAdd, Nat.reduceMul, Nat.reduceSub, evTy0, evTy1, evTy2, evTy3, evTy4, evTy5, evTy6, evTy7, evTy8, callR_data f1 rfl rfl, callR_data f3 rfl rfl, callR_data f4 rfl rfl, callR_data f5 rfl rfl, callR_data f6 rfl rfl, z1, h2, v4]
    · simp only [h2, ne_eq, not_false_eq_true, false_and, or_false, true_and]
      cases v1 : validB r.user <;> rw [v1] at f2
      · simp only [s29, n29, ↓evPre, ev0, ev1, ev2, ev3, ev4, ev5, Nat.reduceLT, entE, getE, putE, ↓reduceIte, Nat.reduceEqDiff, argsE, Int.reduceEq, convertA, lenA, foldI, A.cells, A.leaf, List.replicate, viewA, getO, Nat.reduceLeDiff, loadA, cellsAt, cellsTo, faA, indexAddrA, asInt, Int.reduceLE, Int.reduceLT, Int.reduceToNat, eq_self, Nat.reducePow, Int.reducePow, Int.reduceAdd, Int.reduceMul, Int.reduceSub, Int.reduceNeg, keyOk, mapPutA, lookupA, mapOf, sliceA, boundI, elemsOf, appendA, storeA, setRange, indexA, Nat.reduceBEq, Int.cast_ofNat_Int, reduceCtorEq, Nat.reduceAdd, Nat.reduceMul, Nat.reduceSub, evTy0, evTy1, evTy2, evTy3, evTy4, evTy5, evTy6, evTy7, evTy8, callR_data f1 rfl rfl, callR_data f2 rfl rfl, h1, h2]
      · simp only [Bool.true_eq_false, if_false, false_or]
        by_cases v6 : 1012 < (r.box.length : Int)
        · simp only [s29, n29, ↓evPre, ev0, ev1, ev2, ev3, ev4, ev5, Nat.reduceLT, entE, getE, putE, ↓reduceIte, Nat.reduceEqDiff, argsE, Int.reduceEq, convertA, lenA, foldI, A.cells, A.leaf, List.replicate, viewA, getO, Nat.reduceLeDiff, loadA, cellsAt, cellsTo, faA, indexAddrA, asInt, Int.reduceLE, Int.reduceLT, Int.reduceToNat, eq_self, Nat.reducePow, Int.reducePow, Int.reduceAdd, Int.reduceMul, Int.reduceSub, Int.reduceNeg, keyOk, mapPutA, lookupA, mapOf, sliceA, boundI, elemsOf, appendA, storeA, setRange, indexA, Nat.reduceBEq, Int.cast_ofNat_Int, reduceCtorEq, Nat.reduceAdd, Nat.reduceMul, Nat.reduceSub, evTy0, evTy1, evTy2, evTy3, evTy4, evTy5, evTy6, evTy7, evTy8, callR_data f1 rfl rfl, callR_data f2 rfl rfl, h1, h2, v6]
        · by_cases v7 : r.kvno = 0 ∧ r.realm = ByteArray.empty ∧ r.tick = [] ∧ r.serv = ByteArray.empty ∧ r.inst = ByteArray.empty
          · rw [decide_eq_true v7] at f7
            have hq := eq_true v7
            simp only [hq, not_true_eq_false]
            simp only [s29, n29, ↓evPre, ev0, ev1, ev2, ev3, ev4, ev5, Nat.reduceLT, entE, getE, putE, ↓reduceIte, Nat.reduceEqDiff, argsE, Int.reduceEq, convertA, lenA, foldI, A.cells, A.leaf, List.replicate, viewA, getO, Nat.reduceLeDiff, loadA, cellsAt, cellsTo, faA, indexAddrA, asInt, Int.reduceLE, Int.reduceLT, Int.reduceToNat, eq_self, Nat.reducePow, Int.reducePow, Int.reduceAdd, Int.reduceMul, Int.reduceSub, Int.reduceNeg, keyOk, mapPutA, lookupA, mapOf, sliceA, boundI, elemsOf, appendA, storeA, setRange, indexA, Nat.reduceBEq, Int.cast_ofNat_Int, reduceCtorEq, Nat.reduceAdd, Nat.reduceMul, Nat.reduceSub, evTy0, evTy1, evTy2, evTy3, evTy4, evTy5, evTy6, evTy7, evTy8, callR_data f1 rfl rfl, callR_data f2 rfl rfl, callR_data f7 rfl rfl, h1, h2, v6]
          · rw [decide_eq_false v7] at f7
            simp only [v7]
            simp only [s29, n29, ↓evPre, ev0, ev1, ev2, ev3, ev4, ev5, Nat.reduceLT, entE, getE, putE, ↓reduceIte, Nat.reduceEqDiff, argsE, Int.reduceEq, convertA, lenA, foldI, A.cells, A.leaf, List.replicate, viewA, getO, Nat.reduceLeDiff, loadA, cellsAt, cellsTo, faA, indexAddrA, asInt, Int.reduceLE, Int.reduceLT, Int.reduceToNat, eq_self, Nat.reducePow, Int.reducePow, Int.reduceAdd, Int.reduceMul, Int.reduceSub, Int.reduceNeg, keyOk, mapPutA, lookupA, mapOf, sliceA, boundI, elemsOf, appendA, storeA, setRange, indexA, Nat.reduceBEq, Int.cast_ofNat_Int, reduceCtorEq, Nat.reduceAdd, Nat.reduceMul, Nat.reduceSub, evTy0, evTy1, evTy2, evTy3, evTy4, evTy5, evTy6, evTy7, evTy8, callR_data f1 rfl rfl, callR_data f2 rfl rfl, callR_data f7 rfl rfl, h1, h2, v6]
  · rw [if_pos h1]
    simp only [s29, n29, ↓evPre, ev0, ev1, ev2, ev3, ev4, ev5, Nat.reduceLT, entE, getE, putE, ↓reduceIte, Nat.reduceEqDiff, argsE, Int.reduceEq, convertA, lenA, foldI, A.cells, A.leaf, List.replicate, viewA, getO, Nat.reduceLeDiff, loadA, cellsAt, cellsTo, faA, indexAddrA, asInt, Int.reduceLE, Int.reduceLT, Int.reduceToNat, eq_self, Nat.reducePow, Int.reducePow, Int.reduceAdd, Int.reduceMul, Int.reduceSub, Int.reduceNeg, keyOk, mapPutA, lookupA, mapOf, sliceA, boundI, elemsOf, appendA, storeA, setRange, indexA, Nat.reduceBEq, Int.cast_ofNat_Int, reduceCtorEq, Nat.reduceAdd, Nat.reduceMul, Nat.reduceSub, evTy0, evTy1, evTy2, evTy3, evTy4, evTy5, evTy6, evTy7, evTy8, callR_data f1 rfl rfl, h1]

/-- What an encoder returns. -/
def encT (v : List Int × Int) : A := .tup [.d (.sl 1 (ints .u8 v.1)), .d (.int .i64 v.2)]

theorem EncReq_ev (k : Nat) (hk : 140 ≤ k) (r : Req) (hr : r.fit) : callF Try.prog Hs E1 k 10 [.agg [.d (.int .i64 r.op), .d (.str r.user.name), .d (.str r.user.inst), .d (.str r.user.realm), .d (.int .i64 r.kvno), .d (.str r.realm), .d (.sl 1 (ints .u8 r.tick)), .d (.str r.serv), .d (.str r.inst), .d (.sl 1 (ints .u8 r.box))]] [] = some (encT (encReq r), []) := by
  obtain ⟨k, rfl⟩ : ∃ j, k = j + 1 := ⟨k - 1, by omega⟩
  refine evalE rfl Try.func10 l10 ?_ (Nat.le_of_ble_eq_true rfl)
  have f1 := check_ev k (by omega) r hr
  unfold encReq
  by_cases h : reqE r = 0
  · rw [if_pos h]
    rw [h] at f1
    obtain ⟨g1, g2, g3⟩ := reqE_zero h
    obtain ⟨fu, fr, fs, fi, ft, fb⟩ := hr
    have f2 := HPut_ev k (by omega)
    have f3 := PutOctet_ev k (by omega) [4, 18] r.op (by simp)
    by_cases q : r.op = 2
    · have x1 : (∀ n ∈ bOf r.realm, n ≠ 0) ∧ r.realm.size ≤ 100 := by
        rcases g3 with g3 | g3
        · omega
        · have := g3.2.1; unfold realmB at this; simp only [Bool.and_eq_true] at this; exact ⟨(text_ne this.2).1, fr⟩
      have lr := bOf_len r.realm
      have ls := bOf_len r.serv
      have li := bOf_len r.inst
      rw [q] at f3 f1
      have f4 := PutOctet_ev k (by omega) ([4, 18] ++ wb1 2) r.kvno (by simp [wb1])
      have f5 := PutText_ev k (by omega) ([4, 18] ++ wb1 2 ++ wb1 r.kvno) r.realm (by simp [wb1]) (by omega)
      have f6 := PutOctet_ev k (by omega) ([4, 18] ++ wb1 2 ++ wb1 r.kvno ++ tB r.realm) r.tick.length (by simp [wb1, tB]; omega)
      have b7 : ([4, 18] ++ wb1 2 ++ wb1 r.kvno ++ tB r.realm ++ wb1 (r.tick.length : Int)).length + r.tick.length ≤ 140737488355328 := by simp [wb1, tB]; omega
      have f8 := PutText_ev k (by omega) ([4, 18] ++ wb1 2 ++ wb1 r.kvno ++ tB r.realm ++ wb1 (r.tick.length : Int) ++ r.tick) r.serv (by simp [wb1, tB]; omega) (by omega)
      have f9 := PutText_ev k (by omega) ([4, 18] ++ wb1 2 ++ wb1 r.kvno ++ tB r.realm ++ wb1 (r.tick.length : Int) ++ r.tick ++ tB r.serv) r.inst (by simp [wb1, tB]; omega) (by omega)
      have f10 := PutShort_ev k (by omega) ([4, 18] ++ wb1 2 ++ wb1 r.kvno ++ tB r.realm ++ wb1 (r.tick.length : Int) ++ r.tick ++ tB r.serv ++ tB r.inst) r.box.length (by simp [wb1, tB]; omega)
      have b11 : ([4, 18] ++ wb1 2 ++ wb1 r.kvno ++ tB r.realm ++ wb1 (r.tick.length : Int) ++ r.tick ++ tB r.serv ++ tB r.inst ++ wb2 (r.box.length : Int)).length + r.box.length ≤ 140737488355328 := by simp [wb1, wb2, tB]; omega
      have eB : reqB r = [4, 18] ++ wb1 2 ++ wb1 r.kvno ++ tB r.realm ++ wb1 (r.tick.length : Int) ++ r.tick ++ tB r.serv ++ tB r.inst ++ wb2 (r.box.length : Int) ++ r.box := by simp [reqB, reqM, q]
      rw [eB]
      generalize hL1 : [4, 18] ++ wb1 2 = L1 at *
      generalize hL2 : L1 ++ wb1 r.kvno = L2 at *
      generalize hL3 : L2 ++ tB r.realm = L3 at *
      generalize hL4 : L3 ++ wb1 (r.tick.length : Int) = L4 at *
      generalize hL5 : L4 ++ r.tick = L5 at *
      generalize hL6 : L5 ++ tB r.serv = L6 at *
      generalize hL7 : L6 ++ tB r.inst = L7 at *
      generalize hL8 : L7 ++ wb2 (r.box.length : Int) = L8 at *
      simp only [s10, n10, ↓evPre, ev0, ev1, ev2, ev3, ev4, ev5, Nat.reduceLT, entE, getE, putE, ↓reduceIte, Nat.reduceEqDiff, argsE, Int.reduceEq, convertA, lenA, foldI, A.cells, A.leaf, List.replicate, viewA, getO, Nat.reduceLeDiff, loadA, cellsAt, cellsTo, faA, indexAddrA, asInt, Int.reduceLE, Int.reduceLT, Int.reduceToNat, eq_self, Nat.reducePow, Int.reducePow, Int.reduceAdd, Int.reduceMul, Int.reduceSub, Int.reduceNeg, keyOk, mapPutA, lookupA, mapOf, sliceA, boundI, elemsOf, appendA, storeA, setRange, indexA, Nat.reduceBEq, Int.cast_ofNat_Int, reduceCtorEq, Nat.reduceAdd, Nat.reduceMul, Nat.reduceSub, evTy0, evTy1, evTy2, evTy3, evTy4, evTy5, evTy6, evTy7, evTy8, callR_data f1 rfl rfl, callR_data f2 rfl rfl, callR_new f3 rfl, callR_new f4 rfl, callR_new f5 rfl, callR_new f6 rfl, callR_new f8 rfl, callR_new f9 rfl, callR_new f10 rfl, q, b7, b11, hL5, encT]
    · have f4 := PutPrincipal_ev k (by omega) ([4, 18] ++ wb1 r.op) r.user (by simp [wb1]) ⟨by have := fu.1; omega, by have := fu.2.1; omega, by have := fu.2.2; omega⟩
      have l1 := bOf_len r.user.name
      have l2 := bOf_len r.user.inst
      have l3 := bOf_len r.user.realm
      have := fu.1
      have := fu.2.1
      have := fu.2.2
      have f5 := PutShort_ev k (by omega) ([4, 18] ++ wb1 r.op ++ pB r.user) r.box.length (by simp [wb1, pB, tB]; omega)
      have b6 : ([4, 18] ++ wb1 r.op ++ pB r.user ++ wb2 (r.box.length : Int)).length + r.box.length ≤ 140737488355328 := by simp [wb1, wb2, pB, tB]; omega
      have eB : reqB r = [4, 18] ++ wb1 r.op ++ pB r.user ++ wb2 (r.box.length : Int) ++ r.box := by simp [reqB, reqM, q]
      rw [eB]
      generalize hL1 : [4, 18] ++ wb1 r.op = L1 at *
      generalize hL2 : L1 ++ pB r.user = L2 at *
      generalize hL3 : L2 ++ wb2 (r.box.length : Int) = L3 at *
      simp only [s10, n10, ↓evPre, ev0, ev1, ev2, ev3, ev4, ev5, Nat.reduceLT, entE, getE, putE, ↓reduceIte, Nat.reduceEqDiff, argsE, Int.reduceEq, convertA, lenA, foldI, A.cells, A.leaf, List.replicate, viewA, getO, Nat.reduceLeDiff, loadA, cellsAt, cellsTo, faA, indexAddrA, asInt, Int.reduceLE, Int.reduceLT, Int.reduceToNat, eq_self, Nat.reducePow, Int.reducePow, Int.reduceAdd, Int.reduceMul, Int.reduceSub, Int.reduceNeg, keyOk, mapPutA, lookupA, mapOf, sliceA, boundI, elemsOf, appendA, storeA, setRange, indexA, Nat.reduceBEq, Int.cast_ofNat_Int, reduceCtorEq, Nat.reduceAdd, Nat.reduceMul, Nat.reduceSub, evTy0, evTy1, evTy2, evTy3, evTy4, evTy5, evTy6, evTy7, evTy8, callR_data f1 rfl rfl, callR_data f2 rfl rfl, callR_new f3 rfl, callR_data f4 rfl rfl, callR_new f5 rfl, q, b6, encT]
  · rw [if_neg h]
    simp only [s10, n10, ↓evPre, ev0, ev1, ev2, ev3, ev4, ev5, Nat.reduceLT, entE, getE, putE, ↓reduceIte, Nat.reduceEqDiff, argsE, Int.reduceEq, convertA, lenA, foldI, A.cells, A.leaf, List.replicate, viewA, getO, Nat.reduceLeDiff, loadA, cellsAt, cellsTo, faA, indexAddrA, asInt, Int.reduceLE, Int.reduceLT, Int.reduceToNat, eq_self, Nat.reducePow, Int.reducePow, Int.reduceAdd, Int.reduceMul, Int.reduceSub, Int.reduceNeg, keyOk, mapPutA, lookupA, mapOf, sliceA, boundI, elemsOf, appendA, storeA, setRange, indexA, Nat.reduceBEq, Int.cast_ofNat_Int, reduceCtorEq, Nat.reduceAdd, Nat.reduceMul, Nat.reduceSub, evTy0, evTy1, evTy2, evTy3, evTy4, evTy5, evTy6, evTy7, evTy8, callR_data f1 rfl rfl, h, encT]
end Ka
end Ab
namespace Ab
open Go Go.Proofs Go.IntWalk
set_option maxRecDepth 10000
set_option linter.unusedSimpArgs false
set_option linter.unusedVariables false
namespace Ka
open Pr Key Fi

theorem EncRep_ev (k : Nat) (hk : 40 ≤ k) (r : Rep) (hr : r.box.length ≤ 70000) : callF Try.prog Hs E1 k 15 [.agg [.d (.int .i64 r.op), .d (.int .i64 r.code), .d (.sl 1 (ints .u8 r.box))]] [] = some (encT (encRep r), []) := by
  obtain ⟨k, rfl⟩ : ∃ j, k = j + 1 := ⟨k - 1, by omega⟩
  refine evalE rfl Try.func15 l15 ?_ (Nat.le_of_ble_eq_true rfl)
  have f1 := isOp_ev k (by omega) r.op
  have f2 := outside1_ev k (by omega) 99 r.code
  unfold encRep repE
  by_cases h1 : 1 ≤ r.op ∧ r.op ≤ 3
  · by_cases h2 : 0 ≤ r.code ∧ r.code ≤ 99
    · have o1 : outB 99 r.code = false := by simp [outB]; omega
      rw [o1] at f2
      have n1' : ¬ ¬ (1 ≤ r.op ∧ r.op ≤ 3) := by simpa using h1
      have n2' : ¬ ¬ (0 ≤ r.code ∧ r.code ≤ 99) := by simpa using h2
      rw [if_neg n1', if_neg n2']
      by_cases h3 : 1012 < (r.box.length : Int)
      · rw [if_pos h3]
        simp only [s15, n15, ↓evPre, ev0, ev1, ev2, ev3, ev4, ev5, Nat.reduceLT, entE, getE, putE, ↓reduceIte, Nat.reduceEqDiff, argsE, Int.reduceEq, convertA, lenA, foldI, A.cells, A.leaf, List.replicate, viewA, getO, Nat.reduceLeDiff, loadA, cellsAt, cellsTo, faA, indexAddrA, asInt, Int.reduceLE, Int.reduceLT, Int.reduceToNat, eq_self, Nat.reducePow, Int.reducePow, Int.reduceAdd, Int.reduceMul, Int.reduceSub, Int.reduceNeg, keyOk, mapPutA, lookupA, mapOf, sliceA, boundI, elemsOf, appendA, storeA, setRange, indexA, Nat.reduceBEq, Int.cast_ofNat_Int, reduceCtorEq, Nat.reduceAdd, Nat.reduceMul, Nat.reduceSub, evTy0, evTy1, evTy2, evTy3, evTy4, evTy5, evTy6, evTy7, evTy8, callR_data f1 rfl rfl, callR_data f2 rfl rfl, h1, h3, encT]
      · rw [if_neg h3]
        have f3 := HPut_ev k (by omega)
        have w1 := i64_in (r.op + 128) (by omega)
        have f4 := PutOctet_ev k (by omega) [4, 18] (r.op + 128) (by simp)
        have f5 := PutOctet_ev k (by omega) ([4, 18] ++ wb1 (r.op + 128)) r.code (by simp [wb1])
        have f6 := PutShort_ev k (by omega) ([4, 18] ++ wb1 (r.op + 128) ++ wb1 r.code) r.box.length (by simp [wb1])
        have b7 : ([4, 18] ++ wb1 (r.op + 128) ++ wb1 r.code ++ wb2 (r.box.length : Int)).length + r.box.length ≤ 140737488355328 := by simp [wb1, wb2]; omega
        have eB : repB r = [4, 18] ++ wb1 (r.op + 128) ++ wb1 r.code ++ wb2 (r.box.length : Int) ++ r.box := by simp [repB]
        rw [eB]
        generalize hL1 : [4, 18] ++ wb1 (r.op + 128) = L1 at *
        generalize hL2 : L1 ++ wb1 r.code = L2 at *
        generalize hL3 : L2 ++ wb2 (r.box.length : Int) = L3 at *
        by_cases h4 : r.code = 0
        · have h4' : ¬ (r.code ≠ 0 ∧ r.box ≠ []) := fun h => h.1 h4
          rw [if_neg h4', if_pos rfl]
          rw [h4] at f2 f5
          simp only [s15, n15, ↓evPre, ev0, ev1, ev2, ev3, ev4, ev5, Nat.reduceLT, entE, getE, putE, ↓reduceIte, Nat.reduceEqDiff, argsE, Int.reduceEq, convertA, lenA, foldI, A.cells, A.leaf, List.replicate, viewA, getO, Nat.reduceLeDiff, loadA, cellsAt, cellsTo, faA, indexAddrA, asInt, Int.reduceLE, Int.reduceLT, Int.reduceToNat, eq_self, Nat.reducePow, Int.reducePow, Int.reduceAdd, Int.reduceMul, Int.reduceSub, Int.reduceNeg, keyOk, mapPutA, lookupA, mapOf, sliceA, boundI, elemsOf, appendA, storeA, setRange, indexA, Nat.reduceBEq, Int.cast_ofNat_Int, reduceCtorEq, Nat.reduceAdd, Nat.reduceMul, Nat.reduceSub, evTy0, evTy1, evTy2, evTy3, evTy4, evTy5, evTy6, evTy7, evTy8, callR_data f1 rfl rfl, callR_data f2 rfl rfl, callR_data f3 rfl rfl, callR_new f4 rfl, callR_new f5 rfl, callR_new f6 rfl, h1, h3, h4, w1, b7, encT]
        · by_cases h5 : r.box = []
          · have h4' : ¬ (r.code ≠ 0 ∧ r.box ≠ []) := fun h => h.2 h5
            rw [if_neg h4', if_pos rfl]
            have h5' : ¬ 0 < (r.box.length : Int) := by rw [h5]; simp
            simp only [s15, n15, ↓evPre, ev0, ev1, ev2, ev3, ev4, ev5, Nat.reduceLT, entE, getE, putE, ↓reduceIte, Nat.reduceEqDiff, argsE, Int.reduceEq, convertA, lenA, foldI, A.cells, A.leaf, List.replicate, viewA, getO, Nat.reduceLeDiff, loadA, cellsAt, cellsTo, faA, indexAddrA, asInt, Int.reduceLE, Int.reduceLT, Int.reduceToNat, eq_self, Nat.reducePow, Int.reducePow, Int.reduceAdd, Int.reduceMul, Int.reduceSub, Int.reduceNeg, keyOk, mapPutA, lookupA, mapOf, sliceA, boundI, elemsOf, appendA, storeA, setRange, indexA, Nat.reduceBEq, Int.cast_ofNat_Int, reduceCtorEq, Nat.reduceAdd, Nat.reduceMul, Nat.reduceSub, evTy0, evTy1, evTy2, evTy3, evTy4, evTy5, evTy6, evTy7, evTy8, callR_data f1 rfl rfl, callR_data f2 rfl rfl, callR_data f3 rfl rfl, callR_new f4 rfl, callR_new f5 rfl, callR_new f6 rfl, h1, h3, h4, h5', w1, b7, encT]
          · have q : (if r.code ≠ 0 ∧ r.box ≠ [] then (108 : Int) else 0) = 108 := if_pos ⟨h4, h5⟩
            rw [q, if_neg (by omega)]
            have h5' : 0 < (r.box.length : Int) := by have := nilI h5; omega
            simp only [s15, n15, ↓evPre, ev0, ev1, ev2, ev3, ev4, ev5, Nat.reduceLT, entE, getE, putE, ↓reduceIte, Nat.reduceEqDiff, argsE, Int.reduceEq, convertA, lenA, foldI, A.cells, A.leaf, List.replicate, viewA, getO, Nat.reduceLeDiff, loadA, cellsAt, cellsTo, faA, indexAddrA, asInt, Int.reduceLE, Int.reduceLT, Int.reduceToNat, eq_self, Nat.reducePow, Int.reducePow, Int.reduceAdd, Int.reduceMul, Int.reduceSub, Int.reduceNeg, keyOk, mapPutA, lookupA, mapOf, sliceA, boundI, elemsOf, appendA, storeA, setRange, indexA, Nat.reduceBEq, Int.cast_ofNat_Int, reduceCtorEq, Nat.reduceAdd, Nat.reduceMul, Nat.reduceSub, evTy0, evTy1, evTy2, evTy3, evTy4, evTy5, evTy6, evTy7, evTy8, callR_data f1 rfl rfl, callR_data f2 rfl rfl, h1, h3, h4, h5', encT]
    · have o1 : outB 99 r.code = true := by simp [outB]; omega
      rw [o1] at f2
      have n1' : ¬ ¬ (1 ≤ r.op ∧ r.op ≤ 3) := by simpa using h1
      rw [if_neg n1', if_pos h2]
      simp only [s15, n15, ↓evPre, ev0, ev1, ev2, ev3, ev4, ev5, Nat.reduceLT, entE, getE, putE, ↓reduceIte, Nat.reduceEqDiff, argsE, Int.reduceEq, convertA, lenA, foldI, A.cells, A.leaf, List.replicate, viewA, getO, Nat.reduceLeDiff, loadA, cellsAt, cellsTo, faA, indexAddrA, asInt, Int.reduceLE, Int.reduceLT, Int.reduceToNat, eq_self, Nat.reducePow, Int.reducePow, Int.reduceAdd, Int.reduceMul, Int.reduceSub, Int.reduceNeg, keyOk, mapPutA, lookupA, mapOf, sliceA, boundI, elemsOf, appendA, storeA, setRange, indexA, Nat.reduceBEq, Int.cast_ofNat_Int, reduceCtorEq, Nat.reduceAdd, Nat.reduceMul, Nat.reduceSub, evTy0, evTy1, evTy2, evTy3, evTy4, evTy5, evTy6, evTy7, evTy8, callR_data f1 rfl rfl, callR_data f2 rfl rfl, h1, encT]
  · rw [if_pos h1]
    simp only [s15, n15, ↓evPre, ev0, ev1, ev2, ev3, ev4, ev5, Nat.reduceLT, entE, getE, putE, ↓reduceIte, Nat.reduceEqDiff, argsE, Int.reduceEq, convertA, lenA, foldI, A.cells, A.leaf, List.replicate, viewA, getO, Nat.reduceLeDiff, loadA, cellsAt, cellsTo, faA, indexAddrA, asInt, Int.reduceLE, Int.reduceLT, Int.reduceToNat, eq_self, Nat.reducePow, Int.reducePow, Int.reduceAdd, Int.reduceMul, Int.reduceSub, Int.reduceNeg, keyOk, mapPutA, lookupA, mapOf, sliceA, boundI, elemsOf, appendA, storeA, setRange, indexA, Nat.reduceBEq, Int.cast_ofNat_Int, reduceCtorEq, Nat.reduceAdd, Nat.reduceMul, Nat.reduceSub, evTy0, evTy1, evTy2, evTy3, evTy4, evTy5, evTy6, evTy7, evTy8, callR_data f1 rfl rfl, h1, encT]

theorem Equal_ev (k : Nat) (hk : 1 ≤ k) (a b : List Int) (ha : okL a) (hb : okL b) : callF Try.prog Hs E1 k 95 [.d (.sl 1 (ints .u8 a)), .d (.sl 1 (ints .u8 b))] [] = some (.d (.bool (decide (a = b))), []) := by
  obtain ⟨k, rfl⟩ : ∃ j, k = j + 1 := ⟨k - 1, by omega⟩
  refine evalE rfl Try.func95 l95 ?_ (Nat.le_of_ble_eq_true rfl)
  have e : ∀ l : List Int, (⟨(l.map fun n => UInt8.ofNat n.toNat).toArray⟩ : ByteArray) = sOf l := fun _ => rfl
  have q : decide (sOf a = sOf b) = decide (a = b) := by
    rw [decide_eq_decide]
    exact ⟨sOf_inj ha hb, fun h => by rw [h]⟩
  simp only [s95, n95, ↓evPre, ev0, ev1, ev2, ev3, ev4, ev5, Nat.reduceLT, entE, getE, putE, ↓reduceIte, Nat.reduceEqDiff, argsE, Int.reduceEq, convertA, lenA, foldI, A.cells, A.leaf, List.replicate, viewA, getO, Nat.reduceLeDiff, loadA, cellsAt, cellsTo, faA, indexAddrA, asInt, Int.reduceLE, Int.reduceLT, Int.reduceToNat, eq_self, Nat.reducePow, Int.reducePow, Int.reduceAdd, Int.reduceMul, Int.reduceSub, Int.reduceNeg, keyOk, mapPutA, lookupA, mapOf, sliceA, boundI, elemsOf, appendA, storeA, setRange, indexA, Nat.reduceBEq, Int.cast_ofNat_Int, reduceCtorEq, Nat.reduceAdd, Nat.reduceMul, Nat.reduceSub, evTy0, evTy1, evTy2, evTy3, evTy4, evTy5, evTy6, evTy7, evTy8, strOf_ints, e, str_eq, q]

theorem is_ev (k : Nat) (hk : 3 ≤ k) (b own b' : List Int) (ho : okL b) (hown : okL own) (c : Cu) (e : Int) : callF Try.prog Hs E1 k 52 [.d (.sl 1 (ints .u8 b)), .bp 0 0, .d (.sl 1 (ints .u8 own)), .d (.int .i64 e)] [cu b' c] = some (.d (.bool (isV b own c e)), [cu b' c]) := by
  obtain ⟨k, rfl⟩ : ∃ j, k = j + 1 := ⟨k - 1, by omega⟩
  refine evalE rfl Try.func52 l52 ?_ (Nat.le_of_ble_eq_true rfl)
  have f1 := cBad_ev k (by omega) b' c
  have f2 := Equal_ev k (by omega) own b hown ho
  unfold isV
  obtain ⟨p, bad⟩ := c
  simp only [cu] at f1 ⊢
  cases bad
  · by_cases he : e = 0
    · simp only [s52, n52, ↓evPre, ev0, ev1, ev2, ev3, ev4, ev5, Nat.reduceLT, entE, getE, putE, ↓reduceIte, Nat.reduceEqDiff, argsE, Int.reduceEq, convertA, lenA, foldI, A.cells, A.leaf, List.replicate, viewA, getO, Nat.reduceLeDiff, loadA, cellsAt, cellsTo, faA, indexAddrA, asInt, Int.reduceLE, Int.reduceLT, Int.reduceToNat, eq_self, Nat.reducePow, Int.reducePow, Int.reduceAdd, Int.reduceMul, Int.reduceSub, Int.reduceNeg, keyOk, mapPutA, lookupA, mapOf, sliceA, boundI, elemsOf, appendA, storeA, setRange, indexA, Nat.reduceBEq, Int.cast_ofNat_Int, reduceCtorEq, Nat.reduceAdd, Nat.reduceMul, Nat.reduceSub, evTy0, evTy1, evTy2, evTy3, evTy4, evTy5, evTy6, evTy7, evTy8, f1, callR_data f2 rfl rfl, he]
    · simp only [s52, n52, ↓evPre, ev0, ev1, ev2, ev3, ev4, ev5, Nat.reduceLT, entE, getE, putE, ↓reduceIte, Nat.reduceEqDiff, argsE, Int.reduceEq, convertA, lenA, foldI, A.cells, A.leaf, List.replicate, viewA, getO, Nat.reduceLeDiff, loadA, cellsAt, cellsTo, faA, indexAddrA, asInt, Int.reduceLE, Int.reduceLT, Int.reduceToNat, eq_self, Nat.reducePow, Int.reducePow, Int.reduceAdd, Int.reduceMul, Int.reduceSub, Int.reduceNeg, keyOk, mapPutA, lookupA, mapOf, sliceA, boundI, elemsOf, appendA, storeA, setRange, indexA, Nat.reduceBEq, Int.cast_ofNat_Int, reduceCtorEq, Nat.reduceAdd, Nat.reduceMul, Nat.reduceSub, evTy0, evTy1, evTy2, evTy3, evTy4, evTy5, evTy6, evTy7, evTy8, f1, he]
  · simp only [s52, n52, ↓evPre, ev0, ev1, ev2, ev3, ev4, ev5, Nat.reduceLT, entE, getE, putE, ↓reduceIte, Nat.reduceEqDiff, argsE, Int.reduceEq, convertA, lenA, foldI, A.cells, A.leaf, List.replicate, viewA, getO, Nat.reduceLeDiff, loadA, cellsAt, cellsTo, faA, indexAddrA, asInt, Int.reduceLE, Int.reduceLT, Int.reduceToNat, eq_self, Nat.reducePow, Int.reducePow, Int.reduceAdd, Int.reduceMul, Int.reduceSub, Int.reduceNeg, keyOk, mapPutA, lookupA, mapOf, sliceA, boundI, elemsOf, appendA, storeA, setRange, indexA, Nat.reduceBEq, Int.cast_ofNat_Int, reduceCtorEq, Nat.reduceAdd, Nat.reduceMul, Nat.reduceSub, evTy0, evTy1, evTy2, evTy3, evTy4, evTy5, evTy6, evTy7, evTy8, f1]

/-! ### Bytes are bytes -/
theorem tB_ok (s : ByteArray) : okL (tB s) := by
  unfold tB
  rw [okL_app]
  exact ⟨bOf_ok s, by simp [okL]⟩
theorem pB_ok (p : Prin) : okL (pB p) := by
  unfold pB
  rw [okL_app, okL_app]
  exact ⟨tB_ok _, tB_ok _, tB_ok _⟩
theorem h2_ok : okL [4, 18] := by simp [okL]
theorem reqB_ok {r : Req} (h1 : okL r.tick) (h2 : okL r.box) : okL (reqB r) := by
  unfold reqB reqM
  rw [okL_app, okL_app, okL_app, okL_app]
  refine ⟨h2_ok, wb1_ok _, ?_, wb2_ok _, h2⟩
  split
  · rw [okL_app, okL_app, okL_app, okL_app, okL_app]
    exact ⟨wb1_ok _, tB_ok _, wb1_ok _, h1, tB_ok _, tB_ok _⟩
  · exact pB_ok _
theorem repB_ok {r : Rep} (h : okL r.box) : okL (repB r) := by
  unfold repB
  rw [okL_app, okL_app, okL_app, okL_app]
  exact ⟨h2_ok, wb1_ok _, wb1_ok _, wb2_ok _, h⟩
theorem encReq_ok {r : Req} (h1 : okL r.tick) (h2 : okL r.box) : okL (encReq r).1 := by
  unfold encReq
  split
  · exact reqB_ok h1 h2
  · exact okL_nil
theorem encRep_ok {r : Rep} (h : okL r.box) : okL (encRep r).1 := by
  unfold encRep
  split
  · exact repB_ok h
  · exact okL_nil

theorem ok2 (b : List Int) : Cu.ok b ⟨2, false⟩ := by simp only [Cu.ok]; omega

def repT (v : Rep × Int) : A := .tup [.agg [.d (.int .i64 v.1.op), .d (.int .i64 v.1.code), .d (.sl 1 (ints .u8 v.1.box))], .d (.int .i64 v.2)]

theorem DecRep_ev (k : Nat) (hk : 200 ≤ k) (b : List Int) (hb : b.length ≤ 60000) (ho : okL b) : callF Try.prog Hs E1 k 13 [.d (.sl 1 (ints .u8 b))] [] = some (repT (decRep b), []) := by
  obtain ⟨k, rfl⟩ : ∃ j, k = j + 1 := ⟨k - 1, by omega⟩
  refine evalE rfl Try.func13 l13 ?_ (Nat.le_of_ble_eq_true rfl)
  unfold decRep
  by_cases h : hdE b = 0
  · rw [if_pos h]
    have f0 := open_ok k (by omega) b ho h
    have c0 := ok2 b
    have f1 := cOctet_ev k (by omega) b (by omega) ho ⟨2, false⟩ (ok_p (by omega) c0)
    have c1 := nxN_ok (n := 1) c0
    have r1 := nxN_range (n := 1) (c := ⟨2, false⟩) ho
    unfold rawRep
    simp only
    simp only [Int.cast_ofNat_Int, Int.pow_one] at r1
    have r1' : 0 ≤ (nxN b 1 ⟨2, false⟩).1 ∧ (nxN b 1 ⟨2, false⟩).1 < 256 := r1
    generalize nxN b 1 ⟨2, false⟩ = o at *
    have f2 := cOctet_ev k (by omega) b (by omega) ho o.2 (ok_p (by omega) c1)
    have c2 := nxN_ok (n := 1) c1
    generalize nxN b 1 o.2 = d at *
    have f3 := cShort_ev k (by omega) b (by omega) ho d.2 (ok_p (by omega) c2)
    have c3 := nxN_ok (n := 2) c2
    have r3 : 0 ≤ (nxN b 2 d.2).1 ∧ (nxN b 2 d.2).1 < 256 ^ 2 := nxN_range (n := 2) (c := d.2) ho
    generalize nxN b 2 d.2 = m at *
    have f4 := cBytes_ev k (by omega) b (by omega) m.1 (by omega) m.2 (ok_p (by omega) c3)
    have h4 := nxB_okL (n := m.1) (c := m.2) ho
    generalize nxB b m.1 m.2 = x at *
    have w1 := i64_in (o.1 - 128) (by omega)
    have f5 := EncRep_ev k (by omega) ⟨o.1 - 128, d.1, x.1⟩ (by simp only; omega)
    have h5 := encRep_ok (r := ⟨o.1 - 128, d.1, x.1⟩) h4.1
    generalize encRep ⟨o.1 - 128, d.1, x.1⟩ = y at *
    have f6 := is_ev k (by omega) b y.1 b ho h5 x.2 y.2
    simp only [cu] at f0 f1 f2 f3 f4 f6
    simp only [encT] at f5
    cases hi : isV b y.1 x.2 y.2 <;> rw [hi] at f6
    · simp only [s13, n13, ↓evPre, ev0, ev1, ev2, ev3, ev4, ev5, Nat.reduceLT, entE, getE, putE, ↓reduceIte, Nat.reduceEqDiff, argsE, Int.reduceEq, convertA, lenA, foldI, A.cells, A.leaf, List.replicate, viewA, getO, Nat.reduceLeDiff, loadA, cellsAt, cellsTo, faA, indexAddrA, asInt, Int.reduceLE, Int.reduceLT, Int.reduceToNat, eq_self, Nat.reducePow, Int.reducePow, Int.reduceAdd, Int.reduceMul, Int.reduceSub, Int.reduceNeg, keyOk, mapPutA, lookupA, mapOf, sliceA, boundI, elemsOf, appendA, storeA, setRange, indexA, Nat.reduceBEq, Int.cast_ofNat_Int, reduceCtorEq, Nat.reduceAdd, Nat.reduceMul, Nat.reduceSub, evTy0, evTy1, evTy2, evTy3, evTy4, evTy5, evTy6, evTy7, evTy8, callR_back f0 rfl, f1, f2, f3, f4, callR_data f5 rfl rfl, f6, w1, repT, zQ]
    · simp only [s13, n13, ↓evPre, ev0, ev1, ev2, ev3, ev4, ev5, Nat.reduceLT, entE, getE, putE, ↓reduceIte, Nat.reduceEqDiff, argsE, Int.reduceEq, convertA, lenA, foldI, A.cells, A.leaf, List.replicate, viewA, getO, Nat.reduceLeDiff, loadA, cellsAt, cellsTo, faA, indexAddrA, asInt, Int.reduceLE, Int.reduceLT, Int.reduceToNat, eq_self, Nat.reducePow, Int.reducePow, Int.reduceAdd, Int.reduceMul, Int.reduceSub, Int.reduceNeg, keyOk, mapPutA, lookupA, mapOf, sliceA, boundI, elemsOf, appendA, storeA, setRange, indexA, Nat.reduceBEq, Int.cast_ofNat_Int, reduceCtorEq, Nat.reduceAdd, Nat.reduceMul, Nat.reduceSub, evTy0, evTy1, evTy2, evTy3, evTy4, evTy5, evTy6, evTy7, evTy8, callR_back f0 rfl, f1, f2, f3, f4, callR_data f5 rfl rfl, f6, w1, repT]
  · rw [if_neg h]
    have f0 := open_no k (by omega) b ho h
    simp only [s13, n13, ↓evPre, ev0, ev1, ev2, ev3, ev4, ev5, Nat.reduceLT, entE, getE, putE, ↓reduceIte, Nat.reduceEqDiff, argsE, Int.reduceEq, convertA, lenA, foldI, A.cells, A.leaf, List.replicate, viewA, getO, Nat.reduceLeDiff, loadA, cellsAt, cellsTo, faA, indexAddrA, asInt, Int.reduceLE, Int.reduceLT, Int.reduceToNat, eq_self, Nat.reducePow, Int.reducePow, Int.reduceAdd, Int.reduceMul, Int.reduceSub, Int.reduceNeg, keyOk, mapPutA, lookupA, mapOf, sliceA, boundI, elemsOf, appendA, storeA, setRange, indexA, Nat.reduceBEq, Int.cast_ofNat_Int, reduceCtorEq, Nat.reduceAdd, Nat.reduceMul, Nat.reduceSub, evTy0, evTy1, evTy2, evTy3, evTy4, evTy5, evTy6, evTy7, evTy8, callR_data f0 rfl rfl, h, repT, zQ]
end Ka
end Ab
namespace Ab
open Go Go.Proofs Go.IntWalk
set_option maxRecDepth 10000
set_option linter.unusedSimpArgs false
set_option linter.unusedVariables false
namespace Ka
open Pr Key Fi

def reqT (v : Req × Int) : A := .tup [.agg [.d (.int .i64 v.1.op), .d (.str v.1.user.name), .d (.str v.1.user.inst), .d (.str v.1.user.realm), .d (.int .i64 v.1.kvno), .d (.str v.1.realm), .d (.sl 1 (ints .u8 v.1.tick)), .d (.str v.1.serv), .d (.str v.1.inst), .d (.sl 1 (ints .u8 v.1.box))], .d (.int .i64 v.2)]

theorem DecReq_ev (k : Nat) (hk : 300 ≤ k) (b : List Int) (hb : b.length ≤ 60000) (ho : okL b) : callF Try.prog Hs E1 k 12 [.d (.sl 1 (ints .u8 b))] [] = some (reqT (decReq b), []) := by
  obtain ⟨k, rfl⟩ : ∃ j, k = j + 1 := ⟨k - 1, by omega⟩
  refine evalE rfl Try.func12 l12 ?_ (Nat.le_of_ble_eq_true rfl)
  unfold decReq
  have ze : (⟨#[]⟩ : ByteArray) = ByteArray.empty := rfl
  by_cases h : hdE b = 0
  · rw [if_pos h]
    have f0 := open_ok k (by omega) b ho h
    have c0 := ok2 b
    have f1 := cOctet_ev k (by omega) b (by omega) ho ⟨2, false⟩ (ok_p (by omega) c0)
    have c1 := nxN_ok (n := 1) c0
    have r1 : 0 ≤ (nxN b 1 ⟨2, false⟩).1 ∧ (nxN b 1 ⟨2, false⟩).1 < 256 ^ 1 := nxN_range (n := 1) (c := ⟨2, false⟩) ho
    unfold rawReq
    simp only
    generalize nxN b 1 ⟨2, false⟩ = o at *
    by_cases q : o.1 = 2
    · simp only [q, if_true]
      rw [q] at f1
      have f2 := cOctet_ev k (by omega) b (by omega) ho o.2 (ok_p (by omega) c1)
      have c2 := nxN_ok (n := 1) c1
      generalize nxN b 1 o.2 = d at *
      have f3 := cText_ev k (by omega) b (by omega) ho d.2 (ok_p (by omega) c2)
      have c3 := nxT_ok c2
      have l3 := nxT_len b d.2
      generalize nxT b d.2 = t at *
      have f4 := cOctet_ev k (by omega) b (by omega) ho t.2 (ok_p (by omega) c3)
      have c4 := nxN_ok (n := 1) c3
      have r4 : 0 ≤ (nxN b 1 t.2).1 ∧ (nxN b 1 t.2).1 < 256 ^ 1 := nxN_range (n := 1) (c := t.2) ho
      generalize nxN b 1 t.2 = n at *
      have f5 := cBytes_ev k (by omega) b (by omega) n.1 (by omega) n.2 (ok_p (by omega) c4)
      have c5 := nxB_ok (n := n.1) c4
      have h5 := nxB_okL (n := n.1) (c := n.2) ho
      generalize nxB b n.1 n.2 = u at *
      have f6 := cText_ev k (by omega) b (by omega) ho u.2 (ok_p (by omega) c5)
      have c6 := nxT_ok c5
      have l6 := nxT_len b u.2
      generalize nxT b u.2 = s at *
      have f7 := cText_ev k (by omega) b (by omega) ho s.2 (ok_p (by omega) c6)
      have c7 := nxT_ok c6
      have l7 := nxT_len b s.2
      generalize nxT b s.2 = i at *
      have f8 := cShort_ev k (by omega) b (by omega) ho i.2 (ok_p (by omega) c7)
      have c8 := nxN_ok (n := 2) c7
      have r8 : 0 ≤ (nxN b 2 i.2).1 ∧ (nxN b 2 i.2).1 < 256 ^ 2 := nxN_range (n := 2) (c := i.2) ho
      generalize nxN b 2 i.2 = m at *
      have f9 := cBytes_ev k (by omega) b (by omega) m.1 (by omega) m.2 (ok_p (by omega) c8)
      have h9 := nxB_okL (n := m.1) (c := m.2) ho
      generalize nxB b m.1 m.2 = x at *
      have g1 := EncReq_ev k (by omega) ⟨2, zP, d.1, t.1, u.1, s.1, i.1, x.1⟩ ⟨⟨Nat.zero_le _, Nat.zero_le _, Nat.zero_le _⟩, by simp only; omega, by simp only; omega, by simp only; omega, by simp only; omega, by simp only; omega⟩
      have g2 := encReq_ok (r := ⟨2, zP, d.1, t.1, u.1, s.1, i.1, x.1⟩) h5.1 h9.1
      generalize encReq ⟨2, zP, d.1, t.1, u.1, s.1, i.1, x.1⟩ = y at *
      have g3 := is_ev k (by omega) b y.1 b ho g2 x.2 y.2
      simp only [cu] at f0 f1 f2 f3 f4 f5 f6 f7 f8 f9 g3
      simp only [encT, zP] at g1
      cases hi : isV b y.1 x.2 y.2 <;> rw [hi] at g3
      · simp only [s12, n12, ↓evPre, ev0, ev1, ev2, ev3, ev4, ev5, Nat.reduceLT, entE, getE, putE, ↓reduceIte, Nat.reduceEqDiff, argsE, Int.reduceEq, convertA, lenA, foldI, A.cells, A.leaf, List.replicate, viewA, getO, Nat.reduceLeDiff, loadA, cellsAt, cellsTo, faA, indexAddrA, asInt, Int.reduceLE, Int.reduceLT, Int.reduceToNat, eq_self, Nat.reducePow, Int.reducePow, Int.reduceAdd, Int.reduceMul, Int.reduceSub, Int.reduceNeg, keyOk, mapPutA, lookupA, mapOf, sliceA, boundI, elemsOf, appendA, storeA, setRange, indexA, Nat.reduceBEq, Int.cast_ofNat_Int, reduceCtorEq, Nat.reduceAdd, Nat.reduceMul, Nat.reduceSub, evTy0, evTy1, evTy2, evTy3, evTy4, evTy5, evTy6, evTy7, evTy8, ze, callR_back f0 rfl, f1, f2, f3, f4, f5, f6, f7, f8, f9, callR_data g1 rfl rfl, g3, reqT, zR, zP]
      · simp only [s12, n12, ↓evPre, ev0, ev1, ev2, ev3, ev4, ev5, Nat.reduceLT, entE, getE, putE, ↓reduceIte, Nat.reduceEqDiff, argsE, Int.reduceEq, convertA, lenA, foldI, A.cells, A.leaf, List.replicate, viewA, getO, Nat.reduceLeDiff, loadA, cellsAt, cellsTo, faA, indexAddrA, asInt, Int.reduceLE, Int.reduceLT, Int.reduceToNat, eq_self, Nat.reducePow, Int.reducePow, Int.reduceAdd, Int.reduceMul, Int.reduceSub, Int.reduceNeg, keyOk, mapPutA, lookupA, mapOf, sliceA, boundI, elemsOf, appendA, storeA, setRange, indexA, Nat.reduceBEq, Int.cast_ofNat_Int, reduceCtorEq, Nat.reduceAdd, Nat.reduceMul, Nat.reduceSub, evTy0, evTy1, evTy2, evTy3, evTy4, evTy5, evTy6, evTy7, evTy8, ze, callR_back f0 rfl, f1, f2, f3, f4, f5, f6, f7, f8, f9, callR_data g1 rfl rfl, g3, reqT, zP]
    · simp only [q, if_false]
      have f2 := cPrincipal_ev k (by omega) b (by omega) ho o.2 (ok_p (by omega) c1)
      have c2 := nxP_ok c1
      have l2 := nxP_len b o.2
      generalize nxP b o.2 = u at *
      have f8 := cShort_ev k (by omega) b (by omega) ho u.2 (ok_p (by omega) c2)
      have c8 := nxN_ok (n := 2) c2
      have r8 : 0 ≤ (nxN b 2 u.2).1 ∧ (nxN b 2 u.2).1 < 256 ^ 2 := nxN_range (n := 2) (c := u.2) ho
      generalize nxN b 2 u.2 = m at *
      have f9 := cBytes_ev k (by omega) b (by omega) m.1 (by omega) m.2 (ok_p (by omega) c8)
      have h9 := nxB_okL (n := m.1) (c := m.2) ho
      generalize nxB b m.1 m.2 = x at *
      have g1 := EncReq_ev k (by omega) ⟨o.1, u.1, 0, ByteArray.empty, [], ByteArray.empty, ByteArray.empty, x.1⟩ ⟨⟨by have := l2.1; simp only; omega, by have := l2.2.1; simp only; omega, by have := l2.2.2; simp only; omega⟩, Nat.zero_le _, Nat.zero_le _, Nat.zero_le _, Nat.zero_le _, by simp only; omega⟩
      have g2 := encReq_ok (r := ⟨o.1, u.1, 0, ByteArray.empty, [], ByteArray.empty, ByteArray.empty, x.1⟩) okL_nil h9.1
      generalize encReq ⟨o.1, u.1, 0, ByteArray.empty, [], ByteArray.empty, ByteArray.empty, x.1⟩ = y at *
      have g3 := is_ev k (by omega) b y.1 b ho g2 x.2 y.2
      have ni : ints .u8 [] = [] := rfl
      simp only [cu] at f0 f1 f2 f8 f9 g3
      simp only [encT, ni] at g1
      cases hi : isV b y.1 x.2 y.2 <;> rw [hi] at g3
      · simp only [s12, n12, ↓evPre, ev0, ev1, ev2, ev3, ev4, ev5, Nat.reduceLT, entE, getE, putE, ↓reduceIte, Nat.reduceEqDiff, argsE, Int.reduceEq, convertA, lenA, foldI, A.cells, A.leaf, List.replicate, viewA, getO, Nat.reduceLeDiff, loadA, cellsAt, cellsTo, faA, indexAddrA, asInt, Int.reduceLE, Int.reduceLT, Int.reduceToNat, eq_self, Nat.reducePow, Int.reducePow, Int.reduceAdd, Int.reduceMul, Int.reduceSub, Int.reduceNeg, keyOk, mapPutA, lookupA, mapOf, sliceA, boundI, elemsOf, appendA, storeA, setRange, indexA, Nat.reduceBEq, Int.cast_ofNat_Int, reduceCtorEq, Nat.reduceAdd, Nat.reduceMul, Nat.reduceSub, evTy0, evTy1, evTy2, evTy3, evTy4, evTy5, evTy6, evTy7, evTy8, ze, callR_back f0 rfl, f1, q, f2, f8, f9, callR_data g1 rfl rfl, g3, reqT, zR, zP]
      · simp only [s12, n12, ↓evPre, ev0, ev1, ev2, ev3, ev4, ev5, Nat.reduceLT, entE, getE, putE, ↓reduceIte, Nat.reduceEqDiff, argsE, Int.reduceEq, convertA, lenA, foldI, A.cells, A.leaf, List.replicate, viewA, getO, Nat.reduceLeDiff, loadA, cellsAt, cellsTo, faA, indexAddrA, asInt, Int.reduceLE, Int.reduceLT, Int.reduceToNat, eq_self, Nat.reducePow, Int.reducePow, Int.reduceAdd, Int.reduceMul, Int.reduceSub, Int.reduceNeg, keyOk, mapPutA, lookupA, mapOf, sliceA, boundI, elemsOf, appendA, storeA, setRange, indexA, Nat.reduceBEq, Int.cast_ofNat_Int, reduceCtorEq, Nat.reduceAdd, Nat.reduceMul, Nat.reduceSub, evTy0, evTy1, evTy2, evTy3, evTy4, evTy5, evTy6, evTy7, evTy8, ze, callR_back f0 rfl, f1, q, f2, f8, f9, callR_data g1 rfl rfl, g3, reqT]
  · rw [if_neg h]
    have f0 := open_no k (by omega) b ho h
    simp only [s12, n12, ↓evPre, ev0, ev1, ev2, ev3, ev4, ev5, Nat.reduceLT, entE, getE, putE, ↓reduceIte, Nat.reduceEqDiff, argsE, Int.reduceEq, convertA, lenA, foldI, A.cells, A.leaf, List.replicate, viewA, getO, Nat.reduceLeDiff, loadA, cellsAt, cellsTo, faA, indexAddrA, asInt, Int.reduceLE, Int.reduceLT, Int.reduceToNat, eq_self, Nat.reducePow, Int.reducePow, Int.reduceAdd, Int.reduceMul, Int.reduceSub, Int.reduceNeg, keyOk, mapPutA, lookupA, mapOf, sliceA, boundI, elemsOf, appendA, storeA, setRange, indexA, Nat.reduceBEq, Int.cast_ofNat_Int, reduceCtorEq, Nat.reduceAdd, Nat.reduceMul, Nat.reduceSub, evTy0, evTy1, evTy2, evTy3, evTy4, evTy5, evTy6, evTy7, evTy8, ze, callR_data f0 rfl rfl, h, reqT, zR, zP]
end Ka
end Ab
namespace Ab
open Go Go.Proofs Go.IntWalk
set_option maxRecDepth 10000
set_option linter.unusedSimpArgs false
set_option linter.unusedVariables false
namespace Ka
open Pr Key Fi

/-! ### The document's answer -/
theorem RPut_ev (k : Nat) (hk : 5 ≤ k) : callF Try.prog Hs E1 k 42 [.d (.int .i64 9), .d (.bool false)] [] = some (.d (.sl 1 (ints .u8 [4, 18])), []) := by
  obtain ⟨k, rfl⟩ : ∃ j, k = j + 5 := ⟨k - 5, by omega⟩
  kernel_rfl

theorem w64 (n : Int) : IntKind.u64.wrap n = n % 18446744073709551616 := by
  simp [IntKind.wrap, IntKind.bits, IntKind.signed]

theorem rput1_ev (k : Nat) (hk : 6 ≤ k) (b : List Int) (n : Int) (hl : b.length ≤ 900000) : callF Try.prog Hs E1 k 78 [.d (.sl 1 (ints .u8 b)), .d (.int .i64 n), .d (.int .i64 1), .d (.bool false)] [] = some (.arr 0 0 (b ++ wb1 n).length (b ++ wb1 n).length, [.arr 1 (ints .u8 (b ++ wb1 n)) false]) := by
  obtain ⟨k, rfl⟩ : ∃ j, k = j + 4 := ⟨k - 4, by omega⟩
  refine evalE rfl Try.func78 l78 ?_ (Nat.le_of_ble_eq_true rfl)
  have hb1 : b.length ≤ 140737488355328 := by omega
  have hb2 : b.length + 1 ≤ 140737488355328 := by omega
  have q0 : n % 18446744073709551616 % 256 = n % 256 := by omega
  unfold wb1
  simp only [s78, n78, s78_0, ↓l_succ, ↓evPre, ev0, ev1, ev2, ev3, ev4, ev5, Nat.reduceLT, entE, getE, putE, ↓reduceIte, Nat.reduceEqDiff, argsE, Int.reduceEq, convertA, lenA, foldI, A.cells, A.leaf, List.replicate, viewA, getO, Nat.reduceLeDiff, loadA, cellsAt, cellsTo, faA, indexAddrA, asInt, Int.reduceLE, Int.reduceLT, Int.reduceToNat, eq_self, Nat.reducePow, Int.reducePow, Int.reduceAdd, Int.reduceMul, Int.reduceSub, Int.reduceNeg, keyOk, mapPutA, lookupA, mapOf, sliceA, boundI, elemsOf, appendA, storeA, setRange, indexA, Nat.reduceBEq, Int.cast_ofNat_Int, reduceCtorEq, Nat.reduceAdd, Nat.reduceMul, Nat.reduceSub, evTy0, evTy1, evTy2, evTy3, evTy4, evTy5, evTy6, evTy7, evTy8, w64, u8_mod, fd1, q0, hb1, hb2, List.length_append]

theorem rput2_ev (k : Nat) (hk : 6 ≤ k) (b : List Int) (n : Int) (hl : b.length ≤ 900000) : callF Try.prog Hs E1 k 78 [.d (.sl 1 (ints .u8 b)), .d (.int .i64 n), .d (.int .i64 2), .d (.bool false)] [] = some (.arr 0 0 (b ++ wb2 n).length (b ++ wb2 n).length, [.arr 1 (ints .u8 (b ++ wb2 n)) false]) := by
  obtain ⟨k, rfl⟩ : ∃ j, k = j + 4 := ⟨k - 4, by omega⟩
  refine evalE rfl Try.func78 l78 ?_ (Nat.le_of_ble_eq_true rfl)
  have hb1 : b.length ≤ 140737488355328 := by omega
  have hb2 : b.length + 1 ≤ 140737488355328 := by omega
  have hb3 : b.length + 1 + 1 ≤ 140737488355328 := by omega
  have q0 : n % 18446744073709551616 % 256 = n % 256 := by omega
  have q1 : n % 18446744073709551616 / 256 % 256 = n / 256 % 256 := by omega
  unfold wb2
  simp only [s78, n78, s78_0, ↓l_succ, ↓evPre, ev0, ev1, ev2, ev3, ev4, ev5, Nat.reduceLT, entE, getE, putE, ↓reduceIte, Nat.reduceEqDiff, argsE, Int.reduceEq, convertA, lenA, foldI, A.cells, A.leaf, List.replicate, viewA, getO, Nat.reduceLeDiff, loadA, cellsAt, cellsTo, faA, indexAddrA, asInt, Int.reduceLE, Int.reduceLT, Int.reduceToNat, eq_self, Nat.reducePow, Int.reducePow, Int.reduceAdd, Int.reduceMul, Int.reduceSub, Int.reduceNeg, keyOk, mapPutA, lookupA, mapOf, sliceA, boundI, elemsOf, appendA, storeA, setRange, indexA, Nat.reduceBEq, Int.cast_ofNat_Int, reduceCtorEq, Nat.reduceAdd, Nat.reduceMul, Nat.reduceSub, evTy0, evTy1, evTy2, evTy3, evTy4, evTy5, evTy6, evTy7, evTy8, w64, u8_mod, fd1, fd (m := 256) (by omega), q0, q1, hb1, hb2, hb3, List.length_append, List.append_assoc, Nat.add_assoc]

theorem RPutOctet_ev (k : Nat) (hk : 8 ≤ k) (b : List Int) (n : Int) (hl : b.length ≤ 900000) : callF Try.prog Hs E1 k 41 [.d (.sl 1 (ints .u8 b)), .d (.int .i64 n)] [] = some (.arr 0 0 (b ++ wb1 n).length (b ++ wb1 n).length, [.arr 1 (ints .u8 (b ++ wb1 n)) false]) := by
  obtain ⟨k, rfl⟩ : ∃ j, k = j + 1 := ⟨k - 1, by omega⟩
  refine evalE rfl Try.func41 l41 ?_ (Nat.le_of_ble_eq_true rfl)
  have f1 := rput1_ev k (by omega) b n hl
  simp only [s41, n41, ↓evPre, ev0, ev1, ev2, ev3, ev4, ev5, Nat.reduceLT, entE, getE, putE, ↓reduceIte, Nat.reduceEqDiff, argsE, Int.reduceEq, convertA, lenA, foldI, A.cells, A.leaf, List.replicate, viewA, getO, Nat.reduceLeDiff, loadA, cellsAt, cellsTo, faA, indexAddrA, asInt, Int.reduceLE, Int.reduceLT, Int.reduceToNat, eq_self, Nat.reducePow, Int.reducePow, Int.reduceAdd, Int.reduceMul, Int.reduceSub, Int.reduceNeg, keyOk, mapPutA, lookupA, mapOf, sliceA, boundI, elemsOf, appendA, storeA, setRange, indexA, Nat.reduceBEq, Int.cast_ofNat_Int, reduceCtorEq, Nat.reduceAdd, Nat.reduceMul, Nat.reduceSub, evTy0, evTy1, evTy2, evTy3, evTy4, evTy5, evTy6, evTy7, evTy8, callR_new f1 rfl]

theorem RPutShort_ev (k : Nat) (hk : 8 ≤ k) (b : List Int) (n : Int) (hl : b.length ≤ 900000) : callF Try.prog Hs E1 k 45 [.d (.sl 1 (ints .u8 b)), .d (.int .i64 n), .d (.bool false)] [] = some (.arr 0 0 (b ++ wb2 n).length (b ++ wb2 n).length, [.arr 1 (ints .u8 (b ++ wb2 n)) false]) := by
  obtain ⟨k, rfl⟩ : ∃ j, k = j + 1 := ⟨k - 1, by omega⟩
  refine evalE rfl Try.func45 l45 ?_ (Nat.le_of_ble_eq_true rfl)
  have f1 := rput2_ev k (by omega) b n hl
  simp only [s45, n45, ↓evPre, ev0, ev1, ev2, ev3, ev4, ev5, Nat.reduceLT, entE, getE, putE, ↓reduceIte, Nat.reduceEqDiff, argsE, Int.reduceEq, convertA, lenA, foldI, A.cells, A.leaf, List.replicate, viewA, getO, Nat.reduceLeDiff, loadA, cellsAt, cellsTo, faA, indexAddrA, asInt, Int.reduceLE, Int.reduceLT, Int.reduceToNat, eq_self, Nat.reducePow, Int.reducePow, Int.reduceAdd, Int.reduceMul, Int.reduceSub, Int.reduceNeg, keyOk, mapPutA, lookupA, mapOf, sliceA, boundI, elemsOf, appendA, storeA, setRange, indexA, Nat.reduceBEq, Int.cast_ofNat_Int, reduceCtorEq, Nat.reduceAdd, Nat.reduceMul, Nat.reduceSub, evTy0, evTy1, evTy2, evTy3, evTy4, evTy5, evTy6, evTy7, evTy8, callR_new f1 rfl]

theorem REncRep_ev (k : Nat) (hk : 40 ≤ k) (r : Rep) (hr : r.box.length ≤ 70000) : callF Try.prog Hs E1 k 16 [.agg [.d (.int .i64 r.op), .d (.int .i64 r.code), .d (.sl 1 (ints .u8 r.box))]] [] = some (encT (encRep r), []) := by
  obtain ⟨k, rfl⟩ : ∃ j, k = j + 1 := ⟨k - 1, by omega⟩
  refine evalE rfl Try.func16 l16 ?_ (Nat.le_of_ble_eq_true rfl)
  unfold encRep repE
  by_cases a1 : r.op < 1
  · have h1 : ¬ (1 ≤ r.op ∧ r.op ≤ 3) := by omega
    rw [if_pos h1]
    simp only [s16, n16, ↓evPre, ev0, ev1, ev2, ev3, ev4, ev5, Nat.reduceLT, entE, getE, putE, ↓reduceIte, Nat.reduceEqDiff, argsE, Int.reduceEq, convertA, lenA, foldI, A.cells, A.leaf, List.replicate, viewA, getO, Nat.reduceLeDiff, loadA, cellsAt, cellsTo, faA, indexAddrA, asInt, Int.reduceLE, Int.reduceLT, Int.reduceToNat, eq_self, Nat.reducePow, Int.reducePow, Int.reduceAdd, Int.reduceMul, Int.reduceSub, Int.reduceNeg, keyOk, mapPutA, lookupA, mapOf, sliceA, boundI, elemsOf, appendA, storeA, setRange, indexA, Nat.reduceBEq, Int.cast_ofNat_Int, reduceCtorEq, Nat.reduceAdd, Nat.reduceMul, Nat.reduceSub, evTy0, evTy1, evTy2, evTy3, evTy4, evTy5, evTy6, evTy7, evTy8, a1, encT]
  by_cases a2 : 3 < r.op
  · have h1 : ¬ (1 ≤ r.op ∧ r.op ≤ 3) := by omega
    rw [if_pos h1]
    simp only [s16, n16, ↓evPre, ev0, ev1, ev2, ev3, ev4, ev5, Nat.reduceLT, entE, getE, putE, ↓reduceIte, Nat.reduceEqDiff, argsE, Int.reduceEq, convertA, lenA, foldI, A.cells, A.leaf, List.replicate, viewA, getO, Nat.reduceLeDiff, loadA, cellsAt, cellsTo, faA, indexAddrA, asInt, Int.reduceLE, Int.reduceLT, Int.reduceToNat, eq_self, Nat.reducePow, Int.reducePow, Int.reduceAdd, Int.reduceMul, Int.reduceSub, Int.reduceNeg, keyOk, mapPutA, lookupA, mapOf, sliceA, boundI, elemsOf, appendA, storeA, setRange, indexA, Nat.reduceBEq, Int.cast_ofNat_Int, reduceCtorEq, Nat.reduceAdd, Nat.reduceMul, Nat.reduceSub, evTy0, evTy1, evTy2, evTy3, evTy4, evTy5, evTy6, evTy7, evTy8, a1, a2, encT]
  have n1' : ¬ ¬ (1 ≤ r.op ∧ r.op ≤ 3) := by simp; omega
  rw [if_neg n1']
  by_cases a3 : r.code < 0
  · have h2 : ¬ (0 ≤ r.code ∧ r.code ≤ 99) := by omega
    rw [if_pos h2]
    simp only [s16, n16, ↓evPre, ev0, ev1, ev2, ev3, ev4, ev5, Nat.reduceLT, entE, getE, putE, ↓reduceIte, Nat.reduceEqDiff, argsE, Int.reduceEq, convertA, lenA, foldI, A.cells, A.leaf, List.replicate, viewA, getO, Nat.reduceLeDiff, loadA, cellsAt, cellsTo, faA, indexAddrA, asInt, Int.reduceLE, Int.reduceLT, Int.reduceToNat, eq_self, Nat.reducePow, Int.reducePow, Int.reduceAdd, Int.reduceMul, Int.reduceSub, Int.reduceNeg, keyOk, mapPutA, lookupA, mapOf, sliceA, boundI, elemsOf, appendA, storeA, setRange, indexA, Nat.reduceBEq, Int.cast_ofNat_Int, reduceCtorEq, Nat.reduceAdd, Nat.reduceMul, Nat.reduceSub, evTy0, evTy1, evTy2, evTy3, evTy4, evTy5, evTy6, evTy7, evTy8, a1, a2, a3, encT]
  by_cases a4 : 99 < r.code
  · have h2 : ¬ (0 ≤ r.code ∧ r.code ≤ 99) := by omega
    rw [if_pos h2]
    simp only [s16, n16, ↓evPre, ev0, ev1, ev2, ev3, ev4, ev5, Nat.reduceLT, entE, getE, putE, ↓reduceIte, Nat.reduceEqDiff, argsE, Int.reduceEq, convertA, lenA, foldI, A.cells, A.leaf, List.replicate, viewA, getO, Nat.reduceLeDiff, loadA, cellsAt, cellsTo, faA, indexAddrA, asInt, Int.reduceLE, Int.reduceLT, Int.reduceToNat, eq_self, Nat.reducePow, Int.reducePow, Int.reduceAdd, Int.reduceMul, Int.reduceSub, Int.reduceNeg, keyOk, mapPutA, lookupA, mapOf, sliceA, boundI, elemsOf, appendA, storeA, setRange, indexA, Nat.reduceBEq, Int.cast_ofNat_Int, reduceCtorEq, Nat.reduceAdd, Nat.reduceMul, Nat.reduceSub, evTy0, evTy1, evTy2, evTy3, evTy4, evTy5, evTy6, evTy7, evTy8, a1, a2, a3, a4, encT]
  have n2' : ¬ ¬ (0 ≤ r.code ∧ r.code ≤ 99) := by simp; omega
  rw [if_neg n2']
  by_cases h3 : 1012 < (r.box.length : Int)
  · rw [if_pos h3]
    simp only [s16, n16, ↓evPre, ev0, ev1, ev2, ev3, ev4, ev5, Nat.reduceLT, entE, getE, putE, ↓reduceIte, Nat.reduceEqDiff, argsE, Int.reduceEq, convertA, lenA, foldI, A.cells, A.leaf, List.replicate, viewA, getO, Nat.reduceLeDiff, loadA, cellsAt, cellsTo, faA, indexAddrA, asInt, Int.reduceLE, Int.reduceLT, Int.reduceToNat, eq_self, Nat.reducePow, Int.reducePow, Int.reduceAdd, Int.reduceMul, Int.reduceSub, Int.reduceNeg, keyOk, mapPutA, lookupA, mapOf, sliceA, boundI, elemsOf, appendA, storeA, setRange, indexA, Nat.reduceBEq, Int.cast_ofNat_Int, reduceCtorEq, Nat.reduceAdd, Nat.reduceMul, Nat.reduceSub, evTy0, evTy1, evTy2, evTy3, evTy4, evTy5, evTy6, evTy7, evTy8, a1, a2, a3, a4, h3, encT]
  · rw [if_neg h3]
    have f3 := RPut_ev k (by omega)
    have w1 := i64_in (r.op + 128) (by omega)
    have f4 := RPutOctet_ev k (by omega) [4, 18] (r.op + 128) (by simp)
    have f5 := RPutOctet_ev k (by omega) ([4, 18] ++ wb1 (r.op + 128)) r.code (by simp [wb1])
    have f6 := RPutShort_ev k (by omega) ([4, 18] ++ wb1 (r.op + 128) ++ wb1 r.code) r.box.length (by simp [wb1])
    have b7 : ([4, 18] ++ wb1 (r.op + 128) ++ wb1 r.code ++ wb2 (r.box.length : Int)).length + r.box.length ≤ 140737488355328 := by simp [wb1, wb2]; omega
    have eB : repB r = [4, 18] ++ wb1 (r.op + 128) ++ wb1 r.code ++ wb2 (r.box.length : Int) ++ r.box := by simp [repB]
    rw [eB]
    generalize hL1 : [4, 18] ++ wb1 (r.op + 128) = L1 at *
    generalize hL2 : L1 ++ wb1 r.code = L2 at *
    generalize hL3 : L2 ++ wb2 (r.box.length : Int) = L3 at *
    by_cases h4 : r.code = 0
    · have h4' : ¬ (r.code ≠ 0 ∧ r.box ≠ []) := fun h => h.1 h4
      rw [if_neg h4', if_pos rfl]
      rw [h4] at f5
      simp only [s16, n16, ↓evPre, ev0, ev1, ev2, ev3, ev4, ev5, Nat.reduceLT, entE, getE, putE, ↓reduceIte, Nat.reduceEqDiff, argsE, Int.reduceEq, convertA, lenA, foldI, A.cells, A.leaf, List.replicate, viewA, getO, Nat.reduceLeDiff, loadA, cellsAt, cellsTo, faA, indexAddrA, asInt, Int.reduceLE, Int.reduceLT, Int.reduceToNat, eq_self, Nat.reducePow, Int.reducePow, Int.reduceAdd, Int.reduceMul, Int.reduceSub, Int.reduceNeg, keyOk, mapPutA, lookupA, mapOf, sliceA, boundI, elemsOf, appendA, storeA, setRange, indexA, Nat.reduceBEq, Int.cast_ofNat_Int, reduceCtorEq, Nat.reduceAdd, Nat.reduceMul, Nat.reduceSub, evTy0, evTy1, evTy2, evTy3, evTy4, evTy5, evTy6, evTy7, evTy8, callR_data f3 rfl rfl, callR_new f4 rfl, callR_new f5 rfl, callR_new f6 rfl, a1, a2, h3, h4, w1, b7, encT]
    · by_cases h5 : r.box = []
      · have h4' : ¬ (r.code ≠ 0 ∧ r.box ≠ []) := fun h => h.2 h5
        rw [if_neg h4', if_pos rfl]
        have h5' : ¬ 0 < (r.box.length : Int) := by rw [h5]; simp
        simp only [s16, n16, ↓evPre, ev0, ev1, ev2, ev3, ev4, ev5, Nat.reduceLT, entE, getE, putE, ↓reduceIte, Nat.reduceEqDiff, argsE, Int.reduceEq, convertA, lenA, foldI, A.cells, A.leaf, List.replicate, viewA, getO, Nat.reduceLeDiff, loadA, cellsAt, cellsTo, faA, indexAddrA, asInt, Int.reduceLE, Int.reduceLT, Int.reduceToNat, eq_self, Nat.reducePow, Int.reducePow, Int.reduceAdd, Int.reduceMul, Int.reduceSub, Int.reduceNeg, keyOk, mapPutA, lookupA, mapOf, sliceA, boundI, elemsOf, appendA, storeA, setRange, indexA, Nat.reduceBEq, Int.cast_ofNat_Int, reduceCtorEq, Nat.reduceAdd, Nat.reduceMul, Nat.reduceSub, evTy0, evTy1, evTy2, evTy3, evTy4, evTy5, evTy6, evTy7, evTy8, callR_data f3 rfl rfl, callR_new f4 rfl, callR_new f5 rfl, callR_new f6 rfl, a1, a2, a3, a4, h3, h4, h5', w1, b7, encT]
      · have q : (if r.code ≠ 0 ∧ r.box ≠ [] then (108 : Int) else 0) = 108 := if_pos ⟨h4, h5⟩
        rw [q, if_neg (by omega)]
        have h5' : 0 < (r.box.length : Int) := by have := nilI h5; omega
        simp only [s16, n16, ↓evPre, ev0, ev1, ev2, ev3, ev4, ev5, Nat.reduceLT, entE, getE, putE, ↓reduceIte, Nat.reduceEqDiff, argsE, Int.reduceEq, convertA, lenA, foldI, A.cells, A.leaf, List.replicate, viewA, getO, Nat.reduceLeDiff, loadA, cellsAt, cellsTo, faA, indexAddrA, asInt, Int.reduceLE, Int.reduceLT, Int.reduceToNat, eq_self, Nat.reducePow, Int.reducePow, Int.reduceAdd, Int.reduceMul, Int.reduceSub, Int.reduceNeg, keyOk, mapPutA, lookupA, mapOf, sliceA, boundI, elemsOf, appendA, storeA, setRange, indexA, Nat.reduceBEq, Int.cast_ofNat_Int, reduceCtorEq, Nat.reduceAdd, Nat.reduceMul, Nat.reduceSub, evTy0, evTy1, evTy2, evTy3, evTy4, evTy5, evTy6, evTy7, evTy8, a1, a2, a3, a4, h3, h4, h5', encT]

theorem SameRep_ev (k : Nat) (hk : 1 ≤ k) (r : Rep) : callF Try.prog Hs E1 k 17 [.agg [.d (.int .i64 r.op), .d (.int .i64 r.code), .d (.sl 1 (ints .u8 r.box))], .agg [.d (.int .i64 r.op), .d (.int .i64 r.code), .d (.sl 1 (ints .u8 r.box))]] [] = some (.d (.bool true), []) := by
  obtain ⟨k, rfl⟩ : ∃ j, k = j + 1 := ⟨k - 1, by omega⟩
  refine evalE rfl Try.func17 l17 ?_ (Nat.le_of_ble_eq_true rfl)
  simp only [s17, n17, ↓evPre, ev0, ev1, ev2, ev3, ev4, ev5, Nat.reduceLT, entE, getE, putE, ↓reduceIte, Nat.reduceEqDiff, argsE, Int.reduceEq, convertA, lenA, foldI, A.cells, A.leaf, List.replicate, viewA, getO, Nat.reduceLeDiff, loadA, cellsAt, cellsTo, faA, indexAddrA, asInt, Int.reduceLE, Int.reduceLT, Int.reduceToNat, eq_self, Nat.reducePow, Int.reducePow, Int.reduceAdd, Int.reduceMul, Int.reduceSub, Int.reduceNeg, keyOk, mapPutA, lookupA, mapOf, sliceA, boundI, elemsOf, appendA, storeA, setRange, indexA, Nat.reduceBEq, Int.cast_ofNat_Int, reduceCtorEq, Nat.reduceAdd, Nat.reduceMul, Nat.reduceSub, evTy0, evTy1, evTy2, evTy3, evTy4, evTy5, evTy6, evTy7, evTy8, strOf_ints]

theorem awake_ev (k : Nat) (hk : 300 ≤ k) : callF Try.prog Hs E1 k 7 [] [] = some (.d (.bool true), []) := by
  obtain ⟨k, rfl⟩ : ∃ j, k = j + 300 := ⟨k - 300, by omega⟩
  kernel_rfl
end Ka
end Ab
