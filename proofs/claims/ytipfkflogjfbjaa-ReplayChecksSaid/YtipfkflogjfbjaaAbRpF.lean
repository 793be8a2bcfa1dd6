/- A part of the proof of a row by an interpreter that is proved sound; no conditions of its own. -/
import Derived.Test.YtipfkflogjfbjaaAbRpE
namespace Ab
open Go Go.Proofs Go.IntWalk
set_option maxRecDepth 10000
set_option linter.unusedSimpArgs false
set_option linter.unusedVariables false
namespace Rp
open Pr Cv

theorem new_len (n : Int) : (newV n).1.ms.length = 0 := by unfold newV; split <;> rfl

theorem set_map (l : List Mk) (i : Nat) (b : Mk) : (l.map Mk.d).set i [.str b.n, .str b.i, .str b.r, .int .i64 b.t, .int .i64 b.k] = (l.set i b).map Mk.d := by
  rw [List.map_set]; rfl

theorem ok_set {s f : Int} {l : List Mk} {b : Mk} {i : Nat} (h : (⟨s, f, l⟩ : Ca).ok) (hb : b.c.ok 100) (s' f' : Int) : (⟨s', f', l.set i b⟩ : Ca).ok := by
  refine ⟨by have := h.1; simpa using this, fun m hm => ?_⟩
  rcases List.mem_or_eq_of_mem_set hm with h1 | h1
  · exact h.2 m h1
  · rw [h1]; exact hb

theorem ok_snoc {s f : Int} {l : List Mk} {b : Mk} (h : (⟨s, f, l⟩ : Ca).ok) (hb : b.c.ok 100) (hl : l.length < 100) (s' f' : Int) : (⟨s', f', l ++ [b]⟩ : Ca).ok := by
  refine ⟨by simp; omega, fun m hm => ?_⟩
  rw [List.mem_append, List.mem_singleton] at hm
  rcases hm with h1 | h1
  · exact h.2 m h1
  · rw [h1]; exact hb

theorem take_set {l : List Mk} {i : Nat} {b : Mk} : List.take l.length ((l.set i b).map Mk.d) = (l.set i b).map Mk.d := by
  have := take_whole (l.set i b)
  rwa [List.length_set] at this

theorem mod5 {n : Int} (h : 0 ≤ n) : n % 5 = 0 ∨ n % 5 = 1 ∨ n % 5 = 2 ∨ n % 5 = 3 ∨ n % 5 = 4 := by omega

theorem Checks_F0 (k : Nat) (hk : 400 ≤ k) (c : Ca) (hlong : longB c = false) (sz sk : Int) (hsz : 0 ≤ sz ∧ sz ≤ 255) (hsk : 0 ≤ sk ∧ sk ≤ 255) (l : List Us) (hl : l.length ≤ 60) (hu : ∀ u ∈ l, u.ok) (fi at' n : Int) (hfi : 0 ≤ fi ∧ fi ≤ 255) (hat : 0 ≤ at' ∧ at' ≤ 255) (hm : fi % 7 = 0) :
    callF Try.prog Hs E1 k 6 [.agg [.d (.int .i64 c.s), .d (.int .i64 c.f), .d (.sl 5 (c.ms.map Mk.d))], .d (.int .u8 sz), .d (.int .u8 sk), .d (.sl 4 (l.map Us.d)), .d (.int .u8 fi), .d (.int .u8 at'), .d (.int .i64 n)] [] = some (.d (.bool true), []) := by
  obtain ⟨k, rfl⟩ : ∃ j, k = j + 1 := ⟨k - 1, by omega⟩
  refine evalE rfl Try.func6 l6 ?_ (Nat.le_of_ble_eq_true rfl)
  have aw := awake_ev k (by omega)
  have lg := long_ev k (by omega) c
  rw [hlong] at lg
  have fl := filled_ev k (by omega) sz sk hsz hsk l hl hu
  have hR : checkV (play (sk % 40) l ⟨1 + sz % 40, 0, []⟩) = 0 := play_check l _ (new_check (by omega)).2
  generalize play (sk % 40) l ⟨1 + sz % 40, 0, []⟩ = R at fl hR
  generalize cnt (sk % 40) l ⟨1 + sz % 40, 0, []⟩ 0 = N at fl
  have okR := check_cok hR
  have c1 := Check_ev k (by omega) R okR
  rw [hR] at c1
  have c2 := Check_ev k (by omega) c (long_ok hlong)
  have c3 := refCheck_ev k (by omega) c (long_ok hlong)
  generalize checkV c = cc at c2 c3
  obtain ⟨bn1, bn2, bn3, bn4⟩ := check_iff.1 hR
  have a1 := New_ev k (by omega) n
  have a2 := refNew_ev k (by omega) n
  have s1 := Same_ev k (newV n).1 (by rw [new_len]; omega) (by rw [new_len]; omega)
  have a3 := New_ev k (by omega) (at' % 43)
  have a4 := refNew_ev k (by omega) (at' % 43)
  have s2 := Same_ev k (newV (at' % 43)).1 (by rw [new_len]; omega) (by rw [new_len]; omega)
  generalize newV n = NA at a1 a2 s1
  generalize newV (at' % 43) = NB at a3 a4 s2
  obtain ⟨⟨na1, na2, na3⟩, na4⟩ := NA
  obtain ⟨⟨nb1, nb2, nb3⟩, nb4⟩ := NB
  obtain ⟨rs, rf, rm⟩ := R
  simp only [tupC] at fl a1 a2 a3 a4 s1 s2 c1 bn1 bn2 bn3 bn4
  obtain ⟨t1, t2, t3⟩ := tmodB (m := 7) hfi.1 (by omega)
  have w0 := i64_in at' (by omega)
  obtain ⟨u1, u2, u3⟩ := tmodB (m := 43) hat.1 (by omega)
  obtain ⟨v1, v2, v3⟩ := tmodB (m := 5) hat.1 (by omega)
  have hlz : ¬ 60 < (l.length : Int) := by omega
  have hmz : ¬ 60 < ((l.map Us.d).length : Int) := by rw [List.length_map]; omega
  have hb : rm.length * 64 ≤ 140737488355328 := by have := okR.1; simp at this; omega
  have hb2 : (rm.length + 1) * 64 ≤ 140737488355328 := by have := okR.1; simp at this; omega
  have hw := i64_in ((rm.length : Int) - 1) (by have := okR.1; simp at this; omega)
  by_cases hz : 0 < (rm.length : Int)
  · obtain ⟨m1, m2, m3⟩ := tmodB (m := (rm.length : Int)) hat.1 hz
    have m4 : ¬ (rm.length : Int) = 0 := by omega
    have w4 := i64_in (at' % (rm.length : Int)) (by have := okR.1; simp at this; omega)
    rcases mod5 hat.1 with h5 | h5 | h5 | h5 | h5
    · have hco : (⟨n, rf, rm⟩ : Ca).ok := okR
      have d1 := Check_ev k (by omega) _ hco
      have d2 := refCheck_ev k (by omega) _ hco
      simp only at d1 d2
      generalize checkV _ = dd at d1 d2
      simp only [s6, n6, ↓evPre, ev0, ev1, ev2, ev3, ev4, ev5, Nat.reduceLT, entE, getE, putE, ↓reduceIte, Nat.reduceEqDiff, argsE, Int.reduceEq, convertA, lenA, foldI, A.cells, A.leaf, List.replicate, viewA, getO, Nat.reduceLeDiff, loadA, cellsAt, cellsTo, faA, indexAddrA, asInt, Int.reduceLE, Int.reduceLT, Int.reduceToNat, eq_self, Nat.reducePow, Int.reducePow, Int.reduceAdd, Int.reduceMul, Int.reduceSub, Int.reduceNeg, keyOk, mapPutA, lookupA, mapOf, sliceA, boundI, elemsOf, appendA, storeA, setRange, indexA, Nat.reduceBEq, Int.cast_ofNat_Int, reduceCtorEq, Nat.reduceAdd, Nat.reduceMul, Nat.reduceSub, evTy0, evTy1, evTy2, evTy3, evTy4, evTy5, callR_data aw rfl rfl, callR_data lg rfl rfl, callR_data fl rfl rfl, callR_data c1 rfl rfl, callR_data c2 rfl rfl, callR_data c3 rfl rfl, callR_data a1 rfl rfl, callR_data a2 rfl rfl, callR_data a3 rfl rfl, callR_data a4 rfl rfl, callR_data s1 rfl rfl, callR_data s2 rfl rfl, callR_data d1 rfl rfl, callR_data d2 rfl rfl, t1, hm, w0, u1, v1, hlz, hmz, hb, hb2, hz, List.length_map, take_whole, h5, m1, m4, w4, hw]
    · have hco : (⟨0, rf, rm⟩ : Ca).ok := okR
      have d1 := Check_ev k (by omega) _ hco
      have d2 := refCheck_ev k (by omega) _ hco
      simp only at d1 d2
      generalize checkV _ = dd at d1 d2
      simp only [s6, n6, ↓evPre, ev0, ev1, ev2, ev3, ev4, ev5, Nat.reduceLT, entE, getE, putE, ↓reduceIte, Nat.reduceEqDiff, argsE, Int.reduceEq, convertA, lenA, foldI, A.cells, A.leaf, List.replicate, viewA, getO, Nat.reduceLeDiff, loadA, cellsAt, cellsTo, faA, indexAddrA, asInt, Int.reduceLE, Int.reduceLT, Int.reduceToNat, eq_self, Nat.reducePow, Int.reducePow, Int.reduceAdd, Int.reduceMul, Int.reduceSub, Int.reduceNeg, keyOk, mapPutA, lookupA, mapOf, sliceA, boundI, elemsOf, appendA, storeA, setRange, indexA, Nat.reduceBEq, Int.cast_ofNat_Int, reduceCtorEq, Nat.reduceAdd, Nat.reduceMul, Nat.reduceSub, evTy0, evTy1, evTy2, evTy3, evTy4, evTy5, callR_data aw rfl rfl, callR_data lg rfl rfl, callR_data fl rfl rfl, callR_data c1 rfl rfl, callR_data c2 rfl rfl, callR_data c3 rfl rfl, callR_data a1 rfl rfl, callR_data a2 rfl rfl, callR_data a3 rfl rfl, callR_data a4 rfl rfl, callR_data s1 rfl rfl, callR_data s2 rfl rfl, callR_data d1 rfl rfl, callR_data d2 rfl rfl, t1, hm, w0, u1, v1, hlz, hmz, hb, hb2, hz, List.length_map, take_whole, h5, m1, m4, w4, hw]
    · have hco : (⟨40, rf, rm⟩ : Ca).ok := okR
      have d1 := Check_ev k (by omega) _ hco
      have d2 := refCheck_ev k (by omega) _ hco
      simp only at d1 d2
      generalize checkV _ = dd at d1 d2
      simp only [s6, n6, ↓evPre, ev0, ev1, ev2, ev3, ev4, ev5, Nat.reduceLT, entE, getE, putE, ↓reduceIte, Nat.reduceEqDiff, argsE, Int.reduceEq, convertA, lenA, foldI, A.cells, A.leaf, List.replicate, viewA, getO, Nat.reduceLeDiff, loadA, cellsAt, cellsTo, faA, indexAddrA, asInt, Int.reduceLE, Int.reduceLT, Int.reduceToNat, eq_self, Nat.reducePow, Int.reducePow, Int.reduceAdd, Int.reduceMul, Int.reduceSub, Int.reduceNeg, keyOk, mapPutA, lookupA, mapOf, sliceA, boundI, elemsOf, appendA, storeA, setRange, indexA, Nat.reduceBEq, Int.cast_ofNat_Int, reduceCtorEq, Nat.reduceAdd, Nat.reduceMul, Nat.reduceSub, evTy0, evTy1, evTy2, evTy3, evTy4, evTy5, callR_data aw rfl rfl, callR_data lg rfl rfl, callR_data fl rfl rfl, callR_data c1 rfl rfl, callR_data c2 rfl rfl, callR_data c3 rfl rfl, callR_data a1 rfl rfl, callR_data a2 rfl rfl, callR_data a3 rfl rfl, callR_data a4 rfl rfl, callR_data s1 rfl rfl, callR_data s2 rfl rfl, callR_data d1 rfl rfl, callR_data d2 rfl rfl, t1, hm, w0, u1, v1, hlz, hmz, hb, hb2, hz, List.length_map, take_whole, h5, m1, m4, w4, hw]
    · have hco : (⟨41, rf, rm⟩ : Ca).ok := okR
      have d1 := Check_ev k (by omega) _ hco
      have d2 := refCheck_ev k (by omega) _ hco
      simp only at d1 d2
      generalize checkV _ = dd at d1 d2
      simp only [s6, n6, ↓evPre, ev0, ev1, ev2, ev3, ev4, ev5, Nat.reduceLT, entE, getE, putE, ↓reduceIte, Nat.reduceEqDiff, argsE, Int.reduceEq, convertA, lenA, foldI, A.cells, A.leaf, List.replicate, viewA, getO, Nat.reduceLeDiff, loadA, cellsAt, cellsTo, faA, indexAddrA, asInt, Int.reduceLE, Int.reduceLT, Int.reduceToNat, eq_self, Nat.reducePow, Int.reducePow, Int.reduceAdd, Int.reduceMul, Int.reduceSub, Int.reduceNeg, keyOk, mapPutA, lookupA, mapOf, sliceA, boundI, elemsOf, appendA, storeA, setRange, indexA, Nat.reduceBEq, Int.cast_ofNat_Int, reduceCtorEq, Nat.reduceAdd, Nat.reduceMul, Nat.reduceSub, evTy0, evTy1, evTy2, evTy3, evTy4, evTy5, callR_data aw rfl rfl, callR_data lg rfl rfl, callR_data fl rfl rfl, callR_data c1 rfl rfl, callR_data c2 rfl rfl, callR_data c3 rfl rfl, callR_data a1 rfl rfl, callR_data a2 rfl rfl, callR_data a3 rfl rfl, callR_data a4 rfl rfl, callR_data s1 rfl rfl, callR_data s2 rfl rfl, callR_data d1 rfl rfl, callR_data d2 rfl rfl, t1, hm, w0, u1, v1, hlz, hmz, hb, hb2, hz, List.length_map, take_whole, h5, m1, m4, w4, hw]
    · have hco : (⟨rm.length - 1, rf, rm⟩ : Ca).ok := okR
      have d1 := Check_ev k (by omega) _ hco
      have d2 := refCheck_ev k (by omega) _ hco
      simp only at d1 d2
      generalize checkV _ = dd at d1 d2
      simp only [s6, n6, ↓evPre, ev0, ev1, ev2, ev3, ev4, ev5, Nat.reduceLT, entE, getE, putE, ↓reduceIte, Nat.reduceEqDiff, argsE, Int.reduceEq, convertA, lenA, foldI, A.cells, A.leaf, List.replicate, viewA, getO, Nat.reduceLeDiff, loadA, cellsAt, cellsTo, faA, indexAddrA, asInt, Int.reduceLE, Int.reduceLT, Int.reduceToNat, eq_self, Nat.reducePow, Int.reducePow, Int.reduceAdd, Int.reduceMul, Int.reduceSub, Int.reduceNeg, keyOk, mapPutA, lookupA, mapOf, sliceA, boundI, elemsOf, appendA, storeA, setRange, indexA, Nat.reduceBEq, Int.cast_ofNat_Int, reduceCtorEq, Nat.reduceAdd, Nat.reduceMul, Nat.reduceSub, evTy0, evTy1, evTy2, evTy3, evTy4, evTy5, callR_data aw rfl rfl, callR_data lg rfl rfl, callR_data fl rfl rfl, callR_data c1 rfl rfl, callR_data c2 rfl rfl, callR_data c3 rfl rfl, callR_data a1 rfl rfl, callR_data a2 rfl rfl, callR_data a3 rfl rfl, callR_data a4 rfl rfl, callR_data s1 rfl rfl, callR_data s2 rfl rfl, callR_data d1 rfl rfl, callR_data d2 rfl rfl, t1, hm, w0, u1, v1, hlz, hmz, hb, hb2, hz, List.length_map, take_whole, h5, m1, m4, w4, hw]
  · rcases mod5 hat.1 with h5 | h5 | h5 | h5 | h5
    · have hco : (⟨n, rf, rm⟩ : Ca).ok := okR
      have d1 := Check_ev k (by omega) _ hco
      have d2 := refCheck_ev k (by omega) _ hco
      simp only at d1 d2
      generalize checkV _ = dd at d1 d2
      simp only [s6, n6, ↓evPre, ev0, ev1, ev2, ev3, ev4, ev5, Nat.reduceLT, entE, getE, putE, ↓reduceIte, Nat.reduceEqDiff, argsE, Int.reduceEq, convertA, lenA, foldI, A.cells, A.leaf, List.replicate, viewA, getO, Nat.reduceLeDiff, loadA, cellsAt, cellsTo, faA, indexAddrA, asInt, Int.reduceLE, Int.reduceLT, Int.reduceToNat, eq_self, Nat.reducePow, Int.reducePow, Int.reduceAdd, Int.reduceMul, Int.reduceSub, Int.reduceNeg, keyOk, mapPutA, lookupA, mapOf, sliceA, boundI, elemsOf, appendA, storeA, setRange, indexA, Nat.reduceBEq, Int.cast_ofNat_Int, reduceCtorEq, Nat.reduceAdd, Nat.reduceMul, Nat.reduceSub, evTy0, evTy1, evTy2, evTy3, evTy4, evTy5, callR_data aw rfl rfl, callR_data lg rfl rfl, callR_data fl rfl rfl, callR_data c1 rfl rfl, callR_data c2 rfl rfl, callR_data c3 rfl rfl, callR_data a1 rfl rfl, callR_data a2 rfl rfl, callR_data a3 rfl rfl, callR_data a4 rfl rfl, callR_data s1 rfl rfl, callR_data s2 rfl rfl, callR_data d1 rfl rfl, callR_data d2 rfl rfl, t1, hm, w0, u1, v1, hlz, hmz, hb, hb2, hz, List.length_map, take_whole, h5, hw]
    · have hco : (⟨0, rf, rm⟩ : Ca).ok := okR
      have d1 := Check_ev k (by omega) _ hco
      have d2 := refCheck_ev k (by omega) _ hco
      simp only at d1 d2
      generalize checkV _ = dd at d1 d2
      simp only [s6, n6, ↓evPre, ev0, ev1, ev2, ev3, ev4, ev5, Nat.reduceLT, entE, getE, putE, ↓reduceIte, Nat.reduceEqDiff, argsE, Int.reduceEq, convertA, lenA, foldI, A.cells, A.leaf, List.replicate, viewA, getO, Nat.reduceLeDiff, loadA, cellsAt, cellsTo, faA, indexAddrA, asInt, Int.reduceLE, Int.reduceLT, Int.reduceToNat, eq_self, Nat.reducePow, Int.reducePow, Int.reduceAdd, Int.reduceMul, Int.reduceSub, Int.reduceNeg, keyOk, mapPutA, lookupA, mapOf, sliceA, boundI, elemsOf, appendA, storeA, setRange, indexA, Nat.reduceBEq, Int.cast_ofNat_Int, reduceCtorEq, Nat.reduceAdd, Nat.reduceMul, Nat.reduceSub, evTy0, evTy1, evTy2, evTy3, evTy4, evTy5, callR_data aw rfl rfl, callR_data lg rfl rfl, callR_data fl rfl rfl, callR_data c1 rfl rfl, callR_data c2 rfl rfl, callR_data c3 rfl rfl, callR_data a1 rfl rfl, callR_data a2 rfl rfl, callR_data a3 rfl rfl, callR_data a4 rfl rfl, callR_data s1 rfl rfl, callR_data s2 rfl rfl, callR_data d1 rfl rfl, callR_data d2 rfl rfl, t1, hm, w0, u1, v1, hlz, hmz, hb, hb2, hz, List.length_map, take_whole, h5, hw]
    · have hco : (⟨40, rf, rm⟩ : Ca).ok := okR
      have d1 := Check_ev k (by omega) _ hco
      have d2 := refCheck_ev k (by omega) _ hco
      simp only at d1 d2
      generalize checkV _ = dd at d1 d2
      simp only [s6, n6, ↓evPre, ev0, ev1, ev2, ev3, ev4, ev5, Nat.reduceLT, entE, getE, putE, ↓reduceIte, Nat.reduceEqDiff, argsE, Int.reduceEq, convertA, lenA, foldI, A.cells, A.leaf, List.replicate, viewA, getO, Nat.reduceLeDiff, loadA, cellsAt, cellsTo, faA, indexAddrA, asInt, Int.reduceLE, Int.reduceLT, Int.reduceToNat, eq_self, Nat.reducePow, Int.reducePow, Int.reduceAdd, Int.reduceMul, Int.reduceSub, Int.reduceNeg, keyOk, mapPutA, lookupA, mapOf, sliceA, boundI, elemsOf, appendA, storeA, setRange, indexA, Nat.reduceBEq, Int.cast_ofNat_Int, reduceCtorEq, Nat.reduceAdd, Nat.reduceMul, Nat.reduceSub, evTy0, evTy1, evTy2, evTy3, evTy4, evTy5, callR_data aw rfl rfl, callR_data lg rfl rfl, callR_data fl rfl rfl, callR_data c1 rfl rfl, callR_data c2 rfl rfl, callR_data c3 rfl rfl, callR_data a1 rfl rfl, callR_data a2 rfl rfl, callR_data a3 rfl rfl, callR_data a4 rfl rfl, callR_data s1 rfl rfl, callR_data s2 rfl rfl, callR_data d1 rfl rfl, callR_data d2 rfl rfl, t1, hm, w0, u1, v1, hlz, hmz, hb, hb2, hz, List.length_map, take_whole, h5, hw]
    · have hco : (⟨41, rf, rm⟩ : Ca).ok := okR
      have d1 := Check_ev k (by omega) _ hco
      have d2 := refCheck_ev k (by omega) _ hco
      simp only at d1 d2
      generalize checkV _ = dd at d1 d2
      simp only [s6, n6, ↓evPre, ev0, ev1, ev2, ev3, ev4, ev5, Nat.reduceLT, entE, getE, putE, ↓reduceIte, Nat.reduceEqDiff, argsE, Int.reduceEq, convertA, lenA, foldI, A.cells, A.leaf, List.replicate, viewA, getO, Nat.reduceLeDiff, loadA, cellsAt, cellsTo, faA, indexAddrA, asInt, Int.reduceLE, Int.reduceLT, Int.reduceToNat, eq_self, Nat.reducePow, Int.reducePow, Int.reduceAdd, Int.reduceMul, Int.reduceSub, Int.reduceNeg, keyOk, mapPutA, lookupA, mapOf, sliceA, boundI, elemsOf, appendA, storeA, setRange, indexA, Nat.reduceBEq, Int.cast_ofNat_Int, reduceCtorEq, Nat.reduceAdd, Nat.reduceMul, Nat.reduceSub, evTy0, evTy1, evTy2, evTy3, evTy4, evTy5, callR_data aw rfl rfl, callR_data lg rfl rfl, callR_data fl rfl rfl, callR_data c1 rfl rfl, callR_data c2 rfl rfl, callR_data c3 rfl rfl, callR_data a1 rfl rfl, callR_data a2 rfl rfl, callR_data a3 rfl rfl, callR_data a4 rfl rfl, callR_data s1 rfl rfl, callR_data s2 rfl rfl, callR_data d1 rfl rfl, callR_data d2 rfl rfl, t1, hm, w0, u1, v1, hlz, hmz, hb, hb2, hz, List.length_map, take_whole, h5, hw]
    · have hco : (⟨rm.length - 1, rf, rm⟩ : Ca).ok := okR
      have d1 := Check_ev k (by omega) _ hco
      have d2 := refCheck_ev k (by omega) _ hco
      simp only at d1 d2
      generalize checkV _ = dd at d1 d2
      simp only [s6, n6, ↓evPre, ev0, ev1, ev2, ev3, ev4, ev5, Nat.reduceLT, entE, getE, putE, ↓reduceIte, Nat.reduceEqDiff, argsE, Int.reduceEq, convertA, lenA, foldI, A.cells, A.leaf, List.replicate, viewA, getO, Nat.reduceLeDiff, loadA, cellsAt, cellsTo, faA, indexAddrA, asInt, Int.reduceLE, Int.reduceLT, Int.reduceToNat, eq_self, Nat.reducePow, Int.reducePow, Int.reduceAdd, Int.reduceMul, Int.reduceSub, Int.reduceNeg, keyOk, mapPutA, lookupA, mapOf, sliceA, boundI, elemsOf, appendA, storeA, setRange, indexA, Nat.reduceBEq, Int.cast_ofNat_Int, reduceCtorEq, Nat.reduceAdd, Nat.reduceMul, Nat.reduceSub, evTy0, evTy1, evTy2, evTy3, evTy4, evTy5, callR_data aw rfl rfl, callR_data lg rfl rfl, callR_data fl rfl rfl, callR_data c1 rfl rfl, callR_data c2 rfl rfl, callR_data c3 rfl rfl, callR_data a1 rfl rfl, callR_data a2 rfl rfl, callR_data a3 rfl rfl, callR_data a4 rfl rfl, callR_data s1 rfl rfl, callR_data s2 rfl rfl, callR_data d1 rfl rfl, callR_data d2 rfl rfl, t1, hm, w0, u1, v1, hlz, hmz, hb, hb2, hz, List.length_map, take_whole, h5, hw]

theorem Checks_F1 (k : Nat) (hk : 400 ≤ k) (c : Ca) (hlong : longB c = false) (sz sk : Int) (hsz : 0 ≤ sz ∧ sz ≤ 255) (hsk : 0 ≤ sk ∧ sk ≤ 255) (l : List Us) (hl : l.length ≤ 60) (hu : ∀ u ∈ l, u.ok) (fi at' n : Int) (hfi : 0 ≤ fi ∧ fi ≤ 255) (hat : 0 ≤ at' ∧ at' ≤ 255) (hm : fi % 7 = 1) :
    callF Try.prog Hs E1 k 6 [.agg [.d (.int .i64 c.s), .d (.int .i64 c.f), .d (.sl 5 (c.ms.map Mk.d))], .d (.int .u8 sz), .d (.int .u8 sk), .d (.sl 4 (l.map Us.d)), .d (.int .u8 fi), .d (.int .u8 at'), .d (.int .i64 n)] [] = some (.d (.bool true), []) := by
  obtain ⟨k, rfl⟩ : ∃ j, k = j + 1 := ⟨k - 1, by omega⟩
  refine evalE rfl Try.func6 l6 ?_ (Nat.le_of_ble_eq_true rfl)
  have aw := awake_ev k (by omega)
  have lg := long_ev k (by omega) c
  rw [hlong] at lg
  have fl := filled_ev k (by omega) sz sk hsz hsk l hl hu
  have hR : checkV (play (sk % 40) l ⟨1 + sz % 40, 0, []⟩) = 0 := play_check l _ (new_check (by omega)).2
  generalize play (sk % 40) l ⟨1 + sz % 40, 0, []⟩ = R at fl hR
  generalize cnt (sk % 40) l ⟨1 + sz % 40, 0, []⟩ 0 = N at fl
  have okR := check_cok hR
  have c1 := Check_ev k (by omega) R okR
  rw [hR] at c1
  have c2 := Check_ev k (by omega) c (long_ok hlong)
  have c3 := refCheck_ev k (by omega) c (long_ok hlong)
  generalize checkV c = cc at c2 c3
  obtain ⟨bn1, bn2, bn3, bn4⟩ := check_iff.1 hR
  have a1 := New_ev k (by omega) n
  have a2 := refNew_ev k (by omega) n
  have s1 := Same_ev k (newV n).1 (by rw [new_len]; omega) (by rw [new_len]; omega)
  have a3 := New_ev k (by omega) (at' % 43)
  have a4 := refNew_ev k (by omega) (at' % 43)
  have s2 := Same_ev k (newV (at' % 43)).1 (by rw [new_len]; omega) (by rw [new_len]; omega)
  generalize newV n = NA at a1 a2 s1
  generalize newV (at' % 43) = NB at a3 a4 s2
  obtain ⟨⟨na1, na2, na3⟩, na4⟩ := NA
  obtain ⟨⟨nb1, nb2, nb3⟩, nb4⟩ := NB
  obtain ⟨rs, rf, rm⟩ := R
  simp only [tupC] at fl a1 a2 a3 a4 s1 s2 c1 bn1 bn2 bn3 bn4
  obtain ⟨t1, t2, t3⟩ := tmodB (m := 7) hfi.1 (by omega)
  have w0 := i64_in at' (by omega)
  obtain ⟨u1, u2, u3⟩ := tmodB (m := 43) hat.1 (by omega)
  obtain ⟨v1, v2, v3⟩ := tmodB (m := 5) hat.1 (by omega)
  have hlz : ¬ 60 < (l.length : Int) := by omega
  have hmz : ¬ 60 < ((l.map Us.d).length : Int) := by rw [List.length_map]; omega
  have hb : rm.length * 64 ≤ 140737488355328 := by have := okR.1; simp at this; omega
  have hb2 : (rm.length + 1) * 64 ≤ 140737488355328 := by have := okR.1; simp at this; omega
  have hw := i64_in (rf + 1) (by omega)
  by_cases hz : 0 < (rm.length : Int)
  · obtain ⟨m1, m2, m3⟩ := tmodB (m := (rm.length : Int)) hat.1 hz
    have m4 : ¬ (rm.length : Int) = 0 := by omega
    have w4 := i64_in (at' % (rm.length : Int)) (by have := okR.1; simp at this; omega)
    rcases mod5 hat.1 with h5 | h5 | h5 | h5 | h5
    · have hco : (⟨rs, n, rm⟩ : Ca).ok := okR
      have d1 := Check_ev k (by omega) _ hco
      have d2 := refCheck_ev k (by omega) _ hco
      simp only at d1 d2
      generalize checkV _ = dd at d1 d2
      simp only [s6, n6, ↓evPre, ev0, ev1, ev2, ev3, ev4, ev5, Nat.reduceLT, entE, getE, putE, ↓reduceIte, Nat.reduceEqDiff, argsE, Int.reduceEq, convertA, lenA, foldI, A.cells, A.leaf, List.replicate, viewA, getO, Nat.reduceLeDiff, loadA, cellsAt, cellsTo, faA, indexAddrA, asInt, Int.reduceLE, Int.reduceLT, Int.reduceToNat, eq_self, Nat.reducePow, Int.reducePow, Int.reduceAdd, Int.reduceMul, Int.reduceSub, Int.reduceNeg, keyOk, mapPutA, lookupA, mapOf, sliceA, boundI, elemsOf, appendA, storeA, setRange, indexA, Nat.reduceBEq, Int.cast_ofNat_Int, reduceCtorEq, Nat.reduceAdd, Nat.reduceMul, Nat.reduceSub, evTy0, evTy1, evTy2, evTy3, evTy4, evTy5, callR_data aw rfl rfl, callR_data lg rfl rfl, callR_data fl rfl rfl, callR_data c1 rfl rfl, callR_data c2 rfl rfl, callR_data c3 rfl rfl, callR_data a1 rfl rfl, callR_data a2 rfl rfl, callR_data a3 rfl rfl, callR_data a4 rfl rfl, callR_data s1 rfl rfl, callR_data s2 rfl rfl, callR_data d1 rfl rfl, callR_data d2 rfl rfl, t1, hm, w0, u1, v1, hlz, hmz, hb, hb2, hz, List.length_map, take_whole, h5, m1, m4, w4, hw]
    · have hco : (⟨rs, -1, rm⟩ : Ca).ok := okR
      have d1 := Check_ev k (by omega) _ hco
      have d2 := refCheck_ev k (by omega) _ hco
      simp only at d1 d2
      generalize checkV _ = dd at d1 d2
      simp only [s6, n6, ↓evPre, ev0, ev1, ev2, ev3, ev4, ev5, Nat.reduceLT, entE, getE, putE, ↓reduceIte, Nat.reduceEqDiff, argsE, Int.reduceEq, convertA, lenA, foldI, A.cells, A.leaf, List.replicate, viewA, getO, Nat.reduceLeDiff, loadA, cellsAt, cellsTo, faA, indexAddrA, asInt, Int.reduceLE, Int.reduceLT, Int.reduceToNat, eq_self, Nat.reducePow, Int.reducePow, Int.reduceAdd, Int.reduceMul, Int.reduceSub, Int.reduceNeg, keyOk, mapPutA, lookupA, mapOf, sliceA, boundI, elemsOf, appendA, storeA, setRange, indexA, Nat.reduceBEq, Int.cast_ofNat_Int, reduceCtorEq, Nat.reduceAdd, Nat.reduceMul, Nat.reduceSub, evTy0, evTy1, evTy2, evTy3, evTy4, evTy5, callR_data aw rfl rfl, callR_data lg rfl rfl, callR_data fl rfl rfl, callR_data c1 rfl rfl, callR_data c2 rfl rfl, callR_data c3 rfl rfl, callR_data a1 rfl rfl, callR_data a2 rfl rfl, callR_data a3 rfl rfl, callR_data a4 rfl rfl, callR_data s1 rfl rfl, callR_data s2 rfl rfl, callR_data d1 rfl rfl, callR_data d2 rfl rfl, t1, hm, w0, u1, v1, hlz, hmz, hb, hb2, hz, List.length_map, take_whole, h5, m1, m4, w4, hw]
    · have hco : (⟨rs, 4294967295, rm⟩ : Ca).ok := okR
      have d1 := Check_ev k (by omega) _ hco
      have d2 := refCheck_ev k (by omega) _ hco
      simp only at d1 d2
      generalize checkV _ = dd at d1 d2
      simp only [s6, n6, ↓evPre, ev0, ev1, ev2, ev3, ev4, ev5, Nat.reduceLT, entE, getE, putE, ↓reduceIte, Nat.reduceEqDiff, argsE, Int.reduceEq, convertA, lenA, foldI, A.cells, A.leaf, List.replicate, viewA, getO, Nat.reduceLeDiff, loadA, cellsAt, cellsTo, faA, indexAddrA, asInt, Int.reduceLE, Int.reduceLT, Int.reduceToNat, eq_self, Nat.reducePow, Int.reducePow, Int.reduceAdd, Int.reduceMul, Int.reduceSub, Int.reduceNeg, keyOk, mapPutA, lookupA, mapOf, sliceA, boundI, elemsOf, appendA, storeA, setRange, indexA, Nat.reduceBEq, Int.cast_ofNat_Int, reduceCtorEq, Nat.reduceAdd, Nat.reduceMul, Nat.reduceSub, evTy0, evTy1, evTy2, evTy3, evTy4, evTy5, callR_data aw rfl rfl, callR_data lg rfl rfl, callR_data fl rfl rfl, callR_data c1 rfl rfl, callR_data c2 rfl rfl, callR_data c3 rfl rfl, callR_data a1 rfl rfl, callR_data a2 rfl rfl, callR_data a3 rfl rfl, callR_data a4 rfl rfl, callR_data s1 rfl rfl, callR_data s2 rfl rfl, callR_data d1 rfl rfl, callR_data d2 rfl rfl, t1, hm, w0, u1, v1, hlz, hmz, hb, hb2, hz, List.length_map, take_whole, h5, m1, m4, w4, hw]
    · have hco : (⟨rs, 4294967296, rm⟩ : Ca).ok := okR
      have d1 := Check_ev k (by omega) _ hco
      have d2 := refCheck_ev k (by omega) _ hco
      simp only at d1 d2
      generalize checkV _ = dd at d1 d2
      simp only [s6, n6, ↓evPre, ev0, ev1, ev2, ev3, ev4, ev5, Nat.reduceLT, entE, getE, putE, ↓reduceIte, Nat.reduceEqDiff, argsE, Int.reduceEq, convertA, lenA, foldI, A.cells, A.leaf, List.replicate, viewA, getO, Nat.reduceLeDiff, loadA, cellsAt, cellsTo, faA, indexAddrA, asInt, Int.reduceLE, Int.reduceLT, Int.reduceToNat, eq_self, Nat.reducePow, Int.reducePow, Int.reduceAdd, Int.reduceMul, Int.reduceSub, Int.reduceNeg, keyOk, mapPutA, lookupA, mapOf, sliceA, boundI, elemsOf, appendA, storeA, setRange, indexA, Nat.reduceBEq, Int.cast_ofNat_Int, reduceCtorEq, Nat.reduceAdd, Nat.reduceMul, Nat.reduceSub, evTy0, evTy1, evTy2, evTy3, evTy4, evTy5, callR_data aw rfl rfl, callR_data lg rfl rfl, callR_data fl rfl rfl, callR_data c1 rfl rfl, callR_data c2 rfl rfl, callR_data c3 rfl rfl, callR_data a1 rfl rfl, callR_data a2 rfl rfl, callR_data a3 rfl rfl, callR_data a4 rfl rfl, callR_data s1 rfl rfl, callR_data s2 rfl rfl, callR_data d1 rfl rfl, callR_data d2 rfl rfl, t1, hm, w0, u1, v1, hlz, hmz, hb, hb2, hz, List.length_map, take_whole, h5, m1, m4, w4, hw]
    · have hco : (⟨rs, rf + 1, rm⟩ : Ca).ok := okR
      have d1 := Check_ev k (by omega) _ hco
      have d2 := refCheck_ev k (by omega) _ hco
      simp only at d1 d2
      generalize checkV _ = dd at d1 d2
      simp only [s6, n6, ↓evPre, ev0, ev1, ev2, ev3, ev4, ev5, Nat.reduceLT, entE, getE, putE, ↓reduceIte, Nat.reduceEqDiff, argsE, Int.reduceEq, convertA, lenA, foldI, A.cells, A.leaf, List.replicate, viewA, getO, Nat.reduceLeDiff, loadA, cellsAt, cellsTo, faA, indexAddrA, asInt, Int.reduceLE, Int.reduceLT, Int.reduceToNat, eq_self, Nat.reducePow, Int.reducePow, Int.reduceAdd, Int.reduceMul, Int.reduceSub, Int.reduceNeg, keyOk, mapPutA, lookupA, mapOf, sliceA, boundI, elemsOf, appendA, storeA, setRange, indexA, Nat.reduceBEq, Int.cast_ofNat_Int, reduceCtorEq, Nat.reduceAdd, Nat.reduceMul, Nat.reduceSub, evTy0, evTy1, evTy2, evTy3, evTy4, evTy5, callR_data aw rfl rfl, callR_data lg rfl rfl, callR_data fl rfl rfl, callR_data c1 rfl rfl, callR_data c2 rfl rfl, callR_data c3 rfl rfl, callR_data a1 rfl rfl, callR_data a2 rfl rfl, callR_data a3 rfl rfl, callR_data a4 rfl rfl, callR_data s1 rfl rfl, callR_data s2 rfl rfl, callR_data d1 rfl rfl, callR_data d2 rfl rfl, t1, hm, w0, u1, v1, hlz, hmz, hb, hb2, hz, List.length_map, take_whole, h5, m1, m4, w4, hw]
  · rcases mod5 hat.1 with h5 | h5 | h5 | h5 | h5
    · have hco : (⟨rs, n, rm⟩ : Ca).ok := okR
      have d1 := Check_ev k (by omega) _ hco
      have d2 := refCheck_ev k (by omega) _ hco
      simp only at d1 d2
      generalize checkV _ = dd at d1 d2
      simp only [s6, n6, ↓evPre, ev0, ev1, ev2, ev3, ev4, ev5, Nat.reduceLT, entE, getE, putE, ↓reduceIte, Nat.reduceEqDiff, argsE, Int.reduceEq, convertA, lenA, foldI, A.cells, A.leaf, List.replicate, viewA, getO, Nat.reduceLeDiff, loadA, cellsAt, cellsTo, faA, indexAddrA, asInt, Int.reduceLE, Int.reduceLT, Int.reduceToNat, eq_self, Nat.reducePow, Int.reducePow, Int.reduceAdd, Int.reduceMul, Int.reduceSub, Int.reduceNeg, keyOk, mapPutA, lookupA, mapOf, sliceA, boundI, elemsOf, appendA, storeA, setRange, indexA, Nat.reduceBEq, Int.cast_ofNat_Int, reduceCtorEq, Nat.reduceAdd, Nat.reduceMul, Nat.reduceSub, evTy0, evTy1, evTy2, evTy3, evTy4, evTy5, callR_data aw rfl rfl, callR_data lg rfl rfl, callR_data fl rfl rfl, callR_data c1 rfl rfl, callR_data c2 rfl rfl, callR_data c3 rfl rfl, callR_data a1 rfl rfl, callR_data a2 rfl rfl, callR_data a3 rfl rfl, callR_data a4 rfl rfl, callR_data s1 rfl rfl, callR_data s2 rfl rfl, callR_data d1 rfl rfl, callR_data d2 rfl rfl, t1, hm, w0, u1, v1, hlz, hmz, hb, hb2, hz, List.length_map, take_whole, h5, hw]
    · have hco : (⟨rs, -1, rm⟩ : Ca).ok := okR
      have d1 := Check_ev k (by omega) _ hco
      have d2 := refCheck_ev k (by omega) _ hco
      simp only at d1 d2
      generalize checkV _ = dd at d1 d2
      simp only [s6, n6, ↓evPre, ev0, ev1, ev2, ev3, ev4, ev5, Nat.reduceLT, entE, getE, putE, ↓reduceIte, Nat.reduceEqDiff, argsE, Int.reduceEq, convertA, lenA, foldI, A.cells, A.leaf, List.replicate, viewA, getO, Nat.reduceLeDiff, loadA, cellsAt, cellsTo, faA, indexAddrA, asInt, Int.reduceLE, Int.reduceLT, Int.reduceToNat, eq_self, Nat.reducePow, Int.reducePow, Int.reduceAdd, Int.reduceMul, Int.reduceSub, Int.reduceNeg, keyOk, mapPutA, lookupA, mapOf, sliceA, boundI, elemsOf, appendA, storeA, setRange, indexA, Nat.reduceBEq, Int.cast_ofNat_Int, reduceCtorEq, Nat.reduceAdd, Nat.reduceMul, Nat.reduceSub, evTy0, evTy1, evTy2, evTy3, evTy4, evTy5, callR_data aw rfl rfl, callR_data lg rfl rfl, callR_data fl rfl rfl, callR_data c1 rfl rfl, callR_data c2 rfl rfl, callR_data c3 rfl rfl, callR_data a1 rfl rfl, callR_data a2 rfl rfl, callR_data a3 rfl rfl, callR_data a4 rfl rfl, callR_data s1 rfl rfl, callR_data s2 rfl rfl, callR_data d1 rfl rfl, callR_data d2 rfl rfl, t1, hm, w0, u1, v1, hlz, hmz, hb, hb2, hz, List.length_map, take_whole, h5, hw]
    · have hco : (⟨rs, 4294967295, rm⟩ : Ca).ok := okR
      have d1 := Check_ev k (by omega) _ hco
      have d2 := refCheck_ev k (by omega) _ hco
      simp only at d1 d2
      generalize checkV _ = dd at d1 d2
      simp only [s6, n6, ↓evPre, ev0, ev1, ev2, ev3, ev4, ev5, Nat.reduceLT, entE, getE, putE, ↓reduceIte, Nat.reduceEqDiff, argsE, Int.reduceEq, convertA, lenA, foldI, A.cells, A.leaf, List.replicate, viewA, getO, Nat.reduceLeDiff, loadA, cellsAt, cellsTo, faA, indexAddrA, asInt, Int.reduceLE, Int.reduceLT, Int.reduceToNat, eq_self, Nat.reducePow, Int.reducePow, Int.reduceAdd, Int.reduceMul, Int.reduceSub, Int.reduceNeg, keyOk, mapPutA, lookupA, mapOf, sliceA, boundI, elemsOf, appendA, storeA, setRange, indexA, Nat.reduceBEq, Int.cast_ofNat_Int, reduceCtorEq, Nat.reduceAdd, Nat.reduceMul, Nat.reduceSub, evTy0, evTy1, evTy2, evTy3, evTy4, evTy5, callR_data aw rfl rfl, callR_data lg rfl rfl, callR_data fl rfl rfl, callR_data c1 rfl rfl, callR_data c2 rfl rfl, callR_data c3 rfl rfl, callR_data a1 rfl rfl, callR_data a2 rfl rfl, callR_data a3 rfl rfl, callR_data a4 rfl rfl, callR_data s1 rfl rfl, callR_data s2 rfl rfl, callR_data d1 rfl rfl, callR_data d2 rfl rfl, t1, hm, w0, u1, v1, hlz, hmz, hb, hb2, hz, List.length_map, take_whole, h5, hw]
    · have hco : (⟨rs, 4294967296, rm⟩ : Ca).ok := okR
      have d1 := Check_ev k (by omega) _ hco
      have d2 := refCheck_ev k (by omega) _ hco
      simp only at d1 d2
      generalize checkV _ = dd at d1 d2
      simp only [s6, n6, ↓evPre, ev0, ev1, ev2, ev3, ev4, ev5, Nat.reduceLT, entE, getE, putE, ↓reduceIte, Nat.reduceEqDiff, argsE, Int.reduceEq, convertA, lenA, foldI, A.cells, A.leaf, List.replicate, viewA, getO, Nat.reduceLeDiff, loadA, cellsAt, cellsTo, faA, indexAddrA, asInt, Int.reduceLE, Int.reduceLT, Int.reduceToNat, eq_self, Nat.reducePow, Int.reducePow, Int.reduceAdd, Int.reduceMul, Int.reduceSub, Int.reduceNeg, keyOk, mapPutA, lookupA, mapOf, sliceA, boundI, elemsOf, appendA, storeA, setRange, indexA, Nat.reduceBEq, Int.cast_ofNat_Int, reduceCtorEq, Nat.reduceAdd, Nat.reduceMul, Nat.reduceSub, evTy0, evTy1, evTy2, evTy3, evTy4, evTy5, callR_data aw rfl rfl, callR_data lg rfl rfl, callR_data fl rfl rfl, callR_data c1 rfl rfl, callR_data c2 rfl rfl, callR_data c3 rfl rfl, callR_data a1 rfl rfl, callR_data a2 rfl rfl, callR_data a3 rfl rfl, callR_data a4 rfl rfl, callR_data s1 rfl rfl, callR_data s2 rfl rfl, callR_data d1 rfl rfl, callR_data d2 rfl rfl, t1, hm, w0, u1, v1, hlz, hmz, hb, hb2, hz, List.length_map, take_whole, h5, hw]
    · have hco : (⟨rs, rf + 1, rm⟩ : Ca).ok := okR
      have d1 := Check_ev k (by omega) _ hco
      have d2 := refCheck_ev k (by omega) _ hco
      simp only at d1 d2
      generalize checkV _ = dd at d1 d2
      simp only [s6, n6, ↓evPre, ev0, ev1, ev2, ev3, ev4, ev5, Nat.reduceLT, entE, getE, putE, ↓reduceIte, Nat.reduceEqDiff, argsE, Int.reduceEq, convertA, lenA, foldI, A.cells, A.leaf, List.replicate, viewA, getO, Nat.reduceLeDiff, loadA, cellsAt, cellsTo, faA, indexAddrA, asInt, Int.reduceLE, Int.reduceLT, Int.reduceToNat, eq_self, Nat.reducePow, Int.reducePow, Int.reduceAdd, Int.reduceMul, Int.reduceSub, Int.reduceNeg, keyOk, mapPutA, lookupA, mapOf, sliceA, boundI, elemsOf, appendA, storeA, setRange, indexA, Nat.reduceBEq, Int.cast_ofNat_Int, reduceCtorEq, Nat.reduceAdd, Nat.reduceMul, Nat.reduceSub, evTy0, evTy1, evTy2, evTy3, evTy4, evTy5, callR_data aw rfl rfl, callR_data lg rfl rfl, callR_data fl rfl rfl, callR_data c1 rfl rfl, callR_data c2 rfl rfl, callR_data c3 rfl rfl, callR_data a1 rfl rfl, callR_data a2 rfl rfl, callR_data a3 rfl rfl, callR_data a4 rfl rfl, callR_data s1 rfl rfl, callR_data s2 rfl rfl, callR_data d1 rfl rfl, callR_data d2 rfl rfl, t1, hm, w0, u1, v1, hlz, hmz, hb, hb2, hz, List.length_map, take_whole, h5, hw]

end Rp
end Ab
