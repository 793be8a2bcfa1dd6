/- A part of the proof of a row by an interpreter that is proved sound; no conditions of its own. -/
import Derived.Test.YtipfkflogjfbjaaAbRpF
namespace Ab
open Go Go.Proofs Go.IntWalk
set_option maxRecDepth 10000
set_option linter.unusedSimpArgs false
set_option linter.unusedVariables false
namespace Rp
open Pr Cv

theorem Checks_F2 (k : Nat) (hk : 400 ≤ k) (c : Ca) (hlong : longB c = false) (sz sk : Int) (hsz : 0 ≤ sz ∧ sz ≤ 255) (hsk : 0 ≤ sk ∧ sk ≤ 255) (l : List Us) (hl : l.length ≤ 60) (hu : ∀ u ∈ l, u.ok) (fi at' n : Int) (hfi : 0 ≤ fi ∧ fi ≤ 255) (hat : 0 ≤ at' ∧ at' ≤ 255) (hm : fi % 7 = 2) :
    callF Try.prog Hs E1 k 6 [.agg [.d (.int .i64 c.s), .d (.int .i64 c.f), .d (.sl 5 (c.ms.map Mk.d))], .d (.int .u8 sz), .d (.int .u8 sk), .d (.sl 4 (l.map Us.d)), .d (.int .u8 fi), .d (.int .u8 at'), .d (.int .i64 n)] [] = some (.d (.bool true), []) := by
  obtain ⟨k, rfl⟩ : ∃ j, k = j + 1 := ⟨k - 1, by omega⟩
  refine evalE rfl Try.func6 l6 ?_ (Nat.le_of_ble_eq_true rfl)
  have aw := awake_ev k (by omega)
  have lg := long_ev k (by omega) c
  rw [hlong] at lg
  have fl := filled_ev k (by omega) sz sk hsz hsk l hl hu
  have hR : checkV (play (sk % 40) l ⟨1 + sz % 40, 0, []⟩) = 0 := play_check l _ (new_check (by omega)).2
  generalize play (sk % 40) l ⟨1 + sz % 40, 0, []⟩ = R at fl hR
  generalize cnt (sk % 40) l ⟨1 + sz % 40, 0, []⟩ 0 = N at fl
  have okR := check_cok hR
  have c1 := Check_ev k (by omega) R okR
  rw [hR] at c1
  have c2 := Check_ev k (by omega) c (long_ok hlong)
  have c3 := refCheck_ev k (by omega) c (long_ok hlong)
  generalize checkV c = cc at c2 c3
  obtain ⟨bn1, bn2, bn3, bn4⟩ := check_iff.1 hR
  have a1 := New_ev k (by omega) n
  have a2 := refNew_ev k (by omega) n
  have s1 := Same_ev k (newV n).1 (by rw [new_len]; omega) (by rw [new_len]; omega)
  have a3 := New_ev k (by omega) (at' % 43)
  have a4 := refNew_ev k (by omega) (at' % 43)
  have s2 := Same_ev k (newV (at' % 43)).1 (by rw [new_len]; omega) (by rw [new_len]; omega)
  generalize newV n = NA at a1 a2 s1
  generalize newV (at' % 43) = NB at a3 a4 s2
  obtain ⟨⟨na1, na2, na3⟩, na4⟩ := NA
  obtain ⟨⟨nb1, nb2, nb3⟩, nb4⟩ := NB
  obtain ⟨rs, rf, rm⟩ := R
  simp only [tupC] at fl a1 a2 a3 a4 s1 s2 c1 bn1 bn2 bn3 bn4
  obtain ⟨t1, t2, t3⟩ := tmodB (m := 7) hfi.1 (by omega)
  have w0 := i64_in at' (by omega)
  obtain ⟨u1, u2, u3⟩ := tmodB (m := 43) hat.1 (by omega)
  obtain ⟨v1, v2, v3⟩ := tmodB (m := 5) hat.1 (by omega)
  have hlz : ¬ 60 < (l.length : Int) := by omega
  have hmz : ¬ 60 < ((l.map Us.d).length : Int) := by rw [List.length_map]; omega
  have hb : rm.length * 64 ≤ 140737488355328 := by have := okR.1; simp at this; omega
  have hb2 : (rm.length + 1) * 64 ≤ 140737488355328 := by have := okR.1; simp at this; omega
  have e0 := mark_ev k (by omega) ⟨at', 0, 0, 0⟩ ⟨by simp only; omega, by simp only; omega, by simp only; omega, by simp only; omega⟩
  have mv := mark_valid ⟨at', 0, 0, 0⟩ ⟨by simp only; omega, by simp only; omega, by simp only; omega, by simp only; omega⟩
  generalize markV ⟨at', 0, 0, 0⟩ = b at e0 mv
  simp only at e0
  have hL : ((rm ++ [b]).length : Int) = rm.length + 1 := by simp
  have hz : 0 < ((rm ++ [b]).length : Int) := by omega
  obtain ⟨m1, m2, m3⟩ := tmodB (m := ((rm ++ [b]).length : Int)) hat.1 hz
  have m4 : ¬ ((rm ++ [b]).length : Int) = 0 := by omega
  have w4 := i64_in (at' % ((rm ++ [b]).length : Int)) (by have := okR.1; simp only at this; omega)
  have hco : (⟨rs, rf, rm ++ [b]⟩ : Ca).ok := ok_snoc okR mv (by have := bn1.2.1; omega) _ _
  have d1 := Check_ev k (by omega) _ hco
  have d2 := refCheck_ev k (by omega) _ hco
  simp only at d1 d2
  generalize checkV _ = dd at d1 d2
  simp only [s6, n6, ↓evPre, ev0, ev1, ev2, ev3, ev4, ev5, Nat.reduceLT, entE, getE, putE, ↓reduceIte, Nat.reduceEqDiff, argsE, Int.reduceEq, convertA, lenA, foldI, A.cells, A.leaf, List.replicate, viewA, getO, Nat.reduceLeDiff, loadA, cellsAt, cellsTo, faA, indexAddrA, asInt, Int.reduceLE, Int.reduceLT, Int.reduceToNat, eq_self, Nat.reducePow, Int.reducePow, Int.reduceAdd, Int.reduceMul, Int.reduceSub, Int.reduceNeg, keyOk, mapPutA, lookupA, mapOf, sliceA, boundI, elemsOf, appendA, storeA, setRange, indexA, Nat.reduceBEq, Int.cast_ofNat_Int, reduceCtorEq, Nat.reduceAdd, Nat.reduceMul, Nat.reduceSub, evTy0, evTy1, evTy2, evTy3, evTy4, evTy5, callR_data aw rfl rfl, callR_data lg rfl rfl, callR_data fl rfl rfl, callR_data c1 rfl rfl, callR_data c2 rfl rfl, callR_data c3 rfl rfl, callR_data a1 rfl rfl, callR_data a2 rfl rfl, callR_data a3 rfl rfl, callR_data a4 rfl rfl, callR_data s1 rfl rfl, callR_data s2 rfl rfl, callR_data d1 rfl rfl, callR_data d2 rfl rfl, t1, hm, w0, u1, v1, hlz, hmz, hb, hb2, hz, List.length_map, take_whole , callR_data e0 rfl rfl, map_snoc, m1, m4, w4]

theorem Checks_F3 (k : Nat) (hk : 400 ≤ k) (c : Ca) (hlong : longB c = false) (sz sk : Int) (hsz : 0 ≤ sz ∧ sz ≤ 255) (hsk : 0 ≤ sk ∧ sk ≤ 255) (l : List Us) (hl : l.length ≤ 60) (hu : ∀ u ∈ l, u.ok) (fi at' n : Int) (hfi : 0 ≤ fi ∧ fi ≤ 255) (hat : 0 ≤ at' ∧ at' ≤ 255) (hm : fi % 7 = 3) :
    callF Try.prog Hs E1 k 6 [.agg [.d (.int .i64 c.s), .d (.int .i64 c.f), .d (.sl 5 (c.ms.map Mk.d))], .d (.int .u8 sz), .d (.int .u8 sk), .d (.sl 4 (l.map Us.d)), .d (.int .u8 fi), .d (.int .u8 at'), .d (.int .i64 n)] [] = some (.d (.bool true), []) := by
  obtain ⟨k, rfl⟩ : ∃ j, k = j + 1 := ⟨k - 1, by omega⟩
  refine evalE rfl Try.func6 l6 ?_ (Nat.le_of_ble_eq_true rfl)
  have aw := awake_ev k (by omega)
  have lg := long_ev k (by omega) c
  rw [hlong] at lg
  have fl := filled_ev k (by omega) sz sk hsz hsk l hl hu
  have hR : checkV (play (sk % 40) l ⟨1 + sz % 40, 0, []⟩) = 0 := play_check l _ (new_check (by omega)).2
  generalize play (sk % 40) l ⟨1 + sz % 40, 0, []⟩ = R at fl hR
  generalize cnt (sk % 40) l ⟨1 + sz % 40, 0, []⟩ 0 = N at fl
  have okR := check_cok hR
  have c1 := Check_ev k (by omega) R okR
  rw [hR] at c1
  have c2 := Check_ev k (by omega) c (long_ok hlong)
  have c3 := refCheck_ev k (by omega) c (long_ok hlong)
  generalize checkV c = cc at c2 c3
  obtain ⟨bn1, bn2, bn3, bn4⟩ := check_iff.1 hR
  have a1 := New_ev k (by omega) n
  have a2 := refNew_ev k (by omega) n
  have s1 := Same_ev k (newV n).1 (by rw [new_len]; omega) (by rw [new_len]; omega)
  have a3 := New_ev k (by omega) (at' % 43)
  have a4 := refNew_ev k (by omega) (at' % 43)
  have s2 := Same_ev k (newV (at' % 43)).1 (by rw [new_len]; omega) (by rw [new_len]; omega)
  generalize newV n = NA at a1 a2 s1
  generalize newV (at' % 43) = NB at a3 a4 s2
  obtain ⟨⟨na1, na2, na3⟩, na4⟩ := NA
  obtain ⟨⟨nb1, nb2, nb3⟩, nb4⟩ := NB
  obtain ⟨rs, rf, rm⟩ := R
  simp only [tupC] at fl a1 a2 a3 a4 s1 s2 c1 bn1 bn2 bn3 bn4
  obtain ⟨t1, t2, t3⟩ := tmodB (m := 7) hfi.1 (by omega)
  have w0 := i64_in at' (by omega)
  obtain ⟨u1, u2, u3⟩ := tmodB (m := 43) hat.1 (by omega)
  obtain ⟨v1, v2, v3⟩ := tmodB (m := 5) hat.1 (by omega)
  have hlz : ¬ 60 < (l.length : Int) := by omega
  have hmz : ¬ 60 < ((l.map Us.d).length : Int) := by rw [List.length_map]; omega
  have hb : rm.length * 64 ≤ 140737488355328 := by have := okR.1; simp at this; omega
  have hb2 : (rm.length + 1) * 64 ≤ 140737488355328 := by have := okR.1; simp at this; omega
  by_cases hz : 0 < (rm.length : Int)
  · obtain ⟨m1, m2, m3⟩ := tmodB (m := (rm.length : Int)) hat.1 hz
    have m4 : ¬ (rm.length : Int) = 0 := by omega
    have w4 := i64_in (at' % (rm.length : Int)) (by have := okR.1; simp at this; omega)
    generalize at' % (rm.length : Int) = J at m1 m2 m3 w4
    have hlt : J.toNat < rm.length := by omega
    obtain ⟨b, hg⟩ : ∃ b, rm[J.toNat]? = some b := ⟨_, List.getElem?_eq_getElem hlt⟩
    have hg' := mk_get hg
    have okb := okR.2 b (List.mem_of_getElem? hg)
    have sm : (rm.map Mk.d).set J.toNat [.str b.n, .str b.i, .str b.r, .int .i64 n, .int .i64 b.k] = (rm.set J.toNat ⟨b.n, b.i, b.r, n, b.k⟩).map Mk.d := set_map _ _ ⟨b.n, b.i, b.r, n, b.k⟩
    have hco : (⟨rs, rf, rm.set J.toNat ⟨b.n, b.i, b.r, n, b.k⟩⟩ : Ca).ok := ok_set (b := ⟨b.n, b.i, b.r, n, b.k⟩) okR okb _ _
    have d1 := Check_ev k (by omega) _ hco
    have d2 := refCheck_ev k (by omega) _ hco
    simp only at d1 d2
    generalize checkV _ = dd at d1 d2
    simp only [s6, n6, ↓evPre, ev0, ev1, ev2, ev3, ev4, ev5, Nat.reduceLT, entE, getE, putE, ↓reduceIte, Nat.reduceEqDiff, argsE, Int.reduceEq, convertA, lenA, foldI, A.cells, A.leaf, List.replicate, viewA, getO, Nat.reduceLeDiff, loadA, cellsAt, cellsTo, faA, indexAddrA, asInt, Int.reduceLE, Int.reduceLT, Int.reduceToNat, eq_self, Nat.reducePow, Int.reducePow, Int.reduceAdd, Int.reduceMul, Int.reduceSub, Int.reduceNeg, keyOk, mapPutA, lookupA, mapOf, sliceA, boundI, elemsOf, appendA, storeA, setRange, indexA, Nat.reduceBEq, Int.cast_ofNat_Int, reduceCtorEq, Nat.reduceAdd, Nat.reduceMul, Nat.reduceSub, evTy0, evTy1, evTy2, evTy3, evTy4, evTy5, callR_data aw rfl rfl, callR_data lg rfl rfl, callR_data fl rfl rfl, callR_data c1 rfl rfl, callR_data c2 rfl rfl, callR_data c3 rfl rfl, callR_data a1 rfl rfl, callR_data a2 rfl rfl, callR_data a3 rfl rfl, callR_data a4 rfl rfl, callR_data s1 rfl rfl, callR_data s2 rfl rfl, callR_data d1 rfl rfl, callR_data d2 rfl rfl, t1, hm, w0, u1, v1, hlz, hmz, hb, hb2, hz, List.length_map, take_whole , sm, hg', hlt, m1, m2, m3, m4, w4, List.length_set, take_set]
  · have hco : (⟨rs, rf, rm⟩ : Ca).ok := okR
    have d2 := refCheck_ev k (by omega) _ hco
    simp only at d2
    rw [hR] at d2
    simp only [s6, n6, ↓evPre, ev0, ev1, ev2, ev3, ev4, ev5, Nat.reduceLT, entE, getE, putE, ↓reduceIte, Nat.reduceEqDiff, argsE, Int.reduceEq, convertA, lenA, foldI, A.cells, A.leaf, List.replicate, viewA, getO, Nat.reduceLeDiff, loadA, cellsAt, cellsTo, faA, indexAddrA, asInt, Int.reduceLE, Int.reduceLT, Int.reduceToNat, eq_self, Nat.reducePow, Int.reducePow, Int.reduceAdd, Int.reduceMul, Int.reduceSub, Int.reduceNeg, keyOk, mapPutA, lookupA, mapOf, sliceA, boundI, elemsOf, appendA, storeA, setRange, indexA, Nat.reduceBEq, Int.cast_ofNat_Int, reduceCtorEq, Nat.reduceAdd, Nat.reduceMul, Nat.reduceSub, evTy0, evTy1, evTy2, evTy3, evTy4, evTy5, callR_data aw rfl rfl, callR_data lg rfl rfl, callR_data fl rfl rfl, callR_data c1 rfl rfl, callR_data c2 rfl rfl, callR_data c3 rfl rfl, callR_data a1 rfl rfl, callR_data a2 rfl rfl, callR_data a3 rfl rfl, callR_data a4 rfl rfl, callR_data s1 rfl rfl, callR_data s2 rfl rfl, callR_data d2 rfl rfl, t1, hm, w0, u1, v1, hlz, hmz, hb, hb2, hz, List.length_map, take_whole ]

theorem Checks_F4 (k : Nat) (hk : 400 ≤ k) (c : Ca) (hlong : longB c = false) (sz sk : Int) (hsz : 0 ≤ sz ∧ sz ≤ 255) (hsk : 0 ≤ sk ∧ sk ≤ 255) (l : List Us) (hl : l.length ≤ 60) (hu : ∀ u ∈ l, u.ok) (fi at' n : Int) (hfi : 0 ≤ fi ∧ fi ≤ 255) (hat : 0 ≤ at' ∧ at' ≤ 255) (hm : fi % 7 = 4) :
    callF Try.prog Hs E1 k 6 [.agg [.d (.int .i64 c.s), .d (.int .i64 c.f), .d (.sl 5 (c.ms.map Mk.d))], .d (.int .u8 sz), .d (.int .u8 sk), .d (.sl 4 (l.map Us.d)), .d (.int .u8 fi), .d (.int .u8 at'), .d (.int .i64 n)] [] = some (.d (.bool true), []) := by
  obtain ⟨k, rfl⟩ : ∃ j, k = j + 1 := ⟨k - 1, by omega⟩
  refine evalE rfl Try.func6 l6 ?_ (Nat.le_of_ble_eq_true rfl)
  have aw := awake_ev k (by omega)
  have lg := long_ev k (by omega) c
  rw [hlong] at lg
  have fl := filled_ev k (by omega) sz sk hsz hsk l hl hu
  have hR : checkV (play (sk % 40) l ⟨1 + sz % 40, 0, []⟩) = 0 := play_check l _ (new_check (by omega)).2
  generalize play (sk % 40) l ⟨1 + sz % 40, 0, []⟩ = R at fl hR
  generalize cnt (sk % 40) l ⟨1 + sz % 40, 0, []⟩ 0 = N at fl
  have okR := check_cok hR
  have c1 := Check_ev k (by omega) R okR
  rw [hR] at c1
  have c2 := Check_ev k (by omega) c (long_ok hlong)
  have c3 := refCheck_ev k (by omega) c (long_ok hlong)
  generalize checkV c = cc at c2 c3
  obtain ⟨bn1, bn2, bn3, bn4⟩ := check_iff.1 hR
  have a1 := New_ev k (by omega) n
  have a2 := refNew_ev k (by omega) n
  have s1 := Same_ev k (newV n).1 (by rw [new_len]; omega) (by rw [new_len]; omega)
  have a3 := New_ev k (by omega) (at' % 43)
  have a4 := refNew_ev k (by omega) (at' % 43)
  have s2 := Same_ev k (newV (at' % 43)).1 (by rw [new_len]; omega) (by rw [new_len]; omega)
  generalize newV n = NA at a1 a2 s1
  generalize newV (at' % 43) = NB at a3 a4 s2
  obtain ⟨⟨na1, na2, na3⟩, na4⟩ := NA
  obtain ⟨⟨nb1, nb2, nb3⟩, nb4⟩ := NB
  obtain ⟨rs, rf, rm⟩ := R
  simp only [tupC] at fl a1 a2 a3 a4 s1 s2 c1 bn1 bn2 bn3 bn4
  obtain ⟨t1, t2, t3⟩ := tmodB (m := 7) hfi.1 (by omega)
  have w0 := i64_in at' (by omega)
  obtain ⟨u1, u2, u3⟩ := tmodB (m := 43) hat.1 (by omega)
  obtain ⟨v1, v2, v3⟩ := tmodB (m := 5) hat.1 (by omega)
  have hlz : ¬ 60 < (l.length : Int) := by omega
  have hmz : ¬ 60 < ((l.map Us.d).length : Int) := by rw [List.length_map]; omega
  have hb : rm.length * 64 ≤ 140737488355328 := by have := okR.1; simp at this; omega
  have hb2 : (rm.length + 1) * 64 ≤ 140737488355328 := by have := okR.1; simp at this; omega
  by_cases hz : 0 < (rm.length : Int)
  · obtain ⟨m1, m2, m3⟩ := tmodB (m := (rm.length : Int)) hat.1 hz
    have m4 : ¬ (rm.length : Int) = 0 := by omega
    have w4 := i64_in (at' % (rm.length : Int)) (by have := okR.1; simp at this; omega)
    generalize at' % (rm.length : Int) = J at m1 m2 m3 w4
    have hlt : J.toNat < rm.length := by omega
    obtain ⟨b, hg⟩ : ∃ b, rm[J.toNat]? = some b := ⟨_, List.getElem?_eq_getElem hlt⟩
    have hg' := mk_get hg
    have okb := okR.2 b (List.mem_of_getElem? hg)
    obtain ⟨y1, y2, y3⟩ := tmodB (m := 2) hat.1 (by omega)
    have y4 := i64_in (199 + at' % 2) (by omega)
    have sm : (rm.map Mk.d).set J.toNat [.str b.n, .str b.i, .str b.r, .int .i64 b.t, .int .i64 (199 + at' % 2)] = (rm.set J.toNat ⟨b.n, b.i, b.r, b.t, 199 + at' % 2⟩).map Mk.d := set_map _ _ ⟨b.n, b.i, b.r, b.t, 199 + at' % 2⟩
    have hco : (⟨rs, rf, rm.set J.toNat ⟨b.n, b.i, b.r, b.t, 199 + at' % 2⟩⟩ : Ca).ok := ok_set (b := ⟨b.n, b.i, b.r, b.t, 199 + at' % 2⟩) okR okb _ _
    have d1 := Check_ev k (by omega) _ hco
    have d2 := refCheck_ev k (by omega) _ hco
    simp only at d1 d2
    generalize checkV _ = dd at d1 d2
    simp only [s6, n6, ↓evPre, ev0, ev1, ev2, ev3, ev4, ev5, Nat.reduceLT, entE, getE, putE, ↓reduceIte, Nat.reduceEqDiff, argsE, Int.reduceEq, convertA, lenA, foldI, A.cells, A.leaf, List.replicate, viewA, getO, Nat.reduceLeDiff, loadA, cellsAt, cellsTo, faA, indexAddrA, asInt, Int.reduceLE, Int.reduceLT, Int.reduceToNat, eq_self, Nat.reducePow, Int.reducePow, Int.reduceAdd, Int.reduceMul, Int.reduceSub, Int.reduceNeg, keyOk, mapPutA, lookupA, mapOf, sliceA, boundI, elemsOf, appendA, storeA, setRange, indexA, Nat.reduceBEq, Int.cast_ofNat_Int, reduceCtorEq, Nat.reduceAdd, Nat.reduceMul, Nat.reduceSub, evTy0, evTy1, evTy2, evTy3, evTy4, evTy5, callR_data aw rfl rfl, callR_data lg rfl rfl, callR_data fl rfl rfl, callR_data c1 rfl rfl, callR_data c2 rfl rfl, callR_data c3 rfl rfl, callR_data a1 rfl rfl, callR_data a2 rfl rfl, callR_data a3 rfl rfl, callR_data a4 rfl rfl, callR_data s1 rfl rfl, callR_data s2 rfl rfl, callR_data d1 rfl rfl, callR_data d2 rfl rfl, t1, hm, w0, u1, v1, hlz, hmz, hb, hb2, hz, List.length_map, take_whole , sm, y1, y4, hg', hlt, m1, m2, m3, m4, w4, List.length_set, take_set]
  · have hco : (⟨rs, rf, rm⟩ : Ca).ok := okR
    have d2 := refCheck_ev k (by omega) _ hco
    simp only at d2
    rw [hR] at d2
    simp only [s6, n6, ↓evPre, ev0, ev1, ev2, ev3, ev4, ev5, Nat.reduceLT, entE, getE, putE, ↓reduceIte, Nat.reduceEqDiff, argsE, Int.reduceEq, convertA, lenA, foldI, A.cells, A.leaf, List.replicate, viewA, getO, Nat.reduceLeDiff, loadA, cellsAt, cellsTo, faA, indexAddrA, asInt, Int.reduceLE, Int.reduceLT, Int.reduceToNat, eq_self, Nat.reducePow, Int.reducePow, Int.reduceAdd, Int.reduceMul, Int.reduceSub, Int.reduceNeg, keyOk, mapPutA, lookupA, mapOf, sliceA, boundI, elemsOf, appendA, storeA, setRange, indexA, Nat.reduceBEq, Int.cast_ofNat_Int, reduceCtorEq, Nat.reduceAdd, Nat.reduceMul, Nat.reduceSub, evTy0, evTy1, evTy2, evTy3, evTy4, evTy5, callR_data aw rfl rfl, callR_data lg rfl rfl, callR_data fl rfl rfl, callR_data c1 rfl rfl, callR_data c2 rfl rfl, callR_data c3 rfl rfl, callR_data a1 rfl rfl, callR_data a2 rfl rfl, callR_data a3 rfl rfl, callR_data a4 rfl rfl, callR_data s1 rfl rfl, callR_data s2 rfl rfl, callR_data d2 rfl rfl, t1, hm, w0, u1, v1, hlz, hmz, hb, hb2, hz, List.length_map, take_whole ]

theorem Checks_F5 (k : Nat) (hk : 400 ≤ k) (c : Ca) (hlong : longB c = false) (sz sk : Int) (hsz : 0 ≤ sz ∧ sz ≤ 255) (hsk : 0 ≤ sk ∧ sk ≤ 255) (l : List Us) (hl : l.length ≤ 60) (hu : ∀ u ∈ l, u.ok) (fi at' n : Int) (hfi : 0 ≤ fi ∧ fi ≤ 255) (hat : 0 ≤ at' ∧ at' ≤ 255) (hm : fi % 7 = 5) :
    callF Try.prog Hs E1 k 6 [.agg [.d (.int .i64 c.s), .d (.int .i64 c.f), .d (.sl 5 (c.ms.map Mk.d))], .d (.int .u8 sz), .d (.int .u8 sk), .d (.sl 4 (l.map Us.d)), .d (.int .u8 fi), .d (.int .u8 at'), .d (.int .i64 n)] [] = some (.d (.bool true), []) := by
  obtain ⟨k, rfl⟩ : ∃ j, k = j + 1 := ⟨k - 1, by omega⟩
  refine evalE rfl Try.func6 l6 ?_ (Nat.le_of_ble_eq_true rfl)
  have aw := awake_ev k (by omega)
  have lg := long_ev k (by omega) c
  rw [hlong] at lg
  have fl := filled_ev k (by omega) sz sk hsz hsk l hl hu
  have hR : checkV (play (sk % 40) l ⟨1 + sz % 40, 0, []⟩) = 0 := play_check l _ (new_check (by omega)).2
  generalize play (sk % 40) l ⟨1 + sz % 40, 0, []⟩ = R at fl hR
  generalize cnt (sk % 40) l ⟨1 + sz % 40, 0, []⟩ 0 = N at fl
  have okR := check_cok hR
  have c1 := Check_ev k (by omega) R okR
  rw [hR] at c1
  have c2 := Check_ev k (by omega) c (long_ok hlong)
  have c3 := refCheck_ev k (by omega) c (long_ok hlong)
  generalize checkV c = cc at c2 c3
  obtain ⟨bn1, bn2, bn3, bn4⟩ := check_iff.1 hR
  have a1 := New_ev k (by omega) n
  have a2 := refNew_ev k (by omega) n
  have s1 := Same_ev k (newV n).1 (by rw [new_len]; omega) (by rw [new_len]; omega)
  have a3 := New_ev k (by omega) (at' % 43)
  have a4 := refNew_ev k (by omega) (at' % 43)
  have s2 := Same_ev k (newV (at' % 43)).1 (by rw [new_len]; omega) (by rw [new_len]; omega)
  generalize newV n = NA at a1 a2 s1
  generalize newV (at' % 43) = NB at a3 a4 s2
  obtain ⟨⟨na1, na2, na3⟩, na4⟩ := NA
  obtain ⟨⟨nb1, nb2, nb3⟩, nb4⟩ := NB
  obtain ⟨rs, rf, rm⟩ := R
  simp only [tupC] at fl a1 a2 a3 a4 s1 s2 c1 bn1 bn2 bn3 bn4
  obtain ⟨t1, t2, t3⟩ := tmodB (m := 7) hfi.1 (by omega)
  have w0 := i64_in at' (by omega)
  obtain ⟨u1, u2, u3⟩ := tmodB (m := 43) hat.1 (by omega)
  obtain ⟨v1, v2, v3⟩ := tmodB (m := 5) hat.1 (by omega)
  have hlz : ¬ 60 < (l.length : Int) := by omega
  have hmz : ¬ 60 < ((l.map Us.d).length : Int) := by rw [List.length_map]; omega
  have hb : rm.length * 64 ≤ 140737488355328 := by have := okR.1; simp at this; omega
  have hb2 : (rm.length + 1) * 64 ≤ 140737488355328 := by have := okR.1; simp at this; omega
  by_cases hz : 0 < (rm.length : Int)
  · obtain ⟨m1, m2, m3⟩ := tmodB (m := (rm.length : Int)) hat.1 hz
    have m4 : ¬ (rm.length : Int) = 0 := by omega
    have w4 := i64_in (at' % (rm.length : Int)) (by have := okR.1; simp at this; omega)
    generalize at' % (rm.length : Int) = J at m1 m2 m3 w4
    have hlt : J.toNat < rm.length := by omega
    obtain ⟨b, hg⟩ : ∃ b, rm[J.toNat]? = some b := ⟨_, List.getElem?_eq_getElem hlt⟩
    have hg' := mk_get hg
    have okb := okR.2 b (List.mem_of_getElem? hg)
    obtain ⟨b0, hg0⟩ : ∃ b0, rm[0]? = some b0 := ⟨_, List.getElem?_eq_getElem (by omega)⟩
    have hg0' := mk_get hg0
    have hlt0 : 0 < rm.length := by omega
    have okb0 := okR.2 b0 (List.mem_of_getElem? hg0)
    have sm : (rm.map Mk.d).set J.toNat [.str b0.n, .str b0.i, .str b0.r, .int .i64 b0.t, .int .i64 b0.k] = (rm.set J.toNat b0).map Mk.d := set_map _ _ b0
    have hco : (⟨rs, rf, rm.set J.toNat b0⟩ : Ca).ok := ok_set okR okb0 _ _
    have d1 := Check_ev k (by omega) _ hco
    have d2 := refCheck_ev k (by omega) _ hco
    simp only at d1 d2
    generalize checkV _ = dd at d1 d2
    simp only [s6, n6, ↓evPre, ev0, ev1, ev2, ev3, ev4, ev5, Nat.reduceLT, entE, getE, putE, ↓reduceIte, Nat.reduceEqDiff, argsE, Int.reduceEq, convertA, lenA, foldI, A.cells, A.leaf, List.replicate, viewA, getO, Nat.reduceLeDiff, loadA, cellsAt, cellsTo, faA, indexAddrA, asInt, Int.reduceLE, Int.reduceLT, Int.reduceToNat, eq_self, Nat.reducePow, Int.reducePow, Int.reduceAdd, Int.reduceMul, Int.reduceSub, Int.reduceNeg, keyOk, mapPutA, lookupA, mapOf, sliceA, boundI, elemsOf, appendA, storeA, setRange, indexA, Nat.reduceBEq, Int.cast_ofNat_Int, reduceCtorEq, Nat.reduceAdd, Nat.reduceMul, Nat.reduceSub, evTy0, evTy1, evTy2, evTy3, evTy4, evTy5, callR_data aw rfl rfl, callR_data lg rfl rfl, callR_data fl rfl rfl, callR_data c1 rfl rfl, callR_data c2 rfl rfl, callR_data c3 rfl rfl, callR_data a1 rfl rfl, callR_data a2 rfl rfl, callR_data a3 rfl rfl, callR_data a4 rfl rfl, callR_data s1 rfl rfl, callR_data s2 rfl rfl, callR_data d1 rfl rfl, callR_data d2 rfl rfl, t1, hm, w0, u1, v1, hlz, hmz, hb, hb2, hz, List.length_map, take_whole , sm, hg0', hlt0, hg', hlt, m1, m2, m3, m4, w4, List.length_set, take_set]
  · have hco : (⟨rs, rf, rm⟩ : Ca).ok := okR
    have d2 := refCheck_ev k (by omega) _ hco
    simp only at d2
    rw [hR] at d2
    simp only [s6, n6, ↓evPre, ev0, ev1, ev2, ev3, ev4, ev5, Nat.reduceLT, entE, getE, putE, ↓reduceIte, Nat.reduceEqDiff, argsE, Int.reduceEq, convertA, lenA, foldI, A.cells, A.leaf, List.replicate, viewA, getO, Nat.reduceLeDiff, loadA, cellsAt, cellsTo, faA, indexAddrA, asInt, Int.reduceLE, Int.reduceLT, Int.reduceToNat, eq_self, Nat.reducePow, Int.reducePow, Int.reduceAdd, Int.reduceMul, Int.reduceSub, Int.reduceNeg, keyOk, mapPutA, lookupA, mapOf, sliceA, boundI, elemsOf, appendA, storeA, setRange, indexA, Nat.reduceBEq, Int.cast_ofNat_Int, reduceCtorEq, Nat.reduceAdd, Nat.reduceMul, Nat.reduceSub, evTy0, evTy1, evTy2, evTy3, evTy4, evTy5, callR_data aw rfl rfl, callR_data lg rfl rfl, callR_data fl rfl rfl, callR_data c1 rfl rfl, callR_data c2 rfl rfl, callR_data c3 rfl rfl, callR_data a1 rfl rfl, callR_data a2 rfl rfl, callR_data a3 rfl rfl, callR_data a4 rfl rfl, callR_data s1 rfl rfl, callR_data s2 rfl rfl, callR_data d2 rfl rfl, t1, hm, w0, u1, v1, hlz, hmz, hb, hb2, hz, List.length_map, take_whole ]

theorem Checks_F6 (k : Nat) (hk : 400 ≤ k) (c : Ca) (hlong : longB c = false) (sz sk : Int) (hsz : 0 ≤ sz ∧ sz ≤ 255) (hsk : 0 ≤ sk ∧ sk ≤ 255) (l : List Us) (hl : l.length ≤ 60) (hu : ∀ u ∈ l, u.ok) (fi at' n : Int) (hfi : 0 ≤ fi ∧ fi ≤ 255) (hat : 0 ≤ at' ∧ at' ≤ 255) (hm : fi % 7 = 6) :
    callF Try.prog Hs E1 k 6 [.agg [.d (.int .i64 c.s), .d (.int .i64 c.f), .d (.sl 5 (c.ms.map Mk.d))], .d (.int .u8 sz), .d (.int .u8 sk), .d (.sl 4 (l.map Us.d)), .d (.int .u8 fi), .d (.int .u8 at'), .d (.int .i64 n)] [] = some (.d (.bool true), []) := by
  obtain ⟨k, rfl⟩ : ∃ j, k = j + 1 := ⟨k - 1, by omega⟩
  refine evalE rfl Try.func6 l6 ?_ (Nat.le_of_ble_eq_true rfl)
  have aw := awake_ev k (by omega)
  have lg := long_ev k (by omega) c
  rw [hlong] at lg
  have fl := filled_ev k (by omega) sz sk hsz hsk l hl hu
  have hR : checkV (play (sk % 40) l ⟨1 + sz % 40, 0, []⟩) = 0 := play_check l _ (new_check (by omega)).2
  generalize play (sk % 40) l ⟨1 + sz % 40, 0, []⟩ = R at fl hR
  generalize cnt (sk % 40) l ⟨1 + sz % 40, 0, []⟩ 0 = N at fl
  have okR := check_cok hR
  have c1 := Check_ev k (by omega) R okR
  rw [hR] at c1
  have c2 := Check_ev k (by omega) c (long_ok hlong)
  have c3 := refCheck_ev k (by omega) c (long_ok hlong)
  generalize checkV c = cc at c2 c3
  obtain ⟨bn1, bn2, bn3, bn4⟩ := check_iff.1 hR
  have a1 := New_ev k (by omega) n
  have a2 := refNew_ev k (by omega) n
  have s1 := Same_ev k (newV n).1 (by rw [new_len]; omega) (by rw [new_len]; omega)
  have a3 := New_ev k (by omega) (at' % 43)
  have a4 := refNew_ev k (by omega) (at' % 43)
  have s2 := Same_ev k (newV (at' % 43)).1 (by rw [new_len]; omega) (by rw [new_len]; omega)
  generalize newV n = NA at a1 a2 s1
  generalize newV (at' % 43) = NB at a3 a4 s2
  obtain ⟨⟨na1, na2, na3⟩, na4⟩ := NA
  obtain ⟨⟨nb1, nb2, nb3⟩, nb4⟩ := NB
  obtain ⟨rs, rf, rm⟩ := R
  simp only [tupC] at fl a1 a2 a3 a4 s1 s2 c1 bn1 bn2 bn3 bn4
  obtain ⟨t1, t2, t3⟩ := tmodB (m := 7) hfi.1 (by omega)
  have w0 := i64_in at' (by omega)
  obtain ⟨u1, u2, u3⟩ := tmodB (m := 43) hat.1 (by omega)
  obtain ⟨v1, v2, v3⟩ := tmodB (m := 5) hat.1 (by omega)
  have hlz : ¬ 60 < (l.length : Int) := by omega
  have hmz : ¬ 60 < ((l.map Us.d).length : Int) := by rw [List.length_map]; omega
  have hb : rm.length * 64 ≤ 140737488355328 := by have := okR.1; simp at this; omega
  have hb2 : (rm.length + 1) * 64 ≤ 140737488355328 := by have := okR.1; simp at this; omega
  by_cases hz : 0 < (rm.length : Int)
  · obtain ⟨m1, m2, m3⟩ := tmodB (m := (rm.length : Int)) hat.1 hz
    have m4 : ¬ (rm.length : Int) = 0 := by omega
    have w4 := i64_in (at' % (rm.length : Int)) (by have := okR.1; simp at this; omega)
    generalize at' % (rm.length : Int) = J at m1 m2 m3 w4
    have hlt : J.toNat < rm.length := by omega
    obtain ⟨b, hg⟩ : ∃ b, rm[J.toNat]? = some b := ⟨_, List.getElem?_eq_getElem hlt⟩
    have hg' := mk_get hg
    have okb := okR.2 b (List.mem_of_getElem? hg)
    have sm : (rm.map Mk.d).set J.toNat [.str b.n, .str b.i, .str (⟨#[]⟩ : ByteArray), .int .i64 b.t, .int .i64 b.k] = (rm.set J.toNat ⟨b.n, b.i, (⟨#[]⟩ : ByteArray), b.t, b.k⟩).map Mk.d := set_map _ _ ⟨b.n, b.i, (⟨#[]⟩ : ByteArray), b.t, b.k⟩
    have hco : (⟨rs, rf, rm.set J.toNat ⟨b.n, b.i, (⟨#[]⟩ : ByteArray), b.t, b.k⟩⟩ : Ca).ok := ok_set (b := ⟨b.n, b.i, (⟨#[]⟩ : ByteArray), b.t, b.k⟩) okR ⟨okb.1, okb.2.1, Nat.zero_le _⟩ _ _
    have d1 := Check_ev k (by omega) _ hco
    have d2 := refCheck_ev k (by omega) _ hco
    simp only at d1 d2
    generalize checkV _ = dd at d1 d2
    simp only [s6, n6, ↓evPre, ev0, ev1, ev2, ev3, ev4, ev5, Nat.reduceLT, entE, getE, putE, ↓reduceIte, Nat.reduceEqDiff, argsE, Int.reduceEq, convertA, lenA, foldI, A.cells, A.leaf, List.replicate, viewA, getO, Nat.reduceLeDiff, loadA, cellsAt, cellsTo, faA, indexAddrA, asInt, Int.reduceLE, Int.reduceLT, Int.reduceToNat, eq_self, Nat.reducePow, Int.reducePow, Int.reduceAdd, Int.reduceMul, Int.reduceSub, Int.reduceNeg, keyOk, mapPutA, lookupA, mapOf, sliceA, boundI, elemsOf, appendA, storeA, setRange, indexA, Nat.reduceBEq, Int.cast_ofNat_Int, reduceCtorEq, Nat.reduceAdd, Nat.reduceMul, Nat.reduceSub, evTy0, evTy1, evTy2, evTy3, evTy4, evTy5, callR_data aw rfl rfl, callR_data lg rfl rfl, callR_data fl rfl rfl, callR_data c1 rfl rfl, callR_data c2 rfl rfl, callR_data c3 rfl rfl, callR_data a1 rfl rfl, callR_data a2 rfl rfl, callR_data a3 rfl rfl, callR_data a4 rfl rfl, callR_data s1 rfl rfl, callR_data s2 rfl rfl, callR_data d1 rfl rfl, callR_data d2 rfl rfl, t1, hm, w0, u1, v1, hlz, hmz, hb, hb2, hz, List.length_map, take_whole , sm, hg', hlt, m1, m2, m3, m4, w4, List.length_set, take_set]
  · have hco : (⟨rs, rf, rm⟩ : Ca).ok := okR
    have d2 := refCheck_ev k (by omega) _ hco
    simp only at d2
    rw [hR] at d2
    simp only [s6, n6, ↓evPre, ev0, ev1, ev2, ev3, ev4, ev5, Nat.reduceLT, entE, getE, putE, ↓reduceIte, Nat.reduceEqDiff, argsE, Int.reduceEq, convertA, lenA, foldI, A.cells, A.leaf, List.replicate, viewA, getO, Nat.reduceLeDiff, loadA, cellsAt, cellsTo, faA, indexAddrA, asInt, Int.reduceLE, Int.reduceLT, Int.reduceToNat, eq_self, Nat.reducePow, Int.reducePow, Int.reduceAdd, Int.reduceMul, Int.reduceSub, Int.reduceNeg, keyOk, mapPutA, lookupA, mapOf, sliceA, boundI, elemsOf, appendA, storeA, setRange, indexA, Nat.reduceBEq, Int.cast_ofNat_Int, reduceCtorEq, Nat.reduceAdd, Nat.reduceMul, Nat.reduceSub, evTy0, evTy1, evTy2, evTy3, evTy4, evTy5, callR_data aw rfl rfl, callR_data lg rfl rfl, callR_data fl rfl rfl, callR_data c1 rfl rfl, callR_data c2 rfl rfl, callR_data c3 rfl rfl, callR_data a1 rfl rfl, callR_data a2 rfl rfl, callR_data a3 rfl rfl, callR_data a4 rfl rfl, callR_data s1 rfl rfl, callR_data s2 rfl rfl, callR_data d2 rfl rfl, t1, hm, w0, u1, v1, hlz, hmz, hb, hb2, hz, List.length_map, take_whole ]

end Rp
end Ab
