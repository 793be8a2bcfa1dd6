/- A part of the proof of a row by an interpreter that is proved sound; no conditions of its own. -/
import Derived.Test.YtipfkflogjfbjaaAbRpG
namespace Ab
open Go Go.Proofs Go.IntWalk
set_option maxRecDepth 10000
set_option linter.unusedSimpArgs false
set_option linter.unusedVariables false
namespace Rp
open Pr Cv

theorem Checks_law (k : Nat) (hk : 400 ≤ k) (c : Ca) (sz sk : Int) (hsz : 0 ≤ sz ∧ sz ≤ 255) (hsk : 0 ≤ sk ∧ sk ≤ 255) (l : List Us) (hu : ∀ u ∈ l, u.ok) (fi at' n : Int) (hfi : 0 ≤ fi ∧ fi ≤ 255) (hat : 0 ≤ at' ∧ at' ≤ 255) :
    callF Try.prog Hs E1 k 6 [.agg [.d (.int .i64 c.s), .d (.int .i64 c.f), .d (.sl 5 (c.ms.map Mk.d))], .d (.int .u8 sz), .d (.int .u8 sk), .d (.sl 4 (l.map Us.d)), .d (.int .u8 fi), .d (.int .u8 at'), .d (.int .i64 n)] [] = some (.d (.bool true), []) := by
  by_cases hl : l.length ≤ 60
  · cases hlong : longB c
    · have h7 : fi % 7 = 0 ∨ fi % 7 = 1 ∨ fi % 7 = 2 ∨ fi % 7 = 3 ∨ fi % 7 = 4 ∨ fi % 7 = 5 ∨ fi % 7 = 6 := by omega
      rcases h7 with h | h | h | h | h | h | h
      · exact Checks_F0 k hk c hlong sz sk hsz hsk l hl hu fi at' n hfi hat h
      · exact Checks_F1 k hk c hlong sz sk hsz hsk l hl hu fi at' n hfi hat h
      · exact Checks_F2 k hk c hlong sz sk hsz hsk l hl hu fi at' n hfi hat h
      · exact Checks_F3 k hk c hlong sz sk hsz hsk l hl hu fi at' n hfi hat h
      · exact Checks_F4 k hk c hlong sz sk hsz hsk l hl hu fi at' n hfi hat h
      · exact Checks_F5 k hk c hlong sz sk hsz hsk l hl hu fi at' n hfi hat h
      · exact Checks_F6 k hk c hlong sz sk hsz hsk l hl hu fi at' n hfi hat h
    · obtain ⟨k, rfl⟩ : ∃ j, k = j + 1 := ⟨k - 1, by omega⟩
      refine evalE rfl Try.func6 l6 ?_ (Nat.le_of_ble_eq_true rfl)
      have aw := awake_ev k (by omega)
      have lg := long_ev k (by omega) c
      rw [hlong] at lg
      simp only [s6, n6, ↓evPre, ev0, ev1, ev2, ev3, ev4, ev5, Nat.reduceLT, entE, getE, putE, ↓reduceIte, Nat.reduceEqDiff, argsE, Int.reduceEq, convertA, lenA, foldI, A.cells, A.leaf, List.replicate, viewA, getO, Nat.reduceLeDiff, loadA, cellsAt, cellsTo, faA, indexAddrA, asInt, Int.reduceLE, Int.reduceLT, Int.reduceToNat, eq_self, Nat.reducePow, Int.reducePow, Int.reduceAdd, Int.reduceMul, Int.reduceSub, Int.reduceNeg, keyOk, mapPutA, lookupA, mapOf, sliceA, boundI, elemsOf, appendA, storeA, setRange, indexA, Nat.reduceBEq, Int.cast_ofNat_Int, reduceCtorEq, Nat.reduceAdd, Nat.reduceMul, Nat.reduceSub, evTy0, evTy1, evTy2, evTy3, evTy4, evTy5, callR_data aw rfl rfl, callR_data lg rfl rfl]
  · obtain ⟨k, rfl⟩ : ∃ j, k = j + 1 := ⟨k - 1, by omega⟩
    refine evalE rfl Try.func6 l6 ?_ (Nat.le_of_ble_eq_true rfl)
    have aw := awake_ev k (by omega)
    have lg := long_ev k (by omega) c
    have hl' : 60 < (l.length : Int) := by omega
    cases hlong : longB c <;> rw [hlong] at lg
    · simp only [s6, n6, ↓evPre, ev0, ev1, ev2, ev3, ev4, ev5, Nat.reduceLT, entE, getE, putE, ↓reduceIte, Nat.reduceEqDiff, argsE, Int.reduceEq, convertA, lenA, foldI, A.cells, A.leaf, List.replicate, viewA, getO, Nat.reduceLeDiff, loadA, cellsAt, cellsTo, faA, indexAddrA, asInt, Int.reduceLE, Int.reduceLT, Int.reduceToNat, eq_self, Nat.reducePow, Int.reducePow, Int.reduceAdd, Int.reduceMul, Int.reduceSub, Int.reduceNeg, keyOk, mapPutA, lookupA, mapOf, sliceA, boundI, elemsOf, appendA, storeA, setRange, indexA, Nat.reduceBEq, Int.cast_ofNat_Int, reduceCtorEq, Nat.reduceAdd, Nat.reduceMul, Nat.reduceSub, evTy0, evTy1, evTy2, evTy3, evTy4, evTy5, callR_data aw rfl rfl, callR_data lg rfl rfl, List.length_map, hl']
    · simp only [s6, n6, ↓evPre, ev0, ev1, ev2, ev3, ev4, ev5, Nat.reduceLT, entE, getE, putE, ↓reduceIte, Nat.reduceEqDiff, argsE, Int.reduceEq, convertA, lenA, foldI, A.cells, A.leaf, List.replicate, viewA, getO, Nat.reduceLeDiff, loadA, cellsAt, cellsTo, faA, indexAddrA, asInt, Int.reduceLE, Int.reduceLT, Int.reduceToNat, eq_self, Nat.reducePow, Int.reducePow, Int.reduceAdd, Int.reduceMul, Int.reduceSub, Int.reduceNeg, keyOk, mapPutA, lookupA, mapOf, sliceA, boundI, elemsOf, appendA, storeA, setRange, indexA, Nat.reduceBEq, Int.cast_ofNat_Int, reduceCtorEq, Nat.reduceAdd, Nat.reduceMul, Nat.reduceSub, evTy0, evTy1, evTy2, evTy3, evTy4, evTy5, callR_data aw rfl rfl, callR_data lg rfl rfl]
end Rp
end Ab
