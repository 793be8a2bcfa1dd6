/- A part of the proof of a row by an interpreter that is proved sound; no conditions of its own. -/
import Derived.Test.YtipfkflogjfbjaaAbRpE
namespace Ab
open Go Go.Proofs Go.IntWalk
set_option maxRecDepth 10000
set_option linter.unusedSimpArgs false
set_option linter.unusedVariables false
namespace Rp
open Pr Cv

theorem add_len (c : Ca) (m : Mk) (now skew : Int) : (addV c m now skew).1.ms.length ≤ c.ms.length + 1 := by
  have := keep_length (floorV c.f now skew) c.ms
  unfold addV
  repeat' split
  all_goals simp
  all_goals omega

theorem Adds_loop (k : Nat) (hk : 330 ≤ k) (sk now oth : Int) (hsk : 0 ≤ sk ∧ sk ≤ 255) (l : List Us) (hl : l.length ≤ 60) (hu : ∀ u ∈ l, u.ok) (m : Mk) (K : X → Env → Store → Res) (r : Res) :
    ∀ (j : Nat) (z : Int) (c : Ca) (e : Env) (o : Store), (∀ K, headE 173 0 (some ([1, 2, 4, 5, 9, 13, 15], 0)) e o K = K (.cons 1 (.d (.int .u8 sk)) (.cons 2 (.d (.sl 4 (l.map Us.d))) (.cons 4 (.d (.int .i64 now)) (.cons 5 (.d (.int .i64 oth)) (.cons 9 (.bp 0 0) (.cons 13 (.bp 1 0) (.cons 15 (.d (.int .i64 z)) (.nil .top)))))))) [.box [.d (.str m.n), .d (.str m.i), .d (.str m.r), .d (.int .i64 m.t), .d (.int .i64 m.k)], .box [.d (.int .i64 c.s), .d (.int .i64 c.f), .d (.sl 5 (c.ms.map Mk.d))]]) →
      checkV c = 0 → 0 ≤ z → z ≤ l.length → l.length - z < j →
      (∀ e (c' : Ca), checkV c' = 0 → getE e 1 = .d (.int .u8 sk) → getE e 4 = .d (.int .i64 now) → getE e 5 = .d (.int .i64 oth) → getE e 9 = .bp 0 0 → getE e 13 = .bp 1 0 → K (.exit 0) e [.box [.d (.str m.n), .d (.str m.i), .d (.str m.r), .d (.int .i64 m.t), .d (.int .i64 m.k)], .box [.d (.int .i64 c'.s), .d (.int .i64 c'.f), .d (.sl 5 (c'.ms.map Mk.d))]] = r) →
      loopC Try.prog Hs (callF Try.prog Hs E1 k) 173 k 0 (some ([1, 2, 4, 5, 9, 13, 15], 0)) s7_0 j e o K ⟨0⟩ = r := by
  generalize hS : s7_0 = S
  intro j
  induction j with
  | zero => intro z c e o hh hc hz hz2 hj; omega
  | succ j ih =>
    intro z c e o hh hc hz hz2 hj hX
    rw [l_succ2 hS, hh]
    by_cases h : z < l.length
    · have hlt : z.toNat < l.length := by omega
      obtain ⟨u, hg⟩ : ∃ u, l[z.toNat]? = some u := ⟨_, List.getElem?_eq_getElem hlt⟩
      have hw := i64_in (z + 1) (by omega)
      have hum := hu u (List.mem_of_getElem? hg)
      have hg' := us_get hg
      have f1 := mark_ev k (by omega) u hum
      have hcl := (check_cok hc).1
      have f2 := Add_ev k (by omega) c (check_cok hc) (markV u) (mark_valid u hum) (1000 + u.n / 2) (sk % 40)
      have f3 := refAdd_ev k (by omega) c (check_cok hc) (markV u) (mark_valid u hum) (1000 + u.n / 2) (sk % 40)
      have f5 := Has_ev k c.s c.f c.ms (markV u) (by omega) (by omega)
      have f6 := refHas_ev k c.s c.f c.ms (markV u) (by omega) (by omega)
      have w1 := i64_in u.n (by have := hum.2.2.2; omega)
      have q1 := i64_quo u.n 2 (by have := hum.2.2.2; exact ⟨by omega, by omega, by omega⟩)
      have w2 := i64_in (1000 + u.n / 2) (by have := hum.2.2.2; omega)
      have w3 := i64_in sk (by omega)
      obtain ⟨t1, t2, t3⟩ := tmodB (m := 40) hsk.1 (by omega)
      have hck := add_check (c := c) (m := markV u) (now := 1000 + u.n / 2) (skew := sk % 40)
      have hal := add_len c (markV u) (1000 + u.n / 2) (sk % 40)
      have f4 := Same_ev k (addV c (markV u) (1000 + u.n / 2) (sk % 40)).1 (by omega) (by omega)
      generalize addV c (markV u) (1000 + u.n / 2) (sk % 40) = a at *
      generalize hasB c.ms (markV u) = hb at f5 f6
      obtain ⟨a, x⟩ := a
      simp only at hck f4
      simp only [tupC] at f2 f3
      by_cases q : x = 0
      · subst q
        simp only [s7_0, ↓evPre, ev0, ev1, ev2, ev3, ev4, ev5, Nat.reduceLT, entE, getE, putE, ↓reduceIte, Nat.reduceEqDiff, argsE, Int.reduceEq, convertA, lenA, foldI, A.cells, A.leaf, List.replicate, viewA, getO, Nat.reduceLeDiff, loadA, cellsAt, cellsTo, faA, indexAddrA, asInt, Int.reduceLE, Int.reduceLT, Int.reduceToNat, eq_self, Nat.reducePow, Int.reducePow, Int.reduceAdd, Int.reduceMul, Int.reduceSub, Int.reduceNeg, keyOk, mapPutA, lookupA, mapOf, sliceA, boundI, elemsOf, appendA, storeA, setRange, indexA, Nat.reduceBEq, Int.cast_ofNat_Int, reduceCtorEq, Nat.reduceAdd, Nat.reduceMul, Nat.reduceSub, evTy0, evTy1, evTy2, evTy3, evTy4, evTy5, h, hz, hg', hw, w1, w2, w3, q1, t1, List.length_map, callR_data f1 rfl rfl, callR_data f2 rfl rfl, callR_data f3 rfl rfl, callR_data f4 rfl rfl, callR_data f5 rfl rfl, callR_data f6 rfl rfl]
        exact ih (z + 1) a _ _ (fun K => by simp only [↓evPre, ev0, ev1, ev2, ev3, ev4, ev5, Nat.reduceLT, entE, getE, putE, ↓reduceIte, Nat.reduceEqDiff, argsE, Int.reduceEq, convertA, lenA, foldI, A.cells, A.leaf, List.replicate, viewA, getO, Nat.reduceLeDiff, loadA, cellsAt, cellsTo, faA, indexAddrA, asInt, Int.reduceLE, Int.reduceLT, Int.reduceToNat, eq_self, Nat.reducePow, Int.reducePow, Int.reduceAdd, Int.reduceMul, Int.reduceSub, Int.reduceNeg, keyOk, mapPutA, lookupA, mapOf, sliceA, boundI, elemsOf, appendA, storeA, setRange, indexA, Nat.reduceBEq, Int.cast_ofNat_Int, reduceCtorEq, Nat.reduceAdd, Nat.reduceMul, Nat.reduceSub, evTy0, evTy1, evTy2, evTy3, evTy4, evTy5]) (hck rfl) (by omega) (by omega) (by omega) hX
      · simp only [s7_0, ↓evPre, ev0, ev1, ev2, ev3, ev4, ev5, Nat.reduceLT, entE, getE, putE, ↓reduceIte, Nat.reduceEqDiff, argsE, Int.reduceEq, convertA, lenA, foldI, A.cells, A.leaf, List.replicate, viewA, getO, Nat.reduceLeDiff, loadA, cellsAt, cellsTo, faA, indexAddrA, asInt, Int.reduceLE, Int.reduceLT, Int.reduceToNat, eq_self, Nat.reducePow, Int.reducePow, Int.reduceAdd, Int.reduceMul, Int.reduceSub, Int.reduceNeg, keyOk, mapPutA, lookupA, mapOf, sliceA, boundI, elemsOf, appendA, storeA, setRange, indexA, Nat.reduceBEq, Int.cast_ofNat_Int, reduceCtorEq, Nat.reduceAdd, Nat.reduceMul, Nat.reduceSub, evTy0, evTy1, evTy2, evTy3, evTy4, evTy5, h, hz, hg', hw, w1, w2, w3, q1, t1, List.length_map, callR_data f1 rfl rfl, callR_data f2 rfl rfl, callR_data f3 rfl rfl, callR_data f4 rfl rfl, callR_data f5 rfl rfl, callR_data f6 rfl rfl, q]
        exact ih (z + 1) c _ _ (fun K => by simp only [↓evPre, ev0, ev1, ev2, ev3, ev4, ev5, Nat.reduceLT, entE, getE, putE, ↓reduceIte, Nat.reduceEqDiff, argsE, Int.reduceEq, convertA, lenA, foldI, A.cells, A.leaf, List.replicate, viewA, getO, Nat.reduceLeDiff, loadA, cellsAt, cellsTo, faA, indexAddrA, asInt, Int.reduceLE, Int.reduceLT, Int.reduceToNat, eq_self, Nat.reducePow, Int.reducePow, Int.reduceAdd, Int.reduceMul, Int.reduceSub, Int.reduceNeg, keyOk, mapPutA, lookupA, mapOf, sliceA, boundI, elemsOf, appendA, storeA, setRange, indexA, Nat.reduceBEq, Int.cast_ofNat_Int, reduceCtorEq, Nat.reduceAdd, Nat.reduceMul, Nat.reduceSub, evTy0, evTy1, evTy2, evTy3, evTy4, evTy5]) hc (by omega) (by omega) (by omega) hX
    · simp only [s7_0, ↓evPre, ev0, ev1, ev2, ev3, ev4, ev5, Nat.reduceLT, entE, getE, putE, ↓reduceIte, Nat.reduceEqDiff, argsE, Int.reduceEq, convertA, lenA, foldI, A.cells, A.leaf, List.replicate, viewA, getO, Nat.reduceLeDiff, loadA, cellsAt, cellsTo, faA, indexAddrA, asInt, Int.reduceLE, Int.reduceLT, Int.reduceToNat, eq_self, Nat.reducePow, Int.reducePow, Int.reduceAdd, Int.reduceMul, Int.reduceSub, Int.reduceNeg, keyOk, mapPutA, lookupA, mapOf, sliceA, boundI, elemsOf, appendA, storeA, setRange, indexA, Nat.reduceBEq, Int.cast_ofNat_Int, reduceCtorEq, Nat.reduceAdd, Nat.reduceMul, Nat.reduceSub, evTy0, evTy1, evTy2, evTy3, evTy4, evTy5, h, List.length_map]
      exact hX _ c hc rfl rfl rfl rfl rfl

theorem Adds_loop2 (k : Nat) (hk : 330 ≤ k) (sk now oth : Int) (hsk : 0 ≤ sk ∧ sk ≤ 255) (m : Mk) (hm : m.c.ok 100) (c : Ca) (hc : checkV c = 0) (K : X → Env → Store → Res) (r : Res) :
    ∀ (j : Nat) (z : Int) (e : Env) (o : Store), (∀ K, headE 173 0 (some ([1, 4, 5, 9, 13, 22], 0)) e o K = K (.cons 1 (.d (.int .u8 sk)) (.cons 4 (.d (.int .i64 now)) (.cons 5 (.d (.int .i64 oth)) (.cons 9 (.bp 0 0) (.cons 13 (.bp 1 0) (.cons 22 (.d (.int .i64 z)) (.nil .top))))))) [.box [.d (.str m.n), .d (.str m.i), .d (.str m.r), .d (.int .i64 m.t), .d (.int .i64 m.k)], .box [.d (.int .i64 c.s), .d (.int .i64 c.f), .d (.sl 5 (c.ms.map Mk.d))]]) →
      0 ≤ z → z ≤ 3 → 3 - z < j →
      (∀ e, getE e 9 = .bp 0 0 → getE e 13 = .bp 1 0 → K (.exit 2) e [.box [.d (.str m.n), .d (.str m.i), .d (.str m.r), .d (.int .i64 m.t), .d (.int .i64 m.k)], .box [.d (.int .i64 c.s), .d (.int .i64 c.f), .d (.sl 5 (c.ms.map Mk.d))]] = r) →
      loopC Try.prog Hs (callF Try.prog Hs E1 k) 173 k 0 (some ([1, 4, 5, 9, 13, 22], 0)) s7_1 j e o K ⟨0⟩ = r := by
  generalize hS : s7_1 = S
  intro j
  induction j with
  | zero => intro z e o hh hz hz2 hj; omega
  | succ j ih =>
    intro z e o hh hz hz2 hj hX
    rw [l_succ2 hS, hh]
    have w3 := i64_in sk (by omega)
    have hcl := (check_cok hc).1
    have h4 : z = 0 ∨ z = 1 ∨ z = 2 ∨ z = 3 := by omega
    rcases h4 with rfl | rfl | rfl | rfl
    · have p1 := Add_ev k (by omega) c (check_cok hc) m hm now oth
      have p2 := refAdd_ev k (by omega) c (check_cok hc) m hm now oth
      have al := add_len c m now oth
      have p3 := Same_ev k (addV c m now oth).1 (by omega) (by omega)
      generalize addV c m now oth = a at p1 p2 p3
      obtain ⟨⟨a1, a2, a3⟩, a4⟩ := a
      simp only [tupC] at p1 p2 p3
      simp only [s7_1, ↓evPre, ev0, ev1, ev2, ev3, ev4, ev5, Nat.reduceLT, entE, getE, putE, ↓reduceIte, Nat.reduceEqDiff, argsE, Int.reduceEq, convertA, lenA, foldI, A.cells, A.leaf, List.replicate, viewA, getO, Nat.reduceLeDiff, loadA, cellsAt, cellsTo, faA, indexAddrA, asInt, Int.reduceLE, Int.reduceLT, Int.reduceToNat, eq_self, Nat.reducePow, Int.reducePow, Int.reduceAdd, Int.reduceMul, Int.reduceSub, Int.reduceNeg, keyOk, mapPutA, lookupA, mapOf, sliceA, boundI, elemsOf, appendA, storeA, setRange, indexA, Nat.reduceBEq, Int.cast_ofNat_Int, reduceCtorEq, Nat.reduceAdd, Nat.reduceMul, Nat.reduceSub, evTy0, evTy1, evTy2, evTy3, evTy4, evTy5, w3, callR_data p1 rfl rfl, callR_data p2 rfl rfl, callR_data p3 rfl rfl]
      exact ih 1 _ _ (fun K => by simp only [↓evPre, ev0, ev1, ev2, ev3, ev4, ev5, Nat.reduceLT, entE, getE, putE, ↓reduceIte, Nat.reduceEqDiff, argsE, Int.reduceEq, convertA, lenA, foldI, A.cells, A.leaf, List.replicate, viewA, getO, Nat.reduceLeDiff, loadA, cellsAt, cellsTo, faA, indexAddrA, asInt, Int.reduceLE, Int.reduceLT, Int.reduceToNat, eq_self, Nat.reducePow, Int.reducePow, Int.reduceAdd, Int.reduceMul, Int.reduceSub, Int.reduceNeg, keyOk, mapPutA, lookupA, mapOf, sliceA, boundI, elemsOf, appendA, storeA, setRange, indexA, Nat.reduceBEq, Int.cast_ofNat_Int, reduceCtorEq, Nat.reduceAdd, Nat.reduceMul, Nat.reduceSub, evTy0, evTy1, evTy2, evTy3, evTy4, evTy5]) (by omega) (by omega) (by omega) hX
    · have p1 := Add_ev k (by omega) c (check_cok hc) m hm m.t 300
      have p2 := refAdd_ev k (by omega) c (check_cok hc) m hm m.t 300
      have al := add_len c m m.t 300
      have p3 := Same_ev k (addV c m m.t 300).1 (by omega) (by omega)
      generalize addV c m m.t 300 = a at p1 p2 p3
      obtain ⟨⟨a1, a2, a3⟩, a4⟩ := a
      simp only [tupC] at p1 p2 p3
      simp only [s7_1, ↓evPre, ev0, ev1, ev2, ev3, ev4, ev5, Nat.reduceLT, entE, getE, putE, ↓reduceIte, Nat.reduceEqDiff, argsE, Int.reduceEq, convertA, lenA, foldI, A.cells, A.leaf, List.replicate, viewA, getO, Nat.reduceLeDiff, loadA, cellsAt, cellsTo, faA, indexAddrA, asInt, Int.reduceLE, Int.reduceLT, Int.reduceToNat, eq_self, Nat.reducePow, Int.reducePow, Int.reduceAdd, Int.reduceMul, Int.reduceSub, Int.reduceNeg, keyOk, mapPutA, lookupA, mapOf, sliceA, boundI, elemsOf, appendA, storeA, setRange, indexA, Nat.reduceBEq, Int.cast_ofNat_Int, reduceCtorEq, Nat.reduceAdd, Nat.reduceMul, Nat.reduceSub, evTy0, evTy1, evTy2, evTy3, evTy4, evTy5, w3, callR_data p1 rfl rfl, callR_data p2 rfl rfl, callR_data p3 rfl rfl]
      exact ih 2 _ _ (fun K => by simp only [↓evPre, ev0, ev1, ev2, ev3, ev4, ev5, Nat.reduceLT, entE, getE, putE, ↓reduceIte, Nat.reduceEqDiff, argsE, Int.reduceEq, convertA, lenA, foldI, A.cells, A.leaf, List.replicate, viewA, getO, Nat.reduceLeDiff, loadA, cellsAt, cellsTo, faA, indexAddrA, asInt, Int.reduceLE, Int.reduceLT, Int.reduceToNat, eq_self, Nat.reducePow, Int.reducePow, Int.reduceAdd, Int.reduceMul, Int.reduceSub, Int.reduceNeg, keyOk, mapPutA, lookupA, mapOf, sliceA, boundI, elemsOf, appendA, storeA, setRange, indexA, Nat.reduceBEq, Int.cast_ofNat_Int, reduceCtorEq, Nat.reduceAdd, Nat.reduceMul, Nat.reduceSub, evTy0, evTy1, evTy2, evTy3, evTy4, evTy5]) (by omega) (by omega) (by omega) hX
    · have p1 := Add_ev k (by omega) c (check_cok hc) m hm 1000 sk
      have p2 := refAdd_ev k (by omega) c (check_cok hc) m hm 1000 sk
      have al := add_len c m 1000 sk
      have p3 := Same_ev k (addV c m 1000 sk).1 (by omega) (by omega)
      generalize addV c m 1000 sk = a at p1 p2 p3
      obtain ⟨⟨a1, a2, a3⟩, a4⟩ := a
      simp only [tupC] at p1 p2 p3
      simp only [s7_1, ↓evPre, ev0, ev1, ev2, ev3, ev4, ev5, Nat.reduceLT, entE, getE, putE, ↓reduceIte, Nat.reduceEqDiff, argsE, Int.reduceEq, convertA, lenA, foldI, A.cells, A.leaf, List.replicate, viewA, getO, Nat.reduceLeDiff, loadA, cellsAt, cellsTo, faA, indexAddrA, asInt, Int.reduceLE, Int.reduceLT, Int.reduceToNat, eq_self, Nat.reducePow, Int.reducePow, Int.reduceAdd, Int.reduceMul, Int.reduceSub, Int.reduceNeg, keyOk, mapPutA, lookupA, mapOf, sliceA, boundI, elemsOf, appendA, storeA, setRange, indexA, Nat.reduceBEq, Int.cast_ofNat_Int, reduceCtorEq, Nat.reduceAdd, Nat.reduceMul, Nat.reduceSub, evTy0, evTy1, evTy2, evTy3, evTy4, evTy5, w3, callR_data p1 rfl rfl, callR_data p2 rfl rfl, callR_data p3 rfl rfl]
      exact ih 3 _ _ (fun K => by simp only [↓evPre, ev0, ev1, ev2, ev3, ev4, ev5, Nat.reduceLT, entE, getE, putE, ↓reduceIte, Nat.reduceEqDiff, argsE, Int.reduceEq, convertA, lenA, foldI, A.cells, A.leaf, List.replicate, viewA, getO, Nat.reduceLeDiff, loadA, cellsAt, cellsTo, faA, indexAddrA, asInt, Int.reduceLE, Int.reduceLT, Int.reduceToNat, eq_self, Nat.reducePow, Int.reducePow, Int.reduceAdd, Int.reduceMul, Int.reduceSub, Int.reduceNeg, keyOk, mapPutA, lookupA, mapOf, sliceA, boundI, elemsOf, appendA, storeA, setRange, indexA, Nat.reduceBEq, Int.cast_ofNat_Int, reduceCtorEq, Nat.reduceAdd, Nat.reduceMul, Nat.reduceSub, evTy0, evTy1, evTy2, evTy3, evTy4, evTy5]) (by omega) (by omega) (by omega) hX
    · simp only [s7_1, ↓evPre, ev0, ev1, ev2, ev3, ev4, ev5, Nat.reduceLT, entE, getE, putE, ↓reduceIte, Nat.reduceEqDiff, argsE, Int.reduceEq, convertA, lenA, foldI, A.cells, A.leaf, List.replicate, viewA, getO, Nat.reduceLeDiff, loadA, cellsAt, cellsTo, faA, indexAddrA, asInt, Int.reduceLE, Int.reduceLT, Int.reduceToNat, eq_self, Nat.reducePow, Int.reducePow, Int.reduceAdd, Int.reduceMul, Int.reduceSub, Int.reduceNeg, keyOk, mapPutA, lookupA, mapOf, sliceA, boundI, elemsOf, appendA, storeA, setRange, indexA, Nat.reduceBEq, Int.cast_ofNat_Int, reduceCtorEq, Nat.reduceAdd, Nat.reduceMul, Nat.reduceSub, evTy0, evTy1, evTy2, evTy3, evTy4, evTy5]
      exact hX _ rfl rfl

set_option maxHeartbeats 1000000 in
theorem Adds_law (k : Nat) (hk : 400 ≤ k) (sz sk : Int) (hsz : 0 ≤ sz ∧ sz ≤ 255) (hsk : 0 ≤ sk ∧ sk ≤ 255) (l : List Us) (hu : ∀ u ∈ l, u.ok) (m : Mk) (now oth : Int) :
    callF Try.prog Hs E1 k 7 [.d (.int .u8 sz), .d (.int .u8 sk), .d (.sl 4 (l.map Us.d)), .agg [.d (.str m.n), .d (.str m.i), .d (.str m.r), .d (.int .i64 m.t), .d (.int .i64 m.k)], .d (.int .i64 now), .d (.int .i64 oth)] [] = some (.d (.bool true), []) := by
  obtain ⟨k, rfl⟩ : ∃ j, k = j + 5 := ⟨k - 5, by omega⟩
  refine evalE rfl Try.func7 l7 ?_ (Nat.le_of_ble_eq_true rfl)
  have aw := awake_ev (k + 4) (by omega)
  by_cases hl : 60 < (l.length : Int)
  · simp only [s7, n7, ↓evPre, ev0, ev1, ev2, ev3, ev4, ev5, Nat.reduceLT, entE, getE, putE, ↓reduceIte, Nat.reduceEqDiff, argsE, Int.reduceEq, convertA, lenA, foldI, A.cells, A.leaf, List.replicate, viewA, getO, Nat.reduceLeDiff, loadA, cellsAt, cellsTo, faA, indexAddrA, asInt, Int.reduceLE, Int.reduceLT, Int.reduceToNat, eq_self, Nat.reducePow, Int.reducePow, Int.reduceAdd, Int.reduceMul, Int.reduceSub, Int.reduceNeg, keyOk, mapPutA, lookupA, mapOf, sliceA, boundI, elemsOf, appendA, storeA, setRange, indexA, Nat.reduceBEq, Int.cast_ofNat_Int, reduceCtorEq, Nat.reduceAdd, Nat.reduceMul, Nat.reduceSub, evTy0, evTy1, evTy2, evTy3, evTy4, evTy5, callR_data aw rfl rfl, List.length_map, hl]
  by_cases g1 : 100 < (m.n.size : Int)
  · simp only [s7, n7, ↓evPre, ev0, ev1, ev2, ev3, ev4, ev5, Nat.reduceLT, entE, getE, putE, ↓reduceIte, Nat.reduceEqDiff, argsE, Int.reduceEq, convertA, lenA, foldI, A.cells, A.leaf, List.replicate, viewA, getO, Nat.reduceLeDiff, loadA, cellsAt, cellsTo, faA, indexAddrA, asInt, Int.reduceLE, Int.reduceLT, Int.reduceToNat, eq_self, Nat.reducePow, Int.reducePow, Int.reduceAdd, Int.reduceMul, Int.reduceSub, Int.reduceNeg, keyOk, mapPutA, lookupA, mapOf, sliceA, boundI, elemsOf, appendA, storeA, setRange, indexA, Nat.reduceBEq, Int.cast_ofNat_Int, reduceCtorEq, Nat.reduceAdd, Nat.reduceMul, Nat.reduceSub, evTy0, evTy1, evTy2, evTy3, evTy4, evTy5, callR_data aw rfl rfl, List.length_map, hl, g1]
  by_cases g2 : 100 < (m.i.size : Int)
  · simp only [s7, n7, ↓evPre, ev0, ev1, ev2, ev3, ev4, ev5, Nat.reduceLT, entE, getE, putE, ↓reduceIte, Nat.reduceEqDiff, argsE, Int.reduceEq, convertA, lenA, foldI, A.cells, A.leaf, List.replicate, viewA, getO, Nat.reduceLeDiff, loadA, cellsAt, cellsTo, faA, indexAddrA, asInt, Int.reduceLE, Int.reduceLT, Int.reduceToNat, eq_self, Nat.reducePow, Int.reducePow, Int.reduceAdd, Int.reduceMul, Int.reduceSub, Int.reduceNeg, keyOk, mapPutA, lookupA, mapOf, sliceA, boundI, elemsOf, appendA, storeA, setRange, indexA, Nat.reduceBEq, Int.cast_ofNat_Int, reduceCtorEq, Nat.reduceAdd, Nat.reduceMul, Nat.reduceSub, evTy0, evTy1, evTy2, evTy3, evTy4, evTy5, callR_data aw rfl rfl, List.length_map, hl, g1, g2]
  by_cases g3 : 100 < (m.r.size : Int)
  · simp only [s7, n7, ↓evPre, ev0, ev1, ev2, ev3, ev4, ev5, Nat.reduceLT, entE, getE, putE, ↓reduceIte, Nat.reduceEqDiff, argsE, Int.reduceEq, convertA, lenA, foldI, A.cells, A.leaf, List.replicate, viewA, getO, Nat.reduceLeDiff, loadA, cellsAt, cellsTo, faA, indexAddrA, asInt, Int.reduceLE, Int.reduceLT, Int.reduceToNat, eq_self, Nat.reducePow, Int.reducePow, Int.reduceAdd, Int.reduceMul, Int.reduceSub, Int.reduceNeg, keyOk, mapPutA, lookupA, mapOf, sliceA, boundI, elemsOf, appendA, storeA, setRange, indexA, Nat.reduceBEq, Int.cast_ofNat_Int, reduceCtorEq, Nat.reduceAdd, Nat.reduceMul, Nat.reduceSub, evTy0, evTy1, evTy2, evTy3, evTy4, evTy5, callR_data aw rfl rfl, List.length_map, hl, g1, g2, g3]
  have hm : m.c.ok 100 := ⟨by simp only [Mk.c]; omega, by simp only [Mk.c]; omega, by simp only [Mk.c]; omega⟩
  have w1 := i64_in sz (by omega)
  obtain ⟨t1, t2, t3⟩ := tmodB (m := 40) hsz.1 (by omega)
  have w2 := i64_in (1 + sz % 40) (by omega)
  obtain ⟨hn1, hn2⟩ := new_check (n := 1 + sz % 40) (by omega)
  have f1 := refNew_ev (k + 4) (by omega) (1 + sz % 40)
  rw [hn1] at f1
  simp only [tupC, List.map_nil] at f1
  simp only [s7, n7, ↓evPre, ev0, ev1, ev2, ev3, ev4, ev5, Nat.reduceLT, entE, getE, putE, ↓reduceIte, Nat.reduceEqDiff, argsE, Int.reduceEq, convertA, lenA, foldI, A.cells, A.leaf, List.replicate, viewA, getO, Nat.reduceLeDiff, loadA, cellsAt, cellsTo, faA, indexAddrA, asInt, Int.reduceLE, Int.reduceLT, Int.reduceToNat, eq_self, Nat.reducePow, Int.reducePow, Int.reduceAdd, Int.reduceMul, Int.reduceSub, Int.reduceNeg, keyOk, mapPutA, lookupA, mapOf, sliceA, boundI, elemsOf, appendA, storeA, setRange, indexA, Nat.reduceBEq, Int.cast_ofNat_Int, reduceCtorEq, Nat.reduceAdd, Nat.reduceMul, Nat.reduceSub, evTy0, evTy1, evTy2, evTy3, evTy4, evTy5, callR_data aw rfl rfl, List.length_map, hl, g1, g2, g3, w1, w2, t1, callR_data f1 rfl rfl]
  refine Adds_loop (k + 4) (by omega) sk now oth hsk l (by omega) hu m _ _ (k + 4) 0 ⟨1 + sz % 40, 0, []⟩ _ _ (fun K => by simp only [↓evPre, ev0, ev1, ev2, ev3, ev4, ev5, Nat.reduceLT, entE, getE, putE, ↓reduceIte, Nat.reduceEqDiff, argsE, Int.reduceEq, convertA, lenA, foldI, A.cells, A.leaf, List.replicate, viewA, getO, Nat.reduceLeDiff, loadA, cellsAt, cellsTo, faA, indexAddrA, asInt, Int.reduceLE, Int.reduceLT, Int.reduceToNat, eq_self, Nat.reducePow, Int.reducePow, Int.reduceAdd, Int.reduceMul, Int.reduceSub, Int.reduceNeg, keyOk, mapPutA, lookupA, mapOf, sliceA, boundI, elemsOf, appendA, storeA, setRange, indexA, Nat.reduceBEq, Int.cast_ofNat_Int, reduceCtorEq, Nat.reduceAdd, Nat.reduceMul, Nat.reduceSub, evTy0, evTy1, evTy2, evTy3, evTy4, evTy5, List.map_nil]) hn2 (by omega) (by omega) (by omega) (fun e c hc e1 e4 e5 e9 e13 => ?_)
  have hcl := (check_cok hc).1
  simp only [s7, n7, ↓evPre, ev0, ev1, ev2, ev3, ev4, ev5, Nat.reduceLT, entE, getE, putE, ↓reduceIte, Nat.reduceEqDiff, argsE, Int.reduceEq, convertA, lenA, foldI, A.cells, A.leaf, List.replicate, viewA, getO, Nat.reduceLeDiff, loadA, cellsAt, cellsTo, faA, indexAddrA, asInt, Int.reduceLE, Int.reduceLT, Int.reduceToNat, eq_self, Nat.reducePow, Int.reducePow, Int.reduceAdd, Int.reduceMul, Int.reduceSub, Int.reduceNeg, keyOk, mapPutA, lookupA, mapOf, sliceA, boundI, elemsOf, appendA, storeA, setRange, indexA, Nat.reduceBEq, Int.cast_ofNat_Int, reduceCtorEq, Nat.reduceAdd, Nat.reduceMul, Nat.reduceSub, evTy0, evTy1, evTy2, evTy3, evTy4, evTy5]
  refine Adds_loop2 (k + 4) (by omega) sk now oth hsk m hm c hc _ _ (k + 4) 0 _ _ (fun K => by simp only [↓evPre, ev0, ev1, ev2, ev3, ev4, ev5, Nat.reduceLT, entE, getE, putE, ↓reduceIte, Nat.reduceEqDiff, argsE, Int.reduceEq, convertA, lenA, foldI, A.cells, A.leaf, List.replicate, viewA, getO, Nat.reduceLeDiff, loadA, cellsAt, cellsTo, faA, indexAddrA, asInt, Int.reduceLE, Int.reduceLT, Int.reduceToNat, eq_self, Nat.reducePow, Int.reducePow, Int.reduceAdd, Int.reduceMul, Int.reduceSub, Int.reduceNeg, keyOk, mapPutA, lookupA, mapOf, sliceA, boundI, elemsOf, appendA, storeA, setRange, indexA, Nat.reduceBEq, Int.cast_ofNat_Int, reduceCtorEq, Nat.reduceAdd, Nat.reduceMul, Nat.reduceSub, evTy0, evTy1, evTy2, evTy3, evTy4, evTy5, e1, e4, e5, e9, e13]) (by omega) (by omega) (by omega) (fun e g9 g13 => ?_)
  have f5 := Has_ev (k + 4) c.s c.f c.ms m (by omega) (by omega)
  have f6 := refHas_ev (k + 4) c.s c.f c.ms m (by omega) (by omega)
  generalize hasB c.ms m = hb at f5 f6
  simp only [s7, n7, ↓evPre, ev0, ev1, ev2, ev3, ev4, ev5, Nat.reduceLT, entE, getE, putE, ↓reduceIte, Nat.reduceEqDiff, argsE, Int.reduceEq, convertA, lenA, foldI, A.cells, A.leaf, List.replicate, viewA, getO, Nat.reduceLeDiff, loadA, cellsAt, cellsTo, faA, indexAddrA, asInt, Int.reduceLE, Int.reduceLT, Int.reduceToNat, eq_self, Nat.reducePow, Int.reducePow, Int.reduceAdd, Int.reduceMul, Int.reduceSub, Int.reduceNeg, keyOk, mapPutA, lookupA, mapOf, sliceA, boundI, elemsOf, appendA, storeA, setRange, indexA, Nat.reduceBEq, Int.cast_ofNat_Int, reduceCtorEq, Nat.reduceAdd, Nat.reduceMul, Nat.reduceSub, evTy0, evTy1, evTy2, evTy3, evTy4, evTy5, g9, g13, callR_data f5 rfl rfl, callR_data f6 rfl rfl]
end Rp
end Ab
