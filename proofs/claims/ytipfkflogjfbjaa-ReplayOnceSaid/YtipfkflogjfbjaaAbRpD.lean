/- A part of the proof of a row by an interpreter that is proved sound; no conditions of its own. -/
import Derived.Test.YtipfkflogjfbjaaAbRpC
import Derived.Test.YtipfkflogjfbjaaAbCvB
namespace Ab
open Go Go.Proofs Go.IntWalk
set_option maxRecDepth 10000
set_option linter.unusedSimpArgs false
set_option linter.unusedVariables false
namespace Rp
open Pr Cv

theorem Same_loop (k : Nat) (c : Ca) (hl : c.ms.length ≤ 1000000) (K : X → Env → Store → Res) (r : Res) (hX : ∀ e o, K (.exit 0) e o = r) :
    ∀ (j : Nat) (z : Int) (e : Env) (o : Store), (∀ K, headE 45 0 (some ([2, 3, 5], 0)) e o K = K (.cons 2 (.bp 0 0) (.cons 3 (.bp 1 0) (.cons 5 (.d (.int .i64 z)) (.nil .top)))) [.box [.d (.int .i64 c.s), .d (.int .i64 c.f), .d (.sl 5 (c.ms.map Mk.d))], .box [.d (.int .i64 c.s), .d (.int .i64 c.f), .d (.sl 5 (c.ms.map Mk.d))]]) →
      0 ≤ z → z ≤ c.ms.length → c.ms.length - z < j →
      loopC Try.prog Hs (callF Try.prog Hs E1 k) 45 k 0 (some ([2, 3, 5], 0)) s36_0 j e o K ⟨0⟩ = r := by
  generalize hS : s36_0 = S
  intro j
  induction j with
  | zero => intro z e o hh hz hz2 hj; omega
  | succ j ih =>
    intro z e o hh hz hz2 hj
    rw [l_succ2 hS, hh]
    by_cases h : z < c.ms.length
    · have hlt : z.toNat < c.ms.length := by omega
      obtain ⟨b, hg⟩ : ∃ b, c.ms[z.toNat]? = some b := ⟨_, List.getElem?_eq_getElem hlt⟩
      have hw := i64_in (z + 1) (by omega)
      have hg' := mk_get hg
      simp only [s36_0, ↓evPre, ev0, ev1, ev2, ev3, ev4, ev5, Nat.reduceLT, entE, getE, putE, ↓reduceIte, Nat.reduceEqDiff, argsE, Int.reduceEq, convertA, lenA, foldI, A.cells, A.leaf, List.replicate, viewA, getO, Nat.reduceLeDiff, loadA, cellsAt, cellsTo, faA, indexAddrA, asInt, Int.reduceLE, Int.reduceLT, Int.reduceToNat, eq_self, Nat.reducePow, Int.reducePow, Int.reduceAdd, Int.reduceMul, Int.reduceSub, Int.reduceNeg, keyOk, mapPutA, lookupA, mapOf, sliceA, boundI, elemsOf, appendA, storeA, setRange, indexA, Nat.reduceBEq, Int.cast_ofNat_Int, reduceCtorEq, Nat.reduceAdd, Nat.reduceMul, Nat.reduceSub, evTy0, evTy1, evTy2, evTy3, evTy4, evTy5, h, hz, hg', hw, List.length_map]
      exact ih (z + 1) _ _ (fun K => by simp only [↓evPre, ev0, ev1, ev2, ev3, ev4, ev5, Nat.reduceLT, entE, getE, putE, ↓reduceIte, Nat.reduceEqDiff, argsE, Int.reduceEq, convertA, lenA, foldI, A.cells, A.leaf, List.replicate, viewA, getO, Nat.reduceLeDiff, loadA, cellsAt, cellsTo, faA, indexAddrA, asInt, Int.reduceLE, Int.reduceLT, Int.reduceToNat, eq_self, Nat.reducePow, Int.reducePow, Int.reduceAdd, Int.reduceMul, Int.reduceSub, Int.reduceNeg, keyOk, mapPutA, lookupA, mapOf, sliceA, boundI, elemsOf, appendA, storeA, setRange, indexA, Nat.reduceBEq, Int.cast_ofNat_Int, reduceCtorEq, Nat.reduceAdd, Nat.reduceMul, Nat.reduceSub, evTy0, evTy1, evTy2, evTy3, evTy4, evTy5]) (by omega) (by omega) (by omega)
    · simp only [s36_0, ↓evPre, ev0, ev1, ev2, ev3, ev4, ev5, Nat.reduceLT, entE, getE, putE, ↓reduceIte, Nat.reduceEqDiff, argsE, Int.reduceEq, convertA, lenA, foldI, A.cells, A.leaf, List.replicate, viewA, getO, Nat.reduceLeDiff, loadA, cellsAt, cellsTo, faA, indexAddrA, asInt, Int.reduceLE, Int.reduceLT, Int.reduceToNat, eq_self, Nat.reducePow, Int.reducePow, Int.reduceAdd, Int.reduceMul, Int.reduceSub, Int.reduceNeg, keyOk, mapPutA, lookupA, mapOf, sliceA, boundI, elemsOf, appendA, storeA, setRange, indexA, Nat.reduceBEq, Int.cast_ofNat_Int, reduceCtorEq, Nat.reduceAdd, Nat.reduceMul, Nat.reduceSub, evTy0, evTy1, evTy2, evTy3, evTy4, evTy5, h, List.length_map]
      exact hX _ _

theorem Same_ev (k : Nat) (c : Ca) (hk : c.ms.length + 5 ≤ k) (hl : c.ms.length ≤ 1000000) :
    callF Try.prog Hs E1 k 36 [.agg [.d (.int .i64 c.s), .d (.int .i64 c.f), .d (.sl 5 (c.ms.map Mk.d))], .agg [.d (.int .i64 c.s), .d (.int .i64 c.f), .d (.sl 5 (c.ms.map Mk.d))]] [] = some (.d (.bool true), []) := by
  obtain ⟨k, rfl⟩ : ∃ j, k = j + 1 := ⟨k - 1, by omega⟩
  refine evalE rfl Try.func36 l36 ?_ (Nat.le_of_ble_eq_true rfl)
  simp only [s36, n36, ↓evPre, ev0, ev1, ev2, ev3, ev4, ev5, Nat.reduceLT, entE, getE, putE, ↓reduceIte, Nat.reduceEqDiff, argsE, Int.reduceEq, convertA, lenA, foldI, A.cells, A.leaf, List.replicate, viewA, getO, Nat.reduceLeDiff, loadA, cellsAt, cellsTo, faA, indexAddrA, asInt, Int.reduceLE, Int.reduceLT, Int.reduceToNat, eq_self, Nat.reducePow, Int.reducePow, Int.reduceAdd, Int.reduceMul, Int.reduceSub, Int.reduceNeg, keyOk, mapPutA, lookupA, mapOf, sliceA, boundI, elemsOf, appendA, storeA, setRange, indexA, Nat.reduceBEq, Int.cast_ofNat_Int, reduceCtorEq, Nat.reduceAdd, Nat.reduceMul, Nat.reduceSub, evTy0, evTy1, evTy2, evTy3, evTy4, evTy5, List.length_map]
  refine Same_loop k c hl _ _ (fun e o => ?_) k 0 _ _ (fun K => by simp only [↓evPre, ev0, ev1, ev2, ev3, ev4, ev5, Nat.reduceLT, entE, getE, putE, ↓reduceIte, Nat.reduceEqDiff, argsE, Int.reduceEq, convertA, lenA, foldI, A.cells, A.leaf, List.replicate, viewA, getO, Nat.reduceLeDiff, loadA, cellsAt, cellsTo, faA, indexAddrA, asInt, Int.reduceLE, Int.reduceLT, Int.reduceToNat, eq_self, Nat.reducePow, Int.reducePow, Int.reduceAdd, Int.reduceMul, Int.reduceSub, Int.reduceNeg, keyOk, mapPutA, lookupA, mapOf, sliceA, boundI, elemsOf, appendA, storeA, setRange, indexA, Nat.reduceBEq, Int.cast_ofNat_Int, reduceCtorEq, Nat.reduceAdd, Nat.reduceMul, Nat.reduceSub, evTy0, evTy1, evTy2, evTy3, evTy4, evTy5]) (by omega) (by omega) (by omega)
  simp only [s36, n36, ↓evPre, ev0, ev1, ev2, ev3, ev4, ev5, Nat.reduceLT, entE, getE, putE, ↓reduceIte, Nat.reduceEqDiff, argsE, Int.reduceEq, convertA, lenA, foldI, A.cells, A.leaf, List.replicate, viewA, getO, Nat.reduceLeDiff, loadA, cellsAt, cellsTo, faA, indexAddrA, asInt, Int.reduceLE, Int.reduceLT, Int.reduceToNat, eq_self, Nat.reducePow, Int.reducePow, Int.reduceAdd, Int.reduceMul, Int.reduceSub, Int.reduceNeg, keyOk, mapPutA, lookupA, mapOf, sliceA, boundI, elemsOf, appendA, storeA, setRange, indexA, Nat.reduceBEq, Int.cast_ofNat_Int, reduceCtorEq, Nat.reduceAdd, Nat.reduceMul, Nat.reduceSub, evTy0, evTy1, evTy2, evTy3, evTy4, evTy5]

/-- An authenticator. -/
structure Us where
  w : Int
  t : Int
  k : Int
  n : Int

def Us.ok (u : Us) : Prop := (0 ≤ u.w ∧ u.w ≤ 255) ∧ (0 ≤ u.t ∧ u.t ≤ 255) ∧ (0 ≤ u.k ∧ u.k ≤ 255) ∧ (0 ≤ u.n ∧ u.n ≤ 255)
def Us.d (u : Us) : List D := [.int .u8 u.w, .int .u8 u.t, .int .u8 u.k, .int .u8 u.n]
def markV (u : Us) : Mk := ⟨(userP (u.w % 4)).name, (userP (u.w % 4)).inst, (userP (u.w % 4)).realm, 1000 + u.t / 2, u.k % 3⟩

theorem mark_ev (k : Nat) (hk : 5 ≤ k) (u : Us) (hu : u.ok) :
    callF Try.prog Hs E1 k 33 [.agg [.d (.int .u8 u.w), .d (.int .u8 u.t), .d (.int .u8 u.k), .d (.int .u8 u.n)]] [] = some (.agg [.d (.str (markV u).n), .d (.str (markV u).i), .d (.str (markV u).r), .d (.int .i64 (markV u).t), .d (.int .i64 (markV u).k)], []) := by
  obtain ⟨k, rfl⟩ : ∃ j, k = j + 1 := ⟨k - 1, by omega⟩
  refine evalE rfl Try.func33 l33 ?_ (Nat.le_of_ble_eq_true rfl)
  obtain ⟨w, t, kk, n⟩ := u
  obtain ⟨hw, ht, hk', hn⟩ := hu
  simp only at hw ht hk' hn
  have w1 := i64_in w (by omega)
  have w2 := i64_in t (by omega)
  have w3 := i64_in kk (by omega)
  obtain ⟨t1, t2, t3⟩ := tmodB (m := 4) hw.1 (by omega)
  obtain ⟨u1, u2, u3⟩ := tmodB (m := 3) hk'.1 (by omega)
  have q1 := i64_quo t 2 ⟨by omega, by omega, by omega⟩
  have w4 := i64_in (1000 + t / 2) (by omega)
  have f1 := User_ev k (by omega) (w % 4) (by omega)
  simp only [Prin.cells] at f1
  simp only [s33, n33, ↓evPre, ev0, ev1, ev2, ev3, ev4, ev5, Nat.reduceLT, entE, getE, putE, ↓reduceIte, Nat.reduceEqDiff, argsE, Int.reduceEq, convertA, lenA, foldI, A.cells, A.leaf, List.replicate, viewA, getO, Nat.reduceLeDiff, loadA, cellsAt, cellsTo, faA, indexAddrA, asInt, Int.reduceLE, Int.reduceLT, Int.reduceToNat, eq_self, Nat.reducePow, Int.reducePow, Int.reduceAdd, Int.reduceMul, Int.reduceSub, Int.reduceNeg, keyOk, mapPutA, lookupA, mapOf, sliceA, boundI, elemsOf, appendA, storeA, setRange, indexA, Nat.reduceBEq, Int.cast_ofNat_Int, reduceCtorEq, Nat.reduceAdd, Nat.reduceMul, Nat.reduceSub, evTy0, evTy1, evTy2, evTy3, evTy4, evTy5, w1, w2, w3, w4, t1, u1, q1, callR_data f1 rfl rfl, markV]

theorem us_get {l : List Us} {i : Nat} {u : Us} (h : l[i]? = some u) : (l.map Us.d)[i]? = some [.int .u8 u.w, .int .u8 u.t, .int .u8 u.k, .int .u8 u.n] := by
  rw [List.getElem?_map, h]; rfl

def bigM (m : Mk) : Bool := decide (100 < (m.n.size : Int)) || (decide (100 < (m.i.size : Int)) || decide (100 < (m.r.size : Int)))
def longB (c : Ca) : Bool := decide (50 < (c.ms.length : Int)) || c.ms.any bigM

theorem long_loop (k : Nat) (c : Ca) (hl : c.ms.length ≤ 1000000) (K : X → Env → Store → Res) (r : Res) :
    ∀ (j : Nat) (z : Int) (e : Env) (o : Store), (∀ K, headE 46 0 (some ([1, 3], 0)) e o K = K (.cons 1 (.bp 0 0) (.cons 3 (.d (.int .i64 z)) (.nil .top))) [.box [.d (.int .i64 c.s), .d (.int .i64 c.f), .d (.sl 5 (c.ms.map Mk.d))]]) →
      0 ≤ z → z ≤ c.ms.length → c.ms.length - z < j →
      ((c.ms.drop z.toNat).any bigM = true → ∀ e o, getE e 2 = .d (.bool true) → K .ret e o = r) →
      ((c.ms.drop z.toNat).any bigM = false → ∀ e o, K (.exit 0) e o = r) →
      loopC Try.prog Hs (callF Try.prog Hs E1 k) 46 k 0 (some ([1, 3], 0)) s29_0 j e o K ⟨0⟩ = r := by
  generalize hS : s29_0 = S
  intro j
  induction j with
  | zero => intro z e o hh hz hz2 hj; omega
  | succ j ih =>
    intro z e o hh hz hz2 hj hR hX
    rw [l_succ2 hS, hh]
    by_cases h : z < c.ms.length
    · have hlt : z.toNat < c.ms.length := by omega
      obtain ⟨b, hg⟩ : ∃ b, c.ms[z.toNat]? = some b := ⟨_, List.getElem?_eq_getElem hlt⟩
      have hw := i64_in (z + 1) (by omega)
      have hn : (z + 1).toNat = z.toNat + 1 := by omega
      rw [dropU hg] at hR hX
      have hg' := mk_get hg
      by_cases q1 : 100 < (b.n.size : Int)
      · simp only [s29_0, ↓evPre, ev0, ev1, ev2, ev3, ev4, ev5, Nat.reduceLT, entE, getE, putE, ↓reduceIte, Nat.reduceEqDiff, argsE, Int.reduceEq, convertA, lenA, foldI, A.cells, A.leaf, List.replicate, viewA, getO, Nat.reduceLeDiff, loadA, cellsAt, cellsTo, faA, indexAddrA, asInt, Int.reduceLE, Int.reduceLT, Int.reduceToNat, eq_self, Nat.reducePow, Int.reducePow, Int.reduceAdd, Int.reduceMul, Int.reduceSub, Int.reduceNeg, keyOk, mapPutA, lookupA, mapOf, sliceA, boundI, elemsOf, appendA, storeA, setRange, indexA, Nat.reduceBEq, Int.cast_ofNat_Int, reduceCtorEq, Nat.reduceAdd, Nat.reduceMul, Nat.reduceSub, evTy0, evTy1, evTy2, evTy3, evTy4, evTy5, h, hz, hg', hw, List.length_map, q1]
        exact hR (by simp only [List.any_cons, bigM, decide_eq_true q1, Bool.true_or]) _ _ rfl
      · by_cases q2 : 100 < (b.i.size : Int)
        · simp only [s29_0, ↓evPre, ev0, ev1, ev2, ev3, ev4, ev5, Nat.reduceLT, entE, getE, putE, ↓reduceIte, Nat.reduceEqDiff, argsE, Int.reduceEq, convertA, lenA, foldI, A.cells, A.leaf, List.replicate, viewA, getO, Nat.reduceLeDiff, loadA, cellsAt, cellsTo, faA, indexAddrA, asInt, Int.reduceLE, Int.reduceLT, Int.reduceToNat, eq_self, Nat.reducePow, Int.reducePow, Int.reduceAdd, Int.reduceMul, Int.reduceSub, Int.reduceNeg, keyOk, mapPutA, lookupA, mapOf, sliceA, boundI, elemsOf, appendA, storeA, setRange, indexA, Nat.reduceBEq, Int.cast_ofNat_Int, reduceCtorEq, Nat.reduceAdd, Nat.reduceMul, Nat.reduceSub, evTy0, evTy1, evTy2, evTy3, evTy4, evTy5, h, hz, hg', hw, List.length_map, q1, q2]
          exact hR (by simp only [List.any_cons, bigM, decide_eq_true q2, Bool.true_or, Bool.or_true]) _ _ rfl
        · by_cases q3 : 100 < (b.r.size : Int)
          · simp only [s29_0, ↓evPre, ev0, ev1, ev2, ev3, ev4, ev5, Nat.reduceLT, entE, getE, putE, ↓reduceIte, Nat.reduceEqDiff, argsE, Int.reduceEq, convertA, lenA, foldI, A.cells, A.leaf, List.replicate, viewA, getO, Nat.reduceLeDiff, loadA, cellsAt, cellsTo, faA, indexAddrA, asInt, Int.reduceLE, Int.reduceLT, Int.reduceToNat, eq_self, Nat.reducePow, Int.reducePow, Int.reduceAdd, Int.reduceMul, Int.reduceSub, Int.reduceNeg, keyOk, mapPutA, lookupA, mapOf, sliceA, boundI, elemsOf, appendA, storeA, setRange, indexA, Nat.reduceBEq, Int.cast_ofNat_Int, reduceCtorEq, Nat.reduceAdd, Nat.reduceMul, Nat.reduceSub, evTy0, evTy1, evTy2, evTy3, evTy4, evTy5, h, hz, hg', hw, List.length_map, q1, q2, q3]
            exact hR (by simp only [List.any_cons, bigM, decide_eq_true q3, Bool.true_or, Bool.or_true]) _ _ rfl
          · have q : bigM b = false := by simp only [bigM, decide_eq_false q1, decide_eq_false q2, decide_eq_false q3, Bool.or_self]
            simp only [List.any_cons, q, Bool.false_or, ← hn] at hR hX
            simp only [s29_0, ↓evPre, ev0, ev1, ev2, ev3, ev4, ev5, Nat.reduceLT, entE, getE, putE, ↓reduceIte, Nat.reduceEqDiff, argsE, Int.reduceEq, convertA, lenA, foldI, A.cells, A.leaf, List.replicate, viewA, getO, Nat.reduceLeDiff, loadA, cellsAt, cellsTo, faA, indexAddrA, asInt, Int.reduceLE, Int.reduceLT, Int.reduceToNat, eq_self, Nat.reducePow, Int.reducePow, Int.reduceAdd, Int.reduceMul, Int.reduceSub, Int.reduceNeg, keyOk, mapPutA, lookupA, mapOf, sliceA, boundI, elemsOf, appendA, storeA, setRange, indexA, Nat.reduceBEq, Int.cast_ofNat_Int, reduceCtorEq, Nat.reduceAdd, Nat.reduceMul, Nat.reduceSub, evTy0, evTy1, evTy2, evTy3, evTy4, evTy5, h, hz, hg', hw, List.length_map, q1, q2, q3]
            exact ih (z + 1) _ _ (fun K => by simp only [↓evPre, ev0, ev1, ev2, ev3, ev4, ev5, Nat.reduceLT, entE, getE, putE, ↓reduceIte, Nat.reduceEqDiff, argsE, Int.reduceEq, convertA, lenA, foldI, A.cells, A.leaf, List.replicate, viewA, getO, Nat.reduceLeDiff, loadA, cellsAt, cellsTo, faA, indexAddrA, asInt, Int.reduceLE, Int.reduceLT, Int.reduceToNat, eq_self, Nat.reducePow, Int.reducePow, Int.reduceAdd, Int.reduceMul, Int.reduceSub, Int.reduceNeg, keyOk, mapPutA, lookupA, mapOf, sliceA, boundI, elemsOf, appendA, storeA, setRange, indexA, Nat.reduceBEq, Int.cast_ofNat_Int, reduceCtorEq, Nat.reduceAdd, Nat.reduceMul, Nat.reduceSub, evTy0, evTy1, evTy2, evTy3, evTy4, evTy5]) (by omega) (by omega) (by omega) hR hX
    · have hd : c.ms.drop z.toNat = [] := List.drop_eq_nil_of_le (by omega)
      rw [hd] at hX
      simp only [s29_0, ↓evPre, ev0, ev1, ev2, ev3, ev4, ev5, Nat.reduceLT, entE, getE, putE, ↓reduceIte, Nat.reduceEqDiff, argsE, Int.reduceEq, convertA, lenA, foldI, A.cells, A.leaf, List.replicate, viewA, getO, Nat.reduceLeDiff, loadA, cellsAt, cellsTo, faA, indexAddrA, asInt, Int.reduceLE, Int.reduceLT, Int.reduceToNat, eq_self, Nat.reducePow, Int.reducePow, Int.reduceAdd, Int.reduceMul, Int.reduceSub, Int.reduceNeg, keyOk, mapPutA, lookupA, mapOf, sliceA, boundI, elemsOf, appendA, storeA, setRange, indexA, Nat.reduceBEq, Int.cast_ofNat_Int, reduceCtorEq, Nat.reduceAdd, Nat.reduceMul, Nat.reduceSub, evTy0, evTy1, evTy2, evTy3, evTy4, evTy5, h, List.length_map]
      exact hX rfl _ _

theorem long_ev (k : Nat) (hk : 60 ≤ k) (c : Ca) :
    callF Try.prog Hs E1 k 29 [.agg [.d (.int .i64 c.s), .d (.int .i64 c.f), .d (.sl 5 (c.ms.map Mk.d))]] [] = some (.d (.bool (longB c)), []) := by
  obtain ⟨k, rfl⟩ : ∃ j, k = j + 1 := ⟨k - 1, by omega⟩
  refine evalE rfl Try.func29 l29 ?_ (Nat.le_of_ble_eq_true rfl)
  unfold longB
  by_cases q : 50 < (c.ms.length : Int)
  · simp only [s29, n29, ↓evPre, ev0, ev1, ev2, ev3, ev4, ev5, Nat.reduceLT, entE, getE, putE, ↓reduceIte, Nat.reduceEqDiff, argsE, Int.reduceEq, convertA, lenA, foldI, A.cells, A.leaf, List.replicate, viewA, getO, Nat.reduceLeDiff, loadA, cellsAt, cellsTo, faA, indexAddrA, asInt, Int.reduceLE, Int.reduceLT, Int.reduceToNat, eq_self, Nat.reducePow, Int.reducePow, Int.reduceAdd, Int.reduceMul, Int.reduceSub, Int.reduceNeg, keyOk, mapPutA, lookupA, mapOf, sliceA, boundI, elemsOf, appendA, storeA, setRange, indexA, Nat.reduceBEq, Int.cast_ofNat_Int, reduceCtorEq, Nat.reduceAdd, Nat.reduceMul, Nat.reduceSub, evTy0, evTy1, evTy2, evTy3, evTy4, evTy5, q, List.length_map]
  · simp only [s29, n29, ↓evPre, ev0, ev1, ev2, ev3, ev4, ev5, Nat.reduceLT, entE, getE, putE, ↓reduceIte, Nat.reduceEqDiff, argsE, Int.reduceEq, convertA, lenA, foldI, A.cells, A.leaf, List.replicate, viewA, getO, Nat.reduceLeDiff, loadA, cellsAt, cellsTo, faA, indexAddrA, asInt, Int.reduceLE, Int.reduceLT, Int.reduceToNat, eq_self, Nat.reducePow, Int.reducePow, Int.reduceAdd, Int.reduceMul, Int.reduceSub, Int.reduceNeg, keyOk, mapPutA, lookupA, mapOf, sliceA, boundI, elemsOf, appendA, storeA, setRange, indexA, Nat.reduceBEq, Int.cast_ofNat_Int, reduceCtorEq, Nat.reduceAdd, Nat.reduceMul, Nat.reduceSub, evTy0, evTy1, evTy2, evTy3, evTy4, evTy5, q, List.length_map]
    refine long_loop k c (by omega) _ _ k 0 _ _ (fun K => by simp only [↓evPre, ev0, ev1, ev2, ev3, ev4, ev5, Nat.reduceLT, entE, getE, putE, ↓reduceIte, Nat.reduceEqDiff, argsE, Int.reduceEq, convertA, lenA, foldI, A.cells, A.leaf, List.replicate, viewA, getO, Nat.reduceLeDiff, loadA, cellsAt, cellsTo, faA, indexAddrA, asInt, Int.reduceLE, Int.reduceLT, Int.reduceToNat, eq_self, Nat.reducePow, Int.reducePow, Int.reduceAdd, Int.reduceMul, Int.reduceSub, Int.reduceNeg, keyOk, mapPutA, lookupA, mapOf, sliceA, boundI, elemsOf, appendA, storeA, setRange, indexA, Nat.reduceBEq, Int.cast_ofNat_Int, reduceCtorEq, Nat.reduceAdd, Nat.reduceMul, Nat.reduceSub, evTy0, evTy1, evTy2, evTy3, evTy4, evTy5]) (by omega) (by omega) (by omega) (fun hm e o g2 => ?_) (fun hm e o => ?_)
    · have hm' : c.ms.any bigM = true := hm
      simp only [s29, n29, ↓evPre, ev0, ev1, ev2, ev3, ev4, ev5, Nat.reduceLT, entE, getE, putE, ↓reduceIte, Nat.reduceEqDiff, argsE, Int.reduceEq, convertA, lenA, foldI, A.cells, A.leaf, List.replicate, viewA, getO, Nat.reduceLeDiff, loadA, cellsAt, cellsTo, faA, indexAddrA, asInt, Int.reduceLE, Int.reduceLT, Int.reduceToNat, eq_self, Nat.reducePow, Int.reducePow, Int.reduceAdd, Int.reduceMul, Int.reduceSub, Int.reduceNeg, keyOk, mapPutA, lookupA, mapOf, sliceA, boundI, elemsOf, appendA, storeA, setRange, indexA, Nat.reduceBEq, Int.cast_ofNat_Int, reduceCtorEq, Nat.reduceAdd, Nat.reduceMul, Nat.reduceSub, evTy0, evTy1, evTy2, evTy3, evTy4, evTy5, g2, hm']
    · have hm' : c.ms.any bigM = false := hm
      simp only [s29, n29, ↓evPre, ev0, ev1, ev2, ev3, ev4, ev5, Nat.reduceLT, entE, getE, putE, ↓reduceIte, Nat.reduceEqDiff, argsE, Int.reduceEq, convertA, lenA, foldI, A.cells, A.leaf, List.replicate, viewA, getO, Nat.reduceLeDiff, loadA, cellsAt, cellsTo, faA, indexAddrA, asInt, Int.reduceLE, Int.reduceLT, Int.reduceToNat, eq_self, Nat.reducePow, Int.reducePow, Int.reduceAdd, Int.reduceMul, Int.reduceSub, Int.reduceNeg, keyOk, mapPutA, lookupA, mapOf, sliceA, boundI, elemsOf, appendA, storeA, setRange, indexA, Nat.reduceBEq, Int.cast_ofNat_Int, reduceCtorEq, Nat.reduceAdd, Nat.reduceMul, Nat.reduceSub, evTy0, evTy1, evTy2, evTy3, evTy4, evTy5, hm']

theorem long_ok {c : Ca} (h : longB c = false) : c.ok := by
  unfold longB at h
  rw [Bool.or_eq_false_iff, decide_eq_false_iff_not, List.any_eq_false] at h
  refine ⟨by omega, fun m hm => ?_⟩
  have := h.2 m hm
  simp only [bigM, Bool.or_eq_true, decide_eq_true_eq] at this
  simp only [Mk.c, Prin.ok]
  omega

theorem chk_zero {fl : Int} : ∀ {l pre : List Mk}, chk fl pre l = 0 ↔ (∀ m ∈ l, validB m.c = true ∧ stampB fl m = true ∧ m ∉ pre) ∧ l.Nodup := by
  intro l
  induction l with
  | nil => intro pre; simp [chk]
  | cons b l ih =>
    intro pre
    unfold chk
    cases v : validB b.c
    · simp [v]
    · cases st : stampB fl b
      · simp [st]
      · cases hb : hasB pre b
        · have hb' : b ∉ pre := fun h => by rw [hasB_iff.2 h] at hb; cases hb
          simp only [if_true, Bool.false_eq_true, if_false]
          rw [ih, List.nodup_cons]
          simp only [List.mem_cons, forall_eq_or_imp, v, st, hb', not_false_eq_true, and_self, true_and, List.mem_append, List.not_mem_nil, or_false, not_or]
          constructor
          · rintro ⟨h1, h2⟩
            exact ⟨fun m hm => ⟨(h1 m hm).1, (h1 m hm).2.1, (h1 m hm).2.2.1⟩, fun hm => (h1 b hm).2.2.2 rfl, h2⟩
          · rintro ⟨h1, h2, h3⟩
            exact ⟨fun m hm => ⟨(h1 m hm).1, (h1 m hm).2.1, (h1 m hm).2.2, fun e => h2 (e ▸ hm)⟩, h3⟩
        · have hb' : b ∈ pre := hasB_iff.1 hb
          simp [hb']

theorem stamp_iff {fl : Int} {m : Mk} : stampB fl m = true ↔ fl ≤ m.t ∧ m.t ≤ 4294967295 ∧ tickB m.k = true := by
  simp only [stampB, Bool.and_eq_true, decide_eq_true_eq]

/-- What it means that a mark was added. -/
theorem add_zero {c : Ca} {m : Mk} {now skew : Int} (h : (addV c m now skew).2 = 0) :
    checkV c = 0 ∧ validB m.c = true ∧ tickB m.k = true ∧ nearB m.t now skew = true ∧ c.f ≤ m.t ∧ m ∉ c.ms ∧ ((keep (floorV c.f now skew) c.ms).length : Int) ≠ c.s ∧
      (addV c m now skew).1 = ⟨c.s, floorV c.f now skew, keep (floorV c.f now skew) c.ms ++ [m]⟩ := by
  unfold addV at h ⊢
  by_cases q1 : checkV c = 0
  · cases q2 : validB m.c <;> cases q3 : tickB m.k <;> cases q4 : nearB m.t now skew <;> simp only [q1, q2, q3, q4, if_true, Bool.false_eq_true, if_false] at h ⊢ <;> try omega
    by_cases q5 : m.t < c.f
    · simp only [q5, if_true] at h; omega
    · cases q6 : hasB c.ms m
      · by_cases q7 : ((keep (floorV c.f now skew) c.ms).length : Int) = c.s
        · simp only [q5, q6, q7, if_true, Bool.false_eq_true, if_false] at h; omega
        · have : m ∉ c.ms := fun hm => by rw [hasB_iff.2 hm] at q6; cases q6
          simp only [q5, q7, if_true, Bool.false_eq_true, if_false, and_true, true_and, not_false_eq_true, ne_eq, this]
          omega
      · simp only [q5, q6, if_true, Bool.false_eq_true, if_false] at h; omega
  · rw [if_neg q1] at h; simp at h

theorem floor_le {f now skew : Int} : f ≤ floorV f now skew ∧ now - skew ≤ floorV f now skew ∧ (floorV f now skew = f ∨ floorV f now skew = now - skew) := by
  unfold floorV
  split <;> omega

theorem keep_mem {F : Int} {l : List Mk} {x : Mk} : x ∈ keep F l ↔ x ∈ l ∧ F ≤ x.t := by
  simp [keep, List.mem_filter]

theorem check_iff {c : Ca} : checkV c = 0 ↔ (1 ≤ c.s ∧ c.s ≤ 40 ∧ 0 ≤ c.f ∧ c.f ≤ 4294967295) ∧ (c.ms.length : Int) ≤ c.s ∧ (∀ m ∈ c.ms, validB m.c = true ∧ stampB c.f m = true) ∧ c.ms.Nodup := by
  unfold checkV
  by_cases q1 : 1 ≤ c.s ∧ c.s ≤ 40 ∧ 0 ≤ c.f ∧ c.f ≤ 4294967295
  · rw [if_pos q1]
    by_cases q2 : c.s < (c.ms.length : Int)
    · rw [if_pos q2]
      constructor
      · intro h; omega
      · intro h; omega
    · rw [if_neg q2, chk_zero]
      constructor
      · rintro ⟨h1, h2⟩
        exact ⟨q1, by omega, fun m hm => ⟨(h1 m hm).1, (h1 m hm).2.1⟩, h2⟩
      · rintro ⟨_, _, h1, h2⟩
        exact ⟨fun m hm => ⟨(h1 m hm).1, (h1 m hm).2, by simp⟩, h2⟩
  · rw [if_neg q1]
    constructor
    · intro h; omega
    · intro h; exact absurd h.1 q1

theorem add_check {c : Ca} {m : Mk} {now skew : Int} (h : (addV c m now skew).2 = 0) : checkV (addV c m now skew).1 = 0 := by
  obtain ⟨h1, h2, h3, h4, h5, h6, h7, h8⟩ := add_zero h
  rw [h8, check_iff]
  obtain ⟨b1, b2, b3, b4⟩ := check_iff.1 h1
  have hf := floor_le (f := c.f) (now := now) (skew := skew)
  simp only [nearB, Bool.and_eq_true, timeB_iff, decide_eq_true_eq] at h4
  have hkl := keep_length (floorV c.f now skew) c.ms
  refine ⟨⟨b1.1, b1.2.1, by simp only; omega, by simp only; omega⟩, ?_, ?_, ?_⟩
  · simp only [List.length_append, List.length_cons, List.length_nil]; omega
  · intro x hx
    rw [List.mem_append] at hx
    rcases hx with hx | hx
    · rw [keep_mem] at hx
      have := b3 x hx.1
      rw [stamp_iff] at this
      exact ⟨this.1, stamp_iff.2 ⟨hx.2, this.2.2⟩⟩
    · rw [List.mem_singleton] at hx
      subst hx
      exact ⟨h2, stamp_iff.2 ⟨by simp only; omega, by omega, h3⟩⟩
  · rw [List.nodup_append]
    refine ⟨b4.filter _, by simp, fun a ha b hb => ?_⟩
    rw [List.mem_singleton] at hb
    subst hb
    rintro rfl
    exact h6 (keep_mem.1 ha).1

theorem valid_sizes {p : Prin} (h : validB p = true) : p.ok 100 := by
  unfold validB nameB instB realmB textB at h
  simp only [Bool.and_eq_true, decide_eq_true_eq] at h
  simp only [Prin.ok]
  omega

theorem check_cok {c : Ca} (h : checkV c = 0) : c.ok := by
  obtain ⟨b1, b2, b3, b4⟩ := check_iff.1 h
  exact ⟨by omega, fun m hm => valid_sizes (b3 m hm).1⟩

theorem new_check {n : Int} (h : 1 ≤ n ∧ n ≤ 40) : newV n = (⟨n, 0, []⟩, 0) ∧ checkV ⟨n, 0, []⟩ = 0 := by
  refine ⟨by unfold newV; rw [if_pos h], check_iff.2 ⟨⟨h.1, h.2, by simp, by simp⟩, by simp; omega, by simp, by simp⟩⟩

theorem mark_valid (u : Us) (hu : u.ok) : (markV u).c.ok 100 := by
  exact user_ok (u.w % 4)
end Rp
end Ab
