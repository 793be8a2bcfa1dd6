/- A part of the proof of a row by an interpreter that is proved sound; no conditions of its own. -/
import Derived.Test.YtipfkflogjfbjaaAbRp
namespace Ab
open Go Go.Proofs Go.IntWalk
set_option maxRecDepth 10000
set_option linter.unusedSimpArgs false
set_option linter.unusedVariables false
namespace Rp
open Pr

def tickB (n : Int) : Bool := decide (0 ≤ n) && decide (n ≤ 199)
def stampB (fl : Int) (m : Mk) : Bool := decide (fl ≤ m.t) && (decide (m.t ≤ 4294967295) && tickB m.k)

/-- The first error of the marks. -/
def chk (fl : Int) : List Mk → List Mk → Int
  | _, [] => 0
  | pre, m :: ms => if validB m.c then (if stampB fl m then (if hasB pre m then 107 else chk fl (pre ++ [m]) ms) else 104) else 103

theorem take_map {ms : List Mk} {i : Nat} : List.take i (List.map Mk.d ms) = List.map Mk.d (List.take i ms) := List.map_take.symm

theorem take_snoc {α : Type} {ms : List α} {i : Nat} {b : α} (h : ms[i]? = some b) : ms.take (i + 1) = ms.take i ++ [b] := by
  rw [List.take_add_one, h]; rfl

theorem Check_loop (k : Nat) (hk : 300 ≤ k) (s fl : Int) (ms : List Mk) (hl : ms.length ≤ 100) (hok : ∀ m ∈ ms, m.c.ok 100) (K : X → Env → Store → Res) (r : Res) :
    ∀ (j : Nat) (z : Int) (e : Env) (o : Store), (∀ K, headE 63 0 (some ([1, 26, 27, 28], 0)) e o K = K (.cons 1 (.bp 0 0) (.cons 26 (.d (.sl 5 (ms.map Mk.d))) (.cons 27 (.d (.int .i64 ms.length)) (.cons 28 (.d (.int .i64 z)) (.nil .top))))) [.box [.d (.int .i64 s), .d (.int .i64 fl), .d (.sl 5 (ms.map Mk.d))]]) →
      0 ≤ z → z ≤ ms.length → ms.length - z < j →
      (∀ e o c, chk fl (ms.take z.toNat) (ms.drop z.toNat) = c → c ≠ 0 → getE e 2 = .d (.int .i64 c) → K .ret e o = r) →
      (chk fl (ms.take z.toNat) (ms.drop z.toNat) = 0 → ∀ e o, K (.exit 0) e o = r) →
      loopC Try.prog Hs (callF Try.prog Hs E1 k) 63 k 0 (some ([1, 26, 27, 28], 0)) s31_0 j e o K ⟨0⟩ = r := by
  generalize hS : s31_0 = S
  intro j
  induction j with
  | zero => intro z e o hh hz hz2 hj; omega
  | succ j ih =>
    intro z e o hh hz hz2 hj hR hX
    rw [l_succ2 hS, hh]
    by_cases h : z < ms.length
    · have hlt : z.toNat < ms.length := by omega
      obtain ⟨b, hg⟩ : ∃ b, ms[z.toNat]? = some b := ⟨_, List.getElem?_eq_getElem hlt⟩
      have hw := i64_in (z + 1) (by omega)
      have hn : (z + 1).toNat = z.toNat + 1 := by omega
      have hts := take_snoc hg
      rw [← hn] at hts
      rw [dropU hg] at hR hX
      have hg' := mk_get hg
      have hbm := hok b (List.mem_of_getElem? hg)
      have f1 := Valid_ev k 100 b.c (by omega) hbm (by omega)
      have f2 := isTick_ev k (by omega) b.k
      have f3 := Contains_ev k (ms.take z.toNat) b (by simp; omega) (by simp; omega)
      have hzl : z ≤ (ms.length : Int) := by omega
      simp only [Mk.c] at f1
      cases v : validB b.c
      · have v' := v
        simp only [Mk.c] at v
        rw [v] at f1
        simp only [s31_0, ↓evPre, ev0, ev1, ev2, ev3, ev4, ev5, Nat.reduceLT, entE, getE, putE, ↓reduceIte, Nat.reduceEqDiff, argsE, Int.reduceEq, convertA, lenA, foldI, A.cells, A.leaf, List.replicate, viewA, getO, Nat.reduceLeDiff, loadA, cellsAt, cellsTo, faA, indexAddrA, asInt, Int.reduceLE, Int.reduceLT, Int.reduceToNat, eq_self, Nat.reducePow, Int.reducePow, Int.reduceAdd, Int.reduceMul, Int.reduceSub, Int.reduceNeg, keyOk, mapPutA, lookupA, mapOf, sliceA, boundI, elemsOf, appendA, storeA, setRange, indexA, Nat.reduceBEq, Int.cast_ofNat_Int, reduceCtorEq, Nat.reduceAdd, Nat.reduceMul, Nat.reduceSub, evTy0, evTy1, evTy2, evTy3, evTy4, evTy5, h, hz, hg', hw, callR_data f1 rfl rfl, List.length_map]
        exact hR _ _ 103 (by simp only [chk, v', Bool.false_eq_true, if_false]) (by decide) rfl
      · have v' := v
        simp only [Mk.c] at v
        rw [v] at f1
        by_cases s1 : b.t < fl
        · simp only [s31_0, ↓evPre, ev0, ev1, ev2, ev3, ev4, ev5, Nat.reduceLT, entE, getE, putE, ↓reduceIte, Nat.reduceEqDiff, argsE, Int.reduceEq, convertA, lenA, foldI, A.cells, A.leaf, List.replicate, viewA, getO, Nat.reduceLeDiff, loadA, cellsAt, cellsTo, faA, indexAddrA, asInt, Int.reduceLE, Int.reduceLT, Int.reduceToNat, eq_self, Nat.reducePow, Int.reducePow, Int.reduceAdd, Int.reduceMul, Int.reduceSub, Int.reduceNeg, keyOk, mapPutA, lookupA, mapOf, sliceA, boundI, elemsOf, appendA, storeA, setRange, indexA, Nat.reduceBEq, Int.cast_ofNat_Int, reduceCtorEq, Nat.reduceAdd, Nat.reduceMul, Nat.reduceSub, evTy0, evTy1, evTy2, evTy3, evTy4, evTy5, h, hz, hg', hw, callR_data f1 rfl rfl, s1, List.length_map]
          exact hR _ _ 104 (by simp only [chk, v', stampB, decide_eq_false (show ¬ fl ≤ b.t by omega), Bool.false_and, Bool.false_eq_true, if_false, if_true]) (by decide) rfl
        · by_cases s2 : 4294967295 < b.t
          · simp only [s31_0, ↓evPre, ev0, ev1, ev2, ev3, ev4, ev5, Nat.reduceLT, entE, getE, putE, ↓reduceIte, Nat.reduceEqDiff, argsE, Int.reduceEq, convertA, lenA, foldI, A.cells, A.leaf, List.replicate, viewA, getO, Nat.reduceLeDiff, loadA, cellsAt, cellsTo, faA, indexAddrA, asInt, Int.reduceLE, Int.reduceLT, Int.reduceToNat, eq_self, Nat.reducePow, Int.reducePow, Int.reduceAdd, Int.reduceMul, Int.reduceSub, Int.reduceNeg, keyOk, mapPutA, lookupA, mapOf, sliceA, boundI, elemsOf, appendA, storeA, setRange, indexA, Nat.reduceBEq, Int.cast_ofNat_Int, reduceCtorEq, Nat.reduceAdd, Nat.reduceMul, Nat.reduceSub, evTy0, evTy1, evTy2, evTy3, evTy4, evTy5, h, hz, hg', hw, callR_data f1 rfl rfl, s1, s2, List.length_map]
            exact hR _ _ 104 (by simp only [chk, v', stampB, decide_eq_true (show fl ≤ b.t by omega), decide_eq_false (show ¬ b.t ≤ 4294967295 by omega), Bool.false_and, Bool.and_false, Bool.false_eq_true, if_false, if_true]) (by decide) rfl
          · have st : stampB fl b = tickB b.k := by simp only [stampB, decide_eq_true (show fl ≤ b.t by omega), decide_eq_true (show b.t ≤ 4294967295 by omega), Bool.true_and]
            have f2' : callF Try.prog Hs E1 k 74 [.d (.int .i64 b.k)] [] = some (.d (.bool (tickB b.k)), []) := f2
            cases tk : tickB b.k <;> rw [tk] at f2' st
            · simp only [s31_0, ↓evPre, ev0, ev1, ev2, ev3, ev4, ev5, Nat.reduceLT, entE, getE, putE, ↓reduceIte, Nat.reduceEqDiff, argsE, Int.reduceEq, convertA, lenA, foldI, A.cells, A.leaf, List.replicate, viewA, getO, Nat.reduceLeDiff, loadA, cellsAt, cellsTo, faA, indexAddrA, asInt, Int.reduceLE, Int.reduceLT, Int.reduceToNat, eq_self, Nat.reducePow, Int.reducePow, Int.reduceAdd, Int.reduceMul, Int.reduceSub, Int.reduceNeg, keyOk, mapPutA, lookupA, mapOf, sliceA, boundI, elemsOf, appendA, storeA, setRange, indexA, Nat.reduceBEq, Int.cast_ofNat_Int, reduceCtorEq, Nat.reduceAdd, Nat.reduceMul, Nat.reduceSub, evTy0, evTy1, evTy2, evTy3, evTy4, evTy5, h, hz, hg', hw, callR_data f1 rfl rfl, callR_data f2' rfl rfl, s1, s2, List.length_map]
              exact hR _ _ 104 (by simp only [chk, v', st, Bool.false_eq_true, if_false, if_true]) (by decide) rfl
            · cases hb : hasB (ms.take z.toNat) b <;> rw [hb] at f3
              · simp only [s31_0, ↓evPre, ev0, ev1, ev2, ev3, ev4, ev5, Nat.reduceLT, entE, getE, putE, ↓reduceIte, Nat.reduceEqDiff, argsE, Int.reduceEq, convertA, lenA, foldI, A.cells, A.leaf, List.replicate, viewA, getO, Nat.reduceLeDiff, loadA, cellsAt, cellsTo, faA, indexAddrA, asInt, Int.reduceLE, Int.reduceLT, Int.reduceToNat, eq_self, Nat.reducePow, Int.reducePow, Int.reduceAdd, Int.reduceMul, Int.reduceSub, Int.reduceNeg, keyOk, mapPutA, lookupA, mapOf, sliceA, boundI, elemsOf, appendA, storeA, setRange, indexA, Nat.reduceBEq, Int.cast_ofNat_Int, reduceCtorEq, Nat.reduceAdd, Nat.reduceMul, Nat.reduceSub, evTy0, evTy1, evTy2, evTy3, evTy4, evTy5, h, hz, hzl, hg', hw, callR_data f1 rfl rfl, callR_data f2' rfl rfl, s1, s2, List.length_map, take_map, callR_data f3 rfl rfl]
                simp only [chk, v', st, hb, Bool.false_eq_true, if_false, if_true, ← hts, ← hn] at hR hX
                exact ih (z + 1) _ _ (fun K => by simp only [↓evPre, ev0, ev1, ev2, ev3, ev4, ev5, Nat.reduceLT, entE, getE, putE, ↓reduceIte, Nat.reduceEqDiff, argsE, Int.reduceEq, convertA, lenA, foldI, A.cells, A.leaf, List.replicate, viewA, getO, Nat.reduceLeDiff, loadA, cellsAt, cellsTo, faA, indexAddrA, asInt, Int.reduceLE, Int.reduceLT, Int.reduceToNat, eq_self, Nat.reducePow, Int.reducePow, Int.reduceAdd, Int.reduceMul, Int.reduceSub, Int.reduceNeg, keyOk, mapPutA, lookupA, mapOf, sliceA, boundI, elemsOf, appendA, storeA, setRange, indexA, Nat.reduceBEq, Int.cast_ofNat_Int, reduceCtorEq, Nat.reduceAdd, Nat.reduceMul, Nat.reduceSub, evTy0, evTy1, evTy2, evTy3, evTy4, evTy5]) (by omega) (by omega) (by omega) hR hX
              · simp only [s31_0, ↓evPre, ev0, ev1, ev2, ev3, ev4, ev5, Nat.reduceLT, entE, getE, putE, ↓reduceIte, Nat.reduceEqDiff, argsE, Int.reduceEq, convertA, lenA, foldI, A.cells, A.leaf, List.replicate, viewA, getO, Nat.reduceLeDiff, loadA, cellsAt, cellsTo, faA, indexAddrA, asInt, Int.reduceLE, Int.reduceLT, Int.reduceToNat, eq_self, Nat.reducePow, Int.reducePow, Int.reduceAdd, Int.reduceMul, Int.reduceSub, Int.reduceNeg, keyOk, mapPutA, lookupA, mapOf, sliceA, boundI, elemsOf, appendA, storeA, setRange, indexA, Nat.reduceBEq, Int.cast_ofNat_Int, reduceCtorEq, Nat.reduceAdd, Nat.reduceMul, Nat.reduceSub, evTy0, evTy1, evTy2, evTy3, evTy4, evTy5, h, hz, hzl, hg', hw, callR_data f1 rfl rfl, callR_data f2' rfl rfl, s1, s2, List.length_map, take_map, callR_data f3 rfl rfl]
                exact hR _ _ 107 (by simp only [chk, v', st, hb, Bool.false_eq_true, if_false, if_true]) (by decide) rfl
    · have hd : ms.drop z.toNat = [] := List.drop_eq_nil_of_le (by omega)
      rw [hd] at hX
      simp only [s31_0, ↓evPre, ev0, ev1, ev2, ev3, ev4, ev5, Nat.reduceLT, entE, getE, putE, ↓reduceIte, Nat.reduceEqDiff, argsE, Int.reduceEq, convertA, lenA, foldI, A.cells, A.leaf, List.replicate, viewA, getO, Nat.reduceLeDiff, loadA, cellsAt, cellsTo, faA, indexAddrA, asInt, Int.reduceLE, Int.reduceLT, Int.reduceToNat, eq_self, Nat.reducePow, Int.reducePow, Int.reduceAdd, Int.reduceMul, Int.reduceSub, Int.reduceNeg, keyOk, mapPutA, lookupA, mapOf, sliceA, boundI, elemsOf, appendA, storeA, setRange, indexA, Nat.reduceBEq, Int.cast_ofNat_Int, reduceCtorEq, Nat.reduceAdd, Nat.reduceMul, Nat.reduceSub, evTy0, evTy1, evTy2, evTy3, evTy4, evTy5, h, List.length_map]
      exact hX rfl _ _

/-- A cache. -/
structure Ca where
  s : Int
  f : Int
  ms : List Mk

def Ca.ok (c : Ca) : Prop := c.ms.length ≤ 100 ∧ ∀ m ∈ c.ms, m.c.ok 100

def checkV (c : Ca) : Int := if 1 ≤ c.s ∧ c.s ≤ 40 ∧ 0 ≤ c.f ∧ c.f ≤ 4294967295 then (if c.s < (c.ms.length : Int) then 106 else chk c.f [] c.ms) else 104

theorem Check_ev (k : Nat) (hk : 310 ≤ k) (c : Ca) (hc : c.ok) :
    callF Try.prog Hs E1 k 31 [.agg [.d (.int .i64 c.s), .d (.int .i64 c.f), .d (.sl 5 (c.ms.map Mk.d))]] [] = some (.d (.int .i64 (checkV c)), []) := by
  obtain ⟨k, rfl⟩ : ∃ j, k = j + 1 := ⟨k - 1, by omega⟩
  refine evalE rfl Try.func31 l31 ?_ (Nat.le_of_ble_eq_true rfl)
  obtain ⟨s, f, ms⟩ := c
  obtain ⟨hl, hok⟩ := hc
  simp only at hl hok
  unfold checkV
  simp only
  have f1 := isSize_ev k (by omega) s
  by_cases s1 : 1 ≤ s
  · by_cases s2 : s ≤ 40
    · simp only [s1, s2, decide_true, Bool.and_self] at f1
      by_cases s3 : f < 0
      · have q : ¬ (1 ≤ s ∧ s ≤ 40 ∧ 0 ≤ f ∧ f ≤ 4294967295) := by omega
        simp only [s31, n31, ↓evPre, ev0, ev1, ev2, ev3, ev4, ev5, Nat.reduceLT, entE, getE, putE, ↓reduceIte, Nat.reduceEqDiff, argsE, Int.reduceEq, convertA, lenA, foldI, A.cells, A.leaf, List.replicate, viewA, getO, Nat.reduceLeDiff, loadA, cellsAt, cellsTo, faA, indexAddrA, asInt, Int.reduceLE, Int.reduceLT, Int.reduceToNat, eq_self, Nat.reducePow, Int.reducePow, Int.reduceAdd, Int.reduceMul, Int.reduceSub, Int.reduceNeg, keyOk, mapPutA, lookupA, mapOf, sliceA, boundI, elemsOf, appendA, storeA, setRange, indexA, Nat.reduceBEq, Int.cast_ofNat_Int, reduceCtorEq, Nat.reduceAdd, Nat.reduceMul, Nat.reduceSub, evTy0, evTy1, evTy2, evTy3, evTy4, evTy5, callR_data f1 rfl rfl, s3, if_neg q]
      · by_cases s4 : 4294967295 < f
        · have q : ¬ (1 ≤ s ∧ s ≤ 40 ∧ 0 ≤ f ∧ f ≤ 4294967295) := by omega
          simp only [s31, n31, ↓evPre, ev0, ev1, ev2, ev3, ev4, ev5, Nat.reduceLT, entE, getE, putE, ↓reduceIte, Nat.reduceEqDiff, argsE, Int.reduceEq, convertA, lenA, foldI, A.cells, A.leaf, List.replicate, viewA, getO, Nat.reduceLeDiff, loadA, cellsAt, cellsTo, faA, indexAddrA, asInt, Int.reduceLE, Int.reduceLT, Int.reduceToNat, eq_self, Nat.reducePow, Int.reducePow, Int.reduceAdd, Int.reduceMul, Int.reduceSub, Int.reduceNeg, keyOk, mapPutA, lookupA, mapOf, sliceA, boundI, elemsOf, appendA, storeA, setRange, indexA, Nat.reduceBEq, Int.cast_ofNat_Int, reduceCtorEq, Nat.reduceAdd, Nat.reduceMul, Nat.reduceSub, evTy0, evTy1, evTy2, evTy3, evTy4, evTy5, callR_data f1 rfl rfl, s3, s4, if_neg q]
        · have q : (1 ≤ s ∧ s ≤ 40 ∧ 0 ≤ f ∧ f ≤ 4294967295) := by omega
          rw [if_pos q]
          by_cases s5 : s < (ms.length : Int)
          · simp only [s31, n31, ↓evPre, ev0, ev1, ev2, ev3, ev4, ev5, Nat.reduceLT, entE, getE, putE, ↓reduceIte, Nat.reduceEqDiff, argsE, Int.reduceEq, convertA, lenA, foldI, A.cells, A.leaf, List.replicate, viewA, getO, Nat.reduceLeDiff, loadA, cellsAt, cellsTo, faA, indexAddrA, asInt, Int.reduceLE, Int.reduceLT, Int.reduceToNat, eq_self, Nat.reducePow, Int.reducePow, Int.reduceAdd, Int.reduceMul, Int.reduceSub, Int.reduceNeg, keyOk, mapPutA, lookupA, mapOf, sliceA, boundI, elemsOf, appendA, storeA, setRange, indexA, Nat.reduceBEq, Int.cast_ofNat_Int, reduceCtorEq, Nat.reduceAdd, Nat.reduceMul, Nat.reduceSub, evTy0, evTy1, evTy2, evTy3, evTy4, evTy5, callR_data f1 rfl rfl, s3, s4, s5, List.length_map]
          · rw [if_neg s5]
            simp only [s31, n31, ↓evPre, ev0, ev1, ev2, ev3, ev4, ev5, Nat.reduceLT, entE, getE, putE, ↓reduceIte, Nat.reduceEqDiff, argsE, Int.reduceEq, convertA, lenA, foldI, A.cells, A.leaf, List.replicate, viewA, getO, Nat.reduceLeDiff, loadA, cellsAt, cellsTo, faA, indexAddrA, asInt, Int.reduceLE, Int.reduceLT, Int.reduceToNat, eq_self, Nat.reducePow, Int.reducePow, Int.reduceAdd, Int.reduceMul, Int.reduceSub, Int.reduceNeg, keyOk, mapPutA, lookupA, mapOf, sliceA, boundI, elemsOf, appendA, storeA, setRange, indexA, Nat.reduceBEq, Int.cast_ofNat_Int, reduceCtorEq, Nat.reduceAdd, Nat.reduceMul, Nat.reduceSub, evTy0, evTy1, evTy2, evTy3, evTy4, evTy5, callR_data f1 rfl rfl, s3, s4, s5, List.length_map]
            refine Check_loop k (by omega) s f ms hl hok _ _ k 0 _ _ (fun K => by simp only [↓evPre, ev0, ev1, ev2, ev3, ev4, ev5, Nat.reduceLT, entE, getE, putE, ↓reduceIte, Nat.reduceEqDiff, argsE, Int.reduceEq, convertA, lenA, foldI, A.cells, A.leaf, List.replicate, viewA, getO, Nat.reduceLeDiff, loadA, cellsAt, cellsTo, faA, indexAddrA, asInt, Int.reduceLE, Int.reduceLT, Int.reduceToNat, eq_self, Nat.reducePow, Int.reducePow, Int.reduceAdd, Int.reduceMul, Int.reduceSub, Int.reduceNeg, keyOk, mapPutA, lookupA, mapOf, sliceA, boundI, elemsOf, appendA, storeA, setRange, indexA, Nat.reduceBEq, Int.cast_ofNat_Int, reduceCtorEq, Nat.reduceAdd, Nat.reduceMul, Nat.reduceSub, evTy0, evTy1, evTy2, evTy3, evTy4, evTy5]) (by omega) (by omega) (by omega) (fun e o c hc h0 g2 => ?_) (fun hc e o => ?_)
            · have hc' : chk f [] ms = c := hc
              simp only [↓evPre, ev0, ev1, ev2, ev3, ev4, ev5, Nat.reduceLT, entE, getE, putE, ↓reduceIte, Nat.reduceEqDiff, argsE, Int.reduceEq, convertA, lenA, foldI, A.cells, A.leaf, List.replicate, viewA, getO, Nat.reduceLeDiff, loadA, cellsAt, cellsTo, faA, indexAddrA, asInt, Int.reduceLE, Int.reduceLT, Int.reduceToNat, eq_self, Nat.reducePow, Int.reducePow, Int.reduceAdd, Int.reduceMul, Int.reduceSub, Int.reduceNeg, keyOk, mapPutA, lookupA, mapOf, sliceA, boundI, elemsOf, appendA, storeA, setRange, indexA, Nat.reduceBEq, Int.cast_ofNat_Int, reduceCtorEq, Nat.reduceAdd, Nat.reduceMul, Nat.reduceSub, evTy0, evTy1, evTy2, evTy3, evTy4, evTy5, s31, n31, g2, hc']
            · have hc' : chk f [] ms = 0 := hc
              simp only [↓evPre, ev0, ev1, ev2, ev3, ev4, ev5, Nat.reduceLT, entE, getE, putE, ↓reduceIte, Nat.reduceEqDiff, argsE, Int.reduceEq, convertA, lenA, foldI, A.cells, A.leaf, List.replicate, viewA, getO, Nat.reduceLeDiff, loadA, cellsAt, cellsTo, faA, indexAddrA, asInt, Int.reduceLE, Int.reduceLT, Int.reduceToNat, eq_self, Nat.reducePow, Int.reducePow, Int.reduceAdd, Int.reduceMul, Int.reduceSub, Int.reduceNeg, keyOk, mapPutA, lookupA, mapOf, sliceA, boundI, elemsOf, appendA, storeA, setRange, indexA, Nat.reduceBEq, Int.cast_ofNat_Int, reduceCtorEq, Nat.reduceAdd, Nat.reduceMul, Nat.reduceSub, evTy0, evTy1, evTy2, evTy3, evTy4, evTy5, s31, n31, hc']
    · have q : ¬ (1 ≤ s ∧ s ≤ 40 ∧ 0 ≤ f ∧ f ≤ 4294967295) := by omega
      simp only [s1, s2, decide_true, decide_false, Bool.and_false] at f1
      simp only [s31, n31, ↓evPre, ev0, ev1, ev2, ev3, ev4, ev5, Nat.reduceLT, entE, getE, putE, ↓reduceIte, Nat.reduceEqDiff, argsE, Int.reduceEq, convertA, lenA, foldI, A.cells, A.leaf, List.replicate, viewA, getO, Nat.reduceLeDiff, loadA, cellsAt, cellsTo, faA, indexAddrA, asInt, Int.reduceLE, Int.reduceLT, Int.reduceToNat, eq_self, Nat.reducePow, Int.reducePow, Int.reduceAdd, Int.reduceMul, Int.reduceSub, Int.reduceNeg, keyOk, mapPutA, lookupA, mapOf, sliceA, boundI, elemsOf, appendA, storeA, setRange, indexA, Nat.reduceBEq, Int.cast_ofNat_Int, reduceCtorEq, Nat.reduceAdd, Nat.reduceMul, Nat.reduceSub, evTy0, evTy1, evTy2, evTy3, evTy4, evTy5, callR_data f1 rfl rfl, if_neg q]
  · have q : ¬ (1 ≤ s ∧ s ≤ 40 ∧ 0 ≤ f ∧ f ≤ 4294967295) := by omega
    simp only [s1, decide_false, Bool.false_and] at f1
    simp only [s31, n31, ↓evPre, ev0, ev1, ev2, ev3, ev4, ev5, Nat.reduceLT, entE, getE, putE, ↓reduceIte, Nat.reduceEqDiff, argsE, Int.reduceEq, convertA, lenA, foldI, A.cells, A.leaf, List.replicate, viewA, getO, Nat.reduceLeDiff, loadA, cellsAt, cellsTo, faA, indexAddrA, asInt, Int.reduceLE, Int.reduceLT, Int.reduceToNat, eq_self, Nat.reducePow, Int.reducePow, Int.reduceAdd, Int.reduceMul, Int.reduceSub, Int.reduceNeg, keyOk, mapPutA, lookupA, mapOf, sliceA, boundI, elemsOf, appendA, storeA, setRange, indexA, Nat.reduceBEq, Int.cast_ofNat_Int, reduceCtorEq, Nat.reduceAdd, Nat.reduceMul, Nat.reduceSub, evTy0, evTy1, evTy2, evTy3, evTy4, evTy5, callR_data f1 rfl rfl, if_neg q]

theorem refCheck_loop (k : Nat) (hk : 300 ≤ k) (s fl : Int) (ms : List Mk) (hl : ms.length ≤ 100) (hok : ∀ m ∈ ms, m.c.ok 100) (K : X → Env → Store → Res) (r : Res) :
    ∀ (j : Nat) (z : Int) (e : Env) (o : Store), (∀ K, headE 72 0 (some ([1, 3], 0)) e o K = K (.cons 1 (.bp 0 0) (.cons 3 (.d (.int .i64 z)) (.nil .top))) [.box [.d (.int .i64 s), .d (.int .i64 fl), .d (.sl 5 (ms.map Mk.d))]]) →
      0 ≤ z → z ≤ ms.length → ms.length - z < j →
      (∀ e o c, chk fl (ms.take z.toNat) (ms.drop z.toNat) = c → c ≠ 0 → getE e 2 = .d (.int .i64 c) → K .ret e o = r) →
      (chk fl (ms.take z.toNat) (ms.drop z.toNat) = 0 → ∀ e o, K (.exit 0) e o = r) →
      loopC Try.prog Hs (callF Try.prog Hs E1 k) 72 k 0 (some ([1, 3], 0)) s32_0 j e o K ⟨0⟩ = r := by
  generalize hS : s32_0 = S
  intro j
  induction j with
  | zero => intro z e o hh hz hz2 hj; omega
  | succ j ih =>
    intro z e o hh hz hz2 hj hR hX
    rw [l_succ2 hS, hh]
    by_cases h : z < ms.length
    · have hlt : z.toNat < ms.length := by omega
      obtain ⟨b, hg⟩ : ∃ b, ms[z.toNat]? = some b := ⟨_, List.getElem?_eq_getElem hlt⟩
      have hw := i64_in (z + 1) (by omega)
      have hn : (z + 1).toNat = z.toNat + 1 := by omega
      have hts := take_snoc hg
      rw [← hn] at hts
      rw [dropU hg] at hR hX
      have hg' := mk_get hg
      have hbm := hok b (List.mem_of_getElem? hg)
      have f1 := refValid_ev k 100 b.c (by omega) hbm (by omega)
      have f3 := refHas_ev k 0 0 (ms.take z.toNat) b (by simp; omega) (by simp; omega)
      have hzl : z ≤ (ms.length : Int) := by omega
      simp only [Mk.c] at f1
      cases v : validB b.c
      · have v' := v
        simp only [Mk.c] at v
        rw [v] at f1
        simp only [s32_0, ↓evPre, ev0, ev1, ev2, ev3, ev4, ev5, Nat.reduceLT, entE, getE, putE, ↓reduceIte, Nat.reduceEqDiff, argsE, Int.reduceEq, convertA, lenA, foldI, A.cells, A.leaf, List.replicate, viewA, getO, Nat.reduceLeDiff, loadA, cellsAt, cellsTo, faA, indexAddrA, asInt, Int.reduceLE, Int.reduceLT, Int.reduceToNat, eq_self, Nat.reducePow, Int.reducePow, Int.reduceAdd, Int.reduceMul, Int.reduceSub, Int.reduceNeg, keyOk, mapPutA, lookupA, mapOf, sliceA, boundI, elemsOf, appendA, storeA, setRange, indexA, Nat.reduceBEq, Int.cast_ofNat_Int, reduceCtorEq, Nat.reduceAdd, Nat.reduceMul, Nat.reduceSub, evTy0, evTy1, evTy2, evTy3, evTy4, evTy5, h, hz, hg', hw, callR_data f1 rfl rfl, List.length_map]
        exact hR _ _ 103 (by simp only [chk, v', Bool.false_eq_true, if_false]) (by decide) rfl
      · have v' := v
        simp only [Mk.c] at v
        rw [v] at f1
        by_cases s1 : b.t < fl
        · simp only [s32_0, ↓evPre, ev0, ev1, ev2, ev3, ev4, ev5, Nat.reduceLT, entE, getE, putE, ↓reduceIte, Nat.reduceEqDiff, argsE, Int.reduceEq, convertA, lenA, foldI, A.cells, A.leaf, List.replicate, viewA, getO, Nat.reduceLeDiff, loadA, cellsAt, cellsTo, faA, indexAddrA, asInt, Int.reduceLE, Int.reduceLT, Int.reduceToNat, eq_self, Nat.reducePow, Int.reducePow, Int.reduceAdd, Int.reduceMul, Int.reduceSub, Int.reduceNeg, keyOk, mapPutA, lookupA, mapOf, sliceA, boundI, elemsOf, appendA, storeA, setRange, indexA, Nat.reduceBEq, Int.cast_ofNat_Int, reduceCtorEq, Nat.reduceAdd, Nat.reduceMul, Nat.reduceSub, evTy0, evTy1, evTy2, evTy3, evTy4, evTy5, h, hz, hg', hw, callR_data f1 rfl rfl, s1, List.length_map]
          exact hR _ _ 104 (by simp only [chk, v', stampB, decide_eq_false (show ¬ fl ≤ b.t by omega), Bool.false_and, Bool.false_eq_true, if_false, if_true]) (by decide) rfl
        · by_cases s2 : 4294967295 < b.t
          · simp only [s32_0, ↓evPre, ev0, ev1, ev2, ev3, ev4, ev5, Nat.reduceLT, entE, getE, putE, ↓reduceIte, Nat.reduceEqDiff, argsE, Int.reduceEq, convertA, lenA, foldI, A.cells, A.leaf, List.replicate, viewA, getO, Nat.reduceLeDiff, loadA, cellsAt, cellsTo, faA, indexAddrA, asInt, Int.reduceLE, Int.reduceLT, Int.reduceToNat, eq_self, Nat.reducePow, Int.reducePow, Int.reduceAdd, Int.reduceMul, Int.reduceSub, Int.reduceNeg, keyOk, mapPutA, lookupA, mapOf, sliceA, boundI, elemsOf, appendA, storeA, setRange, indexA, Nat.reduceBEq, Int.cast_ofNat_Int, reduceCtorEq, Nat.reduceAdd, Nat.reduceMul, Nat.reduceSub, evTy0, evTy1, evTy2, evTy3, evTy4, evTy5, h, hz, hg', hw, callR_data f1 rfl rfl, s1, s2, List.length_map]
            exact hR _ _ 104 (by simp only [chk, v', stampB, decide_eq_true (show fl ≤ b.t by omega), decide_eq_false (show ¬ b.t ≤ 4294967295 by omega), Bool.false_and, Bool.and_false, Bool.false_eq_true, if_false, if_true]) (by decide) rfl
          · have st : stampB fl b = tickB b.k := by simp only [stampB, decide_eq_true (show fl ≤ b.t by omega), decide_eq_true (show b.t ≤ 4294967295 by omega), Bool.true_and]
            by_cases s3 : b.k < 0
            · have tk : tickB b.k = false := by simp only [tickB, decide_eq_false (show ¬ 0 ≤ b.k by omega), Bool.false_and]
              simp only [s32_0, ↓evPre, ev0, ev1, ev2, ev3, ev4, ev5, Nat.reduceLT, entE, getE, putE, ↓reduceIte, Nat.reduceEqDiff, argsE, Int.reduceEq, convertA, lenA, foldI, A.cells, A.leaf, List.replicate, viewA, getO, Nat.reduceLeDiff, loadA, cellsAt, cellsTo, faA, indexAddrA, asInt, Int.reduceLE, Int.reduceLT, Int.reduceToNat, eq_self, Nat.reducePow, Int.reducePow, Int.reduceAdd, Int.reduceMul, Int.reduceSub, Int.reduceNeg, keyOk, mapPutA, lookupA, mapOf, sliceA, boundI, elemsOf, appendA, storeA, setRange, indexA, Nat.reduceBEq, Int.cast_ofNat_Int, reduceCtorEq, Nat.reduceAdd, Nat.reduceMul, Nat.reduceSub, evTy0, evTy1, evTy2, evTy3, evTy4, evTy5, h, hz, hg', hw, callR_data f1 rfl rfl, s1, s2, s3, List.length_map]
              exact hR _ _ 104 (by simp only [chk, v', st, tk, Bool.false_eq_true, if_false, if_true]) (by decide) rfl
            · by_cases s4 : 199 < b.k
              · have tk : tickB b.k = false := by simp only [tickB, decide_eq_false (show ¬ b.k ≤ 199 by omega), Bool.and_false]
                simp only [s32_0, ↓evPre, ev0, ev1, ev2, ev3, ev4, ev5, Nat.reduceLT, entE, getE, putE, ↓reduceIte, Nat.reduceEqDiff, argsE, Int.reduceEq, convertA, lenA, foldI, A.cells, A.leaf, List.replicate, viewA, getO, Nat.reduceLeDiff, loadA, cellsAt, cellsTo, faA, indexAddrA, asInt, Int.reduceLE, Int.reduceLT, Int.reduceToNat, eq_self, Nat.reducePow, Int.reducePow, Int.reduceAdd, Int.reduceMul, Int.reduceSub, Int.reduceNeg, keyOk, mapPutA, lookupA, mapOf, sliceA, boundI, elemsOf, appendA, storeA, setRange, indexA, Nat.reduceBEq, Int.cast_ofNat_Int, reduceCtorEq, Nat.reduceAdd, Nat.reduceMul, Nat.reduceSub, evTy0, evTy1, evTy2, evTy3, evTy4, evTy5, h, hz, hg', hw, callR_data f1 rfl rfl, s1, s2, s3, s4, List.length_map]
                exact hR _ _ 104 (by simp only [chk, v', st, tk, Bool.false_eq_true, if_false, if_true]) (by decide) rfl
              · have tk : tickB b.k = true := by simp only [tickB, decide_eq_true (show b.k ≤ 199 by omega), decide_eq_true (show 0 ≤ b.k by omega), Bool.and_true]
                rw [tk] at st
                cases hb : hasB (ms.take z.toNat) b <;> rw [hb] at f3
                · simp only [s32_0, ↓evPre, ev0, ev1, ev2, ev3, ev4, ev5, Nat.reduceLT, entE, getE, putE, ↓reduceIte, Nat.reduceEqDiff, argsE, Int.reduceEq, convertA, lenA, foldI, A.cells, A.leaf, List.replicate, viewA, getO, Nat.reduceLeDiff, loadA, cellsAt, cellsTo, faA, indexAddrA, asInt, Int.reduceLE, Int.reduceLT, Int.reduceToNat, eq_self, Nat.reducePow, Int.reducePow, Int.reduceAdd, Int.reduceMul, Int.reduceSub, Int.reduceNeg, keyOk, mapPutA, lookupA, mapOf, sliceA, boundI, elemsOf, appendA, storeA, setRange, indexA, Nat.reduceBEq, Int.cast_ofNat_Int, reduceCtorEq, Nat.reduceAdd, Nat.reduceMul, Nat.reduceSub, evTy0, evTy1, evTy2, evTy3, evTy4, evTy5, h, hz, hzl, hg', hw, callR_data f1 rfl rfl, s1, s2, s3, s4, List.length_map, take_map, callR_data f3 rfl rfl]
                  simp only [chk, v', st, hb, Bool.false_eq_true, if_false, if_true, ← hts, ← hn] at hR hX
                  exact ih (z + 1) _ _ (fun K => by simp only [↓evPre, ev0, ev1, ev2, ev3, ev4, ev5, Nat.reduceLT, entE, getE, putE, ↓reduceIte, Nat.reduceEqDiff, argsE, Int.reduceEq, convertA, lenA, foldI, A.cells, A.leaf, List.replicate, viewA, getO, Nat.reduceLeDiff, loadA, cellsAt, cellsTo, faA, indexAddrA, asInt, Int.reduceLE, Int.reduceLT, Int.reduceToNat, eq_self, Nat.reducePow, Int.reducePow, Int.reduceAdd, Int.reduceMul, Int.reduceSub, Int.reduceNeg, keyOk, mapPutA, lookupA, mapOf, sliceA, boundI, elemsOf, appendA, storeA, setRange, indexA, Nat.reduceBEq, Int.cast_ofNat_Int, reduceCtorEq, Nat.reduceAdd, Nat.reduceMul, Nat.reduceSub, evTy0, evTy1, evTy2, evTy3, evTy4, evTy5]) (by omega) (by omega) (by omega) hR hX
                · simp only [s32_0, ↓evPre, ev0, ev1, ev2, ev3, ev4, ev5, Nat.reduceLT, entE, getE, putE, ↓reduceIte, Nat.reduceEqDiff, argsE, Int.reduceEq, convertA, lenA, foldI, A.cells, A.leaf, List.replicate, viewA, getO, Nat.reduceLeDiff, loadA, cellsAt, cellsTo, faA, indexAddrA, asInt, Int.reduceLE, Int.reduceLT, Int.reduceToNat, eq_self, Nat.reducePow, Int.reducePow, Int.reduceAdd, Int.reduceMul, Int.reduceSub, Int.reduceNeg, keyOk, mapPutA, lookupA, mapOf, sliceA, boundI, elemsOf, appendA, storeA, setRange, indexA, Nat.reduceBEq, Int.cast_ofNat_Int, reduceCtorEq, Nat.reduceAdd, Nat.reduceMul, Nat.reduceSub, evTy0, evTy1, evTy2, evTy3, evTy4, evTy5, h, hz, hzl, hg', hw, callR_data f1 rfl rfl, s1, s2, s3, s4, List.length_map, take_map, callR_data f3 rfl rfl]
                  exact hR _ _ 107 (by simp only [chk, v', st, hb, Bool.false_eq_true, if_false, if_true]) (by decide) rfl
    · have hd : ms.drop z.toNat = [] := List.drop_eq_nil_of_le (by omega)
      rw [hd] at hX
      simp only [s32_0, ↓evPre, ev0, ev1, ev2, ev3, ev4, ev5, Nat.reduceLT, entE, getE, putE, ↓reduceIte, Nat.reduceEqDiff, argsE, Int.reduceEq, convertA, lenA, foldI, A.cells, A.leaf, List.replicate, viewA, getO, Nat.reduceLeDiff, loadA, cellsAt, cellsTo, faA, indexAddrA, asInt, Int.reduceLE, Int.reduceLT, Int.reduceToNat, eq_self, Nat.reducePow, Int.reducePow, Int.reduceAdd, Int.reduceMul, Int.reduceSub, Int.reduceNeg, keyOk, mapPutA, lookupA, mapOf, sliceA, boundI, elemsOf, appendA, storeA, setRange, indexA, Nat.reduceBEq, Int.cast_ofNat_Int, reduceCtorEq, Nat.reduceAdd, Nat.reduceMul, Nat.reduceSub, evTy0, evTy1, evTy2, evTy3, evTy4, evTy5, h, List.length_map]
      exact hX rfl _ _

theorem refCheck_ev (k : Nat) (hk : 310 ≤ k) (c : Ca) (hc : c.ok) :
    callF Try.prog Hs E1 k 32 [.agg [.d (.int .i64 c.s), .d (.int .i64 c.f), .d (.sl 5 (c.ms.map Mk.d))]] [] = some (.d (.int .i64 (checkV c)), []) := by
  obtain ⟨k, rfl⟩ : ∃ j, k = j + 1 := ⟨k - 1, by omega⟩
  refine evalE rfl Try.func32 l32 ?_ (Nat.le_of_ble_eq_true rfl)
  obtain ⟨s, f, ms⟩ := c
  obtain ⟨hl, hok⟩ := hc
  simp only at hl hok
  unfold checkV
  simp only
  by_cases s1 : s < 1
  · have q : ¬ (1 ≤ s ∧ s ≤ 40 ∧ 0 ≤ f ∧ f ≤ 4294967295) := by omega
    simp only [s32, n32, ↓evPre, ev0, ev1, ev2, ev3, ev4, ev5, Nat.reduceLT, entE, getE, putE, ↓reduceIte, Nat.reduceEqDiff, argsE, Int.reduceEq, convertA, lenA, foldI, A.cells, A.leaf, List.replicate, viewA, getO, Nat.reduceLeDiff, loadA, cellsAt, cellsTo, faA, indexAddrA, asInt, Int.reduceLE, Int.reduceLT, Int.reduceToNat, eq_self, Nat.reducePow, Int.reducePow, Int.reduceAdd, Int.reduceMul, Int.reduceSub, Int.reduceNeg, keyOk, mapPutA, lookupA, mapOf, sliceA, boundI, elemsOf, appendA, storeA, setRange, indexA, Nat.reduceBEq, Int.cast_ofNat_Int, reduceCtorEq, Nat.reduceAdd, Nat.reduceMul, Nat.reduceSub, evTy0, evTy1, evTy2, evTy3, evTy4, evTy5, s1, if_neg q]
  · by_cases s2 : 40 < s
    · have q : ¬ (1 ≤ s ∧ s ≤ 40 ∧ 0 ≤ f ∧ f ≤ 4294967295) := by omega
      simp only [s32, n32, ↓evPre, ev0, ev1, ev2, ev3, ev4, ev5, Nat.reduceLT, entE, getE, putE, ↓reduceIte, Nat.reduceEqDiff, argsE, Int.reduceEq, convertA, lenA, foldI, A.cells, A.leaf, List.replicate, viewA, getO, Nat.reduceLeDiff, loadA, cellsAt, cellsTo, faA, indexAddrA, asInt, Int.reduceLE, Int.reduceLT, Int.reduceToNat, eq_self, Nat.reducePow, Int.reducePow, Int.reduceAdd, Int.reduceMul, Int.reduceSub, Int.reduceNeg, keyOk, mapPutA, lookupA, mapOf, sliceA, boundI, elemsOf, appendA, storeA, setRange, indexA, Nat.reduceBEq, Int.cast_ofNat_Int, reduceCtorEq, Nat.reduceAdd, Nat.reduceMul, Nat.reduceSub, evTy0, evTy1, evTy2, evTy3, evTy4, evTy5, s1, s2, if_neg q]
    · by_cases s3 : f < 0
      · have q : ¬ (1 ≤ s ∧ s ≤ 40 ∧ 0 ≤ f ∧ f ≤ 4294967295) := by omega
        simp only [s32, n32, ↓evPre, ev0, ev1, ev2, ev3, ev4, ev5, Nat.reduceLT, entE, getE, putE, ↓reduceIte, Nat.reduceEqDiff, argsE, Int.reduceEq, convertA, lenA, foldI, A.cells, A.leaf, List.replicate, viewA, getO, Nat.reduceLeDiff, loadA, cellsAt, cellsTo, faA, indexAddrA, asInt, Int.reduceLE, Int.reduceLT, Int.reduceToNat, eq_self, Nat.reducePow, Int.reducePow, Int.reduceAdd, Int.reduceMul, Int.reduceSub, Int.reduceNeg, keyOk, mapPutA, lookupA, mapOf, sliceA, boundI, elemsOf, appendA, storeA, setRange, indexA, Nat.reduceBEq, Int.cast_ofNat_Int, reduceCtorEq, Nat.reduceAdd, Nat.reduceMul, Nat.reduceSub, evTy0, evTy1, evTy2, evTy3, evTy4, evTy5, s1, s2, s3, if_neg q]
      · by_cases s4 : 4294967295 < f
        · have q : ¬ (1 ≤ s ∧ s ≤ 40 ∧ 0 ≤ f ∧ f ≤ 4294967295) := by omega
          simp only [s32, n32, ↓evPre, ev0, ev1, ev2, ev3, ev4, ev5, Nat.reduceLT, entE, getE, putE, ↓reduceIte, Nat.reduceEqDiff, argsE, Int.reduceEq, convertA, lenA, foldI, A.cells, A.leaf, List.replicate, viewA, getO, Nat.reduceLeDiff, loadA, cellsAt, cellsTo, faA, indexAddrA, asInt, Int.reduceLE, Int.reduceLT, Int.reduceToNat, eq_self, Nat.reducePow, Int.reducePow, Int.reduceAdd, Int.reduceMul, Int.reduceSub, Int.reduceNeg, keyOk, mapPutA, lookupA, mapOf, sliceA, boundI, elemsOf, appendA, storeA, setRange, indexA, Nat.reduceBEq, Int.cast_ofNat_Int, reduceCtorEq, Nat.reduceAdd, Nat.reduceMul, Nat.reduceSub, evTy0, evTy1, evTy2, evTy3, evTy4, evTy5, s1, s2, s3, s4, if_neg q]
        · have q : (1 ≤ s ∧ s ≤ 40 ∧ 0 ≤ f ∧ f ≤ 4294967295) := by omega
          rw [if_pos q]
          by_cases s5 : s < (ms.length : Int)
          · simp only [s32, n32, ↓evPre, ev0, ev1, ev2, ev3, ev4, ev5, Nat.reduceLT, entE, getE, putE, ↓reduceIte, Nat.reduceEqDiff, argsE, Int.reduceEq, convertA, lenA, foldI, A.cells, A.leaf, List.replicate, viewA, getO, Nat.reduceLeDiff, loadA, cellsAt, cellsTo, faA, indexAddrA, asInt, Int.reduceLE, Int.reduceLT, Int.reduceToNat, eq_self, Nat.reducePow, Int.reducePow, Int.reduceAdd, Int.reduceMul, Int.reduceSub, Int.reduceNeg, keyOk, mapPutA, lookupA, mapOf, sliceA, boundI, elemsOf, appendA, storeA, setRange, indexA, Nat.reduceBEq, Int.cast_ofNat_Int, reduceCtorEq, Nat.reduceAdd, Nat.reduceMul, Nat.reduceSub, evTy0, evTy1, evTy2, evTy3, evTy4, evTy5, s1, s2, s3, s4, s5, List.length_map]
          · rw [if_neg s5]
            simp only [s32, n32, ↓evPre, ev0, ev1, ev2, ev3, ev4, ev5, Nat.reduceLT, entE, getE, putE, ↓reduceIte, Nat.reduceEqDiff, argsE, Int.reduceEq, convertA, lenA, foldI, A.cells, A.leaf, List.replicate, viewA, getO, Nat.reduceLeDiff, loadA, cellsAt, cellsTo, faA, indexAddrA, asInt, Int.reduceLE, Int.reduceLT, Int.reduceToNat, eq_self, Nat.reducePow, Int.reducePow, Int.reduceAdd, Int.reduceMul, Int.reduceSub, Int.reduceNeg, keyOk, mapPutA, lookupA, mapOf, sliceA, boundI, elemsOf, appendA, storeA, setRange, indexA, Nat.reduceBEq, Int.cast_ofNat_Int, reduceCtorEq, Nat.reduceAdd, Nat.reduceMul, Nat.reduceSub, evTy0, evTy1, evTy2, evTy3, evTy4, evTy5, s1, s2, s3, s4, s5, List.length_map]
            refine refCheck_loop k (by omega) s f ms hl hok _ _ k 0 _ _ (fun K => by simp only [↓evPre, ev0, ev1, ev2, ev3, ev4, ev5, Nat.reduceLT, entE, getE, putE, ↓reduceIte, Nat.reduceEqDiff, argsE, Int.reduceEq, convertA, lenA, foldI, A.cells, A.leaf, List.replicate, viewA, getO, Nat.reduceLeDiff, loadA, cellsAt, cellsTo, faA, indexAddrA, asInt, Int.reduceLE, Int.reduceLT, Int.reduceToNat, eq_self, Nat.reducePow, Int.reducePow, Int.reduceAdd, Int.reduceMul, Int.reduceSub, Int.reduceNeg, keyOk, mapPutA, lookupA, mapOf, sliceA, boundI, elemsOf, appendA, storeA, setRange, indexA, Nat.reduceBEq, Int.cast_ofNat_Int, reduceCtorEq, Nat.reduceAdd, Nat.reduceMul, Nat.reduceSub, evTy0, evTy1, evTy2, evTy3, evTy4, evTy5]) (by omega) (by omega) (by omega) (fun e o c hc h0 g2 => ?_) (fun hc e o => ?_)
            · have hc' : chk f [] ms = c := hc
              simp only [↓evPre, ev0, ev1, ev2, ev3, ev4, ev5, Nat.reduceLT, entE, getE, putE, ↓reduceIte, Nat.reduceEqDiff, argsE, Int.reduceEq, convertA, lenA, foldI, A.cells, A.leaf, List.replicate, viewA, getO, Nat.reduceLeDiff, loadA, cellsAt, cellsTo, faA, indexAddrA, asInt, Int.reduceLE, Int.reduceLT, Int.reduceToNat, eq_self, Nat.reducePow, Int.reducePow, Int.reduceAdd, Int.reduceMul, Int.reduceSub, Int.reduceNeg, keyOk, mapPutA, lookupA, mapOf, sliceA, boundI, elemsOf, appendA, storeA, setRange, indexA, Nat.reduceBEq, Int.cast_ofNat_Int, reduceCtorEq, Nat.reduceAdd, Nat.reduceMul, Nat.reduceSub, evTy0, evTy1, evTy2, evTy3, evTy4, evTy5, s32, n32, g2, hc']
            · have hc' : chk f [] ms = 0 := hc
              simp only [↓evPre, ev0, ev1, ev2, ev3, ev4, ev5, Nat.reduceLT, entE, getE, putE, ↓reduceIte, Nat.reduceEqDiff, argsE, Int.reduceEq, convertA, lenA, foldI, A.cells, A.leaf, List.replicate, viewA, getO, Nat.reduceLeDiff, loadA, cellsAt, cellsTo, faA, indexAddrA, asInt, Int.reduceLE, Int.reduceLT, Int.reduceToNat, eq_self, Nat.reducePow, Int.reducePow, Int.reduceAdd, Int.reduceMul, Int.reduceSub, Int.reduceNeg, keyOk, mapPutA, lookupA, mapOf, sliceA, boundI, elemsOf, appendA, storeA, setRange, indexA, Nat.reduceBEq, Int.cast_ofNat_Int, reduceCtorEq, Nat.reduceAdd, Nat.reduceMul, Nat.reduceSub, evTy0, evTy1, evTy2, evTy3, evTy4, evTy5, s32, n32, hc']
end Rp
end Ab
