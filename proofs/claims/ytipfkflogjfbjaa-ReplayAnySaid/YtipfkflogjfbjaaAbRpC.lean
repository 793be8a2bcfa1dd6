/- A part of the proof of a row by an interpreter that is proved sound; no conditions of its own. -/
import Derived.Test.YtipfkflogjfbjaaAbRpB
namespace Ab
open Go Go.Proofs Go.IntWalk
set_option maxRecDepth 10000
set_option linter.unusedSimpArgs false
set_option linter.unusedVariables false
namespace Rp
open Pr

def tupC (c : Ca) (n : Int) : A := .tup [.agg [.d (.int .i64 c.s), .d (.int .i64 c.f), .d (.sl 5 (c.ms.map Mk.d))], .d (.int .i64 n)]

def newV (n : Int) : Ca × Int := if 1 ≤ n ∧ n ≤ 40 then (⟨n, 0, []⟩, 0) else (⟨0, 0, []⟩, 104)

theorem New_ev (k : Nat) (hk : 3 ≤ k) (n : Int) : callF Try.prog Hs E1 k 34 [.d (.int .i64 n)] [] = some (tupC (newV n).1 (newV n).2, []) := by
  obtain ⟨k, rfl⟩ : ∃ j, k = j + 1 := ⟨k - 1, by omega⟩
  refine evalE rfl Try.func34 l34 ?_ (Nat.le_of_ble_eq_true rfl)
  have f1 := isSize_ev k (by omega) n
  unfold newV tupC
  by_cases h1 : 1 ≤ n
  · by_cases h2 : n ≤ 40
    · simp only [h1, h2, decide_true, Bool.and_self] at f1
      simp only [s34, n34, ↓evPre, ev0, ev1, ev2, ev3, ev4, ev5, Nat.reduceLT, entE, getE, putE, ↓reduceIte, Nat.reduceEqDiff, argsE, Int.reduceEq, convertA, lenA, foldI, A.cells, A.leaf, List.replicate, viewA, getO, Nat.reduceLeDiff, loadA, cellsAt, cellsTo, faA, indexAddrA, asInt, Int.reduceLE, Int.reduceLT, Int.reduceToNat, eq_self, Nat.reducePow, Int.reducePow, Int.reduceAdd, Int.reduceMul, Int.reduceSub, Int.reduceNeg, keyOk, mapPutA, lookupA, mapOf, sliceA, boundI, elemsOf, appendA, storeA, setRange, indexA, Nat.reduceBEq, Int.cast_ofNat_Int, reduceCtorEq, Nat.reduceAdd, Nat.reduceMul, Nat.reduceSub, evTy0, evTy1, evTy2, evTy3, evTy4, evTy5, h1, h2, callR_data f1 rfl rfl]
    · simp only [h1, h2, decide_true, decide_false, Bool.and_false] at f1
      simp only [s34, n34, ↓evPre, ev0, ev1, ev2, ev3, ev4, ev5, Nat.reduceLT, entE, getE, putE, ↓reduceIte, Nat.reduceEqDiff, argsE, Int.reduceEq, convertA, lenA, foldI, A.cells, A.leaf, List.replicate, viewA, getO, Nat.reduceLeDiff, loadA, cellsAt, cellsTo, faA, indexAddrA, asInt, Int.reduceLE, Int.reduceLT, Int.reduceToNat, eq_self, Nat.reducePow, Int.reducePow, Int.reduceAdd, Int.reduceMul, Int.reduceSub, Int.reduceNeg, keyOk, mapPutA, lookupA, mapOf, sliceA, boundI, elemsOf, appendA, storeA, setRange, indexA, Nat.reduceBEq, Int.cast_ofNat_Int, reduceCtorEq, Nat.reduceAdd, Nat.reduceMul, Nat.reduceSub, evTy0, evTy1, evTy2, evTy3, evTy4, evTy5, h1, h2, callR_data f1 rfl rfl]
  · simp only [h1, decide_false, Bool.false_and] at f1
    simp only [s34, n34, ↓evPre, ev0, ev1, ev2, ev3, ev4, ev5, Nat.reduceLT, entE, getE, putE, ↓reduceIte, Nat.reduceEqDiff, argsE, Int.reduceEq, convertA, lenA, foldI, A.cells, A.leaf, List.replicate, viewA, getO, Nat.reduceLeDiff, loadA, cellsAt, cellsTo, faA, indexAddrA, asInt, Int.reduceLE, Int.reduceLT, Int.reduceToNat, eq_self, Nat.reducePow, Int.reducePow, Int.reduceAdd, Int.reduceMul, Int.reduceSub, Int.reduceNeg, keyOk, mapPutA, lookupA, mapOf, sliceA, boundI, elemsOf, appendA, storeA, setRange, indexA, Nat.reduceBEq, Int.cast_ofNat_Int, reduceCtorEq, Nat.reduceAdd, Nat.reduceMul, Nat.reduceSub, evTy0, evTy1, evTy2, evTy3, evTy4, evTy5, h1, callR_data f1 rfl rfl]

theorem refNew_ev (k : Nat) (hk : 3 ≤ k) (n : Int) : callF Try.prog Hs E1 k 35 [.d (.int .i64 n)] [] = some (tupC (newV n).1 (newV n).2, []) := by
  obtain ⟨k, rfl⟩ : ∃ j, k = j + 1 := ⟨k - 1, by omega⟩
  refine evalE rfl Try.func35 l35 ?_ (Nat.le_of_ble_eq_true rfl)
  unfold newV tupC
  by_cases h1 : n < 1
  · have h1' : ¬ 1 ≤ n := by omega
    simp only [s35, n35, ↓evPre, ev0, ev1, ev2, ev3, ev4, ev5, Nat.reduceLT, entE, getE, putE, ↓reduceIte, Nat.reduceEqDiff, argsE, Int.reduceEq, convertA, lenA, foldI, A.cells, A.leaf, List.replicate, viewA, getO, Nat.reduceLeDiff, loadA, cellsAt, cellsTo, faA, indexAddrA, asInt, Int.reduceLE, Int.reduceLT, Int.reduceToNat, eq_self, Nat.reducePow, Int.reducePow, Int.reduceAdd, Int.reduceMul, Int.reduceSub, Int.reduceNeg, keyOk, mapPutA, lookupA, mapOf, sliceA, boundI, elemsOf, appendA, storeA, setRange, indexA, Nat.reduceBEq, Int.cast_ofNat_Int, reduceCtorEq, Nat.reduceAdd, Nat.reduceMul, Nat.reduceSub, evTy0, evTy1, evTy2, evTy3, evTy4, evTy5, h1, h1']
  · have h1' : 1 ≤ n := by omega
    by_cases h2 : 40 < n
    · have h2' : ¬ n ≤ 40 := by omega
      simp only [s35, n35, ↓evPre, ev0, ev1, ev2, ev3, ev4, ev5, Nat.reduceLT, entE, getE, putE, ↓reduceIte, Nat.reduceEqDiff, argsE, Int.reduceEq, convertA, lenA, foldI, A.cells, A.leaf, List.replicate, viewA, getO, Nat.reduceLeDiff, loadA, cellsAt, cellsTo, faA, indexAddrA, asInt, Int.reduceLE, Int.reduceLT, Int.reduceToNat, eq_self, Nat.reducePow, Int.reducePow, Int.reduceAdd, Int.reduceMul, Int.reduceSub, Int.reduceNeg, keyOk, mapPutA, lookupA, mapOf, sliceA, boundI, elemsOf, appendA, storeA, setRange, indexA, Nat.reduceBEq, Int.cast_ofNat_Int, reduceCtorEq, Nat.reduceAdd, Nat.reduceMul, Nat.reduceSub, evTy0, evTy1, evTy2, evTy3, evTy4, evTy5, h1, h1', h2, h2']
    · have h2' : n ≤ 40 := by omega
      simp only [s35, n35, ↓evPre, ev0, ev1, ev2, ev3, ev4, ev5, Nat.reduceLT, entE, getE, putE, ↓reduceIte, Nat.reduceEqDiff, argsE, Int.reduceEq, convertA, lenA, foldI, A.cells, A.leaf, List.replicate, viewA, getO, Nat.reduceLeDiff, loadA, cellsAt, cellsTo, faA, indexAddrA, asInt, Int.reduceLE, Int.reduceLT, Int.reduceToNat, eq_self, Nat.reducePow, Int.reducePow, Int.reduceAdd, Int.reduceMul, Int.reduceSub, Int.reduceNeg, keyOk, mapPutA, lookupA, mapOf, sliceA, boundI, elemsOf, appendA, storeA, setRange, indexA, Nat.reduceBEq, Int.cast_ofNat_Int, reduceCtorEq, Nat.reduceAdd, Nat.reduceMul, Nat.reduceSub, evTy0, evTy1, evTy2, evTy3, evTy4, evTy5, h1, h1', h2, h2']

def keep (F : Int) (ms : List Mk) : List Mk := ms.filter fun x => decide (F ≤ x.t)
def floorV (f now skew : Int) : Int := if now - skew > f then now - skew else f
def addV (c : Ca) (m : Mk) (now skew : Int) : Ca × Int :=
  if checkV c = 0 then
    (if validB m.c then
      (if tickB m.k then
        (if nearB m.t now skew then
          (if m.t < c.f then (⟨0, 0, []⟩, 37)
          else if hasB c.ms m then (⟨0, 0, []⟩, 34)
          else if ((keep (floorV c.f now skew) c.ms).length : Int) = c.s then (⟨0, 0, []⟩, 82)
          else (⟨c.s, floorV c.f now skew, keep (floorV c.f now skew) c.ms ++ [m]⟩, 0))
        else (⟨0, 0, []⟩, 37))
      else (⟨0, 0, []⟩, 104))
    else (⟨0, 0, []⟩, 103))
  else (⟨0, 0, []⟩, 108)

theorem check_ok {c : Ca} (h : checkV c = 0) : 1 ≤ c.s ∧ c.s ≤ 40 ∧ 0 ≤ c.f ∧ c.f ≤ 4294967295 ∧ (c.ms.length : Int) ≤ c.s := by
  unfold checkV at h
  split at h
  case isFalse => omega
  split at h <;> omega

theorem map_snoc (acc : List Mk) (b : Mk) : List.map Mk.d acc ++ [[.str b.n, .str b.i, .str b.r, .int .i64 b.t, .int .i64 b.k]] = List.map Mk.d (acc ++ [b]) := by
  rw [List.map_append]; rfl

theorem take_whole (l : List Mk) : List.take l.length (List.map Mk.d l) = List.map Mk.d l := by
  rw [← List.map_take, List.take_length]

theorem keep_cons (F : Int) (b : Mk) (l : List Mk) : keep F (b :: l) = if F ≤ b.t then b :: keep F l else keep F l := by
  unfold keep
  rw [List.filter_cons]
  simp only [decide_eq_true_eq]

theorem keep_length (F : Int) (l : List Mk) : (keep F l).length ≤ l.length := List.length_filter_le _ _

theorem Add_loop (k : Nat) (s F : Int) (m : Mk) (ms : List Mk) (hl : ms.length ≤ 100) (K : X → Env → Store → Res) (r : Res) :
    ∀ (j : Nat) (z : Int) (acc : List Mk) (e : Env) (o : Store), (∀ K, headE 92 0 (some ([5, 8, 10, 60, 61, 62], 0)) e o K = K (.cons 5 (.bp 0 0) (.cons 8 (.bp 1 0) (.cons 10 (.bp 2 0) (.cons 60 (.d (.sl 5 (ms.map Mk.d))) (.cons 61 (.d (.int .i64 ms.length)) (.cons 62 (.d (.int .i64 z)) (.nil .top))))))) [.box [.d (.str m.n), .d (.str m.i), .d (.str m.r), .d (.int .i64 m.t), .d (.int .i64 m.k)], .box [.d (.int .i64 0), .d (.int .i64 0), .nilsl 5], .box [.d (.int .i64 s), .d (.int .i64 F), .arr 3 0 acc.length acc.length], .arr 5 (acc.map Mk.d) false]) →
      0 ≤ z → z ≤ ms.length → ms.length - z < j → acc.length ≤ z →
      (∀ out, out = acc ++ keep F (ms.drop z.toNat) → ∀ e, getE e 5 = .bp 0 0 → getE e 8 = .bp 1 0 → getE e 10 = .bp 2 0 → K (.exit 1) e [.box [.d (.str m.n), .d (.str m.i), .d (.str m.r), .d (.int .i64 m.t), .d (.int .i64 m.k)], .box [.d (.int .i64 0), .d (.int .i64 0), .nilsl 5], .box [.d (.int .i64 s), .d (.int .i64 F), .arr 3 0 out.length out.length], .arr 5 (out.map Mk.d) false] = r) →
      loopC Try.prog Hs (callF Try.prog Hs E1 k) 92 k 0 (some ([5, 8, 10, 60, 61, 62], 0)) s37_0 j e o K ⟨0⟩ = r := by
  generalize hS : s37_0 = S
  intro j
  induction j with
  | zero => intro z acc e o hh hz hz2 hj; omega
  | succ j ih =>
    intro z acc e o hh hz hz2 hj ha hX
    rw [l_succ2 hS, hh]
    by_cases h : z < ms.length
    · have hlt : z.toNat < ms.length := by omega
      obtain ⟨b, hg⟩ : ∃ b, ms[z.toNat]? = some b := ⟨_, List.getElem?_eq_getElem hlt⟩
      have hw := i64_in (z + 1) (by omega)
      have hn : (z + 1).toNat = z.toNat + 1 := by omega
      rw [dropU hg, keep_cons] at hX
      have hg' := mk_get hg
      by_cases q : F ≤ b.t
      · have hb : (acc.length + 1) * 64 ≤ 140737488355328 := by omega
        simp only [s37_0, ↓evPre, ev0, ev1, ev2, ev3, ev4, ev5, Nat.reduceLT, entE, getE, putE, ↓reduceIte, Nat.reduceEqDiff, argsE, Int.reduceEq, convertA, lenA, foldI, A.cells, A.leaf, List.replicate, viewA, getO, Nat.reduceLeDiff, loadA, cellsAt, cellsTo, faA, indexAddrA, asInt, Int.reduceLE, Int.reduceLT, Int.reduceToNat, eq_self, Nat.reducePow, Int.reducePow, Int.reduceAdd, Int.reduceMul, Int.reduceSub, Int.reduceNeg, keyOk, mapPutA, lookupA, mapOf, sliceA, boundI, elemsOf, appendA, storeA, setRange, indexA, Nat.reduceBEq, Int.cast_ofNat_Int, reduceCtorEq, Nat.reduceAdd, Nat.reduceMul, Nat.reduceSub, evTy0, evTy1, evTy2, evTy3, evTy4, evTy5, h, hz, hg', hw, q, List.length_map, hb, map_snoc]
        rw [if_pos q, ← hn, List.append_cons] at hX
        refine ih (z + 1) (acc ++ [b]) _ _ (fun K => by simp only [↓evPre, ev0, ev1, ev2, ev3, ev4, ev5, Nat.reduceLT, entE, getE, putE, ↓reduceIte, Nat.reduceEqDiff, argsE, Int.reduceEq, convertA, lenA, foldI, A.cells, A.leaf, List.replicate, viewA, getO, Nat.reduceLeDiff, loadA, cellsAt, cellsTo, faA, indexAddrA, asInt, Int.reduceLE, Int.reduceLT, Int.reduceToNat, eq_self, Nat.reducePow, Int.reducePow, Int.reduceAdd, Int.reduceMul, Int.reduceSub, Int.reduceNeg, keyOk, mapPutA, lookupA, mapOf, sliceA, boundI, elemsOf, appendA, storeA, setRange, indexA, Nat.reduceBEq, Int.cast_ofNat_Int, reduceCtorEq, Nat.reduceAdd, Nat.reduceMul, Nat.reduceSub, evTy0, evTy1, evTy2, evTy3, evTy4, evTy5, List.length_append]) (by omega) (by omega) (by omega) (by simp; omega) hX
      · simp only [s37_0, ↓evPre, ev0, ev1, ev2, ev3, ev4, ev5, Nat.reduceLT, entE, getE, putE, ↓reduceIte, Nat.reduceEqDiff, argsE, Int.reduceEq, convertA, lenA, foldI, A.cells, A.leaf, List.replicate, viewA, getO, Nat.reduceLeDiff, loadA, cellsAt, cellsTo, faA, indexAddrA, asInt, Int.reduceLE, Int.reduceLT, Int.reduceToNat, eq_self, Nat.reducePow, Int.reducePow, Int.reduceAdd, Int.reduceMul, Int.reduceSub, Int.reduceNeg, keyOk, mapPutA, lookupA, mapOf, sliceA, boundI, elemsOf, appendA, storeA, setRange, indexA, Nat.reduceBEq, Int.cast_ofNat_Int, reduceCtorEq, Nat.reduceAdd, Nat.reduceMul, Nat.reduceSub, evTy0, evTy1, evTy2, evTy3, evTy4, evTy5, h, hz, hg', hw, q, List.length_map]
        rw [if_neg q, ← hn] at hX
        refine ih (z + 1) acc _ _ (fun K => by simp only [↓evPre, ev0, ev1, ev2, ev3, ev4, ev5, Nat.reduceLT, entE, getE, putE, ↓reduceIte, Nat.reduceEqDiff, argsE, Int.reduceEq, convertA, lenA, foldI, A.cells, A.leaf, List.replicate, viewA, getO, Nat.reduceLeDiff, loadA, cellsAt, cellsTo, faA, indexAddrA, asInt, Int.reduceLE, Int.reduceLT, Int.reduceToNat, eq_self, Nat.reducePow, Int.reducePow, Int.reduceAdd, Int.reduceMul, Int.reduceSub, Int.reduceNeg, keyOk, mapPutA, lookupA, mapOf, sliceA, boundI, elemsOf, appendA, storeA, setRange, indexA, Nat.reduceBEq, Int.cast_ofNat_Int, reduceCtorEq, Nat.reduceAdd, Nat.reduceMul, Nat.reduceSub, evTy0, evTy1, evTy2, evTy3, evTy4, evTy5]) (by omega) (by omega) (by omega) (by omega) hX
    · have hd : ms.drop z.toNat = [] := List.drop_eq_nil_of_le (by omega)
      rw [hd] at hX
      simp only [s37_0, ↓evPre, ev0, ev1, ev2, ev3, ev4, ev5, Nat.reduceLT, entE, getE, putE, ↓reduceIte, Nat.reduceEqDiff, argsE, Int.reduceEq, convertA, lenA, foldI, A.cells, A.leaf, List.replicate, viewA, getO, Nat.reduceLeDiff, loadA, cellsAt, cellsTo, faA, indexAddrA, asInt, Int.reduceLE, Int.reduceLT, Int.reduceToNat, eq_self, Nat.reducePow, Int.reducePow, Int.reduceAdd, Int.reduceMul, Int.reduceSub, Int.reduceNeg, keyOk, mapPutA, lookupA, mapOf, sliceA, boundI, elemsOf, appendA, storeA, setRange, indexA, Nat.reduceBEq, Int.cast_ofNat_Int, reduceCtorEq, Nat.reduceAdd, Nat.reduceMul, Nat.reduceSub, evTy0, evTy1, evTy2, evTy3, evTy4, evTy5, h, List.length_map]
      exact hX acc (List.append_nil _).symm _ rfl rfl rfl

theorem refAdd_loop (k : Nat) (s F : Int) (c : Ca) (m : Mk) (hl : c.ms.length ≤ 100) (K : X → Env → Store → Res) (r : Res) :
    ∀ (j : Nat) (z : Int) (acc : List Mk) (e : Env) (o : Store), (∀ K, headE 97 0 (some ([4, 5, 8, 10, 11], 0)) e o K = K (.cons 4 (.bp 0 0) (.cons 5 (.bp 1 0) (.cons 8 (.bp 2 0) (.cons 10 (.bp 3 0) (.cons 11 (.d (.int .i64 z)) (.nil .top)))))) [.box [.d (.int .i64 c.s), .d (.int .i64 c.f), .d (.sl 5 (c.ms.map Mk.d))], .box [.d (.str m.n), .d (.str m.i), .d (.str m.r), .d (.int .i64 m.t), .d (.int .i64 m.k)], .box [.d (.int .i64 0), .d (.int .i64 0), .nilsl 5], .box [.d (.int .i64 s), .d (.int .i64 F), .arr 4 0 acc.length acc.length], .arr 5 (acc.map Mk.d) false]) →
      0 ≤ z → z ≤ c.ms.length → c.ms.length - z < j → acc.length ≤ z →
      (∀ out, out = acc ++ keep F (c.ms.drop z.toNat) → ∀ e, getE e 4 = .bp 0 0 → getE e 5 = .bp 1 0 → getE e 8 = .bp 2 0 → getE e 10 = .bp 3 0 → K (.exit 0) e [.box [.d (.int .i64 c.s), .d (.int .i64 c.f), .d (.sl 5 (c.ms.map Mk.d))], .box [.d (.str m.n), .d (.str m.i), .d (.str m.r), .d (.int .i64 m.t), .d (.int .i64 m.k)], .box [.d (.int .i64 0), .d (.int .i64 0), .nilsl 5], .box [.d (.int .i64 s), .d (.int .i64 F), .arr 4 0 out.length out.length], .arr 5 (out.map Mk.d) false] = r) →
      loopC Try.prog Hs (callF Try.prog Hs E1 k) 97 k 0 (some ([4, 5, 8, 10, 11], 0)) s38_0 j e o K ⟨0⟩ = r := by
  generalize hS : s38_0 = S
  intro j
  induction j with
  | zero => intro z acc e o hh hz hz2 hj; omega
  | succ j ih =>
    intro z acc e o hh hz hz2 hj ha hX
    rw [l_succ2 hS, hh]
    by_cases h : z < c.ms.length
    · have hlt : z.toNat < c.ms.length := by omega
      obtain ⟨b, hg⟩ : ∃ b, c.ms[z.toNat]? = some b := ⟨_, List.getElem?_eq_getElem hlt⟩
      have hw := i64_in (z + 1) (by omega)
      have hn : (z + 1).toNat = z.toNat + 1 := by omega
      rw [dropU hg, keep_cons] at hX
      have hg' := mk_get hg
      by_cases q : F ≤ b.t
      · have hb : (acc.length + 1) * 64 ≤ 140737488355328 := by omega
        simp only [s38_0, ↓evPre, ev0, ev1, ev2, ev3, ev4, ev5, Nat.reduceLT, entE, getE, putE, ↓reduceIte, Nat.reduceEqDiff, argsE, Int.reduceEq, convertA, lenA, foldI, A.cells, A.leaf, List.replicate, viewA, getO, Nat.reduceLeDiff, loadA, cellsAt, cellsTo, faA, indexAddrA, asInt, Int.reduceLE, Int.reduceLT, Int.reduceToNat, eq_self, Nat.reducePow, Int.reducePow, Int.reduceAdd, Int.reduceMul, Int.reduceSub, Int.reduceNeg, keyOk, mapPutA, lookupA, mapOf, sliceA, boundI, elemsOf, appendA, storeA, setRange, indexA, Nat.reduceBEq, Int.cast_ofNat_Int, reduceCtorEq, Nat.reduceAdd, Nat.reduceMul, Nat.reduceSub, evTy0, evTy1, evTy2, evTy3, evTy4, evTy5, h, hz, hg', hw, q, List.length_map, hb, map_snoc]
        rw [if_pos q, ← hn, List.append_cons] at hX
        refine ih (z + 1) (acc ++ [b]) _ _ (fun K => by simp only [↓evPre, ev0, ev1, ev2, ev3, ev4, ev5, Nat.reduceLT, entE, getE, putE, ↓reduceIte, Nat.reduceEqDiff, argsE, Int.reduceEq, convertA, lenA, foldI, A.cells, A.leaf, List.replicate, viewA, getO, Nat.reduceLeDiff, loadA, cellsAt, cellsTo, faA, indexAddrA, asInt, Int.reduceLE, Int.reduceLT, Int.reduceToNat, eq_self, Nat.reducePow, Int.reducePow, Int.reduceAdd, Int.reduceMul, Int.reduceSub, Int.reduceNeg, keyOk, mapPutA, lookupA, mapOf, sliceA, boundI, elemsOf, appendA, storeA, setRange, indexA, Nat.reduceBEq, Int.cast_ofNat_Int, reduceCtorEq, Nat.reduceAdd, Nat.reduceMul, Nat.reduceSub, evTy0, evTy1, evTy2, evTy3, evTy4, evTy5, List.length_append]) (by omega) (by omega) (by omega) (by simp; omega) hX
      · simp only [s38_0, ↓evPre, ev0, ev1, ev2, ev3, ev4, ev5, Nat.reduceLT, entE, getE, putE, ↓reduceIte, Nat.reduceEqDiff, argsE, Int.reduceEq, convertA, lenA, foldI, A.cells, A.leaf, List.replicate, viewA, getO, Nat.reduceLeDiff, loadA, cellsAt, cellsTo, faA, indexAddrA, asInt, Int.reduceLE, Int.reduceLT, Int.reduceToNat, eq_self, Nat.reducePow, Int.reducePow, Int.reduceAdd, Int.reduceMul, Int.reduceSub, Int.reduceNeg, keyOk, mapPutA, lookupA, mapOf, sliceA, boundI, elemsOf, appendA, storeA, setRange, indexA, Nat.reduceBEq, Int.cast_ofNat_Int, reduceCtorEq, Nat.reduceAdd, Nat.reduceMul, Nat.reduceSub, evTy0, evTy1, evTy2, evTy3, evTy4, evTy5, h, hz, hg', hw, q, List.length_map]
        rw [if_neg q, ← hn] at hX
        refine ih (z + 1) acc _ _ (fun K => by simp only [↓evPre, ev0, ev1, ev2, ev3, ev4, ev5, Nat.reduceLT, entE, getE, putE, ↓reduceIte, Nat.reduceEqDiff, argsE, Int.reduceEq, convertA, lenA, foldI, A.cells, A.leaf, List.replicate, viewA, getO, Nat.reduceLeDiff, loadA, cellsAt, cellsTo, faA, indexAddrA, asInt, Int.reduceLE, Int.reduceLT, Int.reduceToNat, eq_self, Nat.reducePow, Int.reducePow, Int.reduceAdd, Int.reduceMul, Int.reduceSub, Int.reduceNeg, keyOk, mapPutA, lookupA, mapOf, sliceA, boundI, elemsOf, appendA, storeA, setRange, indexA, Nat.reduceBEq, Int.cast_ofNat_Int, reduceCtorEq, Nat.reduceAdd, Nat.reduceMul, Nat.reduceSub, evTy0, evTy1, evTy2, evTy3, evTy4, evTy5]) (by omega) (by omega) (by omega) (by omega) hX
    · have hd : c.ms.drop z.toNat = [] := List.drop_eq_nil_of_le (by omega)
      rw [hd] at hX
      simp only [s38_0, ↓evPre, ev0, ev1, ev2, ev3, ev4, ev5, Nat.reduceLT, entE, getE, putE, ↓reduceIte, Nat.reduceEqDiff, argsE, Int.reduceEq, convertA, lenA, foldI, A.cells, A.leaf, List.replicate, viewA, getO, Nat.reduceLeDiff, loadA, cellsAt, cellsTo, faA, indexAddrA, asInt, Int.reduceLE, Int.reduceLT, Int.reduceToNat, eq_self, Nat.reducePow, Int.reducePow, Int.reduceAdd, Int.reduceMul, Int.reduceSub, Int.reduceNeg, keyOk, mapPutA, lookupA, mapOf, sliceA, boundI, elemsOf, appendA, storeA, setRange, indexA, Nat.reduceBEq, Int.cast_ofNat_Int, reduceCtorEq, Nat.reduceAdd, Nat.reduceMul, Nat.reduceSub, evTy0, evTy1, evTy2, evTy3, evTy4, evTy5, h, List.length_map]
      exact hX acc (List.append_nil _).symm _ rfl rfl rfl rfl

theorem Add_ev (k : Nat) (hk : 320 ≤ k) (c : Ca) (hc : c.ok) (m : Mk) (hm : m.c.ok 100) (now skew : Int) :
    callF Try.prog Hs E1 k 37 [.agg [.d (.int .i64 c.s), .d (.int .i64 c.f), .d (.sl 5 (c.ms.map Mk.d))], .agg [.d (.str m.n), .d (.str m.i), .d (.str m.r), .d (.int .i64 m.t), .d (.int .i64 m.k)], .d (.int .i64 now), .d (.int .i64 skew)] [] = some (tupC (addV c m now skew).1 (addV c m now skew).2, []) := by
  obtain ⟨k, rfl⟩ : ∃ j, k = j + 1 := ⟨k - 1, by omega⟩
  refine evalE rfl Try.func37 l37 ?_ (Nat.le_of_ble_eq_true rfl)
  have f1 := Check_ev k (by omega) c hc
  have f2 := Valid_ev k 100 m.c (by omega) hm (by omega)
  have f3 : callF Try.prog Hs E1 k 74 [.d (.int .i64 m.k)] [] = some (.d (.bool (tickB m.k)), []) := isTick_ev k (by omega) m.k
  have f4 := Near_ev k (by omega) m.t now skew
  have f5 := Has_ev k c.s c.f c.ms m (by have := hc.1; omega) (by have := hc.1; omega)
  simp only [Mk.c] at f2
  by_cases q1 : checkV c = 0
  · have b1 := check_ok q1
    cases q2 : validB m.c
    · have q2' := q2
      simp only [Mk.c] at q2
      rw [q2] at f2
      simp only [s37, n37, ↓evPre, ev0, ev1, ev2, ev3, ev4, ev5, Nat.reduceLT, entE, getE, putE, ↓reduceIte, Nat.reduceEqDiff, argsE, Int.reduceEq, convertA, lenA, foldI, A.cells, A.leaf, List.replicate, viewA, getO, Nat.reduceLeDiff, loadA, cellsAt, cellsTo, faA, indexAddrA, asInt, Int.reduceLE, Int.reduceLT, Int.reduceToNat, eq_self, Nat.reducePow, Int.reducePow, Int.reduceAdd, Int.reduceMul, Int.reduceSub, Int.reduceNeg, keyOk, mapPutA, lookupA, mapOf, sliceA, boundI, elemsOf, appendA, storeA, setRange, indexA, Nat.reduceBEq, Int.cast_ofNat_Int, reduceCtorEq, Nat.reduceAdd, Nat.reduceMul, Nat.reduceSub, evTy0, evTy1, evTy2, evTy3, evTy4, evTy5, callR_data f1 rfl rfl, q1, callR_data f2 rfl rfl, tupC, addV, q2']
    · have q2' := q2
      simp only [Mk.c] at q2
      rw [q2] at f2
      cases q3 : tickB m.k
      · simp only [s37, n37, ↓evPre, ev0, ev1, ev2, ev3, ev4, ev5, Nat.reduceLT, entE, getE, putE, ↓reduceIte, Nat.reduceEqDiff, argsE, Int.reduceEq, convertA, lenA, foldI, A.cells, A.leaf, List.replicate, viewA, getO, Nat.reduceLeDiff, loadA, cellsAt, cellsTo, faA, indexAddrA, asInt, Int.reduceLE, Int.reduceLT, Int.reduceToNat, eq_self, Nat.reducePow, Int.reducePow, Int.reduceAdd, Int.reduceMul, Int.reduceSub, Int.reduceNeg, keyOk, mapPutA, lookupA, mapOf, sliceA, boundI, elemsOf, appendA, storeA, setRange, indexA, Nat.reduceBEq, Int.cast_ofNat_Int, reduceCtorEq, Nat.reduceAdd, Nat.reduceMul, Nat.reduceSub, evTy0, evTy1, evTy2, evTy3, evTy4, evTy5, callR_data f1 rfl rfl, q1, callR_data f2 rfl rfl, callR_data f3 rfl rfl, tupC, addV, q2', q3]
      · cases q4 : nearB m.t now skew
        · simp only [s37, n37, ↓evPre, ev0, ev1, ev2, ev3, ev4, ev5, Nat.reduceLT, entE, getE, putE, ↓reduceIte, Nat.reduceEqDiff, argsE, Int.reduceEq, convertA, lenA, foldI, A.cells, A.leaf, List.replicate, viewA, getO, Nat.reduceLeDiff, loadA, cellsAt, cellsTo, faA, indexAddrA, asInt, Int.reduceLE, Int.reduceLT, Int.reduceToNat, eq_self, Nat.reducePow, Int.reducePow, Int.reduceAdd, Int.reduceMul, Int.reduceSub, Int.reduceNeg, keyOk, mapPutA, lookupA, mapOf, sliceA, boundI, elemsOf, appendA, storeA, setRange, indexA, Nat.reduceBEq, Int.cast_ofNat_Int, reduceCtorEq, Nat.reduceAdd, Nat.reduceMul, Nat.reduceSub, evTy0, evTy1, evTy2, evTy3, evTy4, evTy5, callR_data f1 rfl rfl, q1, callR_data f2 rfl rfl, callR_data f3 rfl rfl, callR_data f4 rfl rfl, tupC, addV, q2', q3, q4]
        · by_cases q5 : m.t < c.f
          · simp only [s37, n37, ↓evPre, ev0, ev1, ev2, ev3, ev4, ev5, Nat.reduceLT, entE, getE, putE, ↓reduceIte, Nat.reduceEqDiff, argsE, Int.reduceEq, convertA, lenA, foldI, A.cells, A.leaf, List.replicate, viewA, getO, Nat.reduceLeDiff, loadA, cellsAt, cellsTo, faA, indexAddrA, asInt, Int.reduceLE, Int.reduceLT, Int.reduceToNat, eq_self, Nat.reducePow, Int.reducePow, Int.reduceAdd, Int.reduceMul, Int.reduceSub, Int.reduceNeg, keyOk, mapPutA, lookupA, mapOf, sliceA, boundI, elemsOf, appendA, storeA, setRange, indexA, Nat.reduceBEq, Int.cast_ofNat_Int, reduceCtorEq, Nat.reduceAdd, Nat.reduceMul, Nat.reduceSub, evTy0, evTy1, evTy2, evTy3, evTy4, evTy5, callR_data f1 rfl rfl, q1, callR_data f2 rfl rfl, callR_data f3 rfl rfl, callR_data f4 rfl rfl, tupC, addV, q2', q3, q4, q5]
          · cases q6 : hasB c.ms m
            · have w : IntKind.i64.wrap (now - skew) = now - skew := by
                simp only [nearB, Bool.and_eq_true, timeB_iff] at q4
                exact i64_in (now - skew) (by omega)
              by_cases q7 : now - skew > c.f
              · have hF : floorV c.f now skew = now - skew := if_pos q7
                simp only [s37, n37, ↓evPre, ev0, ev1, ev2, ev3, ev4, ev5, Nat.reduceLT, entE, getE, putE, ↓reduceIte, Nat.reduceEqDiff, argsE, Int.reduceEq, convertA, lenA, foldI, A.cells, A.leaf, List.replicate, viewA, getO, Nat.reduceLeDiff, loadA, cellsAt, cellsTo, faA, indexAddrA, asInt, Int.reduceLE, Int.reduceLT, Int.reduceToNat, eq_self, Nat.reducePow, Int.reducePow, Int.reduceAdd, Int.reduceMul, Int.reduceSub, Int.reduceNeg, keyOk, mapPutA, lookupA, mapOf, sliceA, boundI, elemsOf, appendA, storeA, setRange, indexA, Nat.reduceBEq, Int.cast_ofNat_Int, reduceCtorEq, Nat.reduceAdd, Nat.reduceMul, Nat.reduceSub, evTy0, evTy1, evTy2, evTy3, evTy4, evTy5, callR_data f1 rfl rfl, q1, callR_data f2 rfl rfl, callR_data f3 rfl rfl, callR_data f4 rfl rfl, callR_data f5 rfl rfl, q2', q3, q4, q5, q6, w, q7, List.length_map, addV, hF]
                refine Add_loop k c.s (now - skew) m c.ms hc.1 _ _ k 0 [] _ _ (fun K => by simp only [↓evPre, ev0, ev1, ev2, ev3, ev4, ev5, Nat.reduceLT, entE, getE, putE, ↓reduceIte, Nat.reduceEqDiff, argsE, Int.reduceEq, convertA, lenA, foldI, A.cells, A.leaf, List.replicate, viewA, getO, Nat.reduceLeDiff, loadA, cellsAt, cellsTo, faA, indexAddrA, asInt, Int.reduceLE, Int.reduceLT, Int.reduceToNat, eq_self, Nat.reducePow, Int.reducePow, Int.reduceAdd, Int.reduceMul, Int.reduceSub, Int.reduceNeg, keyOk, mapPutA, lookupA, mapOf, sliceA, boundI, elemsOf, appendA, storeA, setRange, indexA, Nat.reduceBEq, Int.cast_ofNat_Int, reduceCtorEq, Nat.reduceAdd, Nat.reduceMul, Nat.reduceSub, evTy0, evTy1, evTy2, evTy3, evTy4, evTy5, List.map_nil, List.length_nil]) (by omega) (by omega) (by omega) (by simp) (fun out ho e g5 g8 g10 => ?_)
                have ho' : out = keep (now - skew) c.ms := ho
                have hol := keep_length (now - skew) c.ms
                rw [← ho'] at hol ⊢
                have hb : (out.length + 1) * 64 ≤ 140737488355328 := by have := hc.1; omega
                by_cases q8 : (out.length : Int) = c.s
                · simp only [s37, n37, ↓evPre, ev0, ev1, ev2, ev3, ev4, ev5, Nat.reduceLT, entE, getE, putE, ↓reduceIte, Nat.reduceEqDiff, argsE, Int.reduceEq, convertA, lenA, foldI, A.cells, A.leaf, List.replicate, viewA, getO, Nat.reduceLeDiff, loadA, cellsAt, cellsTo, faA, indexAddrA, asInt, Int.reduceLE, Int.reduceLT, Int.reduceToNat, eq_self, Nat.reducePow, Int.reducePow, Int.reduceAdd, Int.reduceMul, Int.reduceSub, Int.reduceNeg, keyOk, mapPutA, lookupA, mapOf, sliceA, boundI, elemsOf, appendA, storeA, setRange, indexA, Nat.reduceBEq, Int.cast_ofNat_Int, reduceCtorEq, Nat.reduceAdd, Nat.reduceMul, Nat.reduceSub, evTy0, evTy1, evTy2, evTy3, evTy4, evTy5, g5, g8, g10, q8, List.length_map, tupC]
                · simp only [s37, n37, ↓evPre, ev0, ev1, ev2, ev3, ev4, ev5, Nat.reduceLT, entE, getE, putE, ↓reduceIte, Nat.reduceEqDiff, argsE, Int.reduceEq, convertA, lenA, foldI, A.cells, A.leaf, List.replicate, viewA, getO, Nat.reduceLeDiff, loadA, cellsAt, cellsTo, faA, indexAddrA, asInt, Int.reduceLE, Int.reduceLT, Int.reduceToNat, eq_self, Nat.reducePow, Int.reducePow, Int.reduceAdd, Int.reduceMul, Int.reduceSub, Int.reduceNeg, keyOk, mapPutA, lookupA, mapOf, sliceA, boundI, elemsOf, appendA, storeA, setRange, indexA, Nat.reduceBEq, Int.cast_ofNat_Int, reduceCtorEq, Nat.reduceAdd, Nat.reduceMul, Nat.reduceSub, evTy0, evTy1, evTy2, evTy3, evTy4, evTy5, g5, g8, g10, q8, hb, List.length_map, map_snoc, take_whole, tupC]
              · have hF : floorV c.f now skew = c.f := if_neg q7
                simp only [s37, n37, ↓evPre, ev0, ev1, ev2, ev3, ev4, ev5, Nat.reduceLT, entE, getE, putE, ↓reduceIte, Nat.reduceEqDiff, argsE, Int.reduceEq, convertA, lenA, foldI, A.cells, A.leaf, List.replicate, viewA, getO, Nat.reduceLeDiff, loadA, cellsAt, cellsTo, faA, indexAddrA, asInt, Int.reduceLE, Int.reduceLT, Int.reduceToNat, eq_self, Nat.reducePow, Int.reducePow, Int.reduceAdd, Int.reduceMul, Int.reduceSub, Int.reduceNeg, keyOk, mapPutA, lookupA, mapOf, sliceA, boundI, elemsOf, appendA, storeA, setRange, indexA, Nat.reduceBEq, Int.cast_ofNat_Int, reduceCtorEq, Nat.reduceAdd, Nat.reduceMul, Nat.reduceSub, evTy0, evTy1, evTy2, evTy3, evTy4, evTy5, callR_data f1 rfl rfl, q1, callR_data f2 rfl rfl, callR_data f3 rfl rfl, callR_data f4 rfl rfl, callR_data f5 rfl rfl, q2', q3, q4, q5, q6, w, q7, List.length_map, addV, hF]
                refine Add_loop k c.s (c.f) m c.ms hc.1 _ _ k 0 [] _ _ (fun K => by simp only [↓evPre, ev0, ev1, ev2, ev3, ev4, ev5, Nat.reduceLT, entE, getE, putE, ↓reduceIte, Nat.reduceEqDiff, argsE, Int.reduceEq, convertA, lenA, foldI, A.cells, A.leaf, List.replicate, viewA, getO, Nat.reduceLeDiff, loadA, cellsAt, cellsTo, faA, indexAddrA, asInt, Int.reduceLE, Int.reduceLT, Int.reduceToNat, eq_self, Nat.reducePow, Int.reducePow, Int.reduceAdd, Int.reduceMul, Int.reduceSub, Int.reduceNeg, keyOk, mapPutA, lookupA, mapOf, sliceA, boundI, elemsOf, appendA, storeA, setRange, indexA, Nat.reduceBEq, Int.cast_ofNat_Int, reduceCtorEq, Nat.reduceAdd, Nat.reduceMul, Nat.reduceSub, evTy0, evTy1, evTy2, evTy3, evTy4, evTy5, List.map_nil, List.length_nil]) (by omega) (by omega) (by omega) (by simp) (fun out ho e g5 g8 g10 => ?_)
                have ho' : out = keep (c.f) c.ms := ho
                have hol := keep_length (c.f) c.ms
                rw [← ho'] at hol ⊢
                have hb : (out.length + 1) * 64 ≤ 140737488355328 := by have := hc.1; omega
                by_cases q8 : (out.length : Int) = c.s
                · simp only [s37, n37, ↓evPre, ev0, ev1, ev2, ev3, ev4, ev5, Nat.reduceLT, entE, getE, putE, ↓reduceIte, Nat.reduceEqDiff, argsE, Int.reduceEq, convertA, lenA, foldI, A.cells, A.leaf, List.replicate, viewA, getO, Nat.reduceLeDiff, loadA, cellsAt, cellsTo, faA, indexAddrA, asInt, Int.reduceLE, Int.reduceLT, Int.reduceToNat, eq_self, Nat.reducePow, Int.reducePow, Int.reduceAdd, Int.reduceMul, Int.reduceSub, Int.reduceNeg, keyOk, mapPutA, lookupA, mapOf, sliceA, boundI, elemsOf, appendA, storeA, setRange, indexA, Nat.reduceBEq, Int.cast_ofNat_Int, reduceCtorEq, Nat.reduceAdd, Nat.reduceMul, Nat.reduceSub, evTy0, evTy1, evTy2, evTy3, evTy4, evTy5, g5, g8, g10, q8, List.length_map, tupC]
                · simp only [s37, n37, ↓evPre, ev0, ev1, ev2, ev3, ev4, ev5, Nat.reduceLT, entE, getE, putE, ↓reduceIte, Nat.reduceEqDiff, argsE, Int.reduceEq, convertA, lenA, foldI, A.cells, A.leaf, List.replicate, viewA, getO, Nat.reduceLeDiff, loadA, cellsAt, cellsTo, faA, indexAddrA, asInt, Int.reduceLE, Int.reduceLT, Int.reduceToNat, eq_self, Nat.reducePow, Int.reducePow, Int.reduceAdd, Int.reduceMul, Int.reduceSub, Int.reduceNeg, keyOk, mapPutA, lookupA, mapOf, sliceA, boundI, elemsOf, appendA, storeA, setRange, indexA, Nat.reduceBEq, Int.cast_ofNat_Int, reduceCtorEq, Nat.reduceAdd, Nat.reduceMul, Nat.reduceSub, evTy0, evTy1, evTy2, evTy3, evTy4, evTy5, g5, g8, g10, q8, hb, List.length_map, map_snoc, take_whole, tupC]
            · simp only [s37, n37, ↓evPre, ev0, ev1, ev2, ev3, ev4, ev5, Nat.reduceLT, entE, getE, putE, ↓reduceIte, Nat.reduceEqDiff, argsE, Int.reduceEq, convertA, lenA, foldI, A.cells, A.leaf, List.replicate, viewA, getO, Nat.reduceLeDiff, loadA, cellsAt, cellsTo, faA, indexAddrA, asInt, Int.reduceLE, Int.reduceLT, Int.reduceToNat, eq_self, Nat.reducePow, Int.reducePow, Int.reduceAdd, Int.reduceMul, Int.reduceSub, Int.reduceNeg, keyOk, mapPutA, lookupA, mapOf, sliceA, boundI, elemsOf, appendA, storeA, setRange, indexA, Nat.reduceBEq, Int.cast_ofNat_Int, reduceCtorEq, Nat.reduceAdd, Nat.reduceMul, Nat.reduceSub, evTy0, evTy1, evTy2, evTy3, evTy4, evTy5, callR_data f1 rfl rfl, q1, callR_data f2 rfl rfl, callR_data f3 rfl rfl, callR_data f4 rfl rfl, callR_data f5 rfl rfl, tupC, addV, q2', q3, q4, q5, q6]
  · simp only [s37, n37, ↓evPre, ev0, ev1, ev2, ev3, ev4, ev5, Nat.reduceLT, entE, getE, putE, ↓reduceIte, Nat.reduceEqDiff, argsE, Int.reduceEq, convertA, lenA, foldI, A.cells, A.leaf, List.replicate, viewA, getO, Nat.reduceLeDiff, loadA, cellsAt, cellsTo, faA, indexAddrA, asInt, Int.reduceLE, Int.reduceLT, Int.reduceToNat, eq_self, Nat.reducePow, Int.reducePow, Int.reduceAdd, Int.reduceMul, Int.reduceSub, Int.reduceNeg, keyOk, mapPutA, lookupA, mapOf, sliceA, boundI, elemsOf, appendA, storeA, setRange, indexA, Nat.reduceBEq, Int.cast_ofNat_Int, reduceCtorEq, Nat.reduceAdd, Nat.reduceMul, Nat.reduceSub, evTy0, evTy1, evTy2, evTy3, evTy4, evTy5, callR_data f1 rfl rfl, q1, tupC, addV]

theorem refAdd_ev (k : Nat) (hk : 320 ≤ k) (c : Ca) (hc : c.ok) (m : Mk) (hm : m.c.ok 100) (now skew : Int) :
    callF Try.prog Hs E1 k 38 [.agg [.d (.int .i64 c.s), .d (.int .i64 c.f), .d (.sl 5 (c.ms.map Mk.d))], .agg [.d (.str m.n), .d (.str m.i), .d (.str m.r), .d (.int .i64 m.t), .d (.int .i64 m.k)], .d (.int .i64 now), .d (.int .i64 skew)] [] = some (tupC (addV c m now skew).1 (addV c m now skew).2, []) := by
  obtain ⟨k, rfl⟩ : ∃ j, k = j + 1 := ⟨k - 1, by omega⟩
  refine evalE rfl Try.func38 l38 ?_ (Nat.le_of_ble_eq_true rfl)
  have f1 := refCheck_ev k (by omega) c hc
  have f2 := refValid_ev k 100 m.c (by omega) hm (by omega)
  have f4 := refNear_ev k (by omega) m.t now skew
  have f5 := refHas_ev k c.s c.f c.ms m (by have := hc.1; omega) (by have := hc.1; omega)
  simp only [Mk.c] at f2
  by_cases q1 : checkV c = 0
  · have b1 := check_ok q1
    cases q2 : validB m.c
    · have q2' := q2
      simp only [Mk.c] at q2
      rw [q2] at f2
      simp only [s38, n38, ↓evPre, ev0, ev1, ev2, ev3, ev4, ev5, Nat.reduceLT, entE, getE, putE, ↓reduceIte, Nat.reduceEqDiff, argsE, Int.reduceEq, convertA, lenA, foldI, A.cells, A.leaf, List.replicate, viewA, getO, Nat.reduceLeDiff, loadA, cellsAt, cellsTo, faA, indexAddrA, asInt, Int.reduceLE, Int.reduceLT, Int.reduceToNat, eq_self, Nat.reducePow, Int.reducePow, Int.reduceAdd, Int.reduceMul, Int.reduceSub, Int.reduceNeg, keyOk, mapPutA, lookupA, mapOf, sliceA, boundI, elemsOf, appendA, storeA, setRange, indexA, Nat.reduceBEq, Int.cast_ofNat_Int, reduceCtorEq, Nat.reduceAdd, Nat.reduceMul, Nat.reduceSub, evTy0, evTy1, evTy2, evTy3, evTy4, evTy5, callR_data f1 rfl rfl, q1, callR_data f2 rfl rfl, tupC, addV, q2']
    · have q2' := q2
      simp only [Mk.c] at q2
      rw [q2] at f2
      by_cases q3 : m.k < 0
      · have tk : tickB m.k = false := by simp only [tickB, decide_eq_false (show ¬ 0 ≤ m.k by omega), Bool.false_and]
        simp only [s38, n38, ↓evPre, ev0, ev1, ev2, ev3, ev4, ev5, Nat.reduceLT, entE, getE, putE, ↓reduceIte, Nat.reduceEqDiff, argsE, Int.reduceEq, convertA, lenA, foldI, A.cells, A.leaf, List.replicate, viewA, getO, Nat.reduceLeDiff, loadA, cellsAt, cellsTo, faA, indexAddrA, asInt, Int.reduceLE, Int.reduceLT, Int.reduceToNat, eq_self, Nat.reducePow, Int.reducePow, Int.reduceAdd, Int.reduceMul, Int.reduceSub, Int.reduceNeg, keyOk, mapPutA, lookupA, mapOf, sliceA, boundI, elemsOf, appendA, storeA, setRange, indexA, Nat.reduceBEq, Int.cast_ofNat_Int, reduceCtorEq, Nat.reduceAdd, Nat.reduceMul, Nat.reduceSub, evTy0, evTy1, evTy2, evTy3, evTy4, evTy5, callR_data f1 rfl rfl, q1, callR_data f2 rfl rfl, tupC, addV, q2', q3, tk]
      · by_cases q3' : 199 < m.k
        · have tk : tickB m.k = false := by simp only [tickB, decide_eq_false (show ¬ m.k ≤ 199 by omega), Bool.and_false]
          simp only [s38, n38, ↓evPre, ev0, ev1, ev2, ev3, ev4, ev5, Nat.reduceLT, entE, getE, putE, ↓reduceIte, Nat.reduceEqDiff, argsE, Int.reduceEq, convertA, lenA, foldI, A.cells, A.leaf, List.replicate, viewA, getO, Nat.reduceLeDiff, loadA, cellsAt, cellsTo, faA, indexAddrA, asInt, Int.reduceLE, Int.reduceLT, Int.reduceToNat, eq_self, Nat.reducePow, Int.reducePow, Int.reduceAdd, Int.reduceMul, Int.reduceSub, Int.reduceNeg, keyOk, mapPutA, lookupA, mapOf, sliceA, boundI, elemsOf, appendA, storeA, setRange, indexA, Nat.reduceBEq, Int.cast_ofNat_Int, reduceCtorEq, Nat.reduceAdd, Nat.reduceMul, Nat.reduceSub, evTy0, evTy1, evTy2, evTy3, evTy4, evTy5, callR_data f1 rfl rfl, q1, callR_data f2 rfl rfl, tupC, addV, q2', q3, q3', tk]
        · have tk : tickB m.k = true := by simp only [tickB, decide_eq_true (show m.k ≤ 199 by omega), decide_eq_true (show 0 ≤ m.k by omega), Bool.and_true]
          cases q4 : nearB m.t now skew
          · simp only [s38, n38, ↓evPre, ev0, ev1, ev2, ev3, ev4, ev5, Nat.reduceLT, entE, getE, putE, ↓reduceIte, Nat.reduceEqDiff, argsE, Int.reduceEq, convertA, lenA, foldI, A.cells, A.leaf, List.replicate, viewA, getO, Nat.reduceLeDiff, loadA, cellsAt, cellsTo, faA, indexAddrA, asInt, Int.reduceLE, Int.reduceLT, Int.reduceToNat, eq_self, Nat.reducePow, Int.reducePow, Int.reduceAdd, Int.reduceMul, Int.reduceSub, Int.reduceNeg, keyOk, mapPutA, lookupA, mapOf, sliceA, boundI, elemsOf, appendA, storeA, setRange, indexA, Nat.reduceBEq, Int.cast_ofNat_Int, reduceCtorEq, Nat.reduceAdd, Nat.reduceMul, Nat.reduceSub, evTy0, evTy1, evTy2, evTy3, evTy4, evTy5, callR_data f1 rfl rfl, q1, callR_data f2 rfl rfl, callR_data f4 rfl rfl, tupC, addV, q2', q3, q3', tk, q4]
          · by_cases q5 : m.t < c.f
            · simp only [s38, n38, ↓evPre, ev0, ev1, ev2, ev3, ev4, ev5, Nat.reduceLT, entE, getE, putE, ↓reduceIte, Nat.reduceEqDiff, argsE, Int.reduceEq, convertA, lenA, foldI, A.cells, A.leaf, List.replicate, viewA, getO, Nat.reduceLeDiff, loadA, cellsAt, cellsTo, faA, indexAddrA, asInt, Int.reduceLE, Int.reduceLT, Int.reduceToNat, eq_self, Nat.reducePow, Int.reducePow, Int.reduceAdd, Int.reduceMul, Int.reduceSub, Int.reduceNeg, keyOk, mapPutA, lookupA, mapOf, sliceA, boundI, elemsOf, appendA, storeA, setRange, indexA, Nat.reduceBEq, Int.cast_ofNat_Int, reduceCtorEq, Nat.reduceAdd, Nat.reduceMul, Nat.reduceSub, evTy0, evTy1, evTy2, evTy3, evTy4, evTy5, callR_data f1 rfl rfl, q1, callR_data f2 rfl rfl, callR_data f4 rfl rfl, tupC, addV, q2', q3, q3', tk, q4, q5]
            · cases q6 : hasB c.ms m
              · have w : IntKind.i64.wrap (now - skew) = now - skew := by
                  simp only [nearB, Bool.and_eq_true, timeB_iff] at q4
                  exact i64_in (now - skew) (by omega)
                by_cases q7 : now - skew > c.f
                · have hF : floorV c.f now skew = now - skew := if_pos q7
                  simp only [s38, n38, ↓evPre, ev0, ev1, ev2, ev3, ev4, ev5, Nat.reduceLT, entE, getE, putE, ↓reduceIte, Nat.reduceEqDiff, argsE, Int.reduceEq, convertA, lenA, foldI, A.cells, A.leaf, List.replicate, viewA, getO, Nat.reduceLeDiff, loadA, cellsAt, cellsTo, faA, indexAddrA, asInt, Int.reduceLE, Int.reduceLT, Int.reduceToNat, eq_self, Nat.reducePow, Int.reducePow, Int.reduceAdd, Int.reduceMul, Int.reduceSub, Int.reduceNeg, keyOk, mapPutA, lookupA, mapOf, sliceA, boundI, elemsOf, appendA, storeA, setRange, indexA, Nat.reduceBEq, Int.cast_ofNat_Int, reduceCtorEq, Nat.reduceAdd, Nat.reduceMul, Nat.reduceSub, evTy0, evTy1, evTy2, evTy3, evTy4, evTy5, callR_data f1 rfl rfl, q1, callR_data f2 rfl rfl, callR_data f4 rfl rfl, callR_data f5 rfl rfl, q2', q3, q3', tk, q4, q5, q6, w, q7, List.length_map, addV, hF]
                  refine refAdd_loop k c.s (now - skew) c m hc.1 _ _ k 0 [] _ _ (fun K => by simp only [↓evPre, ev0, ev1, ev2, ev3, ev4, ev5, Nat.reduceLT, entE, getE, putE, ↓reduceIte, Nat.reduceEqDiff, argsE, Int.reduceEq, convertA, lenA, foldI, A.cells, A.leaf, List.replicate, viewA, getO, Nat.reduceLeDiff, loadA, cellsAt, cellsTo, faA, indexAddrA, asInt, Int.reduceLE, Int.reduceLT, Int.reduceToNat, eq_self, Nat.reducePow, Int.reducePow, Int.reduceAdd, Int.reduceMul, Int.reduceSub, Int.reduceNeg, keyOk, mapPutA, lookupA, mapOf, sliceA, boundI, elemsOf, appendA, storeA, setRange, indexA, Nat.reduceBEq, Int.cast_ofNat_Int, reduceCtorEq, Nat.reduceAdd, Nat.reduceMul, Nat.reduceSub, evTy0, evTy1, evTy2, evTy3, evTy4, evTy5, List.map_nil, List.length_nil]) (by omega) (by omega) (by omega) (by simp) (fun out ho e g4 g5 g8 g10 => ?_)
                  have ho' : out = keep (now - skew) c.ms := ho
                  have hol := keep_length (now - skew) c.ms
                  rw [← ho'] at hol ⊢
                  have hb : (out.length + 1) * 64 ≤ 140737488355328 := by have := hc.1; omega
                  by_cases q8 : (out.length : Int) = c.s
                  · simp only [s38, n38, ↓evPre, ev0, ev1, ev2, ev3, ev4, ev5, Nat.reduceLT, entE, getE, putE, ↓reduceIte, Nat.reduceEqDiff, argsE, Int.reduceEq, convertA, lenA, foldI, A.cells, A.leaf, List.replicate, viewA, getO, Nat.reduceLeDiff, loadA, cellsAt, cellsTo, faA, indexAddrA, asInt, Int.reduceLE, Int.reduceLT, Int.reduceToNat, eq_self, Nat.reducePow, Int.reducePow, Int.reduceAdd, Int.reduceMul, Int.reduceSub, Int.reduceNeg, keyOk, mapPutA, lookupA, mapOf, sliceA, boundI, elemsOf, appendA, storeA, setRange, indexA, Nat.reduceBEq, Int.cast_ofNat_Int, reduceCtorEq, Nat.reduceAdd, Nat.reduceMul, Nat.reduceSub, evTy0, evTy1, evTy2, evTy3, evTy4, evTy5, g4, g5, g8, g10, q8, List.length_map, tupC]
                  · simp only [s38, n38, ↓evPre, ev0, ev1, ev2, ev3, ev4, ev5, Nat.reduceLT, entE, getE, putE, ↓reduceIte, Nat.reduceEqDiff, argsE, Int.reduceEq, convertA, lenA, foldI, A.cells, A.leaf, List.replicate, viewA, getO, Nat.reduceLeDiff, loadA, cellsAt, cellsTo, faA, indexAddrA, asInt, Int.reduceLE, Int.reduceLT, Int.reduceToNat, eq_self, Nat.reducePow, Int.reducePow, Int.reduceAdd, Int.reduceMul, Int.reduceSub, Int.reduceNeg, keyOk, mapPutA, lookupA, mapOf, sliceA, boundI, elemsOf, appendA, storeA, setRange, indexA, Nat.reduceBEq, Int.cast_ofNat_Int, reduceCtorEq, Nat.reduceAdd, Nat.reduceMul, Nat.reduceSub, evTy0, evTy1, evTy2, evTy3, evTy4, evTy5, g4, g5, g8, g10, q8, hb, List.length_map, map_snoc, take_whole, tupC]
                · have hF : floorV c.f now skew = c.f := if_neg q7
                  simp only [s38, n38, ↓evPre, ev0, ev1, ev2, ev3, ev4, ev5, Nat.reduceLT, entE, getE, putE, ↓reduceIte, Nat.reduceEqDiff, argsE, Int.reduceEq, convertA, lenA, foldI, A.cells, A.leaf, List.replicate, viewA, getO, Nat.reduceLeDiff, loadA, cellsAt, cellsTo, faA, indexAddrA, asInt, Int.reduceLE, Int.reduceLT, Int.reduceToNat, eq_self, Nat.reducePow, Int.reducePow, Int.reduceAdd, Int.reduceMul, Int.reduceSub, Int.reduceNeg, keyOk, mapPutA, lookupA, mapOf, sliceA, boundI, elemsOf, appendA, storeA, setRange, indexA, Nat.reduceBEq, Int.cast_ofNat_Int, reduceCtorEq, Nat.reduceAdd, Nat.reduceMul, Nat.reduceSub, evTy0, evTy1, evTy2, evTy3, evTy4, evTy5, callR_data f1 rfl rfl, q1, callR_data f2 rfl rfl, callR_data f4 rfl rfl, callR_data f5 rfl rfl, q2', q3, q3', tk, q4, q5, q6, w, q7, List.length_map, addV, hF]
                  refine refAdd_loop k c.s (c.f) c m hc.1 _ _ k 0 [] _ _ (fun K => by simp only [↓evPre, ev0, ev1, ev2, ev3, ev4, ev5, Nat.reduceLT, entE, getE, putE, ↓reduceIte, Nat.reduceEqDiff, argsE, Int.reduceEq, convertA, lenA, foldI, A.cells, A.leaf, List.replicate, viewA, getO, Nat.reduceLeDiff, loadA, cellsAt, cellsTo, faA, indexAddrA, asInt, Int.reduceLE, Int.reduceLT, Int.reduceToNat, eq_self, Nat.reducePow, Int.reducePow, Int.reduceAdd, Int.reduceMul, Int.reduceSub, Int.reduceNeg, keyOk, mapPutA, lookupA, mapOf, sliceA, boundI, elemsOf, appendA, storeA, setRange, indexA, Nat.reduceBEq, Int.cast_ofNat_Int, reduceCtorEq, Nat.reduceAdd, Nat.reduceMul, Nat.reduceSub, evTy0, evTy1, evTy2, evTy3, evTy4, evTy5, List.map_nil, List.length_nil]) (by omega) (by omega) (by omega) (by simp) (fun out ho e g4 g5 g8 g10 => ?_)
                  have ho' : out = keep (c.f) c.ms := ho
                  have hol := keep_length (c.f) c.ms
                  rw [← ho'] at hol ⊢
                  have hb : (out.length + 1) * 64 ≤ 140737488355328 := by have := hc.1; omega
                  by_cases q8 : (out.length : Int) = c.s
                  · simp only [s38, n38, ↓evPre, ev0, ev1, ev2, ev3, ev4, ev5, Nat.reduceLT, entE, getE, putE, ↓reduceIte, Nat.reduceEqDiff, argsE, Int.reduceEq, convertA, lenA, foldI, A.cells, A.leaf, List.replicate, viewA, getO, Nat.reduceLeDiff, loadA, cellsAt, cellsTo, faA, indexAddrA, asInt, Int.reduceLE, Int.reduceLT, Int.reduceToNat, eq_self, Nat.reducePow, Int.reducePow, Int.reduceAdd, Int.reduceMul, Int.reduceSub, Int.reduceNeg, keyOk, mapPutA, lookupA, mapOf, sliceA, boundI, elemsOf, appendA, storeA, setRange, indexA, Nat.reduceBEq, Int.cast_ofNat_Int, reduceCtorEq, Nat.reduceAdd, Nat.reduceMul, Nat.reduceSub, evTy0, evTy1, evTy2, evTy3, evTy4, evTy5, g4, g5, g8, g10, q8, List.length_map, tupC]
                  · simp only [s38, n38, ↓evPre, ev0, ev1, ev2, ev3, ev4, ev5, Nat.reduceLT, entE, getE, putE, ↓reduceIte, Nat.reduceEqDiff, argsE, Int.reduceEq, convertA, lenA, foldI, A.cells, A.leaf, List.replicate, viewA, getO, Nat.reduceLeDiff, loadA, cellsAt, cellsTo, faA, indexAddrA, asInt, Int.reduceLE, Int.reduceLT, Int.reduceToNat, eq_self, Nat.reducePow, Int.reducePow, Int.reduceAdd, Int.reduceMul, Int.reduceSub, Int.reduceNeg, keyOk, mapPutA, lookupA, mapOf, sliceA, boundI, elemsOf, appendA, storeA, setRange, indexA, Nat.reduceBEq, Int.cast_ofNat_Int, reduceCtorEq, Nat.reduceAdd, Nat.reduceMul, Nat.reduceSub, evTy0, evTy1, evTy2, evTy3, evTy4, evTy5, g4, g5, g8, g10, q8, hb, List.length_map, map_snoc, take_whole, tupC]
              · simp only [s38, n38, ↓evPre, ev0, ev1, ev2, ev3, ev4, ev5, Nat.reduceLT, entE, getE, putE, ↓reduceIte, Nat.reduceEqDiff, argsE, Int.reduceEq, convertA, lenA, foldI, A.cells, A.leaf, List.replicate, viewA, getO, Nat.reduceLeDiff, loadA, cellsAt, cellsTo, faA, indexAddrA, asInt, Int.reduceLE, Int.reduceLT, Int.reduceToNat, eq_self, Nat.reducePow, Int.reducePow, Int.reduceAdd, Int.reduceMul, Int.reduceSub, Int.reduceNeg, keyOk, mapPutA, lookupA, mapOf, sliceA, boundI, elemsOf, appendA, storeA, setRange, indexA, Nat.reduceBEq, Int.cast_ofNat_Int, reduceCtorEq, Nat.reduceAdd, Nat.reduceMul, Nat.reduceSub, evTy0, evTy1, evTy2, evTy3, evTy4, evTy5, callR_data f1 rfl rfl, q1, callR_data f2 rfl rfl, callR_data f4 rfl rfl, callR_data f5 rfl rfl, tupC, addV, q2', q3, q3', tk, q4, q5, q6]
  · simp only [s38, n38, ↓evPre, ev0, ev1, ev2, ev3, ev4, ev5, Nat.reduceLT, entE, getE, putE, ↓reduceIte, Nat.reduceEqDiff, argsE, Int.reduceEq, convertA, lenA, foldI, A.cells, A.leaf, List.replicate, viewA, getO, Nat.reduceLeDiff, loadA, cellsAt, cellsTo, faA, indexAddrA, asInt, Int.reduceLE, Int.reduceLT, Int.reduceToNat, eq_self, Nat.reducePow, Int.reducePow, Int.reduceAdd, Int.reduceMul, Int.reduceSub, Int.reduceNeg, keyOk, mapPutA, lookupA, mapOf, sliceA, boundI, elemsOf, appendA, storeA, setRange, indexA, Nat.reduceBEq, Int.cast_ofNat_Int, reduceCtorEq, Nat.reduceAdd, Nat.reduceMul, Nat.reduceSub, evTy0, evTy1, evTy2, evTy3, evTy4, evTy5, callR_data f1 rfl rfl, q1, tupC, addV]
end Rp
end Ab
