/- A part of the proof of a row by an interpreter that is proved sound; no conditions of its own. -/
import Derived.Test.YtipfkflogjfbjaaAbRpE
namespace Ab
open Go Go.Proofs Go.IntWalk
set_option maxRecDepth 10000
set_option linter.unusedSimpArgs false
set_option linter.unusedVariables false
namespace Rp
open Pr Cv

/-- What was added lies in the cache or before its floor. -/
def Inv (c : Ca) (ad : List Mk) : Prop := ∀ x ∈ ad, x ∈ c.ms ∨ x.t < c.f

theorem inv_new {c : Ca} {ad : List Mk} {m : Mk} {now sk : Int} (hi : Inv c ad) (h : (addV c m now sk).2 = 0) :
    (∀ x ∈ ad, eqM x m = false) ∧ c.f ≤ (addV c m now sk).1.f ∧ checkV (addV c m now sk).1 = 0 ∧ hasB (addV c m now sk).1.ms m = true ∧ Inv (addV c m now sk).1 (ad ++ [m]) := by
  obtain ⟨h1, h2, h3, h4, h5, h6, h7, h8⟩ := add_zero h
  have hf := floor_le (f := c.f) (now := now) (skew := sk)
  refine ⟨fun x hx => ?_, ?_, add_check h, ?_, fun x hx => ?_⟩
  · cases q : eqM x m
    · rfl
    · rw [eqM_iff] at q
      subst q
      rcases hi x hx with h9 | h9
      · exact absurd h9 h6
      · omega
  · rw [h8]; exact hf.1
  · rw [h8, hasB_iff]; simp
  · rw [h8]
    rw [List.mem_append, List.mem_singleton] at hx
    rcases hx with hx | rfl
    · rcases hi x hx with h9 | h9
      · by_cases h10 : floorV c.f now sk ≤ x.t
        · exact .inl (List.mem_append.2 (.inl (keep_mem.2 ⟨h9, h10⟩)))
        · exact .inr (by simp only; omega)
      · exact .inr (by simp only; omega)
    · exact .inl (by simp)

theorem Once_in (k : Nat) (sk z : Int) (l : List Us) (c a : Ca) (m : Mk) (ad : List Mk) (hl : ad.length ≤ 60) (hne : ∀ x ∈ ad, eqM x m = false) (K : X → Env → Store → Res) (r : Res) :
    ∀ (j : Nat) (y : Int) (e : Env) (o : Store), (∀ K, headE 125 0 (some ([1, 2, 7, 9, 10, 11, 12, 14], 0)) e o K = K (.cons 1 (.d (.int .u8 sk)) (.cons 2 (.d (.sl 4 (l.map Us.d))) (.cons 7 (.bp 0 0) (.cons 9 (.arr 1 0 ad.length ad.length) (.cons 10 (.d (.int .i64 z)) (.cons 11 (.bp 2 0) (.cons 12 (.bp 3 0) (.cons 14 (.d (.int .i64 y)) (.nil .top)))))))))
        [.box [.d (.int .i64 c.s), .d (.int .i64 c.f), .d (.sl 5 (c.ms.map Mk.d))], .arr 5 (ad.map Mk.d) false, .box [.d (.str m.n), .d (.str m.i), .d (.str m.r), .d (.int .i64 m.t), .d (.int .i64 m.k)], .box [.d (.int .i64 a.s), .d (.int .i64 a.f), .d (.sl 5 (a.ms.map Mk.d))]]) →
      0 ≤ y → y ≤ ad.length → ad.length - y < j →
      (∀ e, getE e 1 = .d (.int .u8 sk) → getE e 2 = .d (.sl 4 (l.map Us.d)) → getE e 7 = .bp 0 0 → getE e 9 = .arr 1 0 ad.length ad.length → getE e 10 = .d (.int .i64 z) → getE e 11 = .bp 2 0 → getE e 12 = .bp 3 0 →
        K (.exit 2) e [.box [.d (.int .i64 c.s), .d (.int .i64 c.f), .d (.sl 5 (c.ms.map Mk.d))], .arr 5 (ad.map Mk.d) false, .box [.d (.str m.n), .d (.str m.i), .d (.str m.r), .d (.int .i64 m.t), .d (.int .i64 m.k)], .box [.d (.int .i64 a.s), .d (.int .i64 a.f), .d (.sl 5 (a.ms.map Mk.d))]] = r) →
      loopC Try.prog Hs (callF Try.prog Hs E1 k) 125 k 0 (some ([1, 2, 7, 9, 10, 11, 12, 14], 0)) s9_0 j e o K ⟨0⟩ = r := by
  generalize hS : s9_0 = S
  intro j
  induction j with
  | zero => intro y e o hh hz hz2 hj; omega
  | succ j ih =>
    intro y e o hh hz hz2 hj hX
    rw [l_succ2 hS, hh]
    by_cases h : y < ad.length
    · have hlt : y.toNat < ad.length := by omega
      obtain ⟨b, hg⟩ : ∃ b, ad[y.toNat]? = some b := ⟨_, List.getElem?_eq_getElem hlt⟩
      have hw := i64_in (y + 1) (by omega)
      have q := hne b (List.mem_of_getElem? hg)
      have hg' := mk_get hg
      simp only [eqM, ba_eq] at q
      simp only [s9_0, ↓evPre, ev0, ev1, ev2, ev3, ev4, ev5, Nat.reduceLT, entE, getE, putE, ↓reduceIte, Nat.reduceEqDiff, argsE, Int.reduceEq, convertA, lenA, foldI, A.cells, A.leaf, List.replicate, viewA, getO, Nat.reduceLeDiff, loadA, cellsAt, cellsTo, faA, indexAddrA, asInt, Int.reduceLE, Int.reduceLT, Int.reduceToNat, eq_self, Nat.reducePow, Int.reducePow, Int.reduceAdd, Int.reduceMul, Int.reduceSub, Int.reduceNeg, keyOk, mapPutA, lookupA, mapOf, sliceA, boundI, elemsOf, appendA, storeA, setRange, indexA, Nat.reduceBEq, Int.cast_ofNat_Int, reduceCtorEq, Nat.reduceAdd, Nat.reduceMul, Nat.reduceSub, evTy0, evTy1, evTy2, evTy3, evTy4, evTy5, h, hz, hlt, hg', hw, q, List.length_map]
      exact ih (y + 1) _ _ (fun K => by simp only [↓evPre, ev0, ev1, ev2, ev3, ev4, ev5, Nat.reduceLT, entE, getE, putE, ↓reduceIte, Nat.reduceEqDiff, argsE, Int.reduceEq, convertA, lenA, foldI, A.cells, A.leaf, List.replicate, viewA, getO, Nat.reduceLeDiff, loadA, cellsAt, cellsTo, faA, indexAddrA, asInt, Int.reduceLE, Int.reduceLT, Int.reduceToNat, eq_self, Nat.reducePow, Int.reducePow, Int.reduceAdd, Int.reduceMul, Int.reduceSub, Int.reduceNeg, keyOk, mapPutA, lookupA, mapOf, sliceA, boundI, elemsOf, appendA, storeA, setRange, indexA, Nat.reduceBEq, Int.cast_ofNat_Int, reduceCtorEq, Nat.reduceAdd, Nat.reduceMul, Nat.reduceSub, evTy0, evTy1, evTy2, evTy3, evTy4, evTy5]) (by omega) (by omega) (by omega) hX
    · simp only [s9_0, ↓evPre, ev0, ev1, ev2, ev3, ev4, ev5, Nat.reduceLT, entE, getE, putE, ↓reduceIte, Nat.reduceEqDiff, argsE, Int.reduceEq, convertA, lenA, foldI, A.cells, A.leaf, List.replicate, viewA, getO, Nat.reduceLeDiff, loadA, cellsAt, cellsTo, faA, indexAddrA, asInt, Int.reduceLE, Int.reduceLT, Int.reduceToNat, eq_self, Nat.reducePow, Int.reducePow, Int.reduceAdd, Int.reduceMul, Int.reduceSub, Int.reduceNeg, keyOk, mapPutA, lookupA, mapOf, sliceA, boundI, elemsOf, appendA, storeA, setRange, indexA, Nat.reduceBEq, Int.cast_ofNat_Int, reduceCtorEq, Nat.reduceAdd, Nat.reduceMul, Nat.reduceSub, evTy0, evTy1, evTy2, evTy3, evTy4, evTy5, h, List.length_map]
      exact hX _ rfl rfl rfl rfl rfl rfl rfl

theorem Once_loop (k : Nat) (hk : 330 ≤ k) (sk : Int) (hsk : 0 ≤ sk ∧ sk ≤ 255) (l : List Us) (hl : l.length ≤ 60) (hu : ∀ u ∈ l, u.ok) (K : X → Env → Store → Res) (r : Res) :
    ∀ (j : Nat) (z : Int) (c : Ca) (ad : List Mk) (e : Env) (o : Store), (∀ K, headE 125 0 (some ([1, 2, 7, 9, 10], 0)) e o K = K (.cons 1 (.d (.int .u8 sk)) (.cons 2 (.d (.sl 4 (l.map Us.d))) (.cons 7 (.bp 0 0) (.cons 9 (.arr 1 0 ad.length ad.length) (.cons 10 (.d (.int .i64 z)) (.nil .top))))))
        [.box [.d (.int .i64 c.s), .d (.int .i64 c.f), .d (.sl 5 (c.ms.map Mk.d))], .arr 5 (ad.map Mk.d) false]) →
      checkV c = 0 → Inv c ad → ad.length ≤ z → 0 ≤ z → z ≤ l.length → l.length - z < j →
      (∀ e (c : Ca) (ad : List Mk), checkV c = 0 → Inv c ad → ad.length ≤ 60 → getE e 7 = .bp 0 0 → getE e 9 = .arr 1 0 ad.length ad.length →
        K (.exit 0) e [.box [.d (.int .i64 c.s), .d (.int .i64 c.f), .d (.sl 5 (c.ms.map Mk.d))], .arr 5 (ad.map Mk.d) false] = r) →
      loopC Try.prog Hs (callF Try.prog Hs E1 k) 125 k 0 (some ([1, 2, 7, 9, 10], 0)) s9_1 j e o K ⟨0⟩ = r := by
  generalize hS : s9_1 = S
  intro j
  induction j with
  | zero => intro z c ad e o hh hc hi ha hz hz2 hj; omega
  | succ j ih =>
    intro z c ad e o hh hc hi ha hz hz2 hj hX
    rw [l_succ2 hS, hh]
    by_cases h : z < l.length
    · have hlt : z.toNat < l.length := by omega
      obtain ⟨u, hg⟩ : ∃ u, l[z.toNat]? = some u := ⟨_, List.getElem?_eq_getElem hlt⟩
      have hw := i64_in (z + 1) (by omega)
      have hum := hu u (List.mem_of_getElem? hg)
      have hg' := us_get hg
      have f1 := mark_ev k (by omega) u hum
      have hmv := mark_valid u hum
      generalize markV u = m at f1 hmv
      have f2 := Add_ev k (by omega) c (check_cok hc) m hmv (1000 + u.n / 2) (sk % 40)
      have w1 := i64_in u.n (by have := hum.2.2.2; omega)
      have q1 := i64_quo u.n 2 (by have := hum.2.2.2; exact ⟨by omega, by omega, by omega⟩)
      have w2 := i64_in (1000 + u.n / 2) (by have := hum.2.2.2; omega)
      have w3 := i64_in sk (by omega)
      obtain ⟨t1, t2, t3⟩ := tmodB (m := 40) hsk.1 (by omega)
      have hin := inv_new (c := c) (ad := ad) (m := m) (now := 1000 + u.n / 2) (sk := sk % 40) hi
      generalize addV c m (1000 + u.n / 2) (sk % 40) = a at *
      obtain ⟨a, x⟩ := a
      simp only at hin
      simp only [tupC] at f2
      by_cases q : x = 0
      · subst q
        obtain ⟨i1, i2, i3, i4, i5⟩ := hin rfl
        have f3 := Check_ev k (by omega) a (check_cok i3)
        rw [i3] at f3
        have hal := (check_cok i3).1
        have f4 := Has_ev k a.s a.f a.ms m (by omega) (by omega)
        rw [i4] at f4
        have j1 : ¬ a.f < c.f := by omega
        have j2 : ¬ a.s < (a.ms.length : Int) := by have := (check_iff.1 i3).2.1; omega
        have hb : (ad.length + 1) * 64 ≤ 140737488355328 := by omega
        have hn1 : (ad ++ [m]).length = ad.length + 1 := by simp
        simp only [s9_1, ↓evPre, ev0, ev1, ev2, ev3, ev4, ev5, Nat.reduceLT, entE, getE, putE, ↓reduceIte, Nat.reduceEqDiff, argsE, Int.reduceEq, convertA, lenA, foldI, A.cells, A.leaf, List.replicate, viewA, getO, Nat.reduceLeDiff, loadA, cellsAt, cellsTo, faA, indexAddrA, asInt, Int.reduceLE, Int.reduceLT, Int.reduceToNat, eq_self, Nat.reducePow, Int.reducePow, Int.reduceAdd, Int.reduceMul, Int.reduceSub, Int.reduceNeg, keyOk, mapPutA, lookupA, mapOf, sliceA, boundI, elemsOf, appendA, storeA, setRange, indexA, Nat.reduceBEq, Int.cast_ofNat_Int, reduceCtorEq, Nat.reduceAdd, Nat.reduceMul, Nat.reduceSub, evTy0, evTy1, evTy2, evTy3, evTy4, evTy5, h, hz, hg', hw, w1, w2, w3, q1, t1, List.length_map, callR_data f1 rfl rfl, callR_data f2 rfl rfl]
        refine Once_in k sk z l c a m ad (by omega) i1 _ _ k 0 _ _ (fun K => by simp only [↓evPre, ev0, ev1, ev2, ev3, ev4, ev5, Nat.reduceLT, entE, getE, putE, ↓reduceIte, Nat.reduceEqDiff, argsE, Int.reduceEq, convertA, lenA, foldI, A.cells, A.leaf, List.replicate, viewA, getO, Nat.reduceLeDiff, loadA, cellsAt, cellsTo, faA, indexAddrA, asInt, Int.reduceLE, Int.reduceLT, Int.reduceToNat, eq_self, Nat.reducePow, Int.reducePow, Int.reduceAdd, Int.reduceMul, Int.reduceSub, Int.reduceNeg, keyOk, mapPutA, lookupA, mapOf, sliceA, boundI, elemsOf, appendA, storeA, setRange, indexA, Nat.reduceBEq, Int.cast_ofNat_Int, reduceCtorEq, Nat.reduceAdd, Nat.reduceMul, Nat.reduceSub, evTy0, evTy1, evTy2, evTy3, evTy4, evTy5, List.length_map]) (by omega) (by omega) (by omega) (fun e e1 e2 e7 e9 e10 e11 e12 => ?_)
        simp only [s9_1, ↓evPre, ev0, ev1, ev2, ev3, ev4, ev5, Nat.reduceLT, entE, getE, putE, ↓reduceIte, Nat.reduceEqDiff, argsE, Int.reduceEq, convertA, lenA, foldI, A.cells, A.leaf, List.replicate, viewA, getO, Nat.reduceLeDiff, loadA, cellsAt, cellsTo, faA, indexAddrA, asInt, Int.reduceLE, Int.reduceLT, Int.reduceToNat, eq_self, Nat.reducePow, Int.reducePow, Int.reduceAdd, Int.reduceMul, Int.reduceSub, Int.reduceNeg, keyOk, mapPutA, lookupA, mapOf, sliceA, boundI, elemsOf, appendA, storeA, setRange, indexA, Nat.reduceBEq, Int.cast_ofNat_Int, reduceCtorEq, Nat.reduceAdd, Nat.reduceMul, Nat.reduceSub, evTy0, evTy1, evTy2, evTy3, evTy4, evTy5, e1, e2, e7, e9, e10, e11, e12, hb, hw, j1, j2, hz, List.length_map, map_snoc, callR_data f3 rfl rfl, callR_data f4 rfl rfl]
        exact ih (z + 1) a (ad ++ [m]) _ _ (fun K => by simp only [↓evPre, ev0, ev1, ev2, ev3, ev4, ev5, Nat.reduceLT, entE, getE, putE, ↓reduceIte, Nat.reduceEqDiff, argsE, Int.reduceEq, convertA, lenA, foldI, A.cells, A.leaf, List.replicate, viewA, getO, Nat.reduceLeDiff, loadA, cellsAt, cellsTo, faA, indexAddrA, asInt, Int.reduceLE, Int.reduceLT, Int.reduceToNat, eq_self, Nat.reducePow, Int.reducePow, Int.reduceAdd, Int.reduceMul, Int.reduceSub, Int.reduceNeg, keyOk, mapPutA, lookupA, mapOf, sliceA, boundI, elemsOf, appendA, storeA, setRange, indexA, Nat.reduceBEq, Int.cast_ofNat_Int, reduceCtorEq, Nat.reduceAdd, Nat.reduceMul, Nat.reduceSub, evTy0, evTy1, evTy2, evTy3, evTy4, evTy5, e1, e2, e7, e9, e10, e11, e12, List.length_map]) i3 i5 (by rw [hn1]; omega) (by omega) (by omega) (by omega) hX
      · simp only [s9_1, ↓evPre, ev0, ev1, ev2, ev3, ev4, ev5, Nat.reduceLT, entE, getE, putE, ↓reduceIte, Nat.reduceEqDiff, argsE, Int.reduceEq, convertA, lenA, foldI, A.cells, A.leaf, List.replicate, viewA, getO, Nat.reduceLeDiff, loadA, cellsAt, cellsTo, faA, indexAddrA, asInt, Int.reduceLE, Int.reduceLT, Int.reduceToNat, eq_self, Nat.reducePow, Int.reducePow, Int.reduceAdd, Int.reduceMul, Int.reduceSub, Int.reduceNeg, keyOk, mapPutA, lookupA, mapOf, sliceA, boundI, elemsOf, appendA, storeA, setRange, indexA, Nat.reduceBEq, Int.cast_ofNat_Int, reduceCtorEq, Nat.reduceAdd, Nat.reduceMul, Nat.reduceSub, evTy0, evTy1, evTy2, evTy3, evTy4, evTy5, h, hz, hg', hw, w1, w2, w3, q1, t1, List.length_map, callR_data f1 rfl rfl, callR_data f2 rfl rfl, q]
        exact ih (z + 1) c ad _ _ (fun K => by simp only [↓evPre, ev0, ev1, ev2, ev3, ev4, ev5, Nat.reduceLT, entE, getE, putE, ↓reduceIte, Nat.reduceEqDiff, argsE, Int.reduceEq, convertA, lenA, foldI, A.cells, A.leaf, List.replicate, viewA, getO, Nat.reduceLeDiff, loadA, cellsAt, cellsTo, faA, indexAddrA, asInt, Int.reduceLE, Int.reduceLT, Int.reduceToNat, eq_self, Nat.reducePow, Int.reducePow, Int.reduceAdd, Int.reduceMul, Int.reduceSub, Int.reduceNeg, keyOk, mapPutA, lookupA, mapOf, sliceA, boundI, elemsOf, appendA, storeA, setRange, indexA, Nat.reduceBEq, Int.cast_ofNat_Int, reduceCtorEq, Nat.reduceAdd, Nat.reduceMul, Nat.reduceSub, evTy0, evTy1, evTy2, evTy3, evTy4, evTy5, List.length_map]) hc hi (by omega) (by omega) (by omega) (by omega) hX
    · simp only [s9_1, ↓evPre, ev0, ev1, ev2, ev3, ev4, ev5, Nat.reduceLT, entE, getE, putE, ↓reduceIte, Nat.reduceEqDiff, argsE, Int.reduceEq, convertA, lenA, foldI, A.cells, A.leaf, List.replicate, viewA, getO, Nat.reduceLeDiff, loadA, cellsAt, cellsTo, faA, indexAddrA, asInt, Int.reduceLE, Int.reduceLT, Int.reduceToNat, eq_self, Nat.reducePow, Int.reducePow, Int.reduceAdd, Int.reduceMul, Int.reduceSub, Int.reduceNeg, keyOk, mapPutA, lookupA, mapOf, sliceA, boundI, elemsOf, appendA, storeA, setRange, indexA, Nat.reduceBEq, Int.cast_ofNat_Int, reduceCtorEq, Nat.reduceAdd, Nat.reduceMul, Nat.reduceSub, evTy0, evTy1, evTy2, evTy3, evTy4, evTy5, h, List.length_map]
      exact hX _ c ad hc hi (by omega) rfl rfl

theorem Once_out (k : Nat) (hk : 330 ≤ k) (c : Ca) (hc : checkV c = 0) (ad : List Mk) (hi : Inv c ad) (hl : ad.length ≤ 60) (K : X → Env → Store → Res) (r : Res) :
    ∀ (j : Nat) (y : Int) (e : Env) (o : Store), (∀ K, headE 125 0 (some ([7, 9, 15], 0)) e o K = K (.cons 7 (.bp 0 0) (.cons 9 (.arr 1 0 ad.length ad.length) (.cons 15 (.d (.int .i64 y)) (.nil .top))))
        [.box [.d (.int .i64 c.s), .d (.int .i64 c.f), .d (.sl 5 (c.ms.map Mk.d))], .arr 5 (ad.map Mk.d) false]) →
      0 ≤ y → y ≤ ad.length → ad.length - y < j →
      (∀ e o, K (.exit 4) e o = r) →
      loopC Try.prog Hs (callF Try.prog Hs E1 k) 125 k 0 (some ([7, 9, 15], 0)) s9_2 j e o K ⟨0⟩ = r := by
  generalize hS : s9_2 = S
  intro j
  induction j with
  | zero => intro y e o hh hz hz2 hj; omega
  | succ j ih =>
    intro y e o hh hz hz2 hj hX
    rw [l_succ2 hS, hh]
    by_cases h : y < ad.length
    · have hlt : y.toNat < ad.length := by omega
      obtain ⟨b, hg⟩ : ∃ b, ad[y.toNat]? = some b := ⟨_, List.getElem?_eq_getElem hlt⟩
      have hw := i64_in (y + 1) (by omega)
      have hg' := mk_get hg
      have hcl := (check_cok hc).1
      have f1 := Has_ev k c.s c.f c.ms b (by omega) (by omega)
      have q := hi b (List.mem_of_getElem? hg)
      cases hh2 : hasB c.ms b <;> rw [hh2] at f1
      · have q2 : ¬ c.f ≤ b.t := by
          rcases q with q | q
          · rw [hasB_iff.2 q] at hh2; cases hh2
          · omega
        simp only [s9_2, ↓evPre, ev0, ev1, ev2, ev3, ev4, ev5, Nat.reduceLT, entE, getE, putE, ↓reduceIte, Nat.reduceEqDiff, argsE, Int.reduceEq, convertA, lenA, foldI, A.cells, A.leaf, List.replicate, viewA, getO, Nat.reduceLeDiff, loadA, cellsAt, cellsTo, faA, indexAddrA, asInt, Int.reduceLE, Int.reduceLT, Int.reduceToNat, eq_self, Nat.reducePow, Int.reducePow, Int.reduceAdd, Int.reduceMul, Int.reduceSub, Int.reduceNeg, keyOk, mapPutA, lookupA, mapOf, sliceA, boundI, elemsOf, appendA, storeA, setRange, indexA, Nat.reduceBEq, Int.cast_ofNat_Int, reduceCtorEq, Nat.reduceAdd, Nat.reduceMul, Nat.reduceSub, evTy0, evTy1, evTy2, evTy3, evTy4, evTy5, h, hz, hlt, hg', hw, q2, List.length_map, callR_data f1 rfl rfl]
        exact ih (y + 1) _ _ (fun K => by simp only [↓evPre, ev0, ev1, ev2, ev3, ev4, ev5, Nat.reduceLT, entE, getE, putE, ↓reduceIte, Nat.reduceEqDiff, argsE, Int.reduceEq, convertA, lenA, foldI, A.cells, A.leaf, List.replicate, viewA, getO, Nat.reduceLeDiff, loadA, cellsAt, cellsTo, faA, indexAddrA, asInt, Int.reduceLE, Int.reduceLT, Int.reduceToNat, eq_self, Nat.reducePow, Int.reducePow, Int.reduceAdd, Int.reduceMul, Int.reduceSub, Int.reduceNeg, keyOk, mapPutA, lookupA, mapOf, sliceA, boundI, elemsOf, appendA, storeA, setRange, indexA, Nat.reduceBEq, Int.cast_ofNat_Int, reduceCtorEq, Nat.reduceAdd, Nat.reduceMul, Nat.reduceSub, evTy0, evTy1, evTy2, evTy3, evTy4, evTy5, List.length_map]) (by omega) (by omega) (by omega) hX
      · simp only [s9_2, ↓evPre, ev0, ev1, ev2, ev3, ev4, ev5, Nat.reduceLT, entE, getE, putE, ↓reduceIte, Nat.reduceEqDiff, argsE, Int.reduceEq, convertA, lenA, foldI, A.cells, A.leaf, List.replicate, viewA, getO, Nat.reduceLeDiff, loadA, cellsAt, cellsTo, faA, indexAddrA, asInt, Int.reduceLE, Int.reduceLT, Int.reduceToNat, eq_self, Nat.reducePow, Int.reducePow, Int.reduceAdd, Int.reduceMul, Int.reduceSub, Int.reduceNeg, keyOk, mapPutA, lookupA, mapOf, sliceA, boundI, elemsOf, appendA, storeA, setRange, indexA, Nat.reduceBEq, Int.cast_ofNat_Int, reduceCtorEq, Nat.reduceAdd, Nat.reduceMul, Nat.reduceSub, evTy0, evTy1, evTy2, evTy3, evTy4, evTy5, h, hz, hlt, hg', hw, List.length_map, callR_data f1 rfl rfl]
        exact ih (y + 1) _ _ (fun K => by simp only [↓evPre, ev0, ev1, ev2, ev3, ev4, ev5, Nat.reduceLT, entE, getE, putE, ↓reduceIte, Nat.reduceEqDiff, argsE, Int.reduceEq, convertA, lenA, foldI, A.cells, A.leaf, List.replicate, viewA, getO, Nat.reduceLeDiff, loadA, cellsAt, cellsTo, faA, indexAddrA, asInt, Int.reduceLE, Int.reduceLT, Int.reduceToNat, eq_self, Nat.reducePow, Int.reducePow, Int.reduceAdd, Int.reduceMul, Int.reduceSub, Int.reduceNeg, keyOk, mapPutA, lookupA, mapOf, sliceA, boundI, elemsOf, appendA, storeA, setRange, indexA, Nat.reduceBEq, Int.cast_ofNat_Int, reduceCtorEq, Nat.reduceAdd, Nat.reduceMul, Nat.reduceSub, evTy0, evTy1, evTy2, evTy3, evTy4, evTy5, List.length_map]) (by omega) (by omega) (by omega) hX
    · simp only [s9_2, ↓evPre, ev0, ev1, ev2, ev3, ev4, ev5, Nat.reduceLT, entE, getE, putE, ↓reduceIte, Nat.reduceEqDiff, argsE, Int.reduceEq, convertA, lenA, foldI, A.cells, A.leaf, List.replicate, viewA, getO, Nat.reduceLeDiff, loadA, cellsAt, cellsTo, faA, indexAddrA, asInt, Int.reduceLE, Int.reduceLT, Int.reduceToNat, eq_self, Nat.reducePow, Int.reducePow, Int.reduceAdd, Int.reduceMul, Int.reduceSub, Int.reduceNeg, keyOk, mapPutA, lookupA, mapOf, sliceA, boundI, elemsOf, appendA, storeA, setRange, indexA, Nat.reduceBEq, Int.cast_ofNat_Int, reduceCtorEq, Nat.reduceAdd, Nat.reduceMul, Nat.reduceSub, evTy0, evTy1, evTy2, evTy3, evTy4, evTy5, h, List.length_map]
      exact hX _ _

theorem Once_law (k : Nat) (hk : 400 ≤ k) (sz sk : Int) (hsz : 0 ≤ sz ∧ sz ≤ 255) (hsk : 0 ≤ sk ∧ sk ≤ 255) (l : List Us) (hu : ∀ u ∈ l, u.ok) :
    callF Try.prog Hs E1 k 9 [.d (.int .u8 sz), .d (.int .u8 sk), .d (.sl 4 (l.map Us.d))] [] = some (.d (.bool true), []) := by
  obtain ⟨k, rfl⟩ : ∃ j, k = j + 1 := ⟨k - 1, by omega⟩
  refine evalE rfl Try.func9 l9 ?_ (Nat.le_of_ble_eq_true rfl)
  have aw := awake_ev k (by omega)
  by_cases hl : 60 < (l.length : Int)
  · simp only [s9, n9, ↓evPre, ev0, ev1, ev2, ev3, ev4, ev5, Nat.reduceLT, entE, getE, putE, ↓reduceIte, Nat.reduceEqDiff, argsE, Int.reduceEq, convertA, lenA, foldI, A.cells, A.leaf, List.replicate, viewA, getO, Nat.reduceLeDiff, loadA, cellsAt, cellsTo, faA, indexAddrA, asInt, Int.reduceLE, Int.reduceLT, Int.reduceToNat, eq_self, Nat.reducePow, Int.reducePow, Int.reduceAdd, Int.reduceMul, Int.reduceSub, Int.reduceNeg, keyOk, mapPutA, lookupA, mapOf, sliceA, boundI, elemsOf, appendA, storeA, setRange, indexA, Nat.reduceBEq, Int.cast_ofNat_Int, reduceCtorEq, Nat.reduceAdd, Nat.reduceMul, Nat.reduceSub, evTy0, evTy1, evTy2, evTy3, evTy4, evTy5, callR_data aw rfl rfl, List.length_map, hl]
  have w1 := i64_in sz (by omega)
  obtain ⟨t1, t2, t3⟩ := tmodB (m := 40) hsz.1 (by omega)
  have w2 := i64_in (1 + sz % 40) (by omega)
  obtain ⟨hn1, hn2⟩ := new_check (n := 1 + sz % 40) (by omega)
  have f1 := New_ev k (by omega) (1 + sz % 40)
  rw [hn1] at f1
  simp only [tupC, List.map_nil] at f1
  simp only [s9, n9, ↓evPre, ev0, ev1, ev2, ev3, ev4, ev5, Nat.reduceLT, entE, getE, putE, ↓reduceIte, Nat.reduceEqDiff, argsE, Int.reduceEq, convertA, lenA, foldI, A.cells, A.leaf, List.replicate, viewA, getO, Nat.reduceLeDiff, loadA, cellsAt, cellsTo, faA, indexAddrA, asInt, Int.reduceLE, Int.reduceLT, Int.reduceToNat, eq_self, Nat.reducePow, Int.reducePow, Int.reduceAdd, Int.reduceMul, Int.reduceSub, Int.reduceNeg, keyOk, mapPutA, lookupA, mapOf, sliceA, boundI, elemsOf, appendA, storeA, setRange, indexA, Nat.reduceBEq, Int.cast_ofNat_Int, reduceCtorEq, Nat.reduceAdd, Nat.reduceMul, Nat.reduceSub, evTy0, evTy1, evTy2, evTy3, evTy4, evTy5, callR_data aw rfl rfl, List.length_map, hl, w1, w2, t1, callR_data f1 rfl rfl]
  refine Once_loop k (by omega) sk hsk l (by omega) hu _ _ k 0 ⟨1 + sz % 40, 0, []⟩ [] _ _ (fun K => by simp only [↓evPre, ev0, ev1, ev2, ev3, ev4, ev5, Nat.reduceLT, entE, getE, putE, ↓reduceIte, Nat.reduceEqDiff, argsE, Int.reduceEq, convertA, lenA, foldI, A.cells, A.leaf, List.replicate, viewA, getO, Nat.reduceLeDiff, loadA, cellsAt, cellsTo, faA, indexAddrA, asInt, Int.reduceLE, Int.reduceLT, Int.reduceToNat, eq_self, Nat.reducePow, Int.reducePow, Int.reduceAdd, Int.reduceMul, Int.reduceSub, Int.reduceNeg, keyOk, mapPutA, lookupA, mapOf, sliceA, boundI, elemsOf, appendA, storeA, setRange, indexA, Nat.reduceBEq, Int.cast_ofNat_Int, reduceCtorEq, Nat.reduceAdd, Nat.reduceMul, Nat.reduceSub, evTy0, evTy1, evTy2, evTy3, evTy4, evTy5, List.map_nil]) hn2 (by intro x hx; cases hx) (by simp) (by omega) (by omega) (by omega) (fun e c ad hc hi had e7 e9 => ?_)
  simp only [s9, n9, ↓evPre, ev0, ev1, ev2, ev3, ev4, ev5, Nat.reduceLT, entE, getE, putE, ↓reduceIte, Nat.reduceEqDiff, argsE, Int.reduceEq, convertA, lenA, foldI, A.cells, A.leaf, List.replicate, viewA, getO, Nat.reduceLeDiff, loadA, cellsAt, cellsTo, faA, indexAddrA, asInt, Int.reduceLE, Int.reduceLT, Int.reduceToNat, eq_self, Nat.reducePow, Int.reducePow, Int.reduceAdd, Int.reduceMul, Int.reduceSub, Int.reduceNeg, keyOk, mapPutA, lookupA, mapOf, sliceA, boundI, elemsOf, appendA, storeA, setRange, indexA, Nat.reduceBEq, Int.cast_ofNat_Int, reduceCtorEq, Nat.reduceAdd, Nat.reduceMul, Nat.reduceSub, evTy0, evTy1, evTy2, evTy3, evTy4, evTy5]
  refine Once_out k (by omega) c hc ad hi had _ _ k 0 _ _ (fun K => by simp only [↓evPre, ev0, ev1, ev2, ev3, ev4, ev5, Nat.reduceLT, entE, getE, putE, ↓reduceIte, Nat.reduceEqDiff, argsE, Int.reduceEq, convertA, lenA, foldI, A.cells, A.leaf, List.replicate, viewA, getO, Nat.reduceLeDiff, loadA, cellsAt, cellsTo, faA, indexAddrA, asInt, Int.reduceLE, Int.reduceLT, Int.reduceToNat, eq_self, Nat.reducePow, Int.reducePow, Int.reduceAdd, Int.reduceMul, Int.reduceSub, Int.reduceNeg, keyOk, mapPutA, lookupA, mapOf, sliceA, boundI, elemsOf, appendA, storeA, setRange, indexA, Nat.reduceBEq, Int.cast_ofNat_Int, reduceCtorEq, Nat.reduceAdd, Nat.reduceMul, Nat.reduceSub, evTy0, evTy1, evTy2, evTy3, evTy4, evTy5, e7, e9, List.length_map]) (by omega) (by omega) (by omega) (fun e o => ?_)
  simp only [s9, n9, ↓evPre, ev0, ev1, ev2, ev3, ev4, ev5, Nat.reduceLT, entE, getE, putE, ↓reduceIte, Nat.reduceEqDiff, argsE, Int.reduceEq, convertA, lenA, foldI, A.cells, A.leaf, List.replicate, viewA, getO, Nat.reduceLeDiff, loadA, cellsAt, cellsTo, faA, indexAddrA, asInt, Int.reduceLE, Int.reduceLT, Int.reduceToNat, eq_self, Nat.reducePow, Int.reducePow, Int.reduceAdd, Int.reduceMul, Int.reduceSub, Int.reduceNeg, keyOk, mapPutA, lookupA, mapOf, sliceA, boundI, elemsOf, appendA, storeA, setRange, indexA, Nat.reduceBEq, Int.cast_ofNat_Int, reduceCtorEq, Nat.reduceAdd, Nat.reduceMul, Nat.reduceSub, evTy0, evTy1, evTy2, evTy3, evTy4, evTy5]
end Rp
end Ab
