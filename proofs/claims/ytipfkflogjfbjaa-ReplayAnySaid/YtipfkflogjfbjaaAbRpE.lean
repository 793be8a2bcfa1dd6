/- A part of the proof of a row by an interpreter that is proved sound; no conditions of its own. -/
import Derived.Test.YtipfkflogjfbjaaAbRpD
namespace Ab
open Go Go.Proofs Go.IntWalk
set_option maxRecDepth 10000
set_option linter.unusedSimpArgs false
set_option linter.unusedVariables false
namespace Rp
open Pr Cv

theorem awake_ev (k : Nat) (hk : 60 ≤ k) : callF Try.prog Hs E1 k 28 [] [] = some (.d (.bool true), []) := by
  obtain ⟨k, rfl⟩ : ∃ j, k = j + 60 := ⟨k - 60, by omega⟩
  kernel_rfl

/-- What authenticators make of a cache. -/
def play (sk : Int) : List Us → Ca → Ca
  | [], c => c
  | u :: l, c => play sk l (if (addV c (markV u) (1000 + u.n / 2) sk).2 = 0 then (addV c (markV u) (1000 + u.n / 2) sk).1 else c)

def cnt (sk : Int) : List Us → Ca → Int → Int
  | [], _, n => n
  | u :: l, c, n => if (addV c (markV u) (1000 + u.n / 2) sk).2 = 0 then cnt sk l (addV c (markV u) (1000 + u.n / 2) sk).1 (n + 1) else cnt sk l c n

theorem play_check {sk : Int} : ∀ (l : List Us) (c : Ca), checkV c = 0 → checkV (play sk l c) = 0 := by
  intro l
  induction l with
  | nil => intro c h; exact h
  | cons u l ih =>
    intro c h
    unfold play
    split
    · rename_i q; exact ih _ (add_check q)
    · exact ih _ h

theorem filled_loop (k : Nat) (hk : 330 ≤ k) (sk : Int) (hsk : 0 ≤ sk ∧ sk ≤ 255) (l : List Us) (hl : l.length ≤ 60) (hu : ∀ u ∈ l, u.ok) (K : X → Env → Store → Res) (r : Res) :
    ∀ (j : Nat) (z n : Int) (c : Ca) (e : Env) (o : Store), (∀ K, headE 56 0 (some ([1, 2, 6, 8, 10, 11], 0)) e o K = K (.cons 1 (.d (.int .u8 sk)) (.cons 2 (.d (.sl 4 (l.map Us.d))) (.cons 6 (.bp 0 0) (.cons 8 (.bp 1 0) (.cons 10 (.d (.int .i64 n)) (.cons 11 (.d (.int .i64 z)) (.nil .top))))))) [.box [.d (.int .i64 0), .d (.int .i64 0), .nilsl 5], .box [.d (.int .i64 c.s), .d (.int .i64 c.f), .d (.sl 5 (c.ms.map Mk.d))]]) →
      checkV c = 0 → 0 ≤ n → n ≤ z → z ≤ l.length → l.length - z < j →
      (∀ e, getE e 6 = .bp 0 0 → getE e 8 = .bp 1 0 → getE e 10 = .d (.int .i64 (cnt (sk % 40) (l.drop z.toNat) c n)) → K (.exit 0) e [.box [.d (.int .i64 0), .d (.int .i64 0), .nilsl 5], .box [.d (.int .i64 (play (sk % 40) (l.drop z.toNat) c).s), .d (.int .i64 (play (sk % 40) (l.drop z.toNat) c).f), .d (.sl 5 ((play (sk % 40) (l.drop z.toNat) c).ms.map Mk.d))]] = r) →
      loopC Try.prog Hs (callF Try.prog Hs E1 k) 56 k 0 (some ([1, 2, 6, 8, 10, 11], 0)) s30_0 j e o K ⟨0⟩ = r := by
  generalize hS : s30_0 = S
  intro j
  induction j with
  | zero => intro z n c e o hh hc hn hz hz2 hj; omega
  | succ j ih =>
    intro z n c e o hh hc hn hz hz2 hj hX
    rw [l_succ2 hS, hh]
    by_cases h : z < l.length
    · have hlt : z.toNat < l.length := by omega
      obtain ⟨u, hg⟩ : ∃ u, l[z.toNat]? = some u := ⟨_, List.getElem?_eq_getElem hlt⟩
      have hw := i64_in (z + 1) (by omega)
      have hw2 := i64_in (n + 1) (by omega)
      have hz0 : 0 ≤ z := by omega
      have hnn : (z + 1).toNat = z.toNat + 1 := by omega
      have hum := hu u (List.mem_of_getElem? hg)
      rw [dropU hg] at hX
      have hg' := us_get hg
      have f1 := mark_ev k (by omega) u hum
      have f2 := Add_ev k (by omega) c (check_cok hc) (markV u) (mark_valid u hum) (1000 + u.n / 2) (sk % 40)
      have w1 := i64_in u.n (by have := hum.2.2.2; omega)
      have q1 := i64_quo u.n 2 (by have := hum.2.2.2; exact ⟨by omega, by omega, by omega⟩)
      have w2 := i64_in (1000 + u.n / 2) (by have := hum.2.2.2; omega)
      have w3 := i64_in sk (by omega)
      obtain ⟨t1, t2, t3⟩ := tmodB (m := 40) hsk.1 (by omega)
      have hck := add_check (c := c) (m := markV u) (now := 1000 + u.n / 2) (skew := sk % 40)
      simp only [play, cnt] at hX
      generalize addV c (markV u) (1000 + u.n / 2) (sk % 40) = a at *
      obtain ⟨a, x⟩ := a
      simp only at hck hX
      simp only [tupC] at f2
      by_cases q : x = 0
      · subst q
        simp only [if_true, ← hnn] at hX
        simp only [s30_0, ↓evPre, ev0, ev1, ev2, ev3, ev4, ev5, Nat.reduceLT, entE, getE, putE, ↓reduceIte, Nat.reduceEqDiff, argsE, Int.reduceEq, convertA, lenA, foldI, A.cells, A.leaf, List.replicate, viewA, getO, Nat.reduceLeDiff, loadA, cellsAt, cellsTo, faA, indexAddrA, asInt, Int.reduceLE, Int.reduceLT, Int.reduceToNat, eq_self, Nat.reducePow, Int.reducePow, Int.reduceAdd, Int.reduceMul, Int.reduceSub, Int.reduceNeg, keyOk, mapPutA, lookupA, mapOf, sliceA, boundI, elemsOf, appendA, storeA, setRange, indexA, Nat.reduceBEq, Int.cast_ofNat_Int, reduceCtorEq, Nat.reduceAdd, Nat.reduceMul, Nat.reduceSub, evTy0, evTy1, evTy2, evTy3, evTy4, evTy5, h, hz0, hg', hw, hw2, w1, w2, w3, q1, t1, List.length_map, callR_data f1 rfl rfl, callR_data f2 rfl rfl]
        exact ih (z + 1) (n + 1) a _ _ (fun K => by simp only [↓evPre, ev0, ev1, ev2, ev3, ev4, ev5, Nat.reduceLT, entE, getE, putE, ↓reduceIte, Nat.reduceEqDiff, argsE, Int.reduceEq, convertA, lenA, foldI, A.cells, A.leaf, List.replicate, viewA, getO, Nat.reduceLeDiff, loadA, cellsAt, cellsTo, faA, indexAddrA, asInt, Int.reduceLE, Int.reduceLT, Int.reduceToNat, eq_self, Nat.reducePow, Int.reducePow, Int.reduceAdd, Int.reduceMul, Int.reduceSub, Int.reduceNeg, keyOk, mapPutA, lookupA, mapOf, sliceA, boundI, elemsOf, appendA, storeA, setRange, indexA, Nat.reduceBEq, Int.cast_ofNat_Int, reduceCtorEq, Nat.reduceAdd, Nat.reduceMul, Nat.reduceSub, evTy0, evTy1, evTy2, evTy3, evTy4, evTy5]) (hck rfl) (by omega) (by omega) (by omega) (by omega) hX
      · simp only [if_neg q, ← hnn] at hX
        simp only [s30_0, ↓evPre, ev0, ev1, ev2, ev3, ev4, ev5, Nat.reduceLT, entE, getE, putE, ↓reduceIte, Nat.reduceEqDiff, argsE, Int.reduceEq, convertA, lenA, foldI, A.cells, A.leaf, List.replicate, viewA, getO, Nat.reduceLeDiff, loadA, cellsAt, cellsTo, faA, indexAddrA, asInt, Int.reduceLE, Int.reduceLT, Int.reduceToNat, eq_self, Nat.reducePow, Int.reducePow, Int.reduceAdd, Int.reduceMul, Int.reduceSub, Int.reduceNeg, keyOk, mapPutA, lookupA, mapOf, sliceA, boundI, elemsOf, appendA, storeA, setRange, indexA, Nat.reduceBEq, Int.cast_ofNat_Int, reduceCtorEq, Nat.reduceAdd, Nat.reduceMul, Nat.reduceSub, evTy0, evTy1, evTy2, evTy3, evTy4, evTy5, h, hz0, hg', hw, hw2, w1, w2, w3, q1, t1, List.length_map, callR_data f1 rfl rfl, callR_data f2 rfl rfl, q]
        exact ih (z + 1) n c _ _ (fun K => by simp only [↓evPre, ev0, ev1, ev2, ev3, ev4, ev5, Nat.reduceLT, entE, getE, putE, ↓reduceIte, Nat.reduceEqDiff, argsE, Int.reduceEq, convertA, lenA, foldI, A.cells, A.leaf, List.replicate, viewA, getO, Nat.reduceLeDiff, loadA, cellsAt, cellsTo, faA, indexAddrA, asInt, Int.reduceLE, Int.reduceLT, Int.reduceToNat, eq_self, Nat.reducePow, Int.reducePow, Int.reduceAdd, Int.reduceMul, Int.reduceSub, Int.reduceNeg, keyOk, mapPutA, lookupA, mapOf, sliceA, boundI, elemsOf, appendA, storeA, setRange, indexA, Nat.reduceBEq, Int.cast_ofNat_Int, reduceCtorEq, Nat.reduceAdd, Nat.reduceMul, Nat.reduceSub, evTy0, evTy1, evTy2, evTy3, evTy4, evTy5]) hc (by omega) (by omega) (by omega) (by omega) hX
    · have hd : l.drop z.toNat = [] := List.drop_eq_nil_of_le (by omega)
      rw [hd] at hX
      simp only [s30_0, ↓evPre, ev0, ev1, ev2, ev3, ev4, ev5, Nat.reduceLT, entE, getE, putE, ↓reduceIte, Nat.reduceEqDiff, argsE, Int.reduceEq, convertA, lenA, foldI, A.cells, A.leaf, List.replicate, viewA, getO, Nat.reduceLeDiff, loadA, cellsAt, cellsTo, faA, indexAddrA, asInt, Int.reduceLE, Int.reduceLT, Int.reduceToNat, eq_self, Nat.reducePow, Int.reducePow, Int.reduceAdd, Int.reduceMul, Int.reduceSub, Int.reduceNeg, keyOk, mapPutA, lookupA, mapOf, sliceA, boundI, elemsOf, appendA, storeA, setRange, indexA, Nat.reduceBEq, Int.cast_ofNat_Int, reduceCtorEq, Nat.reduceAdd, Nat.reduceMul, Nat.reduceSub, evTy0, evTy1, evTy2, evTy3, evTy4, evTy5, h, List.length_map]
      exact hX _ rfl rfl rfl

theorem filled_ev (k : Nat) (hk : 340 ≤ k) (sz sk : Int) (hsz : 0 ≤ sz ∧ sz ≤ 255) (hsk : 0 ≤ sk ∧ sk ≤ 255) (l : List Us) (hl : l.length ≤ 60) (hu : ∀ u ∈ l, u.ok) :
    callF Try.prog Hs E1 k 30 [.d (.int .u8 sz), .d (.int .u8 sk), .d (.sl 4 (l.map Us.d))] [] = some (tupC (play (sk % 40) l ⟨1 + sz % 40, 0, []⟩) (cnt (sk % 40) l ⟨1 + sz % 40, 0, []⟩ 0), []) := by
  obtain ⟨k, rfl⟩ : ∃ j, k = j + 1 := ⟨k - 1, by omega⟩
  refine evalE rfl Try.func30 l30 ?_ (Nat.le_of_ble_eq_true rfl)
  have w1 := i64_in sz (by omega)
  obtain ⟨t1, t2, t3⟩ := tmodB (m := 40) hsz.1 (by omega)
  have w2 := i64_in (1 + sz % 40) (by omega)
  obtain ⟨hn1, hn2⟩ := new_check (n := 1 + sz % 40) (by omega)
  have f1 := New_ev k (by omega) (1 + sz % 40)
  rw [hn1] at f1
  simp only [tupC, List.map_nil] at f1
  simp only [s30, n30, ↓evPre, ev0, ev1, ev2, ev3, ev4, ev5, Nat.reduceLT, entE, getE, putE, ↓reduceIte, Nat.reduceEqDiff, argsE, Int.reduceEq, convertA, lenA, foldI, A.cells, A.leaf, List.replicate, viewA, getO, Nat.reduceLeDiff, loadA, cellsAt, cellsTo, faA, indexAddrA, asInt, Int.reduceLE, Int.reduceLT, Int.reduceToNat, eq_self, Nat.reducePow, Int.reducePow, Int.reduceAdd, Int.reduceMul, Int.reduceSub, Int.reduceNeg, keyOk, mapPutA, lookupA, mapOf, sliceA, boundI, elemsOf, appendA, storeA, setRange, indexA, Nat.reduceBEq, Int.cast_ofNat_Int, reduceCtorEq, Nat.reduceAdd, Nat.reduceMul, Nat.reduceSub, evTy0, evTy1, evTy2, evTy3, evTy4, evTy5, w1, w2, t1, callR_data f1 rfl rfl]
  refine filled_loop k (by omega) sk hsk l hl hu _ _ k 0 0 ⟨1 + sz % 40, 0, []⟩ _ _ (fun K => by simp only [↓evPre, ev0, ev1, ev2, ev3, ev4, ev5, Nat.reduceLT, entE, getE, putE, ↓reduceIte, Nat.reduceEqDiff, argsE, Int.reduceEq, convertA, lenA, foldI, A.cells, A.leaf, List.replicate, viewA, getO, Nat.reduceLeDiff, loadA, cellsAt, cellsTo, faA, indexAddrA, asInt, Int.reduceLE, Int.reduceLT, Int.reduceToNat, eq_self, Nat.reducePow, Int.reducePow, Int.reduceAdd, Int.reduceMul, Int.reduceSub, Int.reduceNeg, keyOk, mapPutA, lookupA, mapOf, sliceA, boundI, elemsOf, appendA, storeA, setRange, indexA, Nat.reduceBEq, Int.cast_ofNat_Int, reduceCtorEq, Nat.reduceAdd, Nat.reduceMul, Nat.reduceSub, evTy0, evTy1, evTy2, evTy3, evTy4, evTy5, List.map_nil]) hn2 (by omega) (by omega) (by omega) (by omega) (fun e g6 g8 g10 => ?_)
  have g10' : getE e 10 = .d (.int .i64 (cnt (sk % 40) l ⟨1 + sz % 40, 0, []⟩ 0)) := g10
  have hd : l.drop (Int.toNat 0) = l := rfl
  rw [hd]
  simp only [s30, n30, ↓evPre, ev0, ev1, ev2, ev3, ev4, ev5, Nat.reduceLT, entE, getE, putE, ↓reduceIte, Nat.reduceEqDiff, argsE, Int.reduceEq, convertA, lenA, foldI, A.cells, A.leaf, List.replicate, viewA, getO, Nat.reduceLeDiff, loadA, cellsAt, cellsTo, faA, indexAddrA, asInt, Int.reduceLE, Int.reduceLT, Int.reduceToNat, eq_self, Nat.reducePow, Int.reducePow, Int.reduceAdd, Int.reduceMul, Int.reduceSub, Int.reduceNeg, keyOk, mapPutA, lookupA, mapOf, sliceA, boundI, elemsOf, appendA, storeA, setRange, indexA, Nat.reduceBEq, Int.cast_ofNat_Int, reduceCtorEq, Nat.reduceAdd, Nat.reduceMul, Nat.reduceSub, evTy0, evTy1, evTy2, evTy3, evTy4, evTy5, g6, g8, g10', tupC]
end Rp
end Ab
