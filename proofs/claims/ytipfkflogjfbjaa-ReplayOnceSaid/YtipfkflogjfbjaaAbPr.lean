/- A part of the proof of a row by an interpreter that is proved sound; no conditions of its own. -/
import Derived.Test.YtipfkflogjfbjaaAbSlb
import Derived.Test.YtipfkflogjfbjaaAbIdx
import Derived.Lib.IndexAny
namespace Ab
open Go Go.Proofs Go.IntWalk
set_option maxRecDepth 10000
set_option linter.unusedSimpArgs false
set_option linter.unusedVariables false
namespace Pr

/-- internal/stringslite.IndexByte. -/
def gIndex : List A → Store → Option (A × Store)
  | [.d (.str s), .d (.int .u8 c)], [] => some (.d (.int .i64 (Lib.indexByte s.data.toList c.toNat.toUInt8)), [])
  | _, _ => none

def E1 : Ext := fun f => if f = 136 then some gIndex else none

theorem ext_ok : ExtOK Try.prog E1 := by
  intro f g hg args inc r out h
  unfold E1 at hg
  split at hg
  case isFalse => cases hg
  rename_i hf
  subst hf
  cases hg
  unfold gIndex at h
  split at h
  case h_2 => cases h
  rename_i s c
  cases h
  refine ⟨⟨Try.f136, _, Try.func136, rfl, by decide⟩, fun C w vs g ra => ?_⟩
  obtain ⟨v0, us, h1, r0, ra1⟩ := ra.uncons
  obtain ⟨v1, us1, h2, r1, ra2⟩ := ra1.uncons
  have h3 := ra2.unnil
  subst h3; subst h2
  have e0 := rel_str r0
  have e1 := rel_int' r1
  subst e0; subst e1
  have : vs = #[.string s, .int .u8 c] := by cases vs; simp_all
  subst this
  refine (Try.stringslite_IndexByte s c w).mono fun e w' he => ?_
  obtain ⟨rfl, rfl⟩ := he
  exact ⟨_, C, rfl, .refl _ _ _, g, .d (.int _ _)⟩

theorem IndexL_ev (k : Nat) (hk : 1 ≤ k) (s : ByteArray) (c : Int) : callF Try.prog Hs E1 k 136 [.d (.str s), .d (.int .u8 c)] [] = some (.d (.int .i64 (Lib.indexByte s.data.toList c.toNat.toUInt8)), []) := by
  obtain ⟨k, rfl⟩ : ∃ j, k = j + 1 := ⟨k - 1, by omega⟩
  unfold callF
  rfl

theorem Index_ev (k : Nat) (hk : 2 ≤ k) (s : ByteArray) (c : Int) : callF Try.prog Hs E1 k 127 [.d (.str s), .d (.int .u8 c)] [] = some (.d (.int .i64 (Lib.indexByte s.data.toList c.toNat.toUInt8)), []) := by
  obtain ⟨k, rfl⟩ : ∃ j, k = j + 1 := ⟨k - 1, by omega⟩
  refine evalE rfl Try.func127 l127 ?_ (Nat.le_of_ble_eq_true rfl)
  simp only [s127, n127, ↓evPre, ev0, ev1, ev2, ev3, ev4, ev5, Nat.reduceLT, entE, getE, putE, ↓reduceIte, Nat.reduceEqDiff, argsE, Int.reduceEq, convertA, lenA, foldI, A.cells, A.leaf, List.replicate, viewA, getO, Nat.reduceLeDiff, loadA, cellsAt, cellsTo, faA, indexAddrA, asInt, Int.reduceLE, Int.reduceLT, Int.reduceToNat, eq_self, Nat.reducePow, Int.reducePow, Int.reduceAdd, Int.reduceMul, Int.reduceSub, Int.reduceNeg, keyOk, mapPutA, lookupA, mapOf, sliceA, boundI, elemsOf, appendA, storeA, setRange, indexA, Nat.reduceBEq, Int.cast_ofNat_Int, reduceCtorEq, Nat.reduceAdd, Nat.reduceMul, Nat.reduceSub, evTy0, evTy1, evTy2, evTy3, evTy4, evTy5, callR_data (IndexL_ev k (by omega) s c) rfl rfl]

theorem c8 (b : UInt8) : (b.toNat : Int).toNat.toUInt8 = b := by
  rw [Int.toNat_natCast]; exact UInt8.ofNat_toNat

def okB (bad : List UInt8) (b : UInt8) : Bool := decide (33 ≤ (b.toNat : Int)) && decide ((b.toNat : Int) ≤ 126) && !bad.contains b

/-- May this be a part of a name? -/
def textB (bad : List UInt8) (s : ByteArray) : Bool := s.data.toList.all (okB bad) && decide ((s.size : Int) ≤ 39)

theorem dropU {α : Type} {l : List α} {i : Nat} {b : α} (h : l[i]? = some b) : l.drop i = b :: l.drop (i + 1) := by
  have hl := (List.getElem?_eq_some_iff.1 h)
  obtain ⟨h1, h2⟩ := hl
  rw [List.drop_eq_getElem_cons h1, h2]

theorem size_list (s : ByteArray) : s.data.toList.length = s.size := Array.length_toList

theorem printable_loop (k : Nat) (hk : 3 ≤ k) (s bad : ByteArray) (hs : s.size ≤ 9223372036854775807) (K : X → Env → Store → Res) (r : Res) :
    ∀ (j : Nat) (z : Int) (e : Env) (o : Store), (∀ K, headE 33 0 (some ([0, 1, 7, 8], 0)) e o K = K (.cons 0 (.d (.str s)) (.cons 1 (.d (.str bad)) (.cons 7 (.d (.int .i64 s.size)) (.cons 8 (.d (.int .i64 z)) (.nil .top))))) []) →
      0 ≤ z → z ≤ s.size → s.size - z < j →
      ((s.data.toList.drop z.toNat).all (okB bad.data.toList) = false → ∀ e, getE e 4 = .d (.bool false) → K .ret e [] = r) →
      ((s.data.toList.drop z.toNat).all (okB bad.data.toList) = true → ∀ e, getE e 0 = .d (.str s) → K (.exit 0) e [] = r) →
      loopC Try.prog Hs (callF Try.prog Hs E1 k) 33 k 0 (some ([0, 1, 7, 8], 0)) s109_0 j e o K ⟨0⟩ = r := by
  generalize hS : s109_0 = S
  intro j
  induction j with
  | zero => intro z e o hh hz hz2 hj; omega
  | succ j ih =>
    intro z e o hh hz hz2 hj hR hX
    rw [l_succ2 hS, hh]
    have hsl := size_list s
    by_cases h : z < s.size
    · have hlt : z.toNat < s.data.toList.length := by omega
      obtain ⟨b, hg⟩ : ∃ b, s.data.toList[z.toNat]? = some b := ⟨_, List.getElem?_eq_getElem hlt⟩
      have hw := i64_in (z + 1) (by omega)
      have hn : (z + 1).toNat = z.toNat + 1 := by omega
      rw [dropU hg] at hR hX
      simp only [List.all_cons] at hR hX
      by_cases h1 : (b.toNat : Int) < 33
      · simp only [s109_0, ↓evPre, ev0, ev1, ev2, ev3, ev4, ev5, Nat.reduceLT, entE, getE, putE, ↓reduceIte, Nat.reduceEqDiff, argsE, Int.reduceEq, convertA, lenA, foldI, A.cells, A.leaf, List.replicate, viewA, getO, Nat.reduceLeDiff, loadA, cellsAt, cellsTo, faA, indexAddrA, asInt, Int.reduceLE, Int.reduceLT, Int.reduceToNat, eq_self, Nat.reducePow, Int.reducePow, Int.reduceAdd, Int.reduceMul, Int.reduceSub, Int.reduceNeg, keyOk, mapPutA, lookupA, mapOf, sliceA, boundI, elemsOf, appendA, storeA, setRange, indexA, Nat.reduceBEq, Int.cast_ofNat_Int, reduceCtorEq, Nat.reduceAdd, Nat.reduceMul, Nat.reduceSub, evTy0, evTy1, evTy2, evTy3, evTy4, evTy5, h, hz, hg, h1]
        refine hR ?_ _ rfl
        have : okB bad.data.toList b = false := by simp only [okB, decide_eq_false (show ¬ (33 ≤ (b.toNat : Int)) by omega), Bool.false_and]
        rw [this]; rfl
      · by_cases h2 : 126 < (b.toNat : Int)
        · simp only [s109_0, ↓evPre, ev0, ev1, ev2, ev3, ev4, ev5, Nat.reduceLT, entE, getE, putE, ↓reduceIte, Nat.reduceEqDiff, argsE, Int.reduceEq, convertA, lenA, foldI, A.cells, A.leaf, List.replicate, viewA, getO, Nat.reduceLeDiff, loadA, cellsAt, cellsTo, faA, indexAddrA, asInt, Int.reduceLE, Int.reduceLT, Int.reduceToNat, eq_self, Nat.reducePow, Int.reducePow, Int.reduceAdd, Int.reduceMul, Int.reduceSub, Int.reduceNeg, keyOk, mapPutA, lookupA, mapOf, sliceA, boundI, elemsOf, appendA, storeA, setRange, indexA, Nat.reduceBEq, Int.cast_ofNat_Int, reduceCtorEq, Nat.reduceAdd, Nat.reduceMul, Nat.reduceSub, evTy0, evTy1, evTy2, evTy3, evTy4, evTy5, h, hz, hg, h1, h2]
          refine hR ?_ _ rfl
          have : okB bad.data.toList b = false := by simp only [okB, decide_eq_false (show ¬ ((b.toNat : Int) ≤ 126) by omega), Bool.and_false, Bool.false_and]
          rw [this]; rfl
        · have hc := Lib.contains_iff_indexByte bad.data.toList b
          have h1' : 33 ≤ (b.toNat : Int) := by omega
          have h2' : (b.toNat : Int) ≤ 126 := by omega
          have hok : okB bad.data.toList b = !bad.data.toList.contains b := by simp only [okB, decide_eq_true h1', decide_eq_true h2', Bool.true_and]
          have hi := Index_ev k (by omega) bad (b.toNat : Int)
          rw [c8] at hi
          by_cases h3 : 0 ≤ Lib.indexByte bad.data.toList b
          · simp only [s109_0, ↓evPre, ev0, ev1, ev2, ev3, ev4, ev5, Nat.reduceLT, entE, getE, putE, ↓reduceIte, Nat.reduceEqDiff, argsE, Int.reduceEq, convertA, lenA, foldI, A.cells, A.leaf, List.replicate, viewA, getO, Nat.reduceLeDiff, loadA, cellsAt, cellsTo, faA, indexAddrA, asInt, Int.reduceLE, Int.reduceLT, Int.reduceToNat, eq_self, Nat.reducePow, Int.reducePow, Int.reduceAdd, Int.reduceMul, Int.reduceSub, Int.reduceNeg, keyOk, mapPutA, lookupA, mapOf, sliceA, boundI, elemsOf, appendA, storeA, setRange, indexA, Nat.reduceBEq, Int.cast_ofNat_Int, reduceCtorEq, Nat.reduceAdd, Nat.reduceMul, Nat.reduceSub, evTy0, evTy1, evTy2, evTy3, evTy4, evTy5, h, hz, hg, h1, h2, callR_data hi rfl rfl, h3]
            refine hR ?_ _ rfl
            rw [hok, hc, decide_eq_true h3]; rfl
          · simp only [s109_0, ↓evPre, ev0, ev1, ev2, ev3, ev4, ev5, Nat.reduceLT, entE, getE, putE, ↓reduceIte, Nat.reduceEqDiff, argsE, Int.reduceEq, convertA, lenA, foldI, A.cells, A.leaf, List.replicate, viewA, getO, Nat.reduceLeDiff, loadA, cellsAt, cellsTo, faA, indexAddrA, asInt, Int.reduceLE, Int.reduceLT, Int.reduceToNat, eq_self, Nat.reducePow, Int.reducePow, Int.reduceAdd, Int.reduceMul, Int.reduceSub, Int.reduceNeg, keyOk, mapPutA, lookupA, mapOf, sliceA, boundI, elemsOf, appendA, storeA, setRange, indexA, Nat.reduceBEq, Int.cast_ofNat_Int, reduceCtorEq, Nat.reduceAdd, Nat.reduceMul, Nat.reduceSub, evTy0, evTy1, evTy2, evTy3, evTy4, evTy5, h, hz, hg, h1, h2, hw, callR_data hi rfl rfl, h3]
            have hok' : okB bad.data.toList b = true := by rw [hok, hc, decide_eq_false h3]; rfl
            rw [hok'] at hR hX
            refine ih (z + 1) _ _ (fun K => by simp only [↓evPre, ev0, ev1, ev2, ev3, ev4, ev5, Nat.reduceLT, entE, getE, putE, ↓reduceIte, Nat.reduceEqDiff, argsE, Int.reduceEq, convertA, lenA, foldI, A.cells, A.leaf, List.replicate, viewA, getO, Nat.reduceLeDiff, loadA, cellsAt, cellsTo, faA, indexAddrA, asInt, Int.reduceLE, Int.reduceLT, Int.reduceToNat, eq_self, Nat.reducePow, Int.reducePow, Int.reduceAdd, Int.reduceMul, Int.reduceSub, Int.reduceNeg, keyOk, mapPutA, lookupA, mapOf, sliceA, boundI, elemsOf, appendA, storeA, setRange, indexA, Nat.reduceBEq, Int.cast_ofNat_Int, reduceCtorEq, Nat.reduceAdd, Nat.reduceMul, Nat.reduceSub, evTy0, evTy1, evTy2, evTy3, evTy4, evTy5]) (by omega) (by omega) (by omega) ?_ ?_
            · rw [hn]; simpa only [Bool.true_and] using hR
            · rw [hn]; simpa only [Bool.true_and] using hX
    · have hd : s.data.toList.drop z.toNat = [] := List.drop_eq_nil_of_le (by omega)
      rw [hd] at hX
      simp only [s109_0, ↓evPre, ev0, ev1, ev2, ev3, ev4, ev5, Nat.reduceLT, entE, getE, putE, ↓reduceIte, Nat.reduceEqDiff, argsE, Int.reduceEq, convertA, lenA, foldI, A.cells, A.leaf, List.replicate, viewA, getO, Nat.reduceLeDiff, loadA, cellsAt, cellsTo, faA, indexAddrA, asInt, Int.reduceLE, Int.reduceLT, Int.reduceToNat, eq_self, Nat.reducePow, Int.reducePow, Int.reduceAdd, Int.reduceMul, Int.reduceSub, Int.reduceNeg, keyOk, mapPutA, lookupA, mapOf, sliceA, boundI, elemsOf, appendA, storeA, setRange, indexA, Nat.reduceBEq, Int.cast_ofNat_Int, reduceCtorEq, Nat.reduceAdd, Nat.reduceMul, Nat.reduceSub, evTy0, evTy1, evTy2, evTy3, evTy4, evTy5, h]
      exact hX rfl _ rfl

theorem printable_ev (k : Nat) (s bad : ByteArray) (hk : s.size + 5 ≤ k) (hs : s.size ≤ 9223372036854775807) : callF Try.prog Hs E1 k 109 [.d (.str s), .d (.str bad)] [] = some (.d (.bool (textB bad.data.toList s)), []) := by
  obtain ⟨k, rfl⟩ : ∃ j, k = j + 1 := ⟨k - 1, by omega⟩
  refine evalE rfl Try.func109 l109 ?_ (Nat.le_of_ble_eq_true rfl)
  simp only [s109, n109, ↓evPre, ev0, ev1, ev2, ev3, ev4, ev5, Nat.reduceLT, entE, getE, putE, ↓reduceIte, Nat.reduceEqDiff, argsE, Int.reduceEq, convertA, lenA, foldI, A.cells, A.leaf, List.replicate, viewA, getO, Nat.reduceLeDiff, loadA, cellsAt, cellsTo, faA, indexAddrA, asInt, Int.reduceLE, Int.reduceLT, Int.reduceToNat, eq_self, Nat.reducePow, Int.reducePow, Int.reduceAdd, Int.reduceMul, Int.reduceSub, Int.reduceNeg, keyOk, mapPutA, lookupA, mapOf, sliceA, boundI, elemsOf, appendA, storeA, setRange, indexA, Nat.reduceBEq, Int.cast_ofNat_Int, reduceCtorEq, Nat.reduceAdd, Nat.reduceMul, Nat.reduceSub, evTy0, evTy1, evTy2, evTy3, evTy4, evTy5]
  refine printable_loop k (by omega) s bad hs _ _ k 0 _ _ (fun K => by simp only [↓evPre, ev0, ev1, ev2, ev3, ev4, ev5, Nat.reduceLT, entE, getE, putE, ↓reduceIte, Nat.reduceEqDiff, argsE, Int.reduceEq, convertA, lenA, foldI, A.cells, A.leaf, List.replicate, viewA, getO, Nat.reduceLeDiff, loadA, cellsAt, cellsTo, faA, indexAddrA, asInt, Int.reduceLE, Int.reduceLT, Int.reduceToNat, eq_self, Nat.reducePow, Int.reducePow, Int.reduceAdd, Int.reduceMul, Int.reduceSub, Int.reduceNeg, keyOk, mapPutA, lookupA, mapOf, sliceA, boundI, elemsOf, appendA, storeA, setRange, indexA, Nat.reduceBEq, Int.cast_ofNat_Int, reduceCtorEq, Nat.reduceAdd, Nat.reduceMul, Nat.reduceSub, evTy0, evTy1, evTy2, evTy3, evTy4, evTy5]) (by omega) (by omega) (by omega) (fun hm e g4 => ?_) (fun hm e g0 => ?_)
  · have hm' : s.data.toList.all (okB bad.data.toList) = false := hm
    simp only [↓evPre, ev0, ev1, ev2, ev3, ev4, ev5, Nat.reduceLT, entE, getE, putE, ↓reduceIte, Nat.reduceEqDiff, argsE, Int.reduceEq, convertA, lenA, foldI, A.cells, A.leaf, List.replicate, viewA, getO, Nat.reduceLeDiff, loadA, cellsAt, cellsTo, faA, indexAddrA, asInt, Int.reduceLE, Int.reduceLT, Int.reduceToNat, eq_self, Nat.reducePow, Int.reducePow, Int.reduceAdd, Int.reduceMul, Int.reduceSub, Int.reduceNeg, keyOk, mapPutA, lookupA, mapOf, sliceA, boundI, elemsOf, appendA, storeA, setRange, indexA, Nat.reduceBEq, Int.cast_ofNat_Int, reduceCtorEq, Nat.reduceAdd, Nat.reduceMul, Nat.reduceSub, evTy0, evTy1, evTy2, evTy3, evTy4, evTy5, s109, n109, g4, textB, hm']
  · have hm' : s.data.toList.all (okB bad.data.toList) = true := hm
    simp only [↓evPre, ev0, ev1, ev2, ev3, ev4, ev5, Nat.reduceLT, entE, getE, putE, ↓reduceIte, Nat.reduceEqDiff, argsE, Int.reduceEq, convertA, lenA, foldI, A.cells, A.leaf, List.replicate, viewA, getO, Nat.reduceLeDiff, loadA, cellsAt, cellsTo, faA, indexAddrA, asInt, Int.reduceLE, Int.reduceLT, Int.reduceToNat, eq_self, Nat.reducePow, Int.reducePow, Int.reduceAdd, Int.reduceMul, Int.reduceSub, Int.reduceNeg, keyOk, mapPutA, lookupA, mapOf, sliceA, boundI, elemsOf, appendA, storeA, setRange, indexA, Nat.reduceBEq, Int.cast_ofNat_Int, reduceCtorEq, Nat.reduceAdd, Nat.reduceMul, Nat.reduceSub, evTy0, evTy1, evTy2, evTy3, evTy4, evTy5, s109, n109, g0, textB, hm']

theorem str_empty (s : ByteArray) : (s.toList == (⟨#[]⟩ : ByteArray).toList) = decide ((s.size : Int) = 0) := by
  have h1 : s.toList = s.data.toList := ByteArray.toList_eq s
  have h2 : (⟨#[]⟩ : ByteArray).toList = [] := ByteArray.toList_eq _
  rw [h1, h2]
  have hs := size_list s
  cases hl : s.data.toList with
  | nil => rw [hl] at hs; have : s.size = 0 := by rw [← hs]; rfl
           rw [this]; rfl
  | cons b l => rw [hl] at hs; rw [decide_eq_false (by simp at hs; omega)]; rfl

def nameB (s : ByteArray) : Bool := !decide ((s.size : Int) = 0) && textB [46, 64] s
def instB (s : ByteArray) : Bool := textB [64] s
def realmB (s : ByteArray) : Bool := !decide ((s.size : Int) = 0) && textB [64] s

theorem Name_ev (k : Nat) (s : ByteArray) (hk : s.size + 6 ≤ k) (hs : s.size ≤ 9223372036854775807) : callF Try.prog Hs E1 k 95 [.d (.str s)] [] = some (.d (.bool (nameB s)), []) := by
  obtain ⟨k, rfl⟩ : ∃ j, k = j + 1 := ⟨k - 1, by omega⟩
  refine evalE rfl Try.func95 l95 ?_ (Nat.le_of_ble_eq_true rfl)
  by_cases h : (s.size : Int) = 0
  · simp only [s95, n95, ↓evPre, ev0, ev1, ev2, ev3, ev4, ev5, Nat.reduceLT, entE, getE, putE, ↓reduceIte, Nat.reduceEqDiff, argsE, Int.reduceEq, convertA, lenA, foldI, A.cells, A.leaf, List.replicate, viewA, getO, Nat.reduceLeDiff, loadA, cellsAt, cellsTo, faA, indexAddrA, asInt, Int.reduceLE, Int.reduceLT, Int.reduceToNat, eq_self, Nat.reducePow, Int.reducePow, Int.reduceAdd, Int.reduceMul, Int.reduceSub, Int.reduceNeg, keyOk, mapPutA, lookupA, mapOf, sliceA, boundI, elemsOf, appendA, storeA, setRange, indexA, Nat.reduceBEq, Int.cast_ofNat_Int, reduceCtorEq, Nat.reduceAdd, Nat.reduceMul, Nat.reduceSub, evTy0, evTy1, evTy2, evTy3, evTy4, evTy5, str_empty, nameB, h]
  · simp only [s95, n95, ↓evPre, ev0, ev1, ev2, ev3, ev4, ev5, Nat.reduceLT, entE, getE, putE, ↓reduceIte, Nat.reduceEqDiff, argsE, Int.reduceEq, convertA, lenA, foldI, A.cells, A.leaf, List.replicate, viewA, getO, Nat.reduceLeDiff, loadA, cellsAt, cellsTo, faA, indexAddrA, asInt, Int.reduceLE, Int.reduceLT, Int.reduceToNat, eq_self, Nat.reducePow, Int.reducePow, Int.reduceAdd, Int.reduceMul, Int.reduceSub, Int.reduceNeg, keyOk, mapPutA, lookupA, mapOf, sliceA, boundI, elemsOf, appendA, storeA, setRange, indexA, Nat.reduceBEq, Int.cast_ofNat_Int, reduceCtorEq, Nat.reduceAdd, Nat.reduceMul, Nat.reduceSub, evTy0, evTy1, evTy2, evTy3, evTy4, evTy5, str_empty, nameB, h, callR_data (printable_ev k s ⟨#[46, 64]⟩ (by omega) hs) rfl rfl]

theorem Inst_ev (k : Nat) (s : ByteArray) (hk : s.size + 6 ≤ k) (hs : s.size ≤ 9223372036854775807) : callF Try.prog Hs E1 k 96 [.d (.str s)] [] = some (.d (.bool (instB s)), []) := by
  obtain ⟨k, rfl⟩ : ∃ j, k = j + 1 := ⟨k - 1, by omega⟩
  refine evalE rfl Try.func96 l96 ?_ (Nat.le_of_ble_eq_true rfl)
  simp only [s96, n96, ↓evPre, ev0, ev1, ev2, ev3, ev4, ev5, Nat.reduceLT, entE, getE, putE, ↓reduceIte, Nat.reduceEqDiff, argsE, Int.reduceEq, convertA, lenA, foldI, A.cells, A.leaf, List.replicate, viewA, getO, Nat.reduceLeDiff, loadA, cellsAt, cellsTo, faA, indexAddrA, asInt, Int.reduceLE, Int.reduceLT, Int.reduceToNat, eq_self, Nat.reducePow, Int.reducePow, Int.reduceAdd, Int.reduceMul, Int.reduceSub, Int.reduceNeg, keyOk, mapPutA, lookupA, mapOf, sliceA, boundI, elemsOf, appendA, storeA, setRange, indexA, Nat.reduceBEq, Int.cast_ofNat_Int, reduceCtorEq, Nat.reduceAdd, Nat.reduceMul, Nat.reduceSub, evTy0, evTy1, evTy2, evTy3, evTy4, evTy5, instB, callR_data (printable_ev k s ⟨#[64]⟩ (by omega) hs) rfl rfl]

theorem Realm_ev (k : Nat) (s : ByteArray) (hk : s.size + 6 ≤ k) (hs : s.size ≤ 9223372036854775807) : callF Try.prog Hs E1 k 86 [.d (.str s)] [] = some (.d (.bool (realmB s)), []) := by
  obtain ⟨k, rfl⟩ : ∃ j, k = j + 1 := ⟨k - 1, by omega⟩
  refine evalE rfl Try.func86 l86 ?_ (Nat.le_of_ble_eq_true rfl)
  by_cases h : (s.size : Int) = 0
  · simp only [s86, n86, ↓evPre, ev0, ev1, ev2, ev3, ev4, ev5, Nat.reduceLT, entE, getE, putE, ↓reduceIte, Nat.reduceEqDiff, argsE, Int.reduceEq, convertA, lenA, foldI, A.cells, A.leaf, List.replicate, viewA, getO, Nat.reduceLeDiff, loadA, cellsAt, cellsTo, faA, indexAddrA, asInt, Int.reduceLE, Int.reduceLT, Int.reduceToNat, eq_self, Nat.reducePow, Int.reducePow, Int.reduceAdd, Int.reduceMul, Int.reduceSub, Int.reduceNeg, keyOk, mapPutA, lookupA, mapOf, sliceA, boundI, elemsOf, appendA, storeA, setRange, indexA, Nat.reduceBEq, Int.cast_ofNat_Int, reduceCtorEq, Nat.reduceAdd, Nat.reduceMul, Nat.reduceSub, evTy0, evTy1, evTy2, evTy3, evTy4, evTy5, str_empty, realmB, h]
  · simp only [s86, n86, ↓evPre, ev0, ev1, ev2, ev3, ev4, ev5, Nat.reduceLT, entE, getE, putE, ↓reduceIte, Nat.reduceEqDiff, argsE, Int.reduceEq, convertA, lenA, foldI, A.cells, A.leaf, List.replicate, viewA, getO, Nat.reduceLeDiff, loadA, cellsAt, cellsTo, faA, indexAddrA, asInt, Int.reduceLE, Int.reduceLT, Int.reduceToNat, eq_self, Nat.reducePow, Int.reducePow, Int.reduceAdd, Int.reduceMul, Int.reduceSub, Int.reduceNeg, keyOk, mapPutA, lookupA, mapOf, sliceA, boundI, elemsOf, appendA, storeA, setRange, indexA, Nat.reduceBEq, Int.cast_ofNat_Int, reduceCtorEq, Nat.reduceAdd, Nat.reduceMul, Nat.reduceSub, evTy0, evTy1, evTy2, evTy3, evTy4, evTy5, str_empty, realmB, h, callR_data (printable_ev k s ⟨#[64]⟩ (by omega) hs) rfl rfl]

/-- A principal's three texts. -/
structure Prin where
  name : ByteArray
  inst : ByteArray
  realm : ByteArray

def Prin.ok (p : Prin) (n : Nat) : Prop := p.name.size ≤ n ∧ p.inst.size ≤ n ∧ p.realm.size ≤ n
def Prin.cells (p : Prin) : List A := [.d (.str p.name), .d (.str p.inst), .d (.str p.realm)]
def validB (p : Prin) : Bool := nameB p.name && instB p.inst && realmB p.realm

theorem Valid_ev (k n : Nat) (p : Prin) (hk : n + 8 ≤ k) (hp : p.ok n) (hn : n ≤ 9223372036854775807) : callF Try.prog Hs E1 k 73 [.agg [.d (.str p.name), .d (.str p.inst), .d (.str p.realm)]] [] = some (.d (.bool (validB p)), []) := by
  obtain ⟨k, rfl⟩ : ∃ j, k = j + 1 := ⟨k - 1, by omega⟩
  refine evalE rfl Try.func73 l73 ?_ (Nat.le_of_ble_eq_true rfl)
  obtain ⟨h1, h2, h3⟩ := hp
  cases n1 : nameB p.name
  · simp only [s73, n73, ↓evPre, ev0, ev1, ev2, ev3, ev4, ev5, Nat.reduceLT, entE, getE, putE, ↓reduceIte, Nat.reduceEqDiff, argsE, Int.reduceEq, convertA, lenA, foldI, A.cells, A.leaf, List.replicate, viewA, getO, Nat.reduceLeDiff, loadA, cellsAt, cellsTo, faA, indexAddrA, asInt, Int.reduceLE, Int.reduceLT, Int.reduceToNat, eq_self, Nat.reducePow, Int.reducePow, Int.reduceAdd, Int.reduceMul, Int.reduceSub, Int.reduceNeg, keyOk, mapPutA, lookupA, mapOf, sliceA, boundI, elemsOf, appendA, storeA, setRange, indexA, Nat.reduceBEq, Int.cast_ofNat_Int, reduceCtorEq, Nat.reduceAdd, Nat.reduceMul, Nat.reduceSub, evTy0, evTy1, evTy2, evTy3, evTy4, evTy5, validB, n1, callR_data (Name_ev k p.name (by omega) (by omega)) rfl rfl]
  · cases n2 : instB p.inst
    · simp only [s73, n73, ↓evPre, ev0, ev1, ev2, ev3, ev4, ev5, Nat.reduceLT, entE, getE, putE, ↓reduceIte, Nat.reduceEqDiff, argsE, Int.reduceEq, convertA, lenA, foldI, A.cells, A.leaf, List.replicate, viewA, getO, Nat.reduceLeDiff, loadA, cellsAt, cellsTo, faA, indexAddrA, asInt, Int.reduceLE, Int.reduceLT, Int.reduceToNat, eq_self, Nat.reducePow, Int.reducePow, Int.reduceAdd, Int.reduceMul, Int.reduceSub, Int.reduceNeg, keyOk, mapPutA, lookupA, mapOf, sliceA, boundI, elemsOf, appendA, storeA, setRange, indexA, Nat.reduceBEq, Int.cast_ofNat_Int, reduceCtorEq, Nat.reduceAdd, Nat.reduceMul, Nat.reduceSub, evTy0, evTy1, evTy2, evTy3, evTy4, evTy5, validB, n1, n2, callR_data (Name_ev k p.name (by omega) (by omega)) rfl rfl, callR_data (Inst_ev k p.inst (by omega) (by omega)) rfl rfl]
    · simp only [s73, n73, ↓evPre, ev0, ev1, ev2, ev3, ev4, ev5, Nat.reduceLT, entE, getE, putE, ↓reduceIte, Nat.reduceEqDiff, argsE, Int.reduceEq, convertA, lenA, foldI, A.cells, A.leaf, List.replicate, viewA, getO, Nat.reduceLeDiff, loadA, cellsAt, cellsTo, faA, indexAddrA, asInt, Int.reduceLE, Int.reduceLT, Int.reduceToNat, eq_self, Nat.reducePow, Int.reducePow, Int.reduceAdd, Int.reduceMul, Int.reduceSub, Int.reduceNeg, keyOk, mapPutA, lookupA, mapOf, sliceA, boundI, elemsOf, appendA, storeA, setRange, indexA, Nat.reduceBEq, Int.cast_ofNat_Int, reduceCtorEq, Nat.reduceAdd, Nat.reduceMul, Nat.reduceSub, evTy0, evTy1, evTy2, evTy3, evTy4, evTy5, validB, n1, n2, callR_data (Name_ev k p.name (by omega) (by omega)) rfl rfl, callR_data (Inst_ev k p.inst (by omega) (by omega)) rfl rfl, callR_data (Realm_ev k p.realm (by omega) (by omega)) rfl rfl]
/-! ### The document's answer -/

theorem text_in (k : Nat) (s bad : ByteArray) (b : UInt8) (z : Int) (hz : 0 ≤ z) (hg : s.data.toList[z.toNat]? = some b) (hbad : bad.size ≤ 1000) (K : X → Env → Store → Res) (r : Res) :
    ∀ (j : Nat) (y : Int) (e : Env) (o : Store), (∀ K, headE 39 0 (some ([0, 1, 5, 6], 0)) e o K = K (.cons 0 (.d (.str s)) (.cons 1 (.d (.str bad)) (.cons 5 (.d (.int .i64 z)) (.cons 6 (.d (.int .i64 y)) (.nil .top))))) []) →
      0 ≤ y → y ≤ bad.size → bad.size - y < j →
      (b ∈ bad.data.toList.drop y.toNat → ∀ e o, getE e 4 = .d (.bool false) → K .ret e o = r) →
      (b ∉ bad.data.toList.drop y.toNat → ∀ e, getE e 0 = .d (.str s) → getE e 1 = .d (.str bad) → getE e 5 = .d (.int .i64 z) → K (.exit 2) e [] = r) →
      loopC Try.prog Hs (callF Try.prog Hs E1 k) 39 k 0 (some ([0, 1, 5, 6], 0)) s111_0 j e o K ⟨0⟩ = r := by
  generalize hS : s111_0 = S
  intro j
  induction j with
  | zero => intro y e o hh hy hy2 hj; omega
  | succ j ih =>
    intro y e o hh hy hy2 hj hR hX
    rw [l_succ2 hS, hh]
    have hsl := size_list bad
    by_cases h : y < bad.size
    · have hlt : y.toNat < bad.data.toList.length := by omega
      obtain ⟨c, hc⟩ : ∃ c, bad.data.toList[y.toNat]? = some c := ⟨_, List.getElem?_eq_getElem hlt⟩
      have hw := i64_in (y + 1) (by omega)
      have hn : (y + 1).toNat = y.toNat + 1 := by omega
      rw [dropU hc] at hR hX
      by_cases he : b = c
      · have he' : (b.toNat : Int) = (c.toNat : Int) := by rw [he]
        simp only [s111_0, ↓evPre, ev0, ev1, ev2, ev3, ev4, ev5, Nat.reduceLT, entE, getE, putE, ↓reduceIte, Nat.reduceEqDiff, argsE, Int.reduceEq, convertA, lenA, foldI, A.cells, A.leaf, List.replicate, viewA, getO, Nat.reduceLeDiff, loadA, cellsAt, cellsTo, faA, indexAddrA, asInt, Int.reduceLE, Int.reduceLT, Int.reduceToNat, eq_self, Nat.reducePow, Int.reducePow, Int.reduceAdd, Int.reduceMul, Int.reduceSub, Int.reduceNeg, keyOk, mapPutA, lookupA, mapOf, sliceA, boundI, elemsOf, appendA, storeA, setRange, indexA, Nat.reduceBEq, Int.cast_ofNat_Int, reduceCtorEq, Nat.reduceAdd, Nat.reduceMul, Nat.reduceSub, evTy0, evTy1, evTy2, evTy3, evTy4, evTy5, h, hz, hy, hg, hc, he']
        refine hR (List.mem_cons.2 (.inl he)) _ _ ?_
        rfl
      · have he' : ¬ (b.toNat : Int) = (c.toNat : Int) := fun h => he (UInt8.toNat_inj.1 (by omega))
        simp only [s111_0, ↓evPre, ev0, ev1, ev2, ev3, ev4, ev5, Nat.reduceLT, entE, getE, putE, ↓reduceIte, Nat.reduceEqDiff, argsE, Int.reduceEq, convertA, lenA, foldI, A.cells, A.leaf, List.replicate, viewA, getO, Nat.reduceLeDiff, loadA, cellsAt, cellsTo, faA, indexAddrA, asInt, Int.reduceLE, Int.reduceLT, Int.reduceToNat, eq_self, Nat.reducePow, Int.reducePow, Int.reduceAdd, Int.reduceMul, Int.reduceSub, Int.reduceNeg, keyOk, mapPutA, lookupA, mapOf, sliceA, boundI, elemsOf, appendA, storeA, setRange, indexA, Nat.reduceBEq, Int.cast_ofNat_Int, reduceCtorEq, Nat.reduceAdd, Nat.reduceMul, Nat.reduceSub, evTy0, evTy1, evTy2, evTy3, evTy4, evTy5, h, hz, hy, hg, hc, hw, he']
        refine ih (y + 1) _ _ (fun K => by simp only [↓evPre, ev0, ev1, ev2, ev3, ev4, ev5, Nat.reduceLT, entE, getE, putE, ↓reduceIte, Nat.reduceEqDiff, argsE, Int.reduceEq, convertA, lenA, foldI, A.cells, A.leaf, List.replicate, viewA, getO, Nat.reduceLeDiff, loadA, cellsAt, cellsTo, faA, indexAddrA, asInt, Int.reduceLE, Int.reduceLT, Int.reduceToNat, eq_self, Nat.reducePow, Int.reducePow, Int.reduceAdd, Int.reduceMul, Int.reduceSub, Int.reduceNeg, keyOk, mapPutA, lookupA, mapOf, sliceA, boundI, elemsOf, appendA, storeA, setRange, indexA, Nat.reduceBEq, Int.cast_ofNat_Int, reduceCtorEq, Nat.reduceAdd, Nat.reduceMul, Nat.reduceSub, evTy0, evTy1, evTy2, evTy3, evTy4, evTy5]) (by omega) (by omega) (by omega) ?_ ?_
        · rw [hn]; intro hm; exact hR (List.mem_cons_of_mem _ hm)
        · rw [hn]; intro hm; exact hX fun h => (List.mem_cons.1 h).elim he hm
    · have hd : bad.data.toList.drop y.toNat = [] := List.drop_eq_nil_of_le (by omega)
      simp only [s111_0, ↓evPre, ev0, ev1, ev2, ev3, ev4, ev5, Nat.reduceLT, entE, getE, putE, ↓reduceIte, Nat.reduceEqDiff, argsE, Int.reduceEq, convertA, lenA, foldI, A.cells, A.leaf, List.replicate, viewA, getO, Nat.reduceLeDiff, loadA, cellsAt, cellsTo, faA, indexAddrA, asInt, Int.reduceLE, Int.reduceLT, Int.reduceToNat, eq_self, Nat.reducePow, Int.reducePow, Int.reduceAdd, Int.reduceMul, Int.reduceSub, Int.reduceNeg, keyOk, mapPutA, lookupA, mapOf, sliceA, boundI, elemsOf, appendA, storeA, setRange, indexA, Nat.reduceBEq, Int.cast_ofNat_Int, reduceCtorEq, Nat.reduceAdd, Nat.reduceMul, Nat.reduceSub, evTy0, evTy1, evTy2, evTy3, evTy4, evTy5, h]
      exact hX (by rw [hd]; simp) _ rfl rfl rfl

theorem text_out (k : Nat) (s bad : ByteArray) (hk : bad.size + 3 ≤ k) (hs : s.size ≤ 9223372036854775807) (hbad : bad.size ≤ 1000) (K : X → Env → Store → Res) (r : Res) :
    ∀ (j : Nat) (z : Int) (e : Env) (o : Store), (∀ K, headE 39 0 (some ([0, 1, 5], 0)) e o K = K (.cons 0 (.d (.str s)) (.cons 1 (.d (.str bad)) (.cons 5 (.d (.int .i64 z)) (.nil .top)))) []) →
      0 ≤ z → z ≤ s.size → s.size - z < j →
      ((s.data.toList.drop z.toNat).all (okB bad.data.toList) = false → ∀ e o, getE e 4 = .d (.bool false) → K .ret e o = r) →
      ((s.data.toList.drop z.toNat).all (okB bad.data.toList) = true → ∀ e, getE e 0 = .d (.str s) → K (.exit 0) e [] = r) →
      loopC Try.prog Hs (callF Try.prog Hs E1 k) 39 k 0 (some ([0, 1, 5], 0)) s111_1 j e o K ⟨0⟩ = r := by
  generalize hS : s111_1 = S
  intro j
  induction j with
  | zero => intro z e o hh hz hz2 hj; omega
  | succ j ih =>
    intro z e o hh hz hz2 hj hR hX
    rw [l_succ2 hS, hh]
    have hsl := size_list s
    by_cases h : z < s.size
    · have hlt : z.toNat < s.data.toList.length := by omega
      obtain ⟨b, hg⟩ : ∃ b, s.data.toList[z.toNat]? = some b := ⟨_, List.getElem?_eq_getElem hlt⟩
      have hw := i64_in (z + 1) (by omega)
      have hn : (z + 1).toNat = z.toNat + 1 := by omega
      rw [dropU hg] at hR hX
      simp only [List.all_cons] at hR hX
      by_cases h1 : (b.toNat : Int) < 33
      · simp only [s111_1, ↓evPre, ev0, ev1, ev2, ev3, ev4, ev5, Nat.reduceLT, entE, getE, putE, ↓reduceIte, Nat.reduceEqDiff, argsE, Int.reduceEq, convertA, lenA, foldI, A.cells, A.leaf, List.replicate, viewA, getO, Nat.reduceLeDiff, loadA, cellsAt, cellsTo, faA, indexAddrA, asInt, Int.reduceLE, Int.reduceLT, Int.reduceToNat, eq_self, Nat.reducePow, Int.reducePow, Int.reduceAdd, Int.reduceMul, Int.reduceSub, Int.reduceNeg, keyOk, mapPutA, lookupA, mapOf, sliceA, boundI, elemsOf, appendA, storeA, setRange, indexA, Nat.reduceBEq, Int.cast_ofNat_Int, reduceCtorEq, Nat.reduceAdd, Nat.reduceMul, Nat.reduceSub, evTy0, evTy1, evTy2, evTy3, evTy4, evTy5, h, hz, hg, h1]
        refine hR ?_ _ _ rfl
        have : okB bad.data.toList b = false := by simp only [okB, decide_eq_false (show ¬ (33 ≤ (b.toNat : Int)) by omega), Bool.false_and]
        rw [this]; rfl
      · by_cases h2 : 126 < (b.toNat : Int)
        · simp only [s111_1, ↓evPre, ev0, ev1, ev2, ev3, ev4, ev5, Nat.reduceLT, entE, getE, putE, ↓reduceIte, Nat.reduceEqDiff, argsE, Int.reduceEq, convertA, lenA, foldI, A.cells, A.leaf, List.replicate, viewA, getO, Nat.reduceLeDiff, loadA, cellsAt, cellsTo, faA, indexAddrA, asInt, Int.reduceLE, Int.reduceLT, Int.reduceToNat, eq_self, Nat.reducePow, Int.reducePow, Int.reduceAdd, Int.reduceMul, Int.reduceSub, Int.reduceNeg, keyOk, mapPutA, lookupA, mapOf, sliceA, boundI, elemsOf, appendA, storeA, setRange, indexA, Nat.reduceBEq, Int.cast_ofNat_Int, reduceCtorEq, Nat.reduceAdd, Nat.reduceMul, Nat.reduceSub, evTy0, evTy1, evTy2, evTy3, evTy4, evTy5, h, hz, hg, h1, h2]
          refine hR ?_ _ _ rfl
          have : okB bad.data.toList b = false := by simp only [okB, decide_eq_false (show ¬ ((b.toNat : Int) ≤ 126) by omega), Bool.and_false, Bool.false_and]
          rw [this]; rfl
        · have h1' : 33 ≤ (b.toNat : Int) := by omega
          have h2' : (b.toNat : Int) ≤ 126 := by omega
          have hok : okB bad.data.toList b = !bad.data.toList.contains b := by simp only [okB, decide_eq_true h1', decide_eq_true h2', Bool.true_and]
          simp only [s111_1, ↓evPre, ev0, ev1, ev2, ev3, ev4, ev5, Nat.reduceLT, entE, getE, putE, ↓reduceIte, Nat.reduceEqDiff, argsE, Int.reduceEq, convertA, lenA, foldI, A.cells, A.leaf, List.replicate, viewA, getO, Nat.reduceLeDiff, loadA, cellsAt, cellsTo, faA, indexAddrA, asInt, Int.reduceLE, Int.reduceLT, Int.reduceToNat, eq_self, Nat.reducePow, Int.reducePow, Int.reduceAdd, Int.reduceMul, Int.reduceSub, Int.reduceNeg, keyOk, mapPutA, lookupA, mapOf, sliceA, boundI, elemsOf, appendA, storeA, setRange, indexA, Nat.reduceBEq, Int.cast_ofNat_Int, reduceCtorEq, Nat.reduceAdd, Nat.reduceMul, Nat.reduceSub, evTy0, evTy1, evTy2, evTy3, evTy4, evTy5, h, hz, hg, h1, h2]
          refine text_in k s bad b z hz hg hbad _ _ k 0 _ _ (fun K => by simp only [↓evPre, ev0, ev1, ev2, ev3, ev4, ev5, Nat.reduceLT, entE, getE, putE, ↓reduceIte, Nat.reduceEqDiff, argsE, Int.reduceEq, convertA, lenA, foldI, A.cells, A.leaf, List.replicate, viewA, getO, Nat.reduceLeDiff, loadA, cellsAt, cellsTo, faA, indexAddrA, asInt, Int.reduceLE, Int.reduceLT, Int.reduceToNat, eq_self, Nat.reducePow, Int.reducePow, Int.reduceAdd, Int.reduceMul, Int.reduceSub, Int.reduceNeg, keyOk, mapPutA, lookupA, mapOf, sliceA, boundI, elemsOf, appendA, storeA, setRange, indexA, Nat.reduceBEq, Int.cast_ofNat_Int, reduceCtorEq, Nat.reduceAdd, Nat.reduceMul, Nat.reduceSub, evTy0, evTy1, evTy2, evTy3, evTy4, evTy5]) (by omega) (by omega) (by omega) (fun hm e o g4 => ?_) (fun hm e g0 g1 g5 => ?_)
          · have hm' : b ∈ bad.data.toList := hm
            simp only [↓evPre, ev0, ev1, ev2, ev3, ev4, ev5, Nat.reduceLT, entE, getE, putE, ↓reduceIte, Nat.reduceEqDiff, argsE, Int.reduceEq, convertA, lenA, foldI, A.cells, A.leaf, List.replicate, viewA, getO, Nat.reduceLeDiff, loadA, cellsAt, cellsTo, faA, indexAddrA, asInt, Int.reduceLE, Int.reduceLT, Int.reduceToNat, eq_self, Nat.reducePow, Int.reducePow, Int.reduceAdd, Int.reduceMul, Int.reduceSub, Int.reduceNeg, keyOk, mapPutA, lookupA, mapOf, sliceA, boundI, elemsOf, appendA, storeA, setRange, indexA, Nat.reduceBEq, Int.cast_ofNat_Int, reduceCtorEq, Nat.reduceAdd, Nat.reduceMul, Nat.reduceSub, evTy0, evTy1, evTy2, evTy3, evTy4, evTy5]
            refine hR ?_ _ _ g4
            rw [hok, List.contains_iff_mem.2 hm']; rfl
          · have hm' : b ∉ bad.data.toList := hm
            have hok' : okB bad.data.toList b = true := by rw [hok]; simp [hm']
            rw [hok'] at hR hX
            simp only [↓evPre, ev0, ev1, ev2, ev3, ev4, ev5, Nat.reduceLT, entE, getE, putE, ↓reduceIte, Nat.reduceEqDiff, argsE, Int.reduceEq, convertA, lenA, foldI, A.cells, A.leaf, List.replicate, viewA, getO, Nat.reduceLeDiff, loadA, cellsAt, cellsTo, faA, indexAddrA, asInt, Int.reduceLE, Int.reduceLT, Int.reduceToNat, eq_self, Nat.reducePow, Int.reducePow, Int.reduceAdd, Int.reduceMul, Int.reduceSub, Int.reduceNeg, keyOk, mapPutA, lookupA, mapOf, sliceA, boundI, elemsOf, appendA, storeA, setRange, indexA, Nat.reduceBEq, Int.cast_ofNat_Int, reduceCtorEq, Nat.reduceAdd, Nat.reduceMul, Nat.reduceSub, evTy0, evTy1, evTy2, evTy3, evTy4, evTy5, g0, g1, g5, hw]
            refine ih (z + 1) _ _ (fun K => by simp only [↓evPre, ev0, ev1, ev2, ev3, ev4, ev5, Nat.reduceLT, entE, getE, putE, ↓reduceIte, Nat.reduceEqDiff, argsE, Int.reduceEq, convertA, lenA, foldI, A.cells, A.leaf, List.replicate, viewA, getO, Nat.reduceLeDiff, loadA, cellsAt, cellsTo, faA, indexAddrA, asInt, Int.reduceLE, Int.reduceLT, Int.reduceToNat, eq_self, Nat.reducePow, Int.reducePow, Int.reduceAdd, Int.reduceMul, Int.reduceSub, Int.reduceNeg, keyOk, mapPutA, lookupA, mapOf, sliceA, boundI, elemsOf, appendA, storeA, setRange, indexA, Nat.reduceBEq, Int.cast_ofNat_Int, reduceCtorEq, Nat.reduceAdd, Nat.reduceMul, Nat.reduceSub, evTy0, evTy1, evTy2, evTy3, evTy4, evTy5, g0, g1, g5]) (by omega) (by omega) (by omega) ?_ ?_
            · rw [hn]; simpa only [Bool.true_and] using hR
            · rw [hn]; simpa only [Bool.true_and] using hX
    · have hd : s.data.toList.drop z.toNat = [] := List.drop_eq_nil_of_le (by omega)
      rw [hd] at hX
      simp only [s111_1, ↓evPre, ev0, ev1, ev2, ev3, ev4, ev5, Nat.reduceLT, entE, getE, putE, ↓reduceIte, Nat.reduceEqDiff, argsE, Int.reduceEq, convertA, lenA, foldI, A.cells, A.leaf, List.replicate, viewA, getO, Nat.reduceLeDiff, loadA, cellsAt, cellsTo, faA, indexAddrA, asInt, Int.reduceLE, Int.reduceLT, Int.reduceToNat, eq_self, Nat.reducePow, Int.reducePow, Int.reduceAdd, Int.reduceMul, Int.reduceSub, Int.reduceNeg, keyOk, mapPutA, lookupA, mapOf, sliceA, boundI, elemsOf, appendA, storeA, setRange, indexA, Nat.reduceBEq, Int.cast_ofNat_Int, reduceCtorEq, Nat.reduceAdd, Nat.reduceMul, Nat.reduceSub, evTy0, evTy1, evTy2, evTy3, evTy4, evTy5, h]
      exact hX rfl _ rfl

theorem text_ev (k : Nat) (s bad : ByteArray) (hk : s.size + bad.size + 5 ≤ k) (hs : s.size ≤ 9223372036854775807) (hbad : bad.size ≤ 1000) : callF Try.prog Hs E1 k 111 [.d (.str s), .d (.str bad)] [] = some (.d (.bool (textB bad.data.toList s)), []) := by
  obtain ⟨k, rfl⟩ : ∃ j, k = j + 1 := ⟨k - 1, by omega⟩
  refine evalE rfl Try.func111 l111 ?_ (Nat.le_of_ble_eq_true rfl)
  simp only [s111, n111, ↓evPre, ev0, ev1, ev2, ev3, ev4, ev5, Nat.reduceLT, entE, getE, putE, ↓reduceIte, Nat.reduceEqDiff, argsE, Int.reduceEq, convertA, lenA, foldI, A.cells, A.leaf, List.replicate, viewA, getO, Nat.reduceLeDiff, loadA, cellsAt, cellsTo, faA, indexAddrA, asInt, Int.reduceLE, Int.reduceLT, Int.reduceToNat, eq_self, Nat.reducePow, Int.reducePow, Int.reduceAdd, Int.reduceMul, Int.reduceSub, Int.reduceNeg, keyOk, mapPutA, lookupA, mapOf, sliceA, boundI, elemsOf, appendA, storeA, setRange, indexA, Nat.reduceBEq, Int.cast_ofNat_Int, reduceCtorEq, Nat.reduceAdd, Nat.reduceMul, Nat.reduceSub, evTy0, evTy1, evTy2, evTy3, evTy4, evTy5]
  refine text_out k s bad (by omega) hs hbad _ _ k 0 _ _ (fun K => by simp only [↓evPre, ev0, ev1, ev2, ev3, ev4, ev5, Nat.reduceLT, entE, getE, putE, ↓reduceIte, Nat.reduceEqDiff, argsE, Int.reduceEq, convertA, lenA, foldI, A.cells, A.leaf, List.replicate, viewA, getO, Nat.reduceLeDiff, loadA, cellsAt, cellsTo, faA, indexAddrA, asInt, Int.reduceLE, Int.reduceLT, Int.reduceToNat, eq_self, Nat.reducePow, Int.reducePow, Int.reduceAdd, Int.reduceMul, Int.reduceSub, Int.reduceNeg, keyOk, mapPutA, lookupA, mapOf, sliceA, boundI, elemsOf, appendA, storeA, setRange, indexA, Nat.reduceBEq, Int.cast_ofNat_Int, reduceCtorEq, Nat.reduceAdd, Nat.reduceMul, Nat.reduceSub, evTy0, evTy1, evTy2, evTy3, evTy4, evTy5]) (by omega) (by omega) (by omega) (fun hm e o g4 => ?_) (fun hm e g0 => ?_)
  · have hm' : s.data.toList.all (okB bad.data.toList) = false := hm
    simp only [↓evPre, ev0, ev1, ev2, ev3, ev4, ev5, Nat.reduceLT, entE, getE, putE, ↓reduceIte, Nat.reduceEqDiff, argsE, Int.reduceEq, convertA, lenA, foldI, A.cells, A.leaf, List.replicate, viewA, getO, Nat.reduceLeDiff, loadA, cellsAt, cellsTo, faA, indexAddrA, asInt, Int.reduceLE, Int.reduceLT, Int.reduceToNat, eq_self, Nat.reducePow, Int.reducePow, Int.reduceAdd, Int.reduceMul, Int.reduceSub, Int.reduceNeg, keyOk, mapPutA, lookupA, mapOf, sliceA, boundI, elemsOf, appendA, storeA, setRange, indexA, Nat.reduceBEq, Int.cast_ofNat_Int, reduceCtorEq, Nat.reduceAdd, Nat.reduceMul, Nat.reduceSub, evTy0, evTy1, evTy2, evTy3, evTy4, evTy5, s111, n111, g4, textB, hm']
  · have hm' : s.data.toList.all (okB bad.data.toList) = true := hm
    simp only [↓evPre, ev0, ev1, ev2, ev3, ev4, ev5, Nat.reduceLT, entE, getE, putE, ↓reduceIte, Nat.reduceEqDiff, argsE, Int.reduceEq, convertA, lenA, foldI, A.cells, A.leaf, List.replicate, viewA, getO, Nat.reduceLeDiff, loadA, cellsAt, cellsTo, faA, indexAddrA, asInt, Int.reduceLE, Int.reduceLT, Int.reduceToNat, eq_self, Nat.reducePow, Int.reducePow, Int.reduceAdd, Int.reduceMul, Int.reduceSub, Int.reduceNeg, keyOk, mapPutA, lookupA, mapOf, sliceA, boundI, elemsOf, appendA, storeA, setRange, indexA, Nat.reduceBEq, Int.cast_ofNat_Int, reduceCtorEq, Nat.reduceAdd, Nat.reduceMul, Nat.reduceSub, evTy0, evTy1, evTy2, evTy3, evTy4, evTy5, s111, n111, g0, textB, hm']

theorem refName_ev (k : Nat) (s : ByteArray) (hk : s.size + 9 ≤ k) (hs : s.size ≤ 9223372036854775807) : callF Try.prog Hs E1 k 98 [.d (.str s)] [] = some (.d (.bool (nameB s)), []) := by
  obtain ⟨k, rfl⟩ : ∃ j, k = j + 1 := ⟨k - 1, by omega⟩
  refine evalE rfl Try.func98 l98 ?_ (Nat.le_of_ble_eq_true rfl)
  have h2 : (⟨#[46, 64]⟩ : ByteArray).size = 2 := rfl
  by_cases h : (s.size : Int) = 0
  · have h' : ¬ 0 < (s.size : Int) := by omega
    simp only [s98, n98, ↓evPre, ev0, ev1, ev2, ev3, ev4, ev5, Nat.reduceLT, entE, getE, putE, ↓reduceIte, Nat.reduceEqDiff, argsE, Int.reduceEq, convertA, lenA, foldI, A.cells, A.leaf, List.replicate, viewA, getO, Nat.reduceLeDiff, loadA, cellsAt, cellsTo, faA, indexAddrA, asInt, Int.reduceLE, Int.reduceLT, Int.reduceToNat, eq_self, Nat.reducePow, Int.reducePow, Int.reduceAdd, Int.reduceMul, Int.reduceSub, Int.reduceNeg, keyOk, mapPutA, lookupA, mapOf, sliceA, boundI, elemsOf, appendA, storeA, setRange, indexA, Nat.reduceBEq, Int.cast_ofNat_Int, reduceCtorEq, Nat.reduceAdd, Nat.reduceMul, Nat.reduceSub, evTy0, evTy1, evTy2, evTy3, evTy4, evTy5, nameB, h, h']
  · have h' : 0 < (s.size : Int) := by omega
    simp only [s98, n98, ↓evPre, ev0, ev1, ev2, ev3, ev4, ev5, Nat.reduceLT, entE, getE, putE, ↓reduceIte, Nat.reduceEqDiff, argsE, Int.reduceEq, convertA, lenA, foldI, A.cells, A.leaf, List.replicate, viewA, getO, Nat.reduceLeDiff, loadA, cellsAt, cellsTo, faA, indexAddrA, asInt, Int.reduceLE, Int.reduceLT, Int.reduceToNat, eq_self, Nat.reducePow, Int.reducePow, Int.reduceAdd, Int.reduceMul, Int.reduceSub, Int.reduceNeg, keyOk, mapPutA, lookupA, mapOf, sliceA, boundI, elemsOf, appendA, storeA, setRange, indexA, Nat.reduceBEq, Int.cast_ofNat_Int, reduceCtorEq, Nat.reduceAdd, Nat.reduceMul, Nat.reduceSub, evTy0, evTy1, evTy2, evTy3, evTy4, evTy5, nameB, h, h', callR_data (text_ev k s ⟨#[46, 64]⟩ (by omega) hs (by omega)) rfl rfl]

theorem refInst_ev (k : Nat) (s : ByteArray) (hk : s.size + 9 ≤ k) (hs : s.size ≤ 9223372036854775807) : callF Try.prog Hs E1 k 99 [.d (.str s)] [] = some (.d (.bool (instB s)), []) := by
  obtain ⟨k, rfl⟩ : ∃ j, k = j + 1 := ⟨k - 1, by omega⟩
  refine evalE rfl Try.func99 l99 ?_ (Nat.le_of_ble_eq_true rfl)
  have h2 : (⟨#[64]⟩ : ByteArray).size = 1 := rfl
  simp only [s99, n99, ↓evPre, ev0, ev1, ev2, ev3, ev4, ev5, Nat.reduceLT, entE, getE, putE, ↓reduceIte, Nat.reduceEqDiff, argsE, Int.reduceEq, convertA, lenA, foldI, A.cells, A.leaf, List.replicate, viewA, getO, Nat.reduceLeDiff, loadA, cellsAt, cellsTo, faA, indexAddrA, asInt, Int.reduceLE, Int.reduceLT, Int.reduceToNat, eq_self, Nat.reducePow, Int.reducePow, Int.reduceAdd, Int.reduceMul, Int.reduceSub, Int.reduceNeg, keyOk, mapPutA, lookupA, mapOf, sliceA, boundI, elemsOf, appendA, storeA, setRange, indexA, Nat.reduceBEq, Int.cast_ofNat_Int, reduceCtorEq, Nat.reduceAdd, Nat.reduceMul, Nat.reduceSub, evTy0, evTy1, evTy2, evTy3, evTy4, evTy5, instB, callR_data (text_ev k s ⟨#[64]⟩ (by omega) hs (by omega)) rfl rfl]

theorem refRealm_ev (k : Nat) (s : ByteArray) (hk : s.size + 9 ≤ k) (hs : s.size ≤ 9223372036854775807) : callF Try.prog Hs E1 k 90 [.d (.str s)] [] = some (.d (.bool (realmB s)), []) := by
  obtain ⟨k, rfl⟩ : ∃ j, k = j + 1 := ⟨k - 1, by omega⟩
  refine evalE rfl Try.func90 l90 ?_ (Nat.le_of_ble_eq_true rfl)
  have h2 : (⟨#[64]⟩ : ByteArray).size = 1 := rfl
  by_cases h : (s.size : Int) = 0
  · have h' : ¬ 0 < (s.size : Int) := by omega
    simp only [s90, n90, ↓evPre, ev0, ev1, ev2, ev3, ev4, ev5, Nat.reduceLT, entE, getE, putE, ↓reduceIte, Nat.reduceEqDiff, argsE, Int.reduceEq, convertA, lenA, foldI, A.cells, A.leaf, List.replicate, viewA, getO, Nat.reduceLeDiff, loadA, cellsAt, cellsTo, faA, indexAddrA, asInt, Int.reduceLE, Int.reduceLT, Int.reduceToNat, eq_self, Nat.reducePow, Int.reducePow, Int.reduceAdd, Int.reduceMul, Int.reduceSub, Int.reduceNeg, keyOk, mapPutA, lookupA, mapOf, sliceA, boundI, elemsOf, appendA, storeA, setRange, indexA, Nat.reduceBEq, Int.cast_ofNat_Int, reduceCtorEq, Nat.reduceAdd, Nat.reduceMul, Nat.reduceSub, evTy0, evTy1, evTy2, evTy3, evTy4, evTy5, realmB, h, h']
  · have h' : 0 < (s.size : Int) := by omega
    simp only [s90, n90, ↓evPre, ev0, ev1, ev2, ev3, ev4, ev5, Nat.reduceLT, entE, getE, putE, ↓reduceIte, Nat.reduceEqDiff, argsE, Int.reduceEq, convertA, lenA, foldI, A.cells, A.leaf, List.replicate, viewA, getO, Nat.reduceLeDiff, loadA, cellsAt, cellsTo, faA, indexAddrA, asInt, Int.reduceLE, Int.reduceLT, Int.reduceToNat, eq_self, Nat.reducePow, Int.reducePow, Int.reduceAdd, Int.reduceMul, Int.reduceSub, Int.reduceNeg, keyOk, mapPutA, lookupA, mapOf, sliceA, boundI, elemsOf, appendA, storeA, setRange, indexA, Nat.reduceBEq, Int.cast_ofNat_Int, reduceCtorEq, Nat.reduceAdd, Nat.reduceMul, Nat.reduceSub, evTy0, evTy1, evTy2, evTy3, evTy4, evTy5, realmB, h, h', callR_data (text_ev k s ⟨#[64]⟩ (by omega) hs (by omega)) rfl rfl]

theorem refValid_ev (k n : Nat) (p : Prin) (hk : n + 11 ≤ k) (hp : p.ok n) (hn : n ≤ 9223372036854775807) : callF Try.prog Hs E1 k 76 [.agg [.d (.str p.name), .d (.str p.inst), .d (.str p.realm)]] [] = some (.d (.bool (validB p)), []) := by
  obtain ⟨k, rfl⟩ : ∃ j, k = j + 1 := ⟨k - 1, by omega⟩
  refine evalE rfl Try.func76 l76 ?_ (Nat.le_of_ble_eq_true rfl)
  obtain ⟨h1, h2, h3⟩ := hp
  cases n1 : nameB p.name
  · simp only [s76, n76, ↓evPre, ev0, ev1, ev2, ev3, ev4, ev5, Nat.reduceLT, entE, getE, putE, ↓reduceIte, Nat.reduceEqDiff, argsE, Int.reduceEq, convertA, lenA, foldI, A.cells, A.leaf, List.replicate, viewA, getO, Nat.reduceLeDiff, loadA, cellsAt, cellsTo, faA, indexAddrA, asInt, Int.reduceLE, Int.reduceLT, Int.reduceToNat, eq_self, Nat.reducePow, Int.reducePow, Int.reduceAdd, Int.reduceMul, Int.reduceSub, Int.reduceNeg, keyOk, mapPutA, lookupA, mapOf, sliceA, boundI, elemsOf, appendA, storeA, setRange, indexA, Nat.reduceBEq, Int.cast_ofNat_Int, reduceCtorEq, Nat.reduceAdd, Nat.reduceMul, Nat.reduceSub, evTy0, evTy1, evTy2, evTy3, evTy4, evTy5, validB, n1, callR_data (refName_ev k p.name (by omega) (by omega)) rfl rfl]
  · cases n2 : instB p.inst
    · simp only [s76, n76, ↓evPre, ev0, ev1, ev2, ev3, ev4, ev5, Nat.reduceLT, entE, getE, putE, ↓reduceIte, Nat.reduceEqDiff, argsE, Int.reduceEq, convertA, lenA, foldI, A.cells, A.leaf, List.replicate, viewA, getO, Nat.reduceLeDiff, loadA, cellsAt, cellsTo, faA, indexAddrA, asInt, Int.reduceLE, Int.reduceLT, Int.reduceToNat, eq_self, Nat.reducePow, Int.reducePow, Int.reduceAdd, Int.reduceMul, Int.reduceSub, Int.reduceNeg, keyOk, mapPutA, lookupA, mapOf, sliceA, boundI, elemsOf, appendA, storeA, setRange, indexA, Nat.reduceBEq, Int.cast_ofNat_Int, reduceCtorEq, Nat.reduceAdd, Nat.reduceMul, Nat.reduceSub, evTy0, evTy1, evTy2, evTy3, evTy4, evTy5, validB, n1, n2, callR_data (refName_ev k p.name (by omega) (by omega)) rfl rfl, callR_data (refInst_ev k p.inst (by omega) (by omega)) rfl rfl]
    · simp only [s76, n76, ↓evPre, ev0, ev1, ev2, ev3, ev4, ev5, Nat.reduceLT, entE, getE, putE, ↓reduceIte, Nat.reduceEqDiff, argsE, Int.reduceEq, convertA, lenA, foldI, A.cells, A.leaf, List.replicate, viewA, getO, Nat.reduceLeDiff, loadA, cellsAt, cellsTo, faA, indexAddrA, asInt, Int.reduceLE, Int.reduceLT, Int.reduceToNat, eq_self, Nat.reducePow, Int.reducePow, Int.reduceAdd, Int.reduceMul, Int.reduceSub, Int.reduceNeg, keyOk, mapPutA, lookupA, mapOf, sliceA, boundI, elemsOf, appendA, storeA, setRange, indexA, Nat.reduceBEq, Int.cast_ofNat_Int, reduceCtorEq, Nat.reduceAdd, Nat.reduceMul, Nat.reduceSub, evTy0, evTy1, evTy2, evTy3, evTy4, evTy5, validB, n1, n2, callR_data (refName_ev k p.name (by omega) (by omega)) rfl rfl, callR_data (refInst_ev k p.inst (by omega) (by omega)) rfl rfl, callR_data (refRealm_ev k p.realm (by omega) (by omega)) rfl rfl]
end Pr
end Ab
