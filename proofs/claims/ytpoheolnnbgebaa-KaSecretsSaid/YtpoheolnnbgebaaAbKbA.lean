/- A part of the proof of a row by an interpreter that is proved sound; no conditions of its own. -/
import Derived.Test.YtpoheolnnbgebaaAbExC
namespace Ab
open Go Go.Proofs Go.IntWalk
set_option maxRecDepth 10000
set_option linter.unusedSimpArgs false
set_option linter.unusedVariables false
namespace Pr

theorem IndexL_ev (k : Nat) (hk : 1 ≤ k) (s : ByteArray) (c : Int) : callF Try.prog Hs E1 k 118 [.d (.str s), .d (.int .u8 c)] [] = some (.d (.int .i64 (Lib.indexByte s.data.toList c.toNat.toUInt8)), []) := by
  obtain ⟨k, rfl⟩ : ∃ j, k = j + 1 := ⟨k - 1, by omega⟩
  unfold callF
  rfl

theorem Index_ev (k : Nat) (hk : 2 ≤ k) (s : ByteArray) (c : Int) : callF Try.prog Hs E1 k 114 [.d (.str s), .d (.int .u8 c)] [] = some (.d (.int .i64 (Lib.indexByte s.data.toList c.toNat.toUInt8)), []) := by
  obtain ⟨k, rfl⟩ : ∃ j, k = j + 1 := ⟨k - 1, by omega⟩
  refine evalE rfl Try.func114 l114 ?_ (Nat.le_of_ble_eq_true rfl)
  simp only [s114, n114, ↓evPre, ev0, ev1, ev2, ev3, ev4, ev5, Nat.reduceLT, entE, getE, putE, ↓reduceIte, Nat.reduceEqDiff, argsE, Int.reduceEq, convertA, lenA, foldI, A.cells, A.leaf, List.replicate, viewA, getO, Nat.reduceLeDiff, loadA, cellsAt, cellsTo, faA, indexAddrA, asInt, Int.reduceLE, Int.reduceLT, Int.reduceToNat, eq_self, Nat.reducePow, Int.reducePow, Int.reduceAdd, Int.reduceMul, Int.reduceSub, Int.reduceNeg, keyOk, mapPutA, lookupA, mapOf, sliceA, boundI, elemsOf, appendA, storeA, setRange, indexA, Nat.reduceBEq, Int.cast_ofNat_Int, reduceCtorEq, Nat.reduceAdd, Nat.reduceMul, Nat.reduceSub, evTy0, evTy1, evTy2, evTy3, evTy4, evTy5, evTy6, evTy7, evTy8, callR_data (IndexL_ev k (by omega) s c) rfl rfl]

theorem c8 (b : UInt8) : (b.toNat : Int).toNat.toUInt8 = b := by
  rw [Int.toNat_natCast]; exact UInt8.ofNat_toNat

def okB (bad : List UInt8) (b : UInt8) : Bool := decide (33 ≤ (b.toNat : Int)) && decide ((b.toNat : Int) ≤ 126) && !bad.contains b

/-- May this be a part of a name? -/
def textB (bad : List UInt8) (s : ByteArray) : Bool := s.data.toList.all (okB bad) && decide ((s.size : Int) ≤ 39)

theorem dropU {α : Type} {l : List α} {i : Nat} {b : α} (h : l[i]? = some b) : l.drop i = b :: l.drop (i + 1) := by
  have hl := (List.getElem?_eq_some_iff.1 h)
  obtain ⟨h1, h2⟩ := hl
  rw [List.drop_eq_getElem_cons h1, h2]

theorem size_list (s : ByteArray) : s.data.toList.length = s.size := Array.length_toList

theorem printable_loop (k : Nat) (hk : 3 ≤ k) (s bad : ByteArray) (hs : s.size ≤ 9223372036854775807) (K : X → Env → Store → Res) (r : Res) :
    ∀ (j : Nat) (z : Int) (e : Env) (o : Store), (∀ K, headE 33 0 (some ([0, 1, 7, 8], 0)) e o K = K (.cons 0 (.d (.str s)) (.cons 1 (.d (.str bad)) (.cons 7 (.d (.int .i64 s.size)) (.cons 8 (.d (.int .i64 z)) (.nil .top))))) []) →
      0 ≤ z → z ≤ s.size → s.size - z < j →
      ((s.data.toList.drop z.toNat).all (okB bad.data.toList) = false → ∀ e, getE e 4 = .d (.bool false) → K .ret e [] = r) →
      ((s.data.toList.drop z.toNat).all (okB bad.data.toList) = true → ∀ e, getE e 0 = .d (.str s) → K (.exit 0) e [] = r) →
      loopC Try.prog Hs (callF Try.prog Hs E1 k) 33 k 0 (some ([0, 1, 7, 8], 0)) s104_0 j e o K ⟨0⟩ = r := by
  generalize hS : s104_0 = S
  intro j
  induction j with
  | zero => intro z e o hh hz hz2 hj; omega
  | succ j ih =>
    intro z e o hh hz hz2 hj hR hX
    rw [l_succ2 hS, hh]
    have hsl := size_list s
    by_cases h : z < s.size
    · have hlt : z.toNat < s.data.toList.length := by omega
      obtain ⟨b, hg⟩ : ∃ b, s.data.toList[z.toNat]? = some b := ⟨_, List.getElem?_eq_getElem hlt⟩
      have hw := i64_in (z + 1) (by omega)
      have hn : (z + 1).toNat = z.toNat + 1 := by omega
      rw [dropU hg] at hR hX
      simp only [List.all_cons] at hR hX
      by_cases h1 : (b.toNat : Int) < 33
      · simp only [s104_0, ↓evPre, ev0, ev1, ev2, ev3, ev4, ev5, Nat.reduceLT, entE, getE, putE, ↓reduceIte, Nat.reduceEqDiff, argsE, Int.reduceEq, convertA, lenA, foldI, A.cells, A.leaf, List.replicate, viewA, getO, Nat.reduceLeDiff, loadA, cellsAt, cellsTo, faA, indexAddrA, asInt, Int.reduceLE, Int.reduceLT, Int.reduceToNat, eq_self, Nat.reducePow, Int.reducePow, Int.reduceAdd, Int.reduceMul, Int.reduceSub, Int.reduceNeg, keyOk, mapPutA, lookupA, mapOf, sliceA, boundI, elemsOf, appendA, storeA, setRange, indexA, Nat.reduceBEq, Int.cast_ofNat_Int, reduceCtorEq, Nat.reduceAdd, Nat.reduceMul, Nat.reduceSub, evTy0, evTy1, evTy2, evTy3, evTy4, evTy5, evTy6, evTy7, evTy8, h, hz, hg, h1]
        refine hR ?_ _ rfl
        have : okB bad.data.toList b = false := by simp only [okB, decide_eq_false (show ¬ (33 ≤ (b.toNat : Int)) by omega), Bool.false_and]
        rw [this]; rfl
      · by_cases h2 : 126 < (b.toNat : Int)
        · simp only [s104_0, ↓evPre, ev0, ev1, ev2, ev3, ev4, ev5, Nat.reduceLT, entE, getE, putE, ↓reduceIte, Nat.reduceEqDiff, argsE, Int.reduceEq, convertA, lenA, foldI, A.cells, A.leaf, List.replicate, viewA, getO, Nat.reduceLeDiff, loadA, cellsAt, cellsTo, faA, indexAddrA, asInt, Int.reduceLE, Int.reduceLT, Int.reduceToNat, eq_self, Nat.reducePow, Int.reducePow, Int.reduceAdd, Int.reduceMul, Int.reduceSub, Int.reduceNeg, keyOk, mapPutA, lookupA, mapOf, sliceA, boundI, elemsOf, appendA, storeA, setRange, indexA, Nat.reduceBEq, Int.cast_ofNat_Int, reduceCtorEq, Nat.reduceAdd, Nat.reduceMul, Nat.reduceSub, evTy0, evTy1, evTy2, evTy3, evTy4, evTy5, evTy6, evTy7, evTy8, h, hz, hg, h1, h2]
          refine hR ?_ _ rfl
          have : okB bad.data.toList b = false := by simp only [okB, decide_eq_false (show ¬ ((b.toNat : Int) ≤ 126) by omega), Bool.and_false, Bool.false_and]
          rw [this]; rfl
        · have hc := Lib.contains_iff_indexByte bad.data.toList b
          have h1' : 33 ≤ (b.toNat : Int) := by omega
          have h2' : (b.toNat : Int) ≤ 126 := by omega
          have hok : okB bad.data.toList b = !bad.data.toList.contains b := by simp only [okB, decide_eq_true h1', decide_eq_true h2', Bool.true_and]
          have hi := Index_ev k (by omega) bad (b.toNat : Int)
          rw [c8] at hi
          by_cases h3 : 0 ≤ Lib.indexByte bad.data.toList b
          · simp only [s104_0, ↓evPre, ev0, ev1, ev2, ev3, ev4, ev5, Nat.reduceLT, entE, getE, putE, ↓reduceIte, Nat.reduceEqDiff, argsE, Int.reduceEq, convertA, lenA, foldI, A.cells, A.leaf, List.replicate, viewA, getO, Nat.reduceLeDiff, loadA, cellsAt, cellsTo, faA, indexAddrA, asInt, Int.reduceLE, Int.reduceLT, Int.reduceToNat, eq_self, Nat.reducePow, Int.reducePow, Int.reduceAdd, Int.reduceMul, Int.reduceSub, Int.reduceNeg, keyOk, mapPutA, lookupA, mapOf, sliceA, boundI, elemsOf, appendA, storeA, setRange, indexA, Nat.reduceBEq, Int.cast_ofNat_Int, reduceCtorEq, Nat.reduceAdd, Nat.reduceMul, Nat.reduceSub, evTy0, evTy1, evTy2, evTy3, evTy4, evTy5, evTy6, evTy7, evTy8, h, hz, hg, h1, h2, callR_data hi rfl rfl, h3]
            refine hR ?_ _ rfl
            rw [hok, hc, decide_eq_true h3]; rfl
          · simp only [s104_0, ↓evPre, ev0, ev1, ev2, ev3, ev4, ev5, Nat.reduceLT, entE, getE, putE, ↓reduceIte, Nat.reduceEqDiff, argsE, Int.reduceEq, convertA, lenA, foldI, A.cells, A.leaf, List.replicate, viewA, getO, Nat.reduceLeDiff, loadA, cellsAt, cellsTo, faA, indexAddrA, asInt, Int.reduceLE, Int.reduceLT, Int.reduceToNat, eq_self, Nat.reducePow, Int.reducePow, Int.reduceAdd, Int.reduceMul, Int.reduceSub, Int.reduceNeg, keyOk, mapPutA, lookupA, mapOf, sliceA, boundI, elemsOf, appendA, storeA, setRange, indexA, Nat.reduceBEq, Int.cast_ofNat_Int, reduceCtorEq, Nat.reduceAdd, Nat.reduceMul, Nat.reduceSub, evTy0, evTy1, evTy2, evTy3, evTy4, evTy5, evTy6, evTy7, evTy8, h, hz, hg, h1, h2, hw, callR_data hi rfl rfl, h3]
            have hok' : okB bad.data.toList b = true := by rw [hok, hc, decide_eq_false h3]; rfl
            rw [hok'] at hR hX
            refine ih (z + 1) _ _ (fun K => by simp only [↓evPre, ev0, ev1, ev2, ev3, ev4, ev5, Nat.reduceLT, entE, getE, putE, ↓reduceIte, Nat.reduceEqDiff, argsE, Int.reduceEq, convertA, lenA, foldI, A.cells, A.leaf, List.replicate, viewA, getO, Nat.reduceLeDiff, loadA, cellsAt, cellsTo, faA, indexAddrA, asInt, Int.reduceLE, Int.reduceLT, Int.reduceToNat, eq_self, Nat.reducePow, Int.reducePow, Int.reduceAdd, Int.reduceMul, Int.reduceSub, Int.reduceNeg, keyOk, mapPutA, lookupA, mapOf, sliceA, boundI, elemsOf, appendA, storeA, setRange, indexA, Nat.reduceBEq, Int.cast_ofNat_Int, reduceCtorEq, Nat.reduceAdd, Nat.reduceMul, Nat.reduceSub, evTy0, evTy1, evTy2, evTy3, evTy4, evTy5, evTy6, evTy7, evTy8]) (by omega) (by omega) (by omega) ?_ ?_
            · rw [hn]; simpa only [Bool.true_and] using hR
            · rw [hn]; simpa only [Bool.true_and] using hX
    · have hd : s.data.toList.drop z.toNat = [] := List.drop_eq_nil_of_le (by omega)
      rw [hd] at hX
      simp only [s104_0, ↓evPre, ev0, ev1, ev2, ev3, ev4, ev5, Nat.reduceLT, entE, getE, putE, ↓reduceIte, Nat.reduceEqDiff, argsE, Int.reduceEq, convertA, lenA, foldI, A.cells, A.leaf, List.replicate, viewA, getO, Nat.reduceLeDiff, loadA, cellsAt, cellsTo, faA, indexAddrA, asInt, Int.reduceLE, Int.reduceLT, Int.reduceToNat, eq_self, Nat.reducePow, Int.reducePow, Int.reduceAdd, Int.reduceMul, Int.reduceSub, Int.reduceNeg, keyOk, mapPutA, lookupA, mapOf, sliceA, boundI, elemsOf, appendA, storeA, setRange, indexA, Nat.reduceBEq, Int.cast_ofNat_Int, reduceCtorEq, Nat.reduceAdd, Nat.reduceMul, Nat.reduceSub, evTy0, evTy1, evTy2, evTy3, evTy4, evTy5, evTy6, evTy7, evTy8, h]
      exact hX rfl _ rfl

theorem printable_ev (k : Nat) (s bad : ByteArray) (hk : s.size + 5 ≤ k) (hs : s.size ≤ 9223372036854775807) : callF Try.prog Hs E1 k 104 [.d (.str s), .d (.str bad)] [] = some (.d (.bool (textB bad.data.toList s)), []) := by
  obtain ⟨k, rfl⟩ : ∃ j, k = j + 1 := ⟨k - 1, by omega⟩
  refine evalE rfl Try.func104 l104 ?_ (Nat.le_of_ble_eq_true rfl)
  simp only [s104, n104, ↓evPre, ev0, ev1, ev2, ev3, ev4, ev5, Nat.reduceLT, entE, getE, putE, ↓reduceIte, Nat.reduceEqDiff, argsE, Int.reduceEq, convertA, lenA, foldI, A.cells, A.leaf, List.replicate, viewA, getO, Nat.reduceLeDiff, loadA, cellsAt, cellsTo, faA, indexAddrA, asInt, Int.reduceLE, Int.reduceLT, Int.reduceToNat, eq_self, Nat.reducePow, Int.reducePow, Int.reduceAdd, Int.reduceMul, Int.reduceSub, Int.reduceNeg, keyOk, mapPutA, lookupA, mapOf, sliceA, boundI, elemsOf, appendA, storeA, setRange, indexA, Nat.reduceBEq, Int.cast_ofNat_Int, reduceCtorEq, Nat.reduceAdd, Nat.reduceMul, Nat.reduceSub, evTy0, evTy1, evTy2, evTy3, evTy4, evTy5, evTy6, evTy7, evTy8]
  refine printable_loop k (by omega) s bad hs _ _ k 0 _ _ (fun K => by simp only [↓evPre, ev0, ev1, ev2, ev3, ev4, ev5, Nat.reduceLT, entE, getE, putE, ↓reduceIte, Nat.reduceEqDiff, argsE, Int.reduceEq, convertA, lenA, foldI, A.cells, A.leaf, List.replicate, viewA, getO, Nat.reduceLeDiff, loadA, cellsAt, cellsTo, faA, indexAddrA, asInt, Int.reduceLE, Int.reduceLT, Int.reduceToNat, eq_self, Nat.reducePow, Int.reducePow, Int.reduceAdd, Int.reduceMul, Int.reduceSub, Int.reduceNeg, keyOk, mapPutA, lookupA, mapOf, sliceA, boundI, elemsOf, appendA, storeA, setRange, indexA, Nat.reduceBEq, Int.cast_ofNat_Int, reduceCtorEq, Nat.reduceAdd, Nat.reduceMul, Nat.reduceSub, evTy0, evTy1, evTy2, evTy3, evTy4, evTy5, evTy6, evTy7, evTy8]) (by omega) (by omega) (by omega) (fun hm e g4 => ?_) (fun hm e g0 => ?_)
  · have hm' : s.data.toList.all (okB bad.data.toList) = false := hm
    simp only [↓evPre, ev0, ev1, ev2, ev3, ev4, ev5, Nat.reduceLT, entE, getE, putE, ↓reduceIte, Nat.reduceEqDiff, argsE, Int.reduceEq, convertA, lenA, foldI, A.cells, A.leaf, List.replicate, viewA, getO, Nat.reduceLeDiff, loadA, cellsAt, cellsTo, faA, indexAddrA, asInt, Int.reduceLE, Int.reduceLT, Int.reduceToNat, eq_self, Nat.reducePow, Int.reducePow, Int.reduceAdd, Int.reduceMul, Int.reduceSub, Int.reduceNeg, keyOk, mapPutA, lookupA, mapOf, sliceA, boundI, elemsOf, appendA, storeA, setRange, indexA, Nat.reduceBEq, Int.cast_ofNat_Int, reduceCtorEq, Nat.reduceAdd, Nat.reduceMul, Nat.reduceSub, evTy0, evTy1, evTy2, evTy3, evTy4, evTy5, evTy6, evTy7, evTy8, s104, n104, g4, textB, hm']
  · have hm' : s.data.toList.all (okB bad.data.toList) = true := hm
    simp only [↓evPre, ev0, ev1, ev2, ev3, ev4, ev5, Nat.reduceLT, entE, getE, putE, ↓reduceIte, Nat.reduceEqDiff, argsE, Int.reduceEq, convertA, lenA, foldI, A.cells, A.leaf, List.replicate, viewA, getO, Nat.reduceLeDiff, loadA, cellsAt, cellsTo, faA, indexAddrA, asInt, Int.reduceLE, Int.reduceLT, Int.reduceToNat, eq_self, Nat.reducePow, Int.reducePow, Int.reduceAdd, Int.reduceMul, Int.reduceSub, Int.reduceNeg, keyOk, mapPutA, lookupA, mapOf, sliceA, boundI, elemsOf, appendA, storeA, setRange, indexA, Nat.reduceBEq, Int.cast_ofNat_Int, reduceCtorEq, Nat.reduceAdd, Nat.reduceMul, Nat.reduceSub, evTy0, evTy1, evTy2, evTy3, evTy4, evTy5, evTy6, evTy7, evTy8, s104, n104, g0, textB, hm']

theorem str_empty (s : ByteArray) : (s.toList == (⟨#[]⟩ : ByteArray).toList) = decide ((s.size : Int) = 0) := by
  have h1 : s.toList = s.data.toList := ByteArray.toList_eq s
  have h2 : (⟨#[]⟩ : ByteArray).toList = [] := ByteArray.toList_eq _
  rw [h1, h2]
  have hs := size_list s
  cases hl : s.data.toList with
  | nil => rw [hl] at hs; have : s.size = 0 := by rw [← hs]; rfl
           rw [this]; rfl
  | cons b l => rw [hl] at hs; rw [decide_eq_false (by simp at hs; omega)]; rfl

def nameB (s : ByteArray) : Bool := !decide ((s.size : Int) = 0) && textB [46, 64] s
def instB (s : ByteArray) : Bool := textB [64] s
def realmB (s : ByteArray) : Bool := !decide ((s.size : Int) = 0) && textB [64] s

theorem Name_ev (k : Nat) (s : ByteArray) (hk : s.size + 6 ≤ k) (hs : s.size ≤ 9223372036854775807) : callF Try.prog Hs E1 k 71 [.d (.str s)] [] = some (.d (.bool (nameB s)), []) := by
  obtain ⟨k, rfl⟩ : ∃ j, k = j + 1 := ⟨k - 1, by omega⟩
  refine evalE rfl Try.func71 l71 ?_ (Nat.le_of_ble_eq_true rfl)
  by_cases h : (s.size : Int) = 0
  · simp only [s71, n71, ↓evPre, ev0, ev1, ev2, ev3, ev4, ev5, Nat.reduceLT, entE, getE, putE, ↓reduceIte, Nat.reduceEqDiff, argsE, Int.reduceEq, convertA, lenA, foldI, A.cells, A.leaf, List.replicate, viewA, getO, Nat.reduceLeDiff, loadA, cellsAt, cellsTo, faA, indexAddrA, asInt, Int.reduceLE, Int.reduceLT, Int.reduceToNat, eq_self, Nat.reducePow, Int.reducePow, Int.reduceAdd, Int.reduceMul, Int.reduceSub, Int.reduceNeg, keyOk, mapPutA, lookupA, mapOf, sliceA, boundI, elemsOf, appendA, storeA, setRange, indexA, Nat.reduceBEq, Int.cast_ofNat_Int, reduceCtorEq, Nat.reduceAdd, Nat.reduceMul, Nat.reduceSub, evTy0, evTy1, evTy2, evTy3, evTy4, evTy5, evTy6, evTy7, evTy8, str_empty, nameB, h]
  · simp only [s71, n71, ↓evPre, ev0, ev1, ev2, ev3, ev4, ev5, Nat.reduceLT, entE, getE, putE, ↓reduceIte, Nat.reduceEqDiff, argsE, Int.reduceEq, convertA, lenA, foldI, A.cells, A.leaf, List.replicate, viewA, getO, Nat.reduceLeDiff, loadA, cellsAt, cellsTo, faA, indexAddrA, asInt, Int.reduceLE, Int.reduceLT, Int.reduceToNat, eq_self, Nat.reducePow, Int.reducePow, Int.reduceAdd, Int.reduceMul, Int.reduceSub, Int.reduceNeg, keyOk, mapPutA, lookupA, mapOf, sliceA, boundI, elemsOf, appendA, storeA, setRange, indexA, Nat.reduceBEq, Int.cast_ofNat_Int, reduceCtorEq, Nat.reduceAdd, Nat.reduceMul, Nat.reduceSub, evTy0, evTy1, evTy2, evTy3, evTy4, evTy5, evTy6, evTy7, evTy8, str_empty, nameB, h, callR_data (printable_ev k s ⟨#[46, 64]⟩ (by omega) hs) rfl rfl]

theorem Inst_ev (k : Nat) (s : ByteArray) (hk : s.size + 6 ≤ k) (hs : s.size ≤ 9223372036854775807) : callF Try.prog Hs E1 k 72 [.d (.str s)] [] = some (.d (.bool (instB s)), []) := by
  obtain ⟨k, rfl⟩ : ∃ j, k = j + 1 := ⟨k - 1, by omega⟩
  refine evalE rfl Try.func72 l72 ?_ (Nat.le_of_ble_eq_true rfl)
  simp only [s72, n72, ↓evPre, ev0, ev1, ev2, ev3, ev4, ev5, Nat.reduceLT, entE, getE, putE, ↓reduceIte, Nat.reduceEqDiff, argsE, Int.reduceEq, convertA, lenA, foldI, A.cells, A.leaf, List.replicate, viewA, getO, Nat.reduceLeDiff, loadA, cellsAt, cellsTo, faA, indexAddrA, asInt, Int.reduceLE, Int.reduceLT, Int.reduceToNat, eq_self, Nat.reducePow, Int.reducePow, Int.reduceAdd, Int.reduceMul, Int.reduceSub, Int.reduceNeg, keyOk, mapPutA, lookupA, mapOf, sliceA, boundI, elemsOf, appendA, storeA, setRange, indexA, Nat.reduceBEq, Int.cast_ofNat_Int, reduceCtorEq, Nat.reduceAdd, Nat.reduceMul, Nat.reduceSub, evTy0, evTy1, evTy2, evTy3, evTy4, evTy5, evTy6, evTy7, evTy8, instB, callR_data (printable_ev k s ⟨#[64]⟩ (by omega) hs) rfl rfl]

theorem Realm_ev (k : Nat) (s : ByteArray) (hk : s.size + 6 ≤ k) (hs : s.size ≤ 9223372036854775807) : callF Try.prog Hs E1 k 70 [.d (.str s)] [] = some (.d (.bool (realmB s)), []) := by
  obtain ⟨k, rfl⟩ : ∃ j, k = j + 1 := ⟨k - 1, by omega⟩
  refine evalE rfl Try.func70 l70 ?_ (Nat.le_of_ble_eq_true rfl)
  by_cases h : (s.size : Int) = 0
  · simp only [s70, n70, ↓evPre, ev0, ev1, ev2, ev3, ev4, ev5, Nat.reduceLT, entE, getE, putE, ↓reduceIte, Nat.reduceEqDiff, argsE, Int.reduceEq, convertA, lenA, foldI, A.cells, A.leaf, List.replicate, viewA, getO, Nat.reduceLeDiff, loadA, cellsAt, cellsTo, faA, indexAddrA, asInt, Int.reduceLE, Int.reduceLT, Int.reduceToNat, eq_self, Nat.reducePow, Int.reducePow, Int.reduceAdd, Int.reduceMul, Int.reduceSub, Int.reduceNeg, keyOk, mapPutA, lookupA, mapOf, sliceA, boundI, elemsOf, appendA, storeA, setRange, indexA, Nat.reduceBEq, Int.cast_ofNat_Int, reduceCtorEq, Nat.reduceAdd, Nat.reduceMul, Nat.reduceSub, evTy0, evTy1, evTy2, evTy3, evTy4, evTy5, evTy6, evTy7, evTy8, str_empty, realmB, h]
  · simp only [s70, n70, ↓evPre, ev0, ev1, ev2, ev3, ev4, ev5, Nat.reduceLT, entE, getE, putE, ↓reduceIte, Nat.reduceEqDiff, argsE, Int.reduceEq, convertA, lenA, foldI, A.cells, A.leaf, List.replicate, viewA, getO, Nat.reduceLeDiff, loadA, cellsAt, cellsTo, faA, indexAddrA, asInt, Int.reduceLE, Int.reduceLT, Int.reduceToNat, eq_self, Nat.reducePow, Int.reducePow, Int.reduceAdd, Int.reduceMul, Int.reduceSub, Int.reduceNeg, keyOk, mapPutA, lookupA, mapOf, sliceA, boundI, elemsOf, appendA, storeA, setRange, indexA, Nat.reduceBEq, Int.cast_ofNat_Int, reduceCtorEq, Nat.reduceAdd, Nat.reduceMul, Nat.reduceSub, evTy0, evTy1, evTy2, evTy3, evTy4, evTy5, evTy6, evTy7, evTy8, str_empty, realmB, h, callR_data (printable_ev k s ⟨#[64]⟩ (by omega) hs) rfl rfl]

/-- A principal's three texts. -/
structure Prin where
  name : ByteArray
  inst : ByteArray
  realm : ByteArray

def Prin.ok (p : Prin) (n : Nat) : Prop := p.name.size ≤ n ∧ p.inst.size ≤ n ∧ p.realm.size ≤ n
def Prin.cells (p : Prin) : List A := [.d (.str p.name), .d (.str p.inst), .d (.str p.realm)]
def validB (p : Prin) : Bool := nameB p.name && instB p.inst && realmB p.realm

theorem Valid_ev (k n : Nat) (p : Prin) (hk : n + 8 ≤ k) (hp : p.ok n) (hn : n ≤ 9223372036854775807) : callF Try.prog Hs E1 k 57 [.agg [.d (.str p.name), .d (.str p.inst), .d (.str p.realm)]] [] = some (.d (.bool (validB p)), []) := by
  obtain ⟨k, rfl⟩ : ∃ j, k = j + 1 := ⟨k - 1, by omega⟩
  refine evalE rfl Try.func57 l57 ?_ (Nat.le_of_ble_eq_true rfl)
  obtain ⟨h1, h2, h3⟩ := hp
  cases n1 : nameB p.name
  · simp only [s57, n57, ↓evPre, ev0, ev1, ev2, ev3, ev4, ev5, Nat.reduceLT, entE, getE, putE, ↓reduceIte, Nat.reduceEqDiff, argsE, Int.reduceEq, convertA, lenA, foldI, A.cells, A.leaf, List.replicate, viewA, getO, Nat.reduceLeDiff, loadA, cellsAt, cellsTo, faA, indexAddrA, asInt, Int.reduceLE, Int.reduceLT, Int.reduceToNat, eq_self, Nat.reducePow, Int.reducePow, Int.reduceAdd, Int.reduceMul, Int.reduceSub, Int.reduceNeg, keyOk, mapPutA, lookupA, mapOf, sliceA, boundI, elemsOf, appendA, storeA, setRange, indexA, Nat.reduceBEq, Int.cast_ofNat_Int, reduceCtorEq, Nat.reduceAdd, Nat.reduceMul, Nat.reduceSub, evTy0, evTy1, evTy2, evTy3, evTy4, evTy5, evTy6, evTy7, evTy8, validB, n1, callR_data (Name_ev k p.name (by omega) (by omega)) rfl rfl]
  · cases n2 : instB p.inst
    · simp only [s57, n57, ↓evPre, ev0, ev1, ev2, ev3, ev4, ev5, Nat.reduceLT, entE, getE, putE, ↓reduceIte, Nat.reduceEqDiff, argsE, Int.reduceEq, convertA, lenA, foldI, A.cells, A.leaf, List.replicate, viewA, getO, Nat.reduceLeDiff, loadA, cellsAt, cellsTo, faA, indexAddrA, asInt, Int.reduceLE, Int.reduceLT, Int.reduceToNat, eq_self, Nat.reducePow, Int.reducePow, Int.reduceAdd, Int.reduceMul, Int.reduceSub, Int.reduceNeg, keyOk, mapPutA, lookupA, mapOf, sliceA, boundI, elemsOf, appendA, storeA, setRange, indexA, Nat.reduceBEq, Int.cast_ofNat_Int, reduceCtorEq, Nat.reduceAdd, Nat.reduceMul, Nat.reduceSub, evTy0, evTy1, evTy2, evTy3, evTy4, evTy5, evTy6, evTy7, evTy8, validB, n1, n2, callR_data (Name_ev k p.name (by omega) (by omega)) rfl rfl, callR_data (Inst_ev k p.inst (by omega) (by omega)) rfl rfl]
    · simp only [s57, n57, ↓evPre, ev0, ev1, ev2, ev3, ev4, ev5, Nat.reduceLT, entE, getE, putE, ↓reduceIte, Nat.reduceEqDiff, argsE, Int.reduceEq, convertA, lenA, foldI, A.cells, A.leaf, List.replicate, viewA, getO, Nat.reduceLeDiff, loadA, cellsAt, cellsTo, faA, indexAddrA, asInt, Int.reduceLE, Int.reduceLT, Int.reduceToNat, eq_self, Nat.reducePow, Int.reducePow, Int.reduceAdd, Int.reduceMul, Int.reduceSub, Int.reduceNeg, keyOk, mapPutA, lookupA, mapOf, sliceA, boundI, elemsOf, appendA, storeA, setRange, indexA, Nat.reduceBEq, Int.cast_ofNat_Int, reduceCtorEq, Nat.reduceAdd, Nat.reduceMul, Nat.reduceSub, evTy0, evTy1, evTy2, evTy3, evTy4, evTy5, evTy6, evTy7, evTy8, validB, n1, n2, callR_data (Name_ev k p.name (by omega) (by omega)) rfl rfl, callR_data (Inst_ev k p.inst (by omega) (by omega)) rfl rfl, callR_data (Realm_ev k p.realm (by omega) (by omega)) rfl rfl]
/-! ### The document's answer -/

theorem text_in (k : Nat) (s bad : ByteArray) (b : UInt8) (z : Int) (hz : 0 ≤ z) (hg : s.data.toList[z.toNat]? = some b) (hbad : bad.size ≤ 1000) (K : X → Env → Store → Res) (r : Res) :
    ∀ (j : Nat) (y : Int) (e : Env) (o : Store), (∀ K, headE 39 0 (some ([0, 1, 5, 6], 0)) e o K = K (.cons 0 (.d (.str s)) (.cons 1 (.d (.str bad)) (.cons 5 (.d (.int .i64 z)) (.cons 6 (.d (.int .i64 y)) (.nil .top))))) []) →
      0 ≤ y → y ≤ bad.size → bad.size - y < j →
      (b ∈ bad.data.toList.drop y.toNat → ∀ e o, getE e 4 = .d (.bool false) → K .ret e o = r) →
      (b ∉ bad.data.toList.drop y.toNat → ∀ e, getE e 0 = .d (.str s) → getE e 1 = .d (.str bad) → getE e 5 = .d (.int .i64 z) → K (.exit 2) e [] = r) →
      loopC Try.prog Hs (callF Try.prog Hs E1 k) 39 k 0 (some ([0, 1, 5, 6], 0)) s77_0 j e o K ⟨0⟩ = r := by
  generalize hS : s77_0 = S
  intro j
  induction j with
  | zero => intro y e o hh hy hy2 hj; omega
  | succ j ih =>
    intro y e o hh hy hy2 hj hR hX
    rw [l_succ2 hS, hh]
    have hsl := size_list bad
    by_cases h : y < bad.size
    · have hlt : y.toNat < bad.data.toList.length := by omega
      obtain ⟨c, hc⟩ : ∃ c, bad.data.toList[y.toNat]? = some c := ⟨_, List.getElem?_eq_getElem hlt⟩
      have hw := i64_in (y + 1) (by omega)
      have hn : (y + 1).toNat = y.toNat + 1 := by omega
      rw [dropU hc] at hR hX
      by_cases he : b = c
      · have he' : (b.toNat : Int) = (c.toNat : Int) := by rw [he]
        simp only [s77_0, ↓evPre, ev0, ev1, ev2, ev3, ev4, ev5, Nat.reduceLT, entE, getE, putE, ↓reduceIte, Nat.reduceEqDiff, argsE, Int.reduceEq, convertA, lenA, foldI, A.cells, A.leaf, List.replicate, viewA, getO, Nat.reduceLeDiff, loadA, cellsAt, cellsTo, faA, indexAddrA, asInt, Int.reduceLE, Int.reduceLT, Int.reduceToNat, eq_self, Nat.reducePow, Int.reducePow, Int.reduceAdd, Int.reduceMul, Int.reduceSub, Int.reduceNeg, keyOk, mapPutA, lookupA, mapOf, sliceA, boundI, elemsOf, appendA, storeA, setRange, indexA, Nat.reduceBEq, Int.cast_ofNat_Int, reduceCtorEq, Nat.reduceAdd, Nat.reduceMul, Nat.reduceSub, evTy0, evTy1, evTy2, evTy3, evTy4, evTy5, evTy6, evTy7, evTy8, h, hz, hy, hg, hc, he']
        refine hR (List.mem_cons.2 (.inl he)) _ _ ?_
        rfl
      · have he' : ¬ (b.toNat : Int) = (c.toNat : Int) := fun h => he (UInt8.toNat_inj.1 (by omega))
        simp only [s77_0, ↓evPre, ev0, ev1, ev2, ev3, ev4, ev5, Nat.reduceLT, entE, getE, putE, ↓reduceIte, Nat.reduceEqDiff, argsE, Int.reduceEq, convertA, lenA, foldI, A.cells, A.leaf, List.replicate, viewA, getO, Nat.reduceLeDiff, loadA, cellsAt, cellsTo, faA, indexAddrA, asInt, Int.reduceLE, Int.reduceLT, Int.reduceToNat, eq_self, Nat.reducePow, Int.reducePow, Int.reduceAdd, Int.reduceMul, Int.reduceSub, Int.reduceNeg, keyOk, mapPutA, lookupA, mapOf, sliceA, boundI, elemsOf, appendA, storeA, setRange, indexA, Nat.reduceBEq, Int.cast_ofNat_Int, reduceCtorEq, Nat.reduceAdd, Nat.reduceMul, Nat.reduceSub, evTy0, evTy1, evTy2, evTy3, evTy4, evTy5, evTy6, evTy7, evTy8, h, hz, hy, hg, hc, hw, he']
        refine ih (y + 1) _ _ (fun K => by simp only [↓evPre, ev0, ev1, ev2, ev3, ev4, ev5, Nat.reduceLT, entE, getE, putE, ↓reduceIte, Nat.reduceEqDiff, argsE, Int.reduceEq, convertA, lenA, foldI, A.cells, A.leaf, List.replicate, viewA, getO, Nat.reduceLeDiff, loadA, cellsAt, cellsTo, faA, indexAddrA, asInt, Int.reduceLE, Int.reduceLT, Int.reduceToNat, eq_self, Nat.reducePow, Int.reducePow, Int.reduceAdd, Int.reduceMul, Int.reduceSub, Int.reduceNeg, keyOk, mapPutA, lookupA, mapOf, sliceA, boundI, elemsOf, appendA, storeA, setRange, indexA, Nat.reduceBEq, Int.cast_ofNat_Int, reduceCtorEq, Nat.reduceAdd, Nat.reduceMul, Nat.reduceSub, evTy0, evTy1, evTy2, evTy3, evTy4, evTy5, evTy6, evTy7, evTy8]) (by omega) (by omega) (by omega) ?_ ?_
        · rw [hn]; intro hm; exact hR (List.mem_cons_of_mem _ hm)
        · rw [hn]; intro hm; exact hX fun h => (List.mem_cons.1 h).elim he hm
    · have hd : bad.data.toList.drop y.toNat = [] := List.drop_eq_nil_of_le (by omega)
      simp only [s77_0, ↓evPre, ev0, ev1, ev2, ev3, ev4, ev5, Nat.reduceLT, entE, getE, putE, ↓reduceIte, Nat.reduceEqDiff, argsE, Int.reduceEq, convertA, lenA, foldI, A.cells, A.leaf, List.replicate, viewA, getO, Nat.reduceLeDiff, loadA, cellsAt, cellsTo, faA, indexAddrA, asInt, Int.reduceLE, Int.reduceLT, Int.reduceToNat, eq_self, Nat.reducePow, Int.reducePow, Int.reduceAdd, Int.reduceMul, Int.reduceSub, Int.reduceNeg, keyOk, mapPutA, lookupA, mapOf, sliceA, boundI, elemsOf, appendA, storeA, setRange, indexA, Nat.reduceBEq, Int.cast_ofNat_Int, reduceCtorEq, Nat.reduceAdd, Nat.reduceMul, Nat.reduceSub, evTy0, evTy1, evTy2, evTy3, evTy4, evTy5, evTy6, evTy7, evTy8, h]
      exact hX (by rw [hd]; simp) _ rfl rfl rfl

theorem text_out (k : Nat) (s bad : ByteArray) (hk : bad.size + 3 ≤ k) (hs : s.size ≤ 9223372036854775807) (hbad : bad.size ≤ 1000) (K : X → Env → Store → Res) (r : Res) :
    ∀ (j : Nat) (z : Int) (e : Env) (o : Store), (∀ K, headE 39 0 (some ([0, 1, 5], 0)) e o K = K (.cons 0 (.d (.str s)) (.cons 1 (.d (.str bad)) (.cons 5 (.d (.int .i64 z)) (.nil .top)))) []) →
      0 ≤ z → z ≤ s.size → s.size - z < j →
      ((s.data.toList.drop z.toNat).all (okB bad.data.toList) = false → ∀ e o, getE e 4 = .d (.bool false) → K .ret e o = r) →
      ((s.data.toList.drop z.toNat).all (okB bad.data.toList) = true → ∀ e, getE e 0 = .d (.str s) → K (.exit 0) e [] = r) →
      loopC Try.prog Hs (callF Try.prog Hs E1 k) 39 k 0 (some ([0, 1, 5], 0)) s77_1 j e o K ⟨0⟩ = r := by
  generalize hS : s77_1 = S
  intro j
  induction j with
  | zero => intro z e o hh hz hz2 hj; omega
  | succ j ih =>
    intro z e o hh hz hz2 hj hR hX
    rw [l_succ2 hS, hh]
    have hsl := size_list s
    by_cases h : z < s.size
    · have hlt : z.toNat < s.data.toList.length := by omega
      obtain ⟨b, hg⟩ : ∃ b, s.data.toList[z.toNat]? = some b := ⟨_, List.getElem?_eq_getElem hlt⟩
      have hw := i64_in (z + 1) (by omega)
      have hn : (z + 1).toNat = z.toNat + 1 := by omega
      rw [dropU hg] at hR hX
      simp only [List.all_cons] at hR hX
      by_cases h1 : (b.toNat : Int) < 33
      · simp only [s77_1, ↓evPre, ev0, ev1, ev2, ev3, ev4, ev5, Nat.reduceLT, entE, getE, putE, ↓reduceIte, Nat.reduceEqDiff, argsE, Int.reduceEq, convertA, lenA, foldI, A.cells, A.leaf, List.replicate, viewA, getO, Nat.reduceLeDiff, loadA, cellsAt, cellsTo, faA, indexAddrA, asInt, Int.reduceLE, Int.reduceLT, Int.reduceToNat, eq_self, Nat.reducePow, Int.reducePow, Int.reduceAdd, Int.reduceMul, Int.reduceSub, Int.reduceNeg, keyOk, mapPutA, lookupA, mapOf, sliceA, boundI, elemsOf, appendA, storeA, setRange, indexA, Nat.reduceBEq, Int.cast_ofNat_Int, reduceCtorEq, Nat.reduceAdd, Nat.reduceMul, Nat.reduceSub, evTy0, evTy1, evTy2, evTy3, evTy4, evTy5, evTy6, evTy7, evTy8, h, hz, hg, h1]
        refine hR ?_ _ _ rfl
        have : okB bad.data.toList b = false := by simp only [okB, decide_eq_false (show ¬ (33 ≤ (b.toNat : Int)) by omega), Bool.false_and]
        rw [this]; rfl
      · by_cases h2 : 126 < (b.toNat : Int)
        · simp only [s77_1, ↓evPre, ev0, ev1, ev2, ev3, ev4, ev5, Nat.reduceLT, entE, getE, putE, ↓reduceIte, Nat.reduceEqDiff, argsE, Int.reduceEq, convertA, lenA, foldI, A.cells, A.leaf, List.replicate, viewA, getO, Nat.reduceLeDiff, loadA, cellsAt, cellsTo, faA, indexAddrA, asInt, Int.reduceLE, Int.reduceLT, Int.reduceToNat, eq_self, Nat.reducePow, Int.reducePow, Int.reduceAdd, Int.reduceMul, Int.reduceSub, Int.reduceNeg, keyOk, mapPutA, lookupA, mapOf, sliceA, boundI, elemsOf, appendA, storeA, setRange, indexA, Nat.reduceBEq, Int.cast_ofNat_Int, reduceCtorEq, Nat.reduceAdd, Nat.reduceMul, Nat.reduceSub, evTy0, evTy1, evTy2, evTy3, evTy4, evTy5, evTy6, evTy7, evTy8, h, hz, hg, h1, h2]
          refine hR ?_ _ _ rfl
          have : okB bad.data.toList b = false := by simp only [okB, decide_eq_false (show ¬ ((b.toNat : Int) ≤ 126) by omega), Bool.and_false, Bool.false_and]
          rw [this]; rfl
        · have h1' : 33 ≤ (b.toNat : Int) := by omega
          have h2' : (b.toNat : Int) ≤ 126 := by omega
          have hok : okB bad.data.toList b = !bad.data.toList.contains b := by simp only [okB, decide_eq_true h1', decide_eq_true h2', Bool.true_and]
          simp only [s77_1, ↓evPre, ev0, ev1, ev2, ev3, ev4, ev5, Nat.reduceLT, entE, getE, putE, ↓reduceIte, Nat.reduceEqDiff, argsE, Int.reduceEq, convertA, lenA, foldI, A.cells, A.leaf, List.replicate, viewA, getO, Nat.reduceLeDiff, loadA, cellsAt, cellsTo, faA, indexAddrA, asInt, Int.reduceLE, Int.reduceLT, Int.reduceToNat, eq_self, Nat.reducePow, Int.reducePow, Int.reduceAdd, Int.reduceMul, Int.reduceSub, Int.reduceNeg, keyOk, mapPutA, lookupA, mapOf, sliceA, boundI, elemsOf, appendA, storeA, setRange, indexA, Nat.reduceBEq, Int.cast_ofNat_Int, reduceCtorEq, Nat.reduceAdd, Nat.reduceMul, Nat.reduceSub, evTy0, evTy1, evTy2, evTy3, evTy4, evTy5, evTy6, evTy7, evTy8, h, hz, hg, h1, h2]
          refine text_in k s bad b z hz hg hbad _ _ k 0 _ _ (fun K => by simp only [↓evPre, ev0, ev1, ev2, ev3, ev4, ev5, Nat.reduceLT, entE, getE, putE, ↓reduceIte, Nat.reduceEqDiff, argsE, Int.reduceEq, convertA, lenA, foldI, A.cells, A.leaf, List.replicate, viewA, getO, Nat.reduceLeDiff, loadA, cellsAt, cellsTo, faA, indexAddrA, asInt, Int.reduceLE, Int.reduceLT, Int.reduceToNat, eq_self, Nat.reducePow, Int.reducePow, Int.reduceAdd, Int.reduceMul, Int.reduceSub, Int.reduceNeg, keyOk, mapPutA, lookupA, mapOf, sliceA, boundI, elemsOf, appendA, storeA, setRange, indexA, Nat.reduceBEq, Int.cast_ofNat_Int, reduceCtorEq, Nat.reduceAdd, Nat.reduceMul, Nat.reduceSub, evTy0, evTy1, evTy2, evTy3, evTy4, evTy5, evTy6, evTy7, evTy8]) (by omega) (by omega) (by omega) (fun hm e o g4 => ?_) (fun hm e g0 g1 g5 => ?_)
          · have hm' : b ∈ bad.data.toList := hm
            simp only [↓evPre, ev0, ev1, ev2, ev3, ev4, ev5, Nat.reduceLT, entE, getE, putE, ↓reduceIte, Nat.reduceEqDiff, argsE, Int.reduceEq, convertA, lenA, foldI, A.cells, A.leaf, List.replicate, viewA, getO, Nat.reduceLeDiff, loadA, cellsAt, cellsTo, faA, indexAddrA, asInt, Int.reduceLE, Int.reduceLT, Int.reduceToNat, eq_self, Nat.reducePow, Int.reducePow, Int.reduceAdd, Int.reduceMul, Int.reduceSub, Int.reduceNeg, keyOk, mapPutA, lookupA, mapOf, sliceA, boundI, elemsOf, appendA, storeA, setRange, indexA, Nat.reduceBEq, Int.cast_ofNat_Int, reduceCtorEq, Nat.reduceAdd, Nat.reduceMul, Nat.reduceSub, evTy0, evTy1, evTy2, evTy3, evTy4, evTy5, evTy6, evTy7, evTy8]
            refine hR ?_ _ _ g4
            rw [hok, List.contains_iff_mem.2 hm']; rfl
          · have hm' : b ∉ bad.data.toList := hm
            have hok' : okB bad.data.toList b = true := by rw [hok]; simp [hm']
            rw [hok'] at hR hX
            simp only [↓evPre, ev0, ev1, ev2, ev3, ev4, ev5, Nat.reduceLT, entE, getE, putE, ↓reduceIte, Nat.reduceEqDiff, argsE, Int.reduceEq, convertA, lenA, foldI, A.cells, A.leaf, List.replicate, viewA, getO, Nat.reduceLeDiff, loadA, cellsAt, cellsTo, faA, indexAddrA, asInt, Int.reduceLE, Int.reduceLT, Int.reduceToNat, eq_self, Nat.reducePow, Int.reducePow, Int.reduceAdd, Int.reduceMul, Int.reduceSub, Int.reduceNeg, keyOk, mapPutA, lookupA, mapOf, sliceA, boundI, elemsOf, appendA, storeA, setRange, indexA, Nat.reduceBEq, Int.cast_ofNat_Int, reduceCtorEq, Nat.reduceAdd, Nat.reduceMul, Nat.reduceSub, evTy0, evTy1, evTy2, evTy3, evTy4, evTy5, evTy6, evTy7, evTy8, g0, g1, g5, hw]
            refine ih (z + 1) _ _ (fun K => by simp only [↓evPre, ev0, ev1, ev2, ev3, ev4, ev5, Nat.reduceLT, entE, getE, putE, ↓reduceIte, Nat.reduceEqDiff, argsE, Int.reduceEq, convertA, lenA, foldI, A.cells, A.leaf, List.replicate, viewA, getO, Nat.reduceLeDiff, loadA, cellsAt, cellsTo, faA, indexAddrA, asInt, Int.reduceLE, Int.reduceLT, Int.reduceToNat, eq_self, Nat.reducePow, Int.reducePow, Int.reduceAdd, Int.reduceMul, Int.reduceSub, Int.reduceNeg, keyOk, mapPutA, lookupA, mapOf, sliceA, boundI, elemsOf, appendA, storeA, setRange, indexA, Nat.reduceBEq, Int.cast_ofNat_Int, reduceCtorEq, Nat.reduceAdd, Nat.reduceMul, Nat.reduceSub, evTy0, evTy1, evTy2, evTy3, evTy4, evTy5, evTy6, evTy7, evTy8, g0, g1, g5]) (by omega) (by omega) (by omega) ?_ ?_
            · rw [hn]; simpa only [Bool.true_and] using hR
            · rw [hn]; simpa only [Bool.true_and] using hX
    · have hd : s.data.toList.drop z.toNat = [] := List.drop_eq_nil_of_le (by omega)
      rw [hd] at hX
      simp only [s77_1, ↓evPre, ev0, ev1, ev2, ev3, ev4, ev5, Nat.reduceLT, entE, getE, putE, ↓reduceIte, Nat.reduceEqDiff, argsE, Int.reduceEq, convertA, lenA, foldI, A.cells, A.leaf, List.replicate, viewA, getO, Nat.reduceLeDiff, loadA, cellsAt, cellsTo, faA, indexAddrA, asInt, Int.reduceLE, Int.reduceLT, Int.reduceToNat, eq_self, Nat.reducePow, Int.reducePow, Int.reduceAdd, Int.reduceMul, Int.reduceSub, Int.reduceNeg, keyOk, mapPutA, lookupA, mapOf, sliceA, boundI, elemsOf, appendA, storeA, setRange, indexA, Nat.reduceBEq, Int.cast_ofNat_Int, reduceCtorEq, Nat.reduceAdd, Nat.reduceMul, Nat.reduceSub, evTy0, evTy1, evTy2, evTy3, evTy4, evTy5, evTy6, evTy7, evTy8, h]
      exact hX rfl _ rfl

theorem text_ev (k : Nat) (s bad : ByteArray) (hk : s.size + bad.size + 5 ≤ k) (hs : s.size ≤ 9223372036854775807) (hbad : bad.size ≤ 1000) : callF Try.prog Hs E1 k 77 [.d (.str s), .d (.str bad)] [] = some (.d (.bool (textB bad.data.toList s)), []) := by
  obtain ⟨k, rfl⟩ : ∃ j, k = j + 1 := ⟨k - 1, by omega⟩
  refine evalE rfl Try.func77 l77 ?_ (Nat.le_of_ble_eq_true rfl)
  simp only [s77, n77, ↓evPre, ev0, ev1, ev2, ev3, ev4, ev5, Nat.reduceLT, entE, getE, putE, ↓reduceIte, Nat.reduceEqDiff, argsE, Int.reduceEq, convertA, lenA, foldI, A.cells, A.leaf, List.replicate, viewA, getO, Nat.reduceLeDiff, loadA, cellsAt, cellsTo, faA, indexAddrA, asInt, Int.reduceLE, Int.reduceLT, Int.reduceToNat, eq_self, Nat.reducePow, Int.reducePow, Int.reduceAdd, Int.reduceMul, Int.reduceSub, Int.reduceNeg, keyOk, mapPutA, lookupA, mapOf, sliceA, boundI, elemsOf, appendA, storeA, setRange, indexA, Nat.reduceBEq, Int.cast_ofNat_Int, reduceCtorEq, Nat.reduceAdd, Nat.reduceMul, Nat.reduceSub, evTy0, evTy1, evTy2, evTy3, evTy4, evTy5, evTy6, evTy7, evTy8]
  refine text_out k s bad (by omega) hs hbad _ _ k 0 _ _ (fun K => by simp only [↓evPre, ev0, ev1, ev2, ev3, ev4, ev5, Nat.reduceLT, entE, getE, putE, ↓reduceIte, Nat.reduceEqDiff, argsE, Int.reduceEq, convertA, lenA, foldI, A.cells, A.leaf, List.replicate, viewA, getO, Nat.reduceLeDiff, loadA, cellsAt, cellsTo, faA, indexAddrA, asInt, Int.reduceLE, Int.reduceLT, Int.reduceToNat, eq_self, Nat.reducePow, Int.reducePow, Int.reduceAdd, Int.reduceMul, Int.reduceSub, Int.reduceNeg, keyOk, mapPutA, lookupA, mapOf, sliceA, boundI, elemsOf, appendA, storeA, setRange, indexA, Nat.reduceBEq, Int.cast_ofNat_Int, reduceCtorEq, Nat.reduceAdd, Nat.reduceMul, Nat.reduceSub, evTy0, evTy1, evTy2, evTy3, evTy4, evTy5, evTy6, evTy7, evTy8]) (by omega) (by omega) (by omega) (fun hm e o g4 => ?_) (fun hm e g0 => ?_)
  · have hm' : s.data.toList.all (okB bad.data.toList) = false := hm
    simp only [↓evPre, ev0, ev1, ev2, ev3, ev4, ev5, Nat.reduceLT, entE, getE, putE, ↓reduceIte, Nat.reduceEqDiff, argsE, Int.reduceEq, convertA, lenA, foldI, A.cells, A.leaf, List.replicate, viewA, getO, Nat.reduceLeDiff, loadA, cellsAt, cellsTo, faA, indexAddrA, asInt, Int.reduceLE, Int.reduceLT, Int.reduceToNat, eq_self, Nat.reducePow, Int.reducePow, Int.reduceAdd, Int.reduceMul, Int.reduceSub, Int.reduceNeg, keyOk, mapPutA, lookupA, mapOf, sliceA, boundI, elemsOf, appendA, storeA, setRange, indexA, Nat.reduceBEq, Int.cast_ofNat_Int, reduceCtorEq, Nat.reduceAdd, Nat.reduceMul, Nat.reduceSub, evTy0, evTy1, evTy2, evTy3, evTy4, evTy5, evTy6, evTy7, evTy8, s77, n77, g4, textB, hm']
  · have hm' : s.data.toList.all (okB bad.data.toList) = true := hm
    simp only [↓evPre, ev0, ev1, ev2, ev3, ev4, ev5, Nat.reduceLT, entE, getE, putE, ↓reduceIte, Nat.reduceEqDiff, argsE, Int.reduceEq, convertA, lenA, foldI, A.cells, A.leaf, List.replicate, viewA, getO, Nat.reduceLeDiff, loadA, cellsAt, cellsTo, faA, indexAddrA, asInt, Int.reduceLE, Int.reduceLT, Int.reduceToNat, eq_self, Nat.reducePow, Int.reducePow, Int.reduceAdd, Int.reduceMul, Int.reduceSub, Int.reduceNeg, keyOk, mapPutA, lookupA, mapOf, sliceA, boundI, elemsOf, appendA, storeA, setRange, indexA, Nat.reduceBEq, Int.cast_ofNat_Int, reduceCtorEq, Nat.reduceAdd, Nat.reduceMul, Nat.reduceSub, evTy0, evTy1, evTy2, evTy3, evTy4, evTy5, evTy6, evTy7, evTy8, s77, n77, g0, textB, hm']

theorem refName_ev (k : Nat) (s : ByteArray) (hk : s.size + 9 ≤ k) (hs : s.size ≤ 9223372036854775807) : callF Try.prog Hs E1 k 38 [.d (.str s)] [] = some (.d (.bool (nameB s)), []) := by
  obtain ⟨k, rfl⟩ : ∃ j, k = j + 1 := ⟨k - 1, by omega⟩
  refine evalE rfl Try.func38 l38 ?_ (Nat.le_of_ble_eq_true rfl)
  have h2 : (⟨#[46, 64]⟩ : ByteArray).size = 2 := rfl
  by_cases h : (s.size : Int) = 0
  · have h' : ¬ 0 < (s.size : Int) := by omega
    simp only [s38, n38, ↓evPre, ev0, ev1, ev2, ev3, ev4, ev5, Nat.reduceLT, entE, getE, putE, ↓reduceIte, Nat.reduceEqDiff, argsE, Int.reduceEq, convertA, lenA, foldI, A.cells, A.leaf, List.replicate, viewA, getO, Nat.reduceLeDiff, loadA, cellsAt, cellsTo, faA, indexAddrA, asInt, Int.reduceLE, Int.reduceLT, Int.reduceToNat, eq_self, Nat.reducePow, Int.reducePow, Int.reduceAdd, Int.reduceMul, Int.reduceSub, Int.reduceNeg, keyOk, mapPutA, lookupA, mapOf, sliceA, boundI, elemsOf, appendA, storeA, setRange, indexA, Nat.reduceBEq, Int.cast_ofNat_Int, reduceCtorEq, Nat.reduceAdd, Nat.reduceMul, Nat.reduceSub, evTy0, evTy1, evTy2, evTy3, evTy4, evTy5, evTy6, evTy7, evTy8, nameB, h, h']
  · have h' : 0 < (s.size : Int) := by omega
    simp only [s38, n38, ↓evPre, ev0, ev1, ev2, ev3, ev4, ev5, Nat.reduceLT, entE, getE, putE, ↓reduceIte, Nat.reduceEqDiff, argsE, Int.reduceEq, convertA, lenA, foldI, A.cells, A.leaf, List.replicate, viewA, getO, Nat.reduceLeDiff, loadA, cellsAt, cellsTo, faA, indexAddrA, asInt, Int.reduceLE, Int.reduceLT, Int.reduceToNat, eq_self, Nat.reducePow, Int.reducePow, Int.reduceAdd, Int.reduceMul, Int.reduceSub, Int.reduceNeg, keyOk, mapPutA, lookupA, mapOf, sliceA, boundI, elemsOf, appendA, storeA, setRange, indexA, Nat.reduceBEq, Int.cast_ofNat_Int, reduceCtorEq, Nat.reduceAdd, Nat.reduceMul, Nat.reduceSub, evTy0, evTy1, evTy2, evTy3, evTy4, evTy5, evTy6, evTy7, evTy8, nameB, h, h', callR_data (text_ev k s ⟨#[46, 64]⟩ (by omega) hs (by omega)) rfl rfl]

theorem refInst_ev (k : Nat) (s : ByteArray) (hk : s.size + 9 ≤ k) (hs : s.size ≤ 9223372036854775807) : callF Try.prog Hs E1 k 39 [.d (.str s)] [] = some (.d (.bool (instB s)), []) := by
  obtain ⟨k, rfl⟩ : ∃ j, k = j + 1 := ⟨k - 1, by omega⟩
  refine evalE rfl Try.func39 l39 ?_ (Nat.le_of_ble_eq_true rfl)
  have h2 : (⟨#[64]⟩ : ByteArray).size = 1 := rfl
  simp only [s39, n39, ↓evPre, ev0, ev1, ev2, ev3, ev4, ev5, Nat.reduceLT, entE, getE, putE, ↓reduceIte, Nat.reduceEqDiff, argsE, Int.reduceEq, convertA, lenA, foldI, A.cells, A.leaf, List.replicate, viewA, getO, Nat.reduceLeDiff, loadA, cellsAt, cellsTo, faA, indexAddrA, asInt, Int.reduceLE, Int.reduceLT, Int.reduceToNat, eq_self, Nat.reducePow, Int.reducePow, Int.reduceAdd, Int.reduceMul, Int.reduceSub, Int.reduceNeg, keyOk, mapPutA, lookupA, mapOf, sliceA, boundI, elemsOf, appendA, storeA, setRange, indexA, Nat.reduceBEq, Int.cast_ofNat_Int, reduceCtorEq, Nat.reduceAdd, Nat.reduceMul, Nat.reduceSub, evTy0, evTy1, evTy2, evTy3, evTy4, evTy5, evTy6, evTy7, evTy8, instB, callR_data (text_ev k s ⟨#[64]⟩ (by omega) hs (by omega)) rfl rfl]

theorem refRealm_ev (k : Nat) (s : ByteArray) (hk : s.size + 9 ≤ k) (hs : s.size ≤ 9223372036854775807) : callF Try.prog Hs E1 k 37 [.d (.str s)] [] = some (.d (.bool (realmB s)), []) := by
  obtain ⟨k, rfl⟩ : ∃ j, k = j + 1 := ⟨k - 1, by omega⟩
  refine evalE rfl Try.func37 l37 ?_ (Nat.le_of_ble_eq_true rfl)
  have h2 : (⟨#[64]⟩ : ByteArray).size = 1 := rfl
  by_cases h : (s.size : Int) = 0
  · have h' : ¬ 0 < (s.size : Int) := by omega
    simp only [s37, n37, ↓evPre, ev0, ev1, ev2, ev3, ev4, ev5, Nat.reduceLT, entE, getE, putE, ↓reduceIte, Nat.reduceEqDiff, argsE, Int.reduceEq, convertA, lenA, foldI, A.cells, A.leaf, List.replicate, viewA, getO, Nat.reduceLeDiff, loadA, cellsAt, cellsTo, faA, indexAddrA, asInt, Int.reduceLE, Int.reduceLT, Int.reduceToNat, eq_self, Nat.reducePow, Int.reducePow, Int.reduceAdd, Int.reduceMul, Int.reduceSub, Int.reduceNeg, keyOk, mapPutA, lookupA, mapOf, sliceA, boundI, elemsOf, appendA, storeA, setRange, indexA, Nat.reduceBEq, Int.cast_ofNat_Int, reduceCtorEq, Nat.reduceAdd, Nat.reduceMul, Nat.reduceSub, evTy0, evTy1, evTy2, evTy3, evTy4, evTy5, evTy6, evTy7, evTy8, realmB, h, h']
  · have h' : 0 < (s.size : Int) := by omega
    simp only [s37, n37, ↓evPre, ev0, ev1, ev2, ev3, ev4, ev5, Nat.reduceLT, entE, getE, putE, ↓reduceIte, Nat.reduceEqDiff, argsE, Int.reduceEq, convertA, lenA, foldI, A.cells, A.leaf, List.replicate, viewA, getO, Nat.reduceLeDiff, loadA, cellsAt, cellsTo, faA, indexAddrA, asInt, Int.reduceLE, Int.reduceLT, Int.reduceToNat, eq_self, Nat.reducePow, Int.reducePow, Int.reduceAdd, Int.reduceMul, Int.reduceSub, Int.reduceNeg, keyOk, mapPutA, lookupA, mapOf, sliceA, boundI, elemsOf, appendA, storeA, setRange, indexA, Nat.reduceBEq, Int.cast_ofNat_Int, reduceCtorEq, Nat.reduceAdd, Nat.reduceMul, Nat.reduceSub, evTy0, evTy1, evTy2, evTy3, evTy4, evTy5, evTy6, evTy7, evTy8, realmB, h, h', callR_data (text_ev k s ⟨#[64]⟩ (by omega) hs (by omega)) rfl rfl]

theorem refValid_ev (k n : Nat) (p : Prin) (hk : n + 11 ≤ k) (hp : p.ok n) (hn : n ≤ 9223372036854775807) : callF Try.prog Hs E1 k 36 [.agg [.d (.str p.name), .d (.str p.inst), .d (.str p.realm)]] [] = some (.d (.bool (validB p)), []) := by
  obtain ⟨k, rfl⟩ : ∃ j, k = j + 1 := ⟨k - 1, by omega⟩
  refine evalE rfl Try.func36 l36 ?_ (Nat.le_of_ble_eq_true rfl)
  obtain ⟨h1, h2, h3⟩ := hp
  cases n1 : nameB p.name
  · simp only [s36, n36, ↓evPre, ev0, ev1, ev2, ev3, ev4, ev5, Nat.reduceLT, entE, getE, putE, ↓reduceIte, Nat.reduceEqDiff, argsE, Int.reduceEq, convertA, lenA, foldI, A.cells, A.leaf, List.replicate, viewA, getO, Nat.reduceLeDiff, loadA, cellsAt, cellsTo, faA, indexAddrA, asInt, Int.reduceLE, Int.reduceLT, Int.reduceToNat, eq_self, Nat.reducePow, Int.reducePow, Int.reduceAdd, Int.reduceMul, Int.reduceSub, Int.reduceNeg, keyOk, mapPutA, lookupA, mapOf, sliceA, boundI, elemsOf, appendA, storeA, setRange, indexA, Nat.reduceBEq, Int.cast_ofNat_Int, reduceCtorEq, Nat.reduceAdd, Nat.reduceMul, Nat.reduceSub, evTy0, evTy1, evTy2, evTy3, evTy4, evTy5, evTy6, evTy7, evTy8, validB, n1, callR_data (refName_ev k p.name (by omega) (by omega)) rfl rfl]
  · cases n2 : instB p.inst
    · simp only [s36, n36, ↓evPre, ev0, ev1, ev2, ev3, ev4, ev5, Nat.reduceLT, entE, getE, putE, ↓reduceIte, Nat.reduceEqDiff, argsE, Int.reduceEq, convertA, lenA, foldI, A.cells, A.leaf, List.replicate, viewA, getO, Nat.reduceLeDiff, loadA, cellsAt, cellsTo, faA, indexAddrA, asInt, Int.reduceLE, Int.reduceLT, Int.reduceToNat, eq_self, Nat.reducePow, Int.reducePow, Int.reduceAdd, Int.reduceMul, Int.reduceSub, Int.reduceNeg, keyOk, mapPutA, lookupA, mapOf, sliceA, boundI, elemsOf, appendA, storeA, setRange, indexA, Nat.reduceBEq, Int.cast_ofNat_Int, reduceCtorEq, Nat.reduceAdd, Nat.reduceMul, Nat.reduceSub, evTy0, evTy1, evTy2, evTy3, evTy4, evTy5, evTy6, evTy7, evTy8, validB, n1, n2, callR_data (refName_ev k p.name (by omega) (by omega)) rfl rfl, callR_data (refInst_ev k p.inst (by omega) (by omega)) rfl rfl]
    · simp only [s36, n36, ↓evPre, ev0, ev1, ev2, ev3, ev4, ev5, Nat.reduceLT, entE, getE, putE, ↓reduceIte, Nat.reduceEqDiff, argsE, Int.reduceEq, convertA, lenA, foldI, A.cells, A.leaf, List.replicate, viewA, getO, Nat.reduceLeDiff, loadA, cellsAt, cellsTo, faA, indexAddrA, asInt, Int.reduceLE, Int.reduceLT, Int.reduceToNat, eq_self, Nat.reducePow, Int.reducePow, Int.reduceAdd, Int.reduceMul, Int.reduceSub, Int.reduceNeg, keyOk, mapPutA, lookupA, mapOf, sliceA, boundI, elemsOf, appendA, storeA, setRange, indexA, Nat.reduceBEq, Int.cast_ofNat_Int, reduceCtorEq, Nat.reduceAdd, Nat.reduceMul, Nat.reduceSub, evTy0, evTy1, evTy2, evTy3, evTy4, evTy5, evTy6, evTy7, evTy8, validB, n1, n2, callR_data (refName_ev k p.name (by omega) (by omega)) rfl rfl, callR_data (refInst_ev k p.inst (by omega) (by omega)) rfl rfl, callR_data (refRealm_ev k p.realm (by omega) (by omega)) rfl rfl]
end Pr
end Ab
namespace Ab
open Go Go.Proofs Go.IntWalk
set_option maxRecDepth 10000
set_option linter.unusedSimpArgs false
set_option linter.unusedVariables false
namespace Key

/-- The key of a class with a serial number. -/
def makeV (c s : Int) : Int := if (c = 1 ∨ c = 2) ∧ 1 ≤ s ∧ s ≤ 4294967295 then c * 72057594037927936 + s else 0

theorem or1 {s : Int} (h : 1 ≤ s ∧ s ≤ 4294967295) : bitOr .u64 72057594037927936 s = 72057594037927936 + s := by
  have := or_add 1 s 56 (by omega) (by omega) (by decide) (by omega) (by omega)
  simpa using this
theorem or2 {s : Int} (h : 1 ≤ s ∧ s ≤ 4294967295) : bitOr .u64 144115188075855872 s = 144115188075855872 + s := by
  have := or_add 2 s 56 (by omega) (by omega) (by decide) (by omega) (by omega)
  simpa using this

theorem Make_ev (k : Nat) (hk : 1 ≤ k) (c s : Int) : callF Try.prog Hs Pr.E1 k 117 [.d (.int .i64 c), .d (.int .i64 s)] [] = some (.d (.int .u64 (makeV c s)), []) := by
  obtain ⟨k, rfl⟩ : ∃ j, k = j + 1 := ⟨k - 1, by omega⟩
  refine evalE rfl Try.func117 l117 ?_ (Nat.le_of_ble_eq_true rfl)
  by_cases s1 : s < 1
  · have hv : makeV c s = 0 := by unfold makeV; rw [if_neg (by omega)]
    by_cases c1 : c = 1
    · rw [hv]; simp only [s117, n117, ↓evPre, ev0, ev1, ev2, ev3, ev4, ev5, Nat.reduceLT, entE, getE, putE, ↓reduceIte, Nat.reduceEqDiff, argsE, Int.reduceEq, convertA, lenA, foldI, A.cells, A.leaf, List.replicate, viewA, getO, Nat.reduceLeDiff, loadA, cellsAt, cellsTo, faA, indexAddrA, asInt, Int.reduceLE, Int.reduceLT, Int.reduceToNat, eq_self, Nat.reducePow, Int.reducePow, Int.reduceAdd, Int.reduceMul, Int.reduceSub, Int.reduceNeg, keyOk, mapPutA, lookupA, mapOf, sliceA, boundI, elemsOf, appendA, storeA, setRange, indexA, Nat.reduceBEq, Int.cast_ofNat_Int, reduceCtorEq, Nat.reduceAdd, Nat.reduceMul, Nat.reduceSub, evTy0, evTy1, evTy2, evTy3, evTy4, evTy5, evTy6, evTy7, evTy8, c1, s1]
    · by_cases c2 : c = 2
      · rw [hv]; simp only [s117, n117, ↓evPre, ev0, ev1, ev2, ev3, ev4, ev5, Nat.reduceLT, entE, getE, putE, ↓reduceIte, Nat.reduceEqDiff, argsE, Int.reduceEq, convertA, lenA, foldI, A.cells, A.leaf, List.replicate, viewA, getO, Nat.reduceLeDiff, loadA, cellsAt, cellsTo, faA, indexAddrA, asInt, Int.reduceLE, Int.reduceLT, Int.reduceToNat, eq_self, Nat.reducePow, Int.reducePow, Int.reduceAdd, Int.reduceMul, Int.reduceSub, Int.reduceNeg, keyOk, mapPutA, lookupA, mapOf, sliceA, boundI, elemsOf, appendA, storeA, setRange, indexA, Nat.reduceBEq, Int.cast_ofNat_Int, reduceCtorEq, Nat.reduceAdd, Nat.reduceMul, Nat.reduceSub, evTy0, evTy1, evTy2, evTy3, evTy4, evTy5, evTy6, evTy7, evTy8, c1, c2, s1]
      · rw [hv]; simp only [s117, n117, ↓evPre, ev0, ev1, ev2, ev3, ev4, ev5, Nat.reduceLT, entE, getE, putE, ↓reduceIte, Nat.reduceEqDiff, argsE, Int.reduceEq, convertA, lenA, foldI, A.cells, A.leaf, List.replicate, viewA, getO, Nat.reduceLeDiff, loadA, cellsAt, cellsTo, faA, indexAddrA, asInt, Int.reduceLE, Int.reduceLT, Int.reduceToNat, eq_self, Nat.reducePow, Int.reducePow, Int.reduceAdd, Int.reduceMul, Int.reduceSub, Int.reduceNeg, keyOk, mapPutA, lookupA, mapOf, sliceA, boundI, elemsOf, appendA, storeA, setRange, indexA, Nat.reduceBEq, Int.cast_ofNat_Int, reduceCtorEq, Nat.reduceAdd, Nat.reduceMul, Nat.reduceSub, evTy0, evTy1, evTy2, evTy3, evTy4, evTy5, evTy6, evTy7, evTy8, c1, c2, s1]
  by_cases s2 : 4294967295 < s
  · have hv : makeV c s = 0 := by unfold makeV; rw [if_neg (by omega)]
    by_cases c1 : c = 1
    · rw [hv]; simp only [s117, n117, ↓evPre, ev0, ev1, ev2, ev3, ev4, ev5, Nat.reduceLT, entE, getE, putE, ↓reduceIte, Nat.reduceEqDiff, argsE, Int.reduceEq, convertA, lenA, foldI, A.cells, A.leaf, List.replicate, viewA, getO, Nat.reduceLeDiff, loadA, cellsAt, cellsTo, faA, indexAddrA, asInt, Int.reduceLE, Int.reduceLT, Int.reduceToNat, eq_self, Nat.reducePow, Int.reducePow, Int.reduceAdd, Int.reduceMul, Int.reduceSub, Int.reduceNeg, keyOk, mapPutA, lookupA, mapOf, sliceA, boundI, elemsOf, appendA, storeA, setRange, indexA, Nat.reduceBEq, Int.cast_ofNat_Int, reduceCtorEq, Nat.reduceAdd, Nat.reduceMul, Nat.reduceSub, evTy0, evTy1, evTy2, evTy3, evTy4, evTy5, evTy6, evTy7, evTy8, c1, s1, s2]
    · by_cases c2 : c = 2
      · rw [hv]; simp only [s117, n117, ↓evPre, ev0, ev1, ev2, ev3, ev4, ev5, Nat.reduceLT, entE, getE, putE, ↓reduceIte, Nat.reduceEqDiff, argsE, Int.reduceEq, convertA, lenA, foldI, A.cells, A.leaf, List.replicate, viewA, getO, Nat.reduceLeDiff, loadA, cellsAt, cellsTo, faA, indexAddrA, asInt, Int.reduceLE, Int.reduceLT, Int.reduceToNat, eq_self, Nat.reducePow, Int.reducePow, Int.reduceAdd, Int.reduceMul, Int.reduceSub, Int.reduceNeg, keyOk, mapPutA, lookupA, mapOf, sliceA, boundI, elemsOf, appendA, storeA, setRange, indexA, Nat.reduceBEq, Int.cast_ofNat_Int, reduceCtorEq, Nat.reduceAdd, Nat.reduceMul, Nat.reduceSub, evTy0, evTy1, evTy2, evTy3, evTy4, evTy5, evTy6, evTy7, evTy8, c1, c2, s1, s2]
      · rw [hv]; simp only [s117, n117, ↓evPre, ev0, ev1, ev2, ev3, ev4, ev5, Nat.reduceLT, entE, getE, putE, ↓reduceIte, Nat.reduceEqDiff, argsE, Int.reduceEq, convertA, lenA, foldI, A.cells, A.leaf, List.replicate, viewA, getO, Nat.reduceLeDiff, loadA, cellsAt, cellsTo, faA, indexAddrA, asInt, Int.reduceLE, Int.reduceLT, Int.reduceToNat, eq_self, Nat.reducePow, Int.reducePow, Int.reduceAdd, Int.reduceMul, Int.reduceSub, Int.reduceNeg, keyOk, mapPutA, lookupA, mapOf, sliceA, boundI, elemsOf, appendA, storeA, setRange, indexA, Nat.reduceBEq, Int.cast_ofNat_Int, reduceCtorEq, Nat.reduceAdd, Nat.reduceMul, Nat.reduceSub, evTy0, evTy1, evTy2, evTy3, evTy4, evTy5, evTy6, evTy7, evTy8, c1, c2, s1, s2]
  have ws := u64_in s (by omega)
  by_cases c1 : c = 1
  · have hv : makeV c s = 72057594037927936 + s := by unfold makeV; rw [if_pos (by omega), c1]; omega
    rw [hv]; simp only [s117, n117, ↓evPre, ev0, ev1, ev2, ev3, ev4, ev5, Nat.reduceLT, entE, getE, putE, ↓reduceIte, Nat.reduceEqDiff, argsE, Int.reduceEq, convertA, lenA, foldI, A.cells, A.leaf, List.replicate, viewA, getO, Nat.reduceLeDiff, loadA, cellsAt, cellsTo, faA, indexAddrA, asInt, Int.reduceLE, Int.reduceLT, Int.reduceToNat, eq_self, Nat.reducePow, Int.reducePow, Int.reduceAdd, Int.reduceMul, Int.reduceSub, Int.reduceNeg, keyOk, mapPutA, lookupA, mapOf, sliceA, boundI, elemsOf, appendA, storeA, setRange, indexA, Nat.reduceBEq, Int.cast_ofNat_Int, reduceCtorEq, Nat.reduceAdd, Nat.reduceMul, Nat.reduceSub, evTy0, evTy1, evTy2, evTy3, evTy4, evTy5, evTy6, evTy7, evTy8, c1, s1, s2, ws, or1 (s := s) (by omega)]
  · by_cases c2 : c = 2
    · have hv : makeV c s = 144115188075855872 + s := by unfold makeV; rw [if_pos (by omega), c2]; omega
      rw [hv]; simp only [s117, n117, ↓evPre, ev0, ev1, ev2, ev3, ev4, ev5, Nat.reduceLT, entE, getE, putE, ↓reduceIte, Nat.reduceEqDiff, argsE, Int.reduceEq, convertA, lenA, foldI, A.cells, A.leaf, List.replicate, viewA, getO, Nat.reduceLeDiff, loadA, cellsAt, cellsTo, faA, indexAddrA, asInt, Int.reduceLE, Int.reduceLT, Int.reduceToNat, eq_self, Nat.reducePow, Int.reducePow, Int.reduceAdd, Int.reduceMul, Int.reduceSub, Int.reduceNeg, keyOk, mapPutA, lookupA, mapOf, sliceA, boundI, elemsOf, appendA, storeA, setRange, indexA, Nat.reduceBEq, Int.cast_ofNat_Int, reduceCtorEq, Nat.reduceAdd, Nat.reduceMul, Nat.reduceSub, evTy0, evTy1, evTy2, evTy3, evTy4, evTy5, evTy6, evTy7, evTy8, c1, c2, s1, s2, ws, or2 (s := s) (by omega)]
    · have hv : makeV c s = 0 := by unfold makeV; rw [if_neg (by omega)]
      rw [hv]; simp only [s117, n117, ↓evPre, ev0, ev1, ev2, ev3, ev4, ev5, Nat.reduceLT, entE, getE, putE, ↓reduceIte, Nat.reduceEqDiff, argsE, Int.reduceEq, convertA, lenA, foldI, A.cells, A.leaf, List.replicate, viewA, getO, Nat.reduceLeDiff, loadA, cellsAt, cellsTo, faA, indexAddrA, asInt, Int.reduceLE, Int.reduceLT, Int.reduceToNat, eq_self, Nat.reducePow, Int.reducePow, Int.reduceAdd, Int.reduceMul, Int.reduceSub, Int.reduceNeg, keyOk, mapPutA, lookupA, mapOf, sliceA, boundI, elemsOf, appendA, storeA, setRange, indexA, Nat.reduceBEq, Int.cast_ofNat_Int, reduceCtorEq, Nat.reduceAdd, Nat.reduceMul, Nat.reduceSub, evTy0, evTy1, evTy2, evTy3, evTy4, evTy5, evTy6, evTy7, evTy8, c1, c2, s1, s2]

theorem refMake_ev (k : Nat) (hk : 1 ≤ k) (c s : Int) : callF Try.prog Hs Pr.E1 k 99 [.d (.int .i64 c), .d (.int .i64 s)] [] = some (.d (.int .u64 (makeV c s)), []) := by
  obtain ⟨k, rfl⟩ : ∃ j, k = j + 1 := ⟨k - 1, by omega⟩
  refine evalE rfl Try.func99 l99 ?_ (Nat.le_of_ble_eq_true rfl)
  by_cases s1 : s < 1
  · have hv : makeV c s = 0 := by unfold makeV; rw [if_neg (by omega)]
    by_cases c1 : c = 1
    · rw [hv]; simp only [s99, n99, ↓evPre, ev0, ev1, ev2, ev3, ev4, ev5, Nat.reduceLT, entE, getE, putE, ↓reduceIte, Nat.reduceEqDiff, argsE, Int.reduceEq, convertA, lenA, foldI, A.cells, A.leaf, List.replicate, viewA, getO, Nat.reduceLeDiff, loadA, cellsAt, cellsTo, faA, indexAddrA, asInt, Int.reduceLE, Int.reduceLT, Int.reduceToNat, eq_self, Nat.reducePow, Int.reducePow, Int.reduceAdd, Int.reduceMul, Int.reduceSub, Int.reduceNeg, keyOk, mapPutA, lookupA, mapOf, sliceA, boundI, elemsOf, appendA, storeA, setRange, indexA, Nat.reduceBEq, Int.cast_ofNat_Int, reduceCtorEq, Nat.reduceAdd, Nat.reduceMul, Nat.reduceSub, evTy0, evTy1, evTy2, evTy3, evTy4, evTy5, evTy6, evTy7, evTy8, c1, s1]
    · by_cases c2 : c = 2
      · rw [hv]; simp only [s99, n99, ↓evPre, ev0, ev1, ev2, ev3, ev4, ev5, Nat.reduceLT, entE, getE, putE, ↓reduceIte, Nat.reduceEqDiff, argsE, Int.reduceEq, convertA, lenA, foldI, A.cells, A.leaf, List.replicate, viewA, getO, Nat.reduceLeDiff, loadA, cellsAt, cellsTo, faA, indexAddrA, asInt, Int.reduceLE, Int.reduceLT, Int.reduceToNat, eq_self, Nat.reducePow, Int.reducePow, Int.reduceAdd, Int.reduceMul, Int.reduceSub, Int.reduceNeg, keyOk, mapPutA, lookupA, mapOf, sliceA, boundI, elemsOf, appendA, storeA, setRange, indexA, Nat.reduceBEq, Int.cast_ofNat_Int, reduceCtorEq, Nat.reduceAdd, Nat.reduceMul, Nat.reduceSub, evTy0, evTy1, evTy2, evTy3, evTy4, evTy5, evTy6, evTy7, evTy8, c1, c2, s1]
      · rw [hv]; simp only [s99, n99, ↓evPre, ev0, ev1, ev2, ev3, ev4, ev5, Nat.reduceLT, entE, getE, putE, ↓reduceIte, Nat.reduceEqDiff, argsE, Int.reduceEq, convertA, lenA, foldI, A.cells, A.leaf, List.replicate, viewA, getO, Nat.reduceLeDiff, loadA, cellsAt, cellsTo, faA, indexAddrA, asInt, Int.reduceLE, Int.reduceLT, Int.reduceToNat, eq_self, Nat.reducePow, Int.reducePow, Int.reduceAdd, Int.reduceMul, Int.reduceSub, Int.reduceNeg, keyOk, mapPutA, lookupA, mapOf, sliceA, boundI, elemsOf, appendA, storeA, setRange, indexA, Nat.reduceBEq, Int.cast_ofNat_Int, reduceCtorEq, Nat.reduceAdd, Nat.reduceMul, Nat.reduceSub, evTy0, evTy1, evTy2, evTy3, evTy4, evTy5, evTy6, evTy7, evTy8, c1, c2, s1]
  by_cases s2 : 4294967295 < s
  · have hv : makeV c s = 0 := by unfold makeV; rw [if_neg (by omega)]
    by_cases c1 : c = 1
    · rw [hv]; simp only [s99, n99, ↓evPre, ev0, ev1, ev2, ev3, ev4, ev5, Nat.reduceLT, entE, getE, putE, ↓reduceIte, Nat.reduceEqDiff, argsE, Int.reduceEq, convertA, lenA, foldI, A.cells, A.leaf, List.replicate, viewA, getO, Nat.reduceLeDiff, loadA, cellsAt, cellsTo, faA, indexAddrA, asInt, Int.reduceLE, Int.reduceLT, Int.reduceToNat, eq_self, Nat.reducePow, Int.reducePow, Int.reduceAdd, Int.reduceMul, Int.reduceSub, Int.reduceNeg, keyOk, mapPutA, lookupA, mapOf, sliceA, boundI, elemsOf, appendA, storeA, setRange, indexA, Nat.reduceBEq, Int.cast_ofNat_Int, reduceCtorEq, Nat.reduceAdd, Nat.reduceMul, Nat.reduceSub, evTy0, evTy1, evTy2, evTy3, evTy4, evTy5, evTy6, evTy7, evTy8, c1, s1, s2]
    · by_cases c2 : c = 2
      · rw [hv]; simp only [s99, n99, ↓evPre, ev0, ev1, ev2, ev3, ev4, ev5, Nat.reduceLT, entE, getE, putE, ↓reduceIte, Nat.reduceEqDiff, argsE, Int.reduceEq, convertA, lenA, foldI, A.cells, A.leaf, List.replicate, viewA, getO, Nat.reduceLeDiff, loadA, cellsAt, cellsTo, faA, indexAddrA, asInt, Int.reduceLE, Int.reduceLT, Int.reduceToNat, eq_self, Nat.reducePow, Int.reducePow, Int.reduceAdd, Int.reduceMul, Int.reduceSub, Int.reduceNeg, keyOk, mapPutA, lookupA, mapOf, sliceA, boundI, elemsOf, appendA, storeA, setRange, indexA, Nat.reduceBEq, Int.cast_ofNat_Int, reduceCtorEq, Nat.reduceAdd, Nat.reduceMul, Nat.reduceSub, evTy0, evTy1, evTy2, evTy3, evTy4, evTy5, evTy6, evTy7, evTy8, c1, c2, s1, s2]
      · rw [hv]; simp only [s99, n99, ↓evPre, ev0, ev1, ev2, ev3, ev4, ev5, Nat.reduceLT, entE, getE, putE, ↓reduceIte, Nat.reduceEqDiff, argsE, Int.reduceEq, convertA, lenA, foldI, A.cells, A.leaf, List.replicate, viewA, getO, Nat.reduceLeDiff, loadA, cellsAt, cellsTo, faA, indexAddrA, asInt, Int.reduceLE, Int.reduceLT, Int.reduceToNat, eq_self, Nat.reducePow, Int.reducePow, Int.reduceAdd, Int.reduceMul, Int.reduceSub, Int.reduceNeg, keyOk, mapPutA, lookupA, mapOf, sliceA, boundI, elemsOf, appendA, storeA, setRange, indexA, Nat.reduceBEq, Int.cast_ofNat_Int, reduceCtorEq, Nat.reduceAdd, Nat.reduceMul, Nat.reduceSub, evTy0, evTy1, evTy2, evTy3, evTy4, evTy5, evTy6, evTy7, evTy8, c1, c2, s1, s2]
  have ws := u64_in s (by omega)
  by_cases c1 : c = 1
  · have hv : makeV c s = 72057594037927936 + s := by unfold makeV; rw [if_pos (by omega), c1]; omega
    rw [hv]; simp only [s99, n99, ↓evPre, ev0, ev1, ev2, ev3, ev4, ev5, Nat.reduceLT, entE, getE, putE, ↓reduceIte, Nat.reduceEqDiff, argsE, Int.reduceEq, convertA, lenA, foldI, A.cells, A.leaf, List.replicate, viewA, getO, Nat.reduceLeDiff, loadA, cellsAt, cellsTo, faA, indexAddrA, asInt, Int.reduceLE, Int.reduceLT, Int.reduceToNat, eq_self, Nat.reducePow, Int.reducePow, Int.reduceAdd, Int.reduceMul, Int.reduceSub, Int.reduceNeg, keyOk, mapPutA, lookupA, mapOf, sliceA, boundI, elemsOf, appendA, storeA, setRange, indexA, Nat.reduceBEq, Int.cast_ofNat_Int, reduceCtorEq, Nat.reduceAdd, Nat.reduceMul, Nat.reduceSub, evTy0, evTy1, evTy2, evTy3, evTy4, evTy5, evTy6, evTy7, evTy8, c1, s1, s2, ws, or1 (s := s) (by omega)]
  · by_cases c2 : c = 2
    · have hv : makeV c s = 144115188075855872 + s := by unfold makeV; rw [if_pos (by omega), c2]; omega
      rw [hv]; simp only [s99, n99, ↓evPre, ev0, ev1, ev2, ev3, ev4, ev5, Nat.reduceLT, entE, getE, putE, ↓reduceIte, Nat.reduceEqDiff, argsE, Int.reduceEq, convertA, lenA, foldI, A.cells, A.leaf, List.replicate, viewA, getO, Nat.reduceLeDiff, loadA, cellsAt, cellsTo, faA, indexAddrA, asInt, Int.reduceLE, Int.reduceLT, Int.reduceToNat, eq_self, Nat.reducePow, Int.reducePow, Int.reduceAdd, Int.reduceMul, Int.reduceSub, Int.reduceNeg, keyOk, mapPutA, lookupA, mapOf, sliceA, boundI, elemsOf, appendA, storeA, setRange, indexA, Nat.reduceBEq, Int.cast_ofNat_Int, reduceCtorEq, Nat.reduceAdd, Nat.reduceMul, Nat.reduceSub, evTy0, evTy1, evTy2, evTy3, evTy4, evTy5, evTy6, evTy7, evTy8, c1, c2, s1, s2, ws, or2 (s := s) (by omega)]
    · have hv : makeV c s = 0 := by unfold makeV; rw [if_neg (by omega)]
      rw [hv]; simp only [s99, n99, ↓evPre, ev0, ev1, ev2, ev3, ev4, ev5, Nat.reduceLT, entE, getE, putE, ↓reduceIte, Nat.reduceEqDiff, argsE, Int.reduceEq, convertA, lenA, foldI, A.cells, A.leaf, List.replicate, viewA, getO, Nat.reduceLeDiff, loadA, cellsAt, cellsTo, faA, indexAddrA, asInt, Int.reduceLE, Int.reduceLT, Int.reduceToNat, eq_self, Nat.reducePow, Int.reducePow, Int.reduceAdd, Int.reduceMul, Int.reduceSub, Int.reduceNeg, keyOk, mapPutA, lookupA, mapOf, sliceA, boundI, elemsOf, appendA, storeA, setRange, indexA, Nat.reduceBEq, Int.cast_ofNat_Int, reduceCtorEq, Nat.reduceAdd, Nat.reduceMul, Nat.reduceSub, evTy0, evTy1, evTy2, evTy3, evTy4, evTy5, evTy6, evTy7, evTy8, c1, c2, s1, s2]

def hiV (k : Int) : Int := k / 72057594037927936
def loV (k : Int) : Int := k % 72057594037927936
def validV (k : Int) : Prop := k ≠ 0 ∧ makeV (hiV k) (loV k) = k
instance (k : Int) : Decidable (validV k) := by unfold validV; exact inferInstance
def classV (k : Int) : Int := if validV k then hiV k else 0
def serialV (k : Int) : Int := if validV k then loV k else 0

theorem shr56 {k : Int} : k.fdiv 72057594037927936 = hiV k := Int.fdiv_eq_ediv_of_nonneg k (by omega)
theorem and56 {k : Int} (h : 0 ≤ k ∧ k ≤ 18446744073709551615) : bitAnd .u64 k 72057594037927935 = loV k := by
  have := and_low k 56 (by omega) (by omega)
  simpa [loV] using this
theorem hi_in {k : Int} (h : 0 ≤ k ∧ k ≤ 18446744073709551615) : 0 ≤ hiV k ∧ hiV k ≤ 255 ∧ 0 ≤ loV k ∧ loV k < 72057594037927936 ∧ k = hiV k * 72057594037927936 + loV k := by
  unfold hiV loV; omega

theorem make_range (c s : Int) : 0 ≤ makeV c s ∧ makeV c s ≤ 18446744073709551615 := by
  unfold makeV; split
  · rename_i h; rcases h.1 with rfl | rfl <;> omega
  · omega

theorem of_make {c s : Int} (h : makeV c s ≠ 0) : validV (makeV c s) ∧ hiV (makeV c s) = c ∧ loV (makeV c s) = s ∧ (c = 1 ∨ c = 2) ∧ 1 ≤ s ∧ s ≤ 4294967295 := by
  unfold makeV at h
  split at h
  case isFalse => exact absurd rfl h
  rename_i hc
  have e : makeV c s = c * 72057594037927936 + s := by unfold makeV; rw [if_pos hc]
  have h1 : hiV (makeV c s) = c := by rw [e]; unfold hiV; rcases hc.1 with rfl | rfl <;> omega
  have h2 : loV (makeV c s) = s := by rw [e]; unfold loV; rcases hc.1 with rfl | rfl <;> omega
  refine ⟨⟨by rw [e]; exact h, by rw [h1, h2]⟩, h1, h2, hc.1, hc.2⟩

theorem valid_hi {k : Int} (h : validV k) : hiV k = 1 ∨ hiV k = 2 := by
  obtain ⟨h1, h2⟩ := h
  have := (of_make (c := hiV k) (s := loV k) (by rw [h2]; exact h1)).2.2.2
  exact this.1

theorem class_ne {k : Int} : (classV k = 0) = ¬ validV k := by
  unfold classV
  by_cases h : validV k
  · have := valid_hi h
    simp only [h, if_true, not_true_eq_false]
    exact eq_false (by omega)
  · simp [h]

theorem split_ev (k : Nat) (hk : 2 ≤ k) (x : Int) (hx : 0 ≤ x ∧ x ≤ 18446744073709551615) : callF Try.prog Hs Pr.E1 k 113 [.d (.int .u64 x)] [] = some (.tup [.d (.int .i64 (classV x)), .d (.int .i64 (serialV x))], []) := by
  obtain ⟨k, rfl⟩ : ∃ j, k = j + 1 := ⟨k - 1, by omega⟩
  refine evalE rfl Try.func113 l113 ?_ (Nat.le_of_ble_eq_true rfl)
  obtain ⟨q1, q2, q3, q4, _⟩ := hi_in hx
  have w1 := i64_in (hiV x) (by omega)
  have w2 := i64_in (loV x) (by omega)
  by_cases h0 : x = 0
  · have hv : ¬ validV x := fun h => h.1 h0
    simp only [s113, n113, ↓evPre, ev0, ev1, ev2, ev3, ev4, ev5, Nat.reduceLT, entE, getE, putE, ↓reduceIte, Nat.reduceEqDiff, argsE, Int.reduceEq, convertA, lenA, foldI, A.cells, A.leaf, List.replicate, viewA, getO, Nat.reduceLeDiff, loadA, cellsAt, cellsTo, faA, indexAddrA, asInt, Int.reduceLE, Int.reduceLT, Int.reduceToNat, eq_self, Nat.reducePow, Int.reducePow, Int.reduceAdd, Int.reduceMul, Int.reduceSub, Int.reduceNeg, keyOk, mapPutA, lookupA, mapOf, sliceA, boundI, elemsOf, appendA, storeA, setRange, indexA, Nat.reduceBEq, Int.cast_ofNat_Int, reduceCtorEq, Nat.reduceAdd, Nat.reduceMul, Nat.reduceSub, evTy0, evTy1, evTy2, evTy3, evTy4, evTy5, evTy6, evTy7, evTy8, shr56, and56 hx, w1, w2, h0, classV, serialV]
    rw [h0] at hv
    simp [hv]
  · by_cases hm : makeV (hiV x) (loV x) = x
    · have hv : validV x := ⟨h0, hm⟩
      simp only [s113, n113, ↓evPre, ev0, ev1, ev2, ev3, ev4, ev5, Nat.reduceLT, entE, getE, putE, ↓reduceIte, Nat.reduceEqDiff, argsE, Int.reduceEq, convertA, lenA, foldI, A.cells, A.leaf, List.replicate, viewA, getO, Nat.reduceLeDiff, loadA, cellsAt, cellsTo, faA, indexAddrA, asInt, Int.reduceLE, Int.reduceLT, Int.reduceToNat, eq_self, Nat.reducePow, Int.reducePow, Int.reduceAdd, Int.reduceMul, Int.reduceSub, Int.reduceNeg, keyOk, mapPutA, lookupA, mapOf, sliceA, boundI, elemsOf, appendA, storeA, setRange, indexA, Nat.reduceBEq, Int.cast_ofNat_Int, reduceCtorEq, Nat.reduceAdd, Nat.reduceMul, Nat.reduceSub, evTy0, evTy1, evTy2, evTy3, evTy4, evTy5, evTy6, evTy7, evTy8, shr56, and56 hx, w1, w2, h0, classV, serialV, hv, callR_data (Make_ev k (by omega) (hiV x) (loV x)) rfl rfl, hm]
    · have hv : ¬ validV x := fun h => hm h.2
      simp only [s113, n113, ↓evPre, ev0, ev1, ev2, ev3, ev4, ev5, Nat.reduceLT, entE, getE, putE, ↓reduceIte, Nat.reduceEqDiff, argsE, Int.reduceEq, convertA, lenA, foldI, A.cells, A.leaf, List.replicate, viewA, getO, Nat.reduceLeDiff, loadA, cellsAt, cellsTo, faA, indexAddrA, asInt, Int.reduceLE, Int.reduceLT, Int.reduceToNat, eq_self, Nat.reducePow, Int.reducePow, Int.reduceAdd, Int.reduceMul, Int.reduceSub, Int.reduceNeg, keyOk, mapPutA, lookupA, mapOf, sliceA, boundI, elemsOf, appendA, storeA, setRange, indexA, Nat.reduceBEq, Int.cast_ofNat_Int, reduceCtorEq, Nat.reduceAdd, Nat.reduceMul, Nat.reduceSub, evTy0, evTy1, evTy2, evTy3, evTy4, evTy5, evTy6, evTy7, evTy8, shr56, and56 hx, w1, w2, h0, classV, serialV, hv, callR_data (Make_ev k (by omega) (hiV x) (loV x)) rfl rfl, hm]

theorem Class_ev (k : Nat) (hk : 3 ≤ k) (x : Int) (hx : 0 ≤ x ∧ x ≤ 18446744073709551615) : callF Try.prog Hs Pr.E1 k 98 [.d (.int .u64 x)] [] = some (.d (.int .i64 (classV x)), []) := by
  obtain ⟨k, rfl⟩ : ∃ j, k = j + 1 := ⟨k - 1, by omega⟩
  refine evalE rfl Try.func98 l98 ?_ (Nat.le_of_ble_eq_true rfl)
  simp only [s98, n98, ↓evPre, ev0, ev1, ev2, ev3, ev4, ev5, Nat.reduceLT, entE, getE, putE, ↓reduceIte, Nat.reduceEqDiff, argsE, Int.reduceEq, convertA, lenA, foldI, A.cells, A.leaf, List.replicate, viewA, getO, Nat.reduceLeDiff, loadA, cellsAt, cellsTo, faA, indexAddrA, asInt, Int.reduceLE, Int.reduceLT, Int.reduceToNat, eq_self, Nat.reducePow, Int.reducePow, Int.reduceAdd, Int.reduceMul, Int.reduceSub, Int.reduceNeg, keyOk, mapPutA, lookupA, mapOf, sliceA, boundI, elemsOf, appendA, storeA, setRange, indexA, Nat.reduceBEq, Int.cast_ofNat_Int, reduceCtorEq, Nat.reduceAdd, Nat.reduceMul, Nat.reduceSub, evTy0, evTy1, evTy2, evTy3, evTy4, evTy5, evTy6, evTy7, evTy8, callR_data (split_ev k (by omega) x hx) rfl rfl]

theorem Valid_ev (k : Nat) (hk : 4 ≤ k) (x : Int) (hx : 0 ≤ x ∧ x ≤ 18446744073709551615) : callF Try.prog Hs Pr.E1 k 56 [.d (.int .u64 x)] [] = some (.d (.bool (decide (validV x))), []) := by
  obtain ⟨k, rfl⟩ : ∃ j, k = j + 1 := ⟨k - 1, by omega⟩
  refine evalE rfl Try.func56 l56 ?_ (Nat.le_of_ble_eq_true rfl)
  simp only [s56, n56, ↓evPre, ev0, ev1, ev2, ev3, ev4, ev5, Nat.reduceLT, entE, getE, putE, ↓reduceIte, Nat.reduceEqDiff, argsE, Int.reduceEq, convertA, lenA, foldI, A.cells, A.leaf, List.replicate, viewA, getO, Nat.reduceLeDiff, loadA, cellsAt, cellsTo, faA, indexAddrA, asInt, Int.reduceLE, Int.reduceLT, Int.reduceToNat, eq_self, Nat.reducePow, Int.reducePow, Int.reduceAdd, Int.reduceMul, Int.reduceSub, Int.reduceNeg, keyOk, mapPutA, lookupA, mapOf, sliceA, boundI, elemsOf, appendA, storeA, setRange, indexA, Nat.reduceBEq, Int.cast_ofNat_Int, reduceCtorEq, Nat.reduceAdd, Nat.reduceMul, Nat.reduceSub, evTy0, evTy1, evTy2, evTy3, evTy4, evTy5, evTy6, evTy7, evTy8, callR_data (Class_ev k (by omega) x hx) rfl rfl, class_ne]
  by_cases h : validV x <;> simp [h]

theorem refValid_ev (k : Nat) (hk : 2 ≤ k) (x : Int) (hx : 0 ≤ x ∧ x ≤ 18446744073709551615) : callF Try.prog Hs Pr.E1 k 63 [.d (.int .u64 x)] [] = some (.d (.bool (decide (validV x))), []) := by
  obtain ⟨k, rfl⟩ : ∃ j, k = j + 1 := ⟨k - 1, by omega⟩
  refine evalE rfl Try.func63 l63 ?_ (Nat.le_of_ble_eq_true rfl)
  obtain ⟨q1, q2, q3, q4, _⟩ := hi_in hx
  have w1 := i64_in (hiV x) (by omega)
  have w2 := i64_in (loV x) (by omega)
  by_cases h0 : x = 0
  · have hv : ¬ validV 0 := fun h => h.1 rfl
    simp only [s63, n63, ↓evPre, ev0, ev1, ev2, ev3, ev4, ev5, Nat.reduceLT, entE, getE, putE, ↓reduceIte, Nat.reduceEqDiff, argsE, Int.reduceEq, convertA, lenA, foldI, A.cells, A.leaf, List.replicate, viewA, getO, Nat.reduceLeDiff, loadA, cellsAt, cellsTo, faA, indexAddrA, asInt, Int.reduceLE, Int.reduceLT, Int.reduceToNat, eq_self, Nat.reducePow, Int.reducePow, Int.reduceAdd, Int.reduceMul, Int.reduceSub, Int.reduceNeg, keyOk, mapPutA, lookupA, mapOf, sliceA, boundI, elemsOf, appendA, storeA, setRange, indexA, Nat.reduceBEq, Int.cast_ofNat_Int, reduceCtorEq, Nat.reduceAdd, Nat.reduceMul, Nat.reduceSub, evTy0, evTy1, evTy2, evTy3, evTy4, evTy5, evTy6, evTy7, evTy8, shr56, and56 hx, w1, w2, h0, hv]
  · simp only [s63, n63, ↓evPre, ev0, ev1, ev2, ev3, ev4, ev5, Nat.reduceLT, entE, getE, putE, ↓reduceIte, Nat.reduceEqDiff, argsE, Int.reduceEq, convertA, lenA, foldI, A.cells, A.leaf, List.replicate, viewA, getO, Nat.reduceLeDiff, loadA, cellsAt, cellsTo, faA, indexAddrA, asInt, Int.reduceLE, Int.reduceLT, Int.reduceToNat, eq_self, Nat.reducePow, Int.reducePow, Int.reduceAdd, Int.reduceMul, Int.reduceSub, Int.reduceNeg, keyOk, mapPutA, lookupA, mapOf, sliceA, boundI, elemsOf, appendA, storeA, setRange, indexA, Nat.reduceBEq, Int.cast_ofNat_Int, reduceCtorEq, Nat.reduceAdd, Nat.reduceMul, Nat.reduceSub, evTy0, evTy1, evTy2, evTy3, evTy4, evTy5, evTy6, evTy7, evTy8, shr56, and56 hx, w1, w2, h0, validV, ne_eq, callR_data (refMake_ev k (by omega) (hiV x) (loV x)) rfl rfl]

end Key
end Ab
namespace Ab
open Go Go.Proofs Go.IntWalk
set_option maxRecDepth 10000
set_option linter.unusedSimpArgs false
set_option linter.unusedVariables false
namespace Key
open Pr

/-- The bytes of a key. -/
def byteV (k : Int) (i : Int) : Int := k / 2 ^ (56 - 8 * i).toNat % 256
def bytesV (k : Int) : List Int := [byteV k 0, byteV k 1, byteV k 2, byteV k 3, byteV k 4, byteV k 5, byteV k 6, byteV k 7]

theorem u8_mod (x : Int) : IntKind.u8.wrap x = x % 256 := by
  rw [IntKind.wrap_u8]

theorem fd {k m : Int} (hm : 0 ≤ m) : k.fdiv m = k / m := Int.fdiv_eq_ediv_of_nonneg k hm

theorem bytesV_eq (k : Int) : bytesV k = [k / 72057594037927936 % 256, k / 281474976710656 % 256, k / 1099511627776 % 256, k / 4294967296 % 256, k / 16777216 % 256, k / 65536 % 256, k / 256 % 256, k / 1 % 256] := rfl

theorem Bytes_ev (k : Nat) (hk : 12 ≤ k) (x : Int) : callF Try.prog Hs E1 k 59 [.d (.int .u64 x)] [] = some (.d (.sl 1 (ints .u8 (bytesV x))), []) := by
  obtain ⟨k, rfl⟩ : ∃ j, k = j + 12 := ⟨k - 12, by omega⟩
  refine evalE rfl Try.func59 l59 ?_ (Nat.le_of_ble_eq_true rfl)
  rw [bytesV_eq]
  simp only [s59, n59, s59_0, ↓l_succ, ↓evPre, ev0, ev1, ev2, ev3, ev4, ev5, Nat.reduceLT, entE, getE, putE, ↓reduceIte, Nat.reduceEqDiff, argsE, Int.reduceEq, convertA, lenA, foldI, A.cells, A.leaf, List.replicate, viewA, getO, Nat.reduceLeDiff, loadA, cellsAt, cellsTo, faA, indexAddrA, asInt, Int.reduceLE, Int.reduceLT, Int.reduceToNat, eq_self, Nat.reducePow, Int.reducePow, Int.reduceAdd, Int.reduceMul, Int.reduceSub, Int.reduceNeg, keyOk, mapPutA, lookupA, mapOf, sliceA, boundI, elemsOf, appendA, storeA, setRange, indexA, Nat.reduceBEq, Int.cast_ofNat_Int, reduceCtorEq, Nat.reduceAdd, Nat.reduceMul, Nat.reduceSub, evTy0, evTy1, evTy2, evTy3, evTy4, evTy5, evTy6, evTy7, evTy8, u8_mod, fd (k := x) (m := 72057594037927936) (by omega), fd (k := x) (m := 281474976710656) (by omega), fd (k := x) (m := 1099511627776) (by omega), fd (k := x) (m := 4294967296) (by omega), fd (k := x) (m := 16777216) (by omega), fd (k := x) (m := 65536) (by omega), fd (k := x) (m := 256) (by omega), fd (k := x) (m := 1) (by omega)]

theorem refBytes_ev (k : Nat) (hk : 12 ≤ k) (x : Int) : callF Try.prog Hs E1 k 64 [.d (.int .u64 x)] [] = some (.d (.sl 1 (ints .u8 (bytesV x))), []) := by
  obtain ⟨k, rfl⟩ : ∃ j, k = j + 12 := ⟨k - 12, by omega⟩
  refine evalE rfl Try.func64 l64 ?_ (Nat.le_of_ble_eq_true rfl)
  rw [bytesV_eq]
  simp only [s64, n64, s64_0, ↓l_succ, ↓evPre, ev0, ev1, ev2, ev3, ev4, ev5, Nat.reduceLT, entE, getE, putE, ↓reduceIte, Nat.reduceEqDiff, argsE, Int.reduceEq, convertA, lenA, foldI, A.cells, A.leaf, List.replicate, viewA, getO, Nat.reduceLeDiff, loadA, cellsAt, cellsTo, faA, indexAddrA, asInt, Int.reduceLE, Int.reduceLT, Int.reduceToNat, eq_self, Nat.reducePow, Int.reducePow, Int.reduceAdd, Int.reduceMul, Int.reduceSub, Int.reduceNeg, keyOk, mapPutA, lookupA, mapOf, sliceA, boundI, elemsOf, appendA, storeA, setRange, indexA, Nat.reduceBEq, Int.cast_ofNat_Int, reduceCtorEq, Nat.reduceAdd, Nat.reduceMul, Nat.reduceSub, evTy0, evTy1, evTy2, evTy3, evTy4, evTy5, evTy6, evTy7, evTy8, u8_mod, fd (k := x) (m := 72057594037927936) (by omega), fd (k := x) (m := 281474976710656) (by omega), fd (k := x) (m := 1099511627776) (by omega), fd (k := x) (m := 4294967296) (by omega), fd (k := x) (m := 16777216) (by omega), fd (k := x) (m := 65536) (by omega), fd (k := x) (m := 256) (by omega), fd (k := x) (m := 1) (by omega)]

/-- The number that bytes spell. -/
def numV (a : Int) : List Int → Int
  | [] => a
  | c :: cs => numV (a * 256 + c) cs

def readK (b : List Int) : Int × Bool := if b.length = 8 then (if validV (numV 0 b) then (numV 0 b, true) else (0, false)) else (0, false)
def tupR (v : Int × Bool) : A := .tup [.d (.int .u64 v.1), .d (.bool v.2)]

theorem or8' {a c : Int} (ha : 0 ≤ a ∧ a < 72057594037927936) (hc : 0 ≤ c ∧ c ≤ 255) : bitOr .u64 (IntKind.u64.wrap (a * 256)) (IntKind.u64.wrap c) = a * 256 + c := by
  rw [u64_in c (by omega)]
  exact or8 ha hc

theorem Read_ev (k : Nat) (hk : 15 ≤ k) (b : List Int) (hb : ∀ n ∈ b, 0 ≤ n ∧ n ≤ 255) (hl : b.length ≤ 9223372036854775807) : callF Try.prog Hs E1 k 102 [.d (.sl 1 (ints .u8 b))] [] = some (tupR (readK b), []) := by
  obtain ⟨k, rfl⟩ : ∃ j, k = j + 12 := ⟨k - 12, by omega⟩
  refine evalE rfl Try.func102 l102 ?_ (Nat.le_of_ble_eq_true rfl)
  unfold readK
  by_cases h : b.length = 8
  · rw [if_pos h]
    obtain ⟨b0, b1, b2, b3, b4, b5, b6, b7, rfl⟩ : ∃ b0 b1 b2 b3 b4 b5 b6 b7, b = [b0, b1, b2, b3, b4, b5, b6, b7] := by
      rcases b with _ | ⟨b0, _ | ⟨b1, _ | ⟨b2, _ | ⟨b3, _ | ⟨b4, _ | ⟨b5, _ | ⟨b6, _ | ⟨b7, _ | ⟨b8, b⟩⟩⟩⟩⟩⟩⟩⟩⟩ <;> simp at h
      · exact ⟨_, _, _, _, _, _, _, _, rfl⟩
    simp only [List.mem_cons, List.not_mem_nil, or_false, forall_eq_or_imp, forall_eq] at hb
    obtain ⟨r0, r1, r2, r3, r4, r5, r6, r7⟩ := hb
    have o0 := or8' (a := 0) (c := b0) (by omega) r0
    have o1 := or8' (a := b0) (c := b1) (by omega) r1
    have o2 := or8' (a := b0 * 256 + b1) (c := b2) (by omega) r2
    have o3 := or8' (a := (b0 * 256 + b1) * 256 + b2) (c := b3) (by omega) r3
    have o4 := or8' (a := ((b0 * 256 + b1) * 256 + b2) * 256 + b3) (c := b4) (by omega) r4
    have o5 := or8' (a := (((b0 * 256 + b1) * 256 + b2) * 256 + b3) * 256 + b4) (c := b5) (by omega) r5
    have o6 := or8' (a := ((((b0 * 256 + b1) * 256 + b2) * 256 + b3) * 256 + b4) * 256 + b5) (c := b6) (by omega) r6
    have o7 := or8' (a := (((((b0 * 256 + b1) * 256 + b2) * 256 + b3) * 256 + b4) * 256 + b5) * 256 + b6) (c := b7) (by omega) r7
    have z0 : IntKind.u64.wrap (0 * 256) = 0 := by decide
    rw [z0, Int.zero_mul, Int.zero_add] at o0
    have hN : numV 0 [b0, b1, b2, b3, b4, b5, b6, b7] = ((((((b0 * 256 + b1) * 256 + b2) * 256 + b3) * 256 + b4) * 256 + b5) * 256 + b6) * 256 + b7 := by simp only [numV, Int.zero_mul, Int.zero_add]
    rw [hN]
    have hv := Valid_ev (k + 11) (by omega) (((((((b0 * 256 + b1) * 256 + b2) * 256 + b3) * 256 + b4) * 256 + b5) * 256 + b6) * 256 + b7) (by omega)
    by_cases v : validV (((((((b0 * 256 + b1) * 256 + b2) * 256 + b3) * 256 + b4) * 256 + b5) * 256 + b6) * 256 + b7)
    · simp only [s102, n102, s102_0, ↓l_succ, ↓evPre, ev0, ev1, ev2, ev3, ev4, ev5, Nat.reduceLT, entE, getE, putE, ↓reduceIte, Nat.reduceEqDiff, argsE, Int.reduceEq, convertA, lenA, foldI, A.cells, A.leaf, List.replicate, viewA, getO, Nat.reduceLeDiff, loadA, cellsAt, cellsTo, faA, indexAddrA, asInt, Int.reduceLE, Int.reduceLT, Int.reduceToNat, eq_self, Nat.reducePow, Int.reducePow, Int.reduceAdd, Int.reduceMul, Int.reduceSub, Int.reduceNeg, keyOk, mapPutA, lookupA, mapOf, sliceA, boundI, elemsOf, appendA, storeA, setRange, indexA, Nat.reduceBEq, Int.cast_ofNat_Int, reduceCtorEq, Nat.reduceAdd, Nat.reduceMul, Nat.reduceSub, evTy0, evTy1, evTy2, evTy3, evTy4, evTy5, evTy6, evTy7, evTy8, o0, o1, o2, o3, o4, o5, o6, o7, callR_data hv rfl rfl, v, tupR]
    · simp only [s102, n102, s102_0, ↓l_succ, ↓evPre, ev0, ev1, ev2, ev3, ev4, ev5, Nat.reduceLT, entE, getE, putE, ↓reduceIte, Nat.reduceEqDiff, argsE, Int.reduceEq, convertA, lenA, foldI, A.cells, A.leaf, List.replicate, viewA, getO, Nat.reduceLeDiff, loadA, cellsAt, cellsTo, faA, indexAddrA, asInt, Int.reduceLE, Int.reduceLT, Int.reduceToNat, eq_self, Nat.reducePow, Int.reducePow, Int.reduceAdd, Int.reduceMul, Int.reduceSub, Int.reduceNeg, keyOk, mapPutA, lookupA, mapOf, sliceA, boundI, elemsOf, appendA, storeA, setRange, indexA, Nat.reduceBEq, Int.cast_ofNat_Int, reduceCtorEq, Nat.reduceAdd, Nat.reduceMul, Nat.reduceSub, evTy0, evTy1, evTy2, evTy3, evTy4, evTy5, evTy6, evTy7, evTy8, o0, o1, o2, o3, o4, o5, o6, o7, callR_data hv rfl rfl, v, tupR]
  · rw [if_neg h]
    have h' : ¬ (b.length : Int) = 8 := by omega
    simp only [s102, n102, ↓evPre, ev0, ev1, ev2, ev3, ev4, ev5, Nat.reduceLT, entE, getE, putE, ↓reduceIte, Nat.reduceEqDiff, argsE, Int.reduceEq, convertA, lenA, foldI, A.cells, A.leaf, List.replicate, viewA, getO, Nat.reduceLeDiff, loadA, cellsAt, cellsTo, faA, indexAddrA, asInt, Int.reduceLE, Int.reduceLT, Int.reduceToNat, eq_self, Nat.reducePow, Int.reducePow, Int.reduceAdd, Int.reduceMul, Int.reduceSub, Int.reduceNeg, keyOk, mapPutA, lookupA, mapOf, sliceA, boundI, elemsOf, appendA, storeA, setRange, indexA, Nat.reduceBEq, Int.cast_ofNat_Int, reduceCtorEq, Nat.reduceAdd, Nat.reduceMul, Nat.reduceSub, evTy0, evTy1, evTy2, evTy3, evTy4, evTy5, evTy6, evTy7, evTy8, h', tupR]
theorem num_bytes {y : Int} (h : 0 ≤ y ∧ y ≤ 18446744073709551615) : numV 0 (bytesV y) = y := by
  rw [bytesV_eq]
  simp only [numV]
  omega

theorem bytes_in (y : Int) : ∀ n ∈ bytesV y, 0 ≤ n ∧ n ≤ 255 := by
  rw [bytesV_eq]
  simp only [List.mem_cons, List.not_mem_nil, or_false, forall_eq_or_imp, forall_eq]
  omega

theorem read_bytes {y : Int} (h : 0 ≤ y ∧ y ≤ 18446744073709551615) : readK (bytesV y) = if validV y then (y, true) else (0, false) := by
  unfold readK
  have e : (bytesV y).length = 8 := rfl
  rw [if_pos e, num_bytes h]

end Key
end Ab
