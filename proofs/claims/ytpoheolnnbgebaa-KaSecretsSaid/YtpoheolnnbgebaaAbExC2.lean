/- A part of the proof of a row by an interpreter that is proved sound; no conditions of its own. -/
import Derived.Test.YtpoheolnnbgebaaAbExC
import Derived.WalkKit
import Derived.Lib.SliceRun
import Derived.Lib.BytesEntry
import Derived.Lib.Walk
namespace Ab
open Go Go.Proofs Go.IntWalk
set_option maxRecDepth 10000
set_option linter.unusedSimpArgs false
set_option linter.unusedVariables false
namespace Pr

variable {P : Program}

/-- What a function hands back at its end. -/
theorem end_ok {H : Hints} {f : FuncId} {fn : Func} {C C1 : Cx} {inc : Store} {w w' : World} {s : St} {a' : Act} {r : A} {out : Store} (hf : From C inc w C1 s a' w')
    (h : (match resultsA P H f s.tmps s.objs fn.results.toList with
      | some ([r], objs) => leaveA inc.length r objs
      | some (rs, objs) => leaveA inc.length (.tup rs) objs
      | none => none) = some (r, out)) (e : Exit) (he : e = .normal ∨ e = .ret) :
    bodyPost P fn (fun e w' => ∃ v C', e = .returned v ∧ Adv C inc w C' out w' ∧ Good C' out w' ∧ RelA C' out r v) e a' w' := by
  have key : a'.defers = [] ∧ ∃ v, (results fn a'.tmps).run P w' = .ok v w' ∧ ∃ v' C', Ending.returned v = .returned v' ∧ Adv C inc w C' out w' ∧ Good C' out w' ∧ RelA C' out r v' := by
    refine ⟨hf.rel.defers, ?_⟩
    have run : ∀ vs : List Value, (∀ i rv, fn.results.toList[i]? = some rv → (readR a'.tmps rv).run P w' = .ok (vs.getD i undef) w') → fn.results.toList.length = vs.length →
        (results fn a'.tmps).run P w' = .ok (if h : vs.toArray.size = 1 then vs.toArray[0] else .tuple vs.toArray) w' := fun vs h1 h2 => by
      rw [results_eq]
      have := mapM_run (P := P) (f := readR a'.tmps) (w := w') fn.results vs h2 h1
      simp only [Sem.run_bind, this]
      rfl
    split at h
    · rename_i r1 objs1 hres
      obtain ⟨C1, vs1, e1, e2, adv1, g1, r1'⟩ := resultsA_ok _ hf.rel.good hf.rel.tmps hres
      obtain ⟨v, us, rfl, q1, q2⟩ := r1'.uncons
      have hus := q2.unnil
      subst hus
      obtain ⟨C2, k1, k2, k3⟩ := leaveA_ok (hf.adv.trans adv1) g1 q1 h
      exact ⟨v, run [v] e1 e2, v, C2, rfl, k1, k2, k3⟩
    · rename_i rs objs1 hne1 hres
      obtain ⟨C1, vs1, e1, e2, adv1, g1, r1'⟩ := resultsA_ok _ hf.rel.good hf.rel.tmps hres
      obtain ⟨C2, k1, k2, k3⟩ := leaveA_ok (hf.adv.trans adv1) g1 (.tup' r1') h
      have hlen : vs1.length ≠ 1 := fun h1 => by
        have hr := r1'.1
        rw [h1] at hr
        obtain ⟨r0, rfl⟩ := List.length_eq_one_iff.1 hr
        simp_all
      refine ⟨_, run vs1 e1 e2, _, C2, rfl, k1, k2, ?_⟩
      rw [dif_neg (by simpa using hlen)]
      exact k3
    · cases h
  rcases he with rfl | rfl <;> exact key


theorem wpOp_plain {ops : Array Oper} {Q : Exit → Act → World → Prop} {i : Nat} {K : Act → World → Prop} {a : Act} {w : World} {o : Oper} (ho : ops[i]? = some o) (hg : o.guard = none) (h : o.wp P a w K Q) : wpOp P ops Q i K a w := by
  unfold wpOp
  simp only [ho]
  rw [if_pos (by simp [Region.wanted, hg])]
  exact .inl h

theorem run_op {t e : TypeId} (ht : P.underlying t = some (.slice e)) {a : Act} {w : World} {dst : Option Tmp} {ty : TypeId} {pos : String} {after : Array Edge} {x : Operand} {yt : TypeId} {b : Option Addr} {len cap : Nat} (hx : a.eval x = .slice b len cap) :
    (execOp a.eval ⟨dst, .binOp .eql t x (.const (.slice none 0 0)) yt, ty, pos, after, none⟩).run P w = .ok (.value (.bool b.isNone)) w := by
  have hy : a.eval (.const (.slice none 0 0)) = .slice none 0 0 := rfl
  have hg : (eqGuard .eql t x (.const (.slice none 0 0)) (.slice b len cap) (.slice none 0 0)).run P w = .ok () w := by
    simp [eqGuard]
  simp [execOp, hx, hy, hg, Lib.run_eql_slice_nil w t e b len cap 0 0 ht, Result.andThen]

theorem wpOp_eqnil {ops : Array Oper} {Q : Exit → Act → World → Prop} {i : Nat} {K : Act → World → Prop} {a : Act} {w : World} {t e : TypeId} {dst : Option Tmp} {ty : TypeId} {pos : String} {after : Array Edge} {x : Operand} {yt : TypeId} {b : Option Addr} {len cap : Nat}
    (ho : ops[i]? = some ⟨dst, .binOp .eql t x (.const (.slice none 0 0)) yt, ty, pos, after, none⟩) (ht : P.underlying t = some (.slice e)) (hx : a.eval x = .slice b len cap) (h : K (a.put dst (.bool b.isNone)) w) : wpOp P ops Q i K a w := by
  refine wpOp_plain ho rfl ?_
  unfold Oper.wp
  rw [run_op ht hx, Oper.upon_value]
  exact h

theorem sl_rel {C : Cx} {objs : Store} {sz : Nat} {es : List (List D)} {v : Value} (r : RelA C objs (.d (.sl sz es)) v) : ∃ a cap, v = .slice a es.length cap := by
  cases r with
  | d hd => cases hd; exact ⟨_, _, rfl⟩

/-- slices.Clone. -/
theorem clone_ok (es : List (List D)) (hl : es.length ≤ 140737488355328) (C : Cx) (w : World) (vs : Array Value) (g : Good C [] w) (ra : RelL C [] [.d (.sl 1 es)] vs.toList) :
    Calls Try.prog 105 vs w (fun e w' => ∃ v C', e = .returned v ∧ Adv C [] w C' [.arr 1 es false] w' ∧ Good C' [.arr 1 es false] w' ∧ RelA C' [.arr 1 es false] (.arr 0 0 es.length es.length) v) := by
  have hm : Try.prog.follows .mixedOrders = true := by kernel_rfl
  have hE : ExtOK Try.prog (fun _ => none) := fun f g h => by cases h
  have hc := callF_ok (P := Try.prog) (H := Hs) (E := fun _ => none) hm hE 0
  obtain ⟨v0, us, h1, r0, ra1⟩ := ra.uncons
  have h3 := ra1.unnil
  subst h3
  have : vs = #[v0] := by cases vs; simp_all
  subst this
  obtain ⟨a, cap, rfl⟩ := sl_rel r0
  have hb : Try.f105.body = some (.seq (.region 0 _ false) (.seq (.seq (.region 1 _ false) (.cond (.tmp 4) (.seq (.region 2 _ false) .ret) .skip)) (.seq (.region 3 _ false) .ret))) := rfl
  refine calls_of_wp Try.func105 hb ?_
  have hrel : (⟨[.d (.sl 1 es), .un, .un, .un, .un, .un, .un, .un], []⟩ : St).Rel C { tmps := #[.slice a es.length cap] ++ Array.replicate (Try.f105.ntmps - #[Value.slice a es.length cap].size) undef, defers := [] } w := by
    have hn : Try.f105.ntmps = 8 := rfl
    rw [hn]
    refine ⟨g, ⟨by simp, fun i y hy => ?_⟩, rfl⟩
    rcases i with _ | _ | _ | _ | _ | _ | _ | _ | i
    · simp only [List.getElem?_cons_zero, Option.some.injEq] at hy; subst hy; exact r0
    all_goals (simp only [List.getElem?_cons_succ, List.getElem?_cons_zero, List.getElem?_nil, Option.some.injEq, reduceCtorEq] at hy)
    all_goals (subst hy; exact .un)
  refine wp_seq ?_
  refine codeA_ok (H := Hs) (f := 105) (k := 0) hm hc _ 0 (C := C) (C0 := C) (inc := []) (w0 := w) (x := .normal) ⟨.refl _ _ _, hrel⟩ rfl fun C1 a1 w1 hf1 => ?_
  show Code.wp _ _ _ _ _
  refine wp_seq ?_
  refine wp_seq ?_
  refine wp_region ?_
  show wpOps _ _ _ [0, 1] _ _
  rw [wpOps_cons]
  refine stepA_ok (H := Hs) (f := 105) (rid := 1) (dr := none) hc hf1.rel trivial (i := 0) (o := _) rfl (s1 := _) rfl fun C2 a2 w2 adv2 hr2 => ?_
  rw [wpOps_cons]
  have hf2 := hf1.step adv2 hr2
  have q3 : RelA C2 [] (.d (.sl 1 es)) (a2.tmps.getD 3 undef) := hr2.tmps.get 3
  obtain ⟨b, cap2, hv⟩ := sl_rel q3
  have hsz : a2.tmps.size = 8 := hr2.tmps.1.symm
  have hx : a2.eval (.tmp 3) = .slice b es.length cap2 := hv
  refine wpOp_eqnil rfl Try.underlying24 hx ?_
  have hev : (a2.put (some 4) (.bool b.isNone)).eval (.tmp 4) = .bool b.isNone := by
    simp [Act.eval, Act.put, hsz]
  have hr2' : St.Rel C2 ⟨[.d (.sl 1 es), .un, .nilsl 1, .d (.sl 1 es), .un, .un, .un, .un], []⟩ a2 w2 := hr2
  have hf2' : From C [] w C2 ⟨[.d (.sl 1 es), .un, .nilsl 1, .d (.sl 1 es), .un, .un, .un, .un], []⟩ a2 w2 := hf2
  have hf3 : From C [] w C2 ⟨[.d (.sl 1 es), .un, .nilsl 1, .d (.sl 1 es), .top, .un, .un, .un], []⟩ (a2.put (some 4) (.bool b.isNone)) w2 :=
    hf2'.step (.refl _ _ _) ⟨hr2'.good, hr2'.tmps.put (.top (.bool b.isNone)) (some 4), by rw [put_defers']; exact hr2'.defers⟩
  show Code.wp _ _ _ _ _
  refine wp_cond hev ?_
  cases b with
  | none =>
    have he : es = [] := by
      rw [hv] at q3
      cases q3 with
      | d hd => cases hd with
        | sl _ _ _ _ u hcx hz hr hm2 =>
          cases es with
          | nil => rfl
          | cons e es =>
            have hez := hz e (by simp)
            obtain ⟨ad, h, _⟩ := hm2 0 e 0 (by simp) (by omega)
            cases h
    subst he
    refine codeA_ok (H := Hs) (f := 105) (k := 0) hm hc _ 0 (C0 := C) (inc := []) (w0 := w) (x := .ret) hf3 rfl fun C4 a4 w4 hf4 => ?_
    exact end_ok (H := Hs) (f := 105) hf4 rfl .ret (.inr rfl)
  | some ad =>
    show Code.wp _ Code.skip _ _ _
    refine wp_skip ?_
    show Code.wp _ _ _ _ _
    have hf5 : From C [] w C2 ⟨[.d (.sl 1 es), .un, .nilsl 1, .d (.sl 1 es), .top, .un, .un, .un], []⟩ (a2.put (some 4) (.bool (some ad).isNone)) w2 := hf3
    have h1 : sizeT Try.prog 5 = some 1 := rfl
    refine codeA_ok (H := Hs) (f := 105) (k := 0) hm hc _ 0 (C0 := C) (inc := []) (w0 := w) (x := .ret) (s' := ⟨[.d (.sl 1 es), .un, .arr 0 0 es.length es.length, .d (.sl 1 es), .top, .arr 0 0 0 0, .d (.sl 1 es), .arr 0 0 es.length es.length], [.arr 1 es false]⟩) hf5 ?_ fun C4 a4 w4 hf4 => ?_
    · have hb1 : es.length * 1 ≤ 140737488355328 := by omega
      have hb2 : es.length ≤ 140737488355328 := hl
      have z0 : Hs.fresh 105 3 0 = [] := rfl
      have z1 : Hs.fresh 105 3 1 = [] := rfl
      have z2 : Hs.fresh 105 3 2 = [] := rfl
      have z3 : Hs.fresh 105 3 3 = [] := rfl
      simp only [codeA, runOps, stepA, wantedA, putA, ev, z0, z1, z2, z3, ↓evPre, ev0, ev1, ev2, ev3, ev4, ev5, Nat.reduceLT, entE, getE, putE, ↓reduceIte, Nat.reduceEqDiff, argsE, Int.reduceEq, convertA, lenA, foldI, A.cells, A.leaf, List.replicate, viewA, getO, Nat.reduceLeDiff, loadA, cellsAt, cellsTo, faA, indexAddrA, asInt, Int.reduceLE, Int.reduceLT, Int.reduceToNat, eq_self, Nat.reducePow, Int.reducePow, Int.reduceAdd, Int.reduceMul, Int.reduceSub, Int.reduceNeg, keyOk, mapPutA, lookupA, mapOf, sliceA, boundI, elemsOf, appendA, storeA, setRange, indexA, Nat.reduceBEq, Int.cast_ofNat_Int, reduceCtorEq, Nat.reduceAdd, Nat.reduceMul, Nat.reduceSub, evTy0, evTy1, evTy2, evTy3, evTy4, evTy5, evTy6, evTy7, evTy8, hb1, hb2]
    · exact end_ok (H := Hs) (f := 105) hf4 rfl .ret (.inr rfl)

/-- internal/bytealg.IndexByte at a slice. -/
theorem run_idx {w : World} (a : Addr) (xs : List Int) (cap : Nat) (hc : ∀ j x, xs[j]? = some x → w.cell? (a.add j) = some (.int .u8 x)) (cv : Int) :
    (Extern.BytealgIndexByte.indexByte #[.slice (some a) xs.length cap, .int .u8 cv]).run P w = .ok (.int .i64 (Lib.indexByte (Lib.bytesOf xs) cv.toNat.toUInt8)) w := by
  have hl := Lib.run_loadBytesX (P := P) w xs a .empty hc
  have hs := Lib.run_indexByteString (P := P) ⟨(Lib.bytesOf xs).toArray⟩ cv w
  have he : (⟨ByteArray.empty.data ++ (Lib.bytesOf xs).toArray⟩ : ByteArray) = ⟨(Lib.bytesOf xs).toArray⟩ := by
    apply ByteArray.ext
    show (#[] : Array UInt8) ++ (Lib.bytesOf xs).toArray = (Lib.bytesOf xs).toArray
    simp
  rw [he] at hl
  have both : ∀ v : Value, (Extern.BytealgIndexByte.indexByte #[v, .int .u8 cv]).run P w = Sem.run P (do
      let s ← Extern.Bytes.bytesOf v
      let d ← Extern.Bytes.asByte (.int .u8 cv)
      match (List.range s.size).find? fun i => s[i]! == d with
      | some i => pure (goInt i)
      | none => pure (goInt (-1))) w := fun _ => rfl
  rw [both] at hs ⊢
  simp only [Extern.Bytes.bytesOf, Sem.run_bind, Sem.run_pure, hl, Result.andThen] at hs ⊢
  exact hs

set_option maxHeartbeats 1000000 in
set_option maxRecDepth 100000 in
theorem bytesIndex (v : Value) (xs : List Int) (c : Int) (w : World) (h : (Extern.BytealgIndexByte.indexByte #[v, .int .u8 c]).run Try.prog w = .ok (.int .i64 (Lib.indexByte (Lib.bytesOf xs) c.toNat.toUInt8)) w) :
    Calls Try.prog 110 #[v, .int .u8 c] w fun e w' => e = .returned (.int .i64 (Lib.indexByte (Lib.bytesOf xs) c.toNat.toUInt8)) ∧ w' = w := by
  go_enter Try.func110, Try.ntmps110
  go_wp2
  rw [run_callFunc_extern Try.func116 (by kernel_rfl) (by kernel_rfl) (by kernel_rfl) (e := Extern.BytealgIndexByte.indexByte) (by kernel_rfl), h]
  simp only [Result.andThen]
  rw [Oper.upon_value]
  go_wp2
  go_ret
  exact ⟨rfl, rfl⟩

theorem strOf_rows : ∀ {es : List (List D)} {l : List UInt8}, strOf es = some l → ∃ ns : List Int, es = ints .u8 ns ∧ l = Lib.bytesOf ns := by
  intro es
  induction es with
  | nil => intro l h; simp only [strOf, Option.some.injEq] at h; subst h; exact ⟨[], rfl, rfl⟩
  | cons e es ih =>
    intro l h
    unfold strOf at h
    split at h
    · rename_i h1; cases h1
    · rename_i n es' h1
      cases h1
      rw [Option.map_eq_some_iff] at h
      obtain ⟨l', h2, rfl⟩ := h
      obtain ⟨ns, rfl, rfl⟩ := ih h2
      exact ⟨n :: ns, rfl, rfl⟩
    · cases h

theorem index_ok (s : ByteArray) (c : Int) (C : Cx) (w : World) (vs : Array Value) (g : Good C [] w) (ra : RelL C [] [.d (.str s), .d (.int .u8 c)] vs.toList) :
    Calls Try.prog 118 vs w (fun e w' => ∃ v C', e = .returned v ∧ Adv C [] w C' [] w' ∧ Good C' [] w' ∧ RelA C' [] (.d (.int .i64 (Lib.indexByte s.data.toList c.toNat.toUInt8))) v) := by
  obtain ⟨v0, us, h1, r0, ra1⟩ := ra.uncons
  obtain ⟨v1, us1, h2, r1, ra2⟩ := ra1.uncons
  have h3 := ra2.unnil
  subst h3; subst h2
  have e0 := rel_str r0
  have e1 := rel_int' r1
  subst e0; subst e1
  have : vs = #[.string s, .int .u8 c] := by cases vs; simp_all
  subst this
  refine (Try.stringslite_IndexByte s c w).mono fun e w' he => ?_
  obtain ⟨rfl, rfl⟩ := he
  exact ⟨_, C, rfl, .refl _ _ _, g, .d (.int _ _)⟩

theorem indexB_ok (es : List (List D)) (l : List UInt8) (hl : strOf es = some l) (c : Int) (C : Cx) (w : World) (vs : Array Value) (g : Good C [] w) (ra : RelL C [] [.d (.sl 1 es), .d (.int .u8 c)] vs.toList) :
    Calls Try.prog 110 vs w (fun e w' => ∃ v C', e = .returned v ∧ Adv C [] w C' [] w' ∧ Good C' [] w' ∧ RelA C' [] (.d (.int .i64 (Lib.indexByte l c.toNat.toUInt8))) v) := by
  obtain ⟨v0, us, h1, r0, ra1⟩ := ra.uncons
  obtain ⟨v1, us1, h2, r1, ra2⟩ := ra1.uncons
  have h3 := ra2.unnil
  subst h3; subst h2
  have e1 := rel_int' r1
  subst e1
  have : vs = #[v0, .int .u8 c] := by cases vs; simp_all
  subst this
  obtain ⟨ns, rfl, rfl⟩ := strOf_rows hl
  have hrun : (Extern.BytealgIndexByte.indexByte #[v0, .int .u8 c]).run Try.prog w = .ok (.int .i64 (Lib.indexByte (Lib.bytesOf ns) c.toNat.toUInt8)) w := by
    cases r0 with
    | d hd => cases hd with
      | sl _ _ a cap u hcx hz hr hm =>
        rw [ints_len]
        cases a with
        | none =>
          have he : ns = [] := by
            cases ns with
            | nil => rfl
            | cons n ns =>
              obtain ⟨ad, h, _⟩ := hm 0 [.int .u8 n] 0 rfl (by simp)
              cases h
          subst he
          exact Lib.run_indexByteNil w _ _ c
        | some ad =>
          refine run_idx ad ns cap (fun j x hj => ?_) c
          have hg : (ints .u8 ns)[j]? = some [.int .u8 x] := by simp [ints, List.getElem?_map, hj]
          obtain ⟨ad2, h, hM⟩ := hm j [.int .u8 x] 0 hg (by simp)
          cases h
          have hv := hr j 0 [.int .u8 x] (.int .u8 x) hg rfl
          have hs := g.seal_ _ _ hM
          cases hq : u j 0 <;> rw [hq] at hv <;> cases hv
          rw [hq] at hs
          simpa using hs
  refine (bytesIndex v0 ns c w hrun).mono fun e w' he => ?_
  obtain ⟨rfl, rfl⟩ := he
  exact ⟨_, C, rfl, .refl _ _ _, g, .d (.int _ _)⟩

theorem ext_ok : ExtOK Try.prog E1 := by
  intro f g hg args inc r out h
  unfold E1 at hg
  split at hg
  · rename_i hf
    subst hf
    cases hg
    unfold gIndex at h
    split at h
    case h_2 => cases h
    cases h
    exact ⟨⟨Try.f118, _, Try.func118, rfl, by decide⟩, fun C w vs g ra => index_ok _ _ C w vs g ra⟩
  · split at hg
    · rename_i hf
      subst hf
      cases hg
      unfold gIndexB at h
      split at h
      case h_2 => cases h
      split at h
      case h_2 => cases h
      rename_i l hl
      cases h
      exact ⟨⟨Try.f110, _, Try.func110, rfl, by decide⟩, fun C w vs g ra => indexB_ok _ l hl _ C w vs g ra⟩
    · split at hg
      case isFalse => cases hg
      rename_i hf
      subst hf
      cases hg
      unfold gClone at h
      split at h
      case h_2 => cases h
      split at h
      case isFalse => cases h
      rename_i hl
      cases h
      exact ⟨⟨Try.f105, _, Try.func105, rfl, by decide⟩, fun C w vs g ra => clone_ok _ hl C w vs g ra⟩
end Pr
end Ab
