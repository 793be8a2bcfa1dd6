/- A part of the proof of a row by an interpreter that is proved sound; no conditions of its own. -/
import Derived.Test.YtpoheolnnbgebaaAbBack
namespace Ab
open Go Go.MapKept

variable {P : Program}

def OpOK (P : Program) (C : Cx) (objs : Store) (w : World) (s : Sem Next) (x : A) (objs' : Store) : Prop :=
  (∃ v C' w', (s.run P w = .ok (.value v) w' ∨ (s.run P w = .ok .skip w' ∧ v = undef)) ∧ Adv C objs w C' objs' w' ∧ Good C' objs' w' ∧ RelA C' objs' x v) ∨
  (∃ f vs, s.run P w = .ok (.enter f vs) w ∧ Calls P f vs w (fun e w' => ∃ v C', e = .returned v ∧ Adv C objs w C' objs' w' ∧ Good C' objs' w' ∧ RelA C' objs' x v))

theorem OpOK.wp {C : Cx} {objs objs' : Store} {w : World} {o : Oper} {a : Act} {x : A} (h : OpOK P C objs w (execOp a.eval o) x objs') {next : Act → World → Prop} {Q : Exit → Act → World → Prop}
    (hn : ∀ v C' w', Adv C objs w C' objs' w' → Good C' objs' w' → RelA C' objs' x v → next (a.put o.dst v) w') : o.wp P a w next Q := by
  unfold Oper.wp
  rcases h with ⟨v, C', w', h | ⟨h, rfl⟩, adv, g, r⟩ | ⟨f, vs, h, hc⟩
  · rw [h]; exact hn v C' w' adv g r
  · rw [h]; exact hn undef C' w' adv g r
  · rw [h]
    exact hc.mono fun e w' ⟨v, C', he, adv, g, r⟩ => by subst he; exact hn v C' w' adv g r

theorem Yields.op {C : Cx} {objs objs' : Store} {w : World} {s : Sem Value} {x : A} (h : Yields P C objs w s x objs') : OpOK P C objs w (do pure (.value (← s))) x objs' := by
  obtain ⟨v, C', w', h1, h2, h3, h4⟩ := h
  exact .inl ⟨v, C', w', .inl (by simp [h1, Result.andThen]), h2, h3, h4⟩

theorem OpOK.value {C : Cx} {objs : Store} {w : World} {s : Sem Next} {x : A} {v : Value} (g : Good C objs w) (h : s.run P w = .ok (.value v) w) (r : RelA C objs x v) : OpOK P C objs w s x objs :=
  .inl ⟨v, C, w, .inl h, .refl _ _ _, g, r⟩

theorem OpOK.congr {C : Cx} {objs objs' : Store} {w : World} {s s' : Sem Next} {x : A} (e : s'.run P w = s.run P w) (h : OpOK P C objs w s x objs') : OpOK P C objs w s' x objs' := by
  unfold OpOK at *
  rw [e]; exact h

theorem unit_op {C C' : Cx} {objs objs' : Store} {w w' : World} {s : Sem Unit} (h : s.run P w = .ok () w') (adv : Adv C objs w C' objs' w') (g : Good C' objs' w') : OpOK P C objs w (do s; pure .skip) .top objs' :=
  .inl ⟨undef, C', w', .inr ⟨by simp [h, Result.andThen], rfl⟩, adv, g, .top _⟩

theorem RelO.map {C : Cx} {objs : Store} {ts : List A} {a : Act} (rt : RelT C objs ts a.tmps) (x : Option Operand) : RelO C objs (x.map (ev ts)) (x.map a.eval) := by
  cases x with
  | none => trivial
  | some x => exact ev_rel rt x

theorem index_ok {C : Cx} {objs : Store} {w : World} {t : TypeId} {x i : A} {xv iv : Value} (rx : RelA C objs x xv) (ri : RelA C objs i iv) {y : A} {objs' : Store}
    (h : indexA P objs t x i = some (y, objs')) : objs' = objs ∧ Gives P C objs w (Instr.index t xv iv) y := by
  unfold indexA at h
  split at h
  · rename_i s n hu hi
    split at h
    case isFalse => cases h
    rename_i h0
    split at h
    case h_2 => cases h
    rename_i b hb
    simp only [Option.some.injEq, Prod.mk.injEq] at h
    obtain ⟨rfl, rfl⟩ := h
    obtain ⟨k, _, rfl⟩ := rel_int ri hi
    have hv := rel_str rx
    subst hv
    refine ⟨rfl, .int .u8 b.toNat, ?_, .d (.int _ _)⟩
    have hlt : n.toNat < s.size := by have := (List.getElem?_eq_some_iff.1 hb).1; simpa using this
    have hb' : s[n.toNat] = b := by
      rw [Array.getElem?_toList, Array.getElem?_eq_getElem (by simpa using hlt)] at hb
      simp only [Option.some.injEq] at hb
      exact hb
    simp [Instr.index, asIntOf, run_under hu, h0, hlt, hb']
  · rename_i len e cs n hu hi
    split at h
    case h_2 => cases h
    rename_i z ag hz hag
    split at h
    case isFalse => cases h
    rename_i hok
    obtain ⟨h0, h1, h2⟩ := hok
    simp only [Option.map_eq_some_iff, Prod.mk.injEq] at h
    obtain ⟨v, q1, rfl, rfl⟩ := h
    obtain ⟨k, _, rfl⟩ := rel_int ri hi
    obtain ⟨vs, rfl, hr⟩ := rel_agg rx
    obtain ⟨u, p1, p2⟩ := part_gives (w := w) hr hz hag h2 q1
    refine ⟨rfl, u, ?_, p2⟩
    simp [Instr.index, asIntOf, run_under hu, h0, h1, run_sizeOf' hz, p1]
  · cases h

theorem foldI_ok {C : Cx} {objs : Store} {w : World} (f : Int → Int → Int) (op : Value → Value → Sem Value) (hop : ∀ k a b, (op (.int k a) (.int k b)).run P w = .ok (.int k (f a b)) w) : ∀ (xs : List A) (vs : List Value) (k : IntKind) (n : Int) {y : A}, RelL C objs xs vs → foldI f xs k n = some y →
    ∃ m, (vs.foldlM op (.int k n)).run P w = .ok (.int k m) w ∧ y = .d (.int k m)
  | [], vs, k, n, y, h, hf => by
    rw [h.unnil]
    simp only [foldI, Option.some.injEq] at hf
    exact ⟨n, rfl, hf.symm⟩
  | x :: xs, vs, k, n, y, h, hf => by
    obtain ⟨v, us, rfl, h1, h2⟩ := h.uncons
    cases x with
    | d dx =>
      cases dx with
      | int k' m =>
        simp only [foldI] at hf
        split at hf
        · rename_i hk
          subst hk
          have hv := rel_int' h1
          subst hv
          obtain ⟨m', q1, q2⟩ := foldI_ok f op hop xs us k' (f n m) h2 hf
          exact ⟨m', by simp [List.foldlM_cons, hop, q1], q2⟩
        · cases hf
      | _ => simp [foldI] at hf
    | _ => simp [foldI] at hf

theorem builtinA_ok {C : Cx} {objs : Store} {w : World} (g : Good C objs w) {dr : Option Nat} (hp : Place objs dr) {b : Builtin} {tys : Array TypeId} {ty : TypeId} {consts : Array Bool} {args : List A} {vs : Array Value} (ra : RelL C objs args vs.toList) {y : A} {objs' : Store}
    (h : builtinA P objs dr b tys.toList args = some (y, objs')) : OpOK P C objs w (builtin b tys ty consts vs) y objs' := by
  unfold builtinA at h
  split at h
  · -- len
    rename_i x t htys
    have htys : tys = #[t] := by rw [← Array.toList_inj]; exact htys
    obtain ⟨v, us, hvs, r1, r2⟩ := ra.uncons
    rw [r2.unnil] at hvs
    have hvs : vs = #[v] := by rw [← Array.toList_inj]; exact hvs
    subst htys hvs
    split at h
    · rename_i hu
      split at h
      · rename_i s
        simp only [Option.some.injEq, Prod.mk.injEq] at h
        obtain ⟨rfl, rfl⟩ := h
        have hv := rel_str r1
        subst hv
        exact .value g (v := .int .i64 s.size) (by simp [builtin, Builtin.len_, run_under hu, goInt]) (.d (.int _ _))
      · cases h
    · rename_i e hu
      have hk : ∃ n, lenA x = some n ∧ y = .d (.int .i64 n) ∧ objs' = objs ∧ (∀ s, x ≠ .d (.str s)) ∧ x ≠ .nilm := by
        split at h
        · cases h
        · cases h
        · rename_i h1 h2
          simp only [Option.map_eq_some_iff, Prod.mk.injEq] at h
          obtain ⟨n, q1, q2, q3⟩ := h
          exact ⟨n, q1, q2.symm, q3.symm, h1, h2⟩
      obtain ⟨n, hn, rfl, rfl, hne, hne2⟩ := hk
      rcases lenA_ok r1 hn with ⟨_, c, m, b, rfl, rfl, _, _⟩ | ⟨s, rfl, rfl⟩ | ⟨rfl, rfl⟩
      · exact .value g (v := .int .i64 m) (by simp [builtin, Builtin.len_, run_under hu, goInt]) (.d (.int _ _))
      · cases r1 with
        | d hd => cases hd; exact absurd rfl (hne _)
        | top => simp [lenA] at hn
      · cases r1 with
        | d hd => cases hd
        | nilm => exact absurd rfl hne2
        | top => simp [lenA] at hn
    · rename_i kt e hu
      simp only [Option.map_eq_some_iff, Prod.mk.injEq] at h
      obtain ⟨es, q1, rfl, rfl⟩ := h
      obtain ⟨ents, hrel, ⟨rfl, rfl⟩ | ⟨b, clock, rfl, hb⟩⟩ := mapOf_ok g r1 q1
      · have : es.length = 0 := hrel.1
        rw [this]
        exact .value g (v := .int .i64 0) (by simp [builtin, Builtin.len_, run_under hu, goInt]) (.d (.int _ _))
      · have : es.length = ents.size := by simpa using hrel.1
        rw [this]
        exact .value g (v := .int .i64 ents.size) (by simp [builtin, Builtin.len_, run_under hu, goInt, run_getObj_map hb, Result.andThen]) (.d (.int _ _))
    · rename_i n e hu
      simp only [Option.some.injEq, Prod.mk.injEq] at h
      obtain ⟨rfl, rfl⟩ := h
      exact .value g (v := .int .i64 n) (by simp [builtin, Builtin.len_, run_under hu, goInt]) (.d (.int _ _))
    · cases h
  · -- append
    rename_i s x t u htys
    have htys : tys = #[t, u] := by rw [← Array.toList_inj]; exact htys
    obtain ⟨v1, us1, hvs, r1, r2⟩ := ra.uncons
    obtain ⟨v2, us2, rfl, r3, r4⟩ := r2.uncons
    rw [r4.unnil] at hvs
    have hvs : vs = #[v1, v2] := by rw [← Array.toList_inj]; exact hvs
    subst htys hvs
    split at h
    case h_2 => cases h
    rename_i z by_ he
    have key : ∀ U, P.underlying u = some U → ((∃ e, U = .slice e) ∨ U = .string) → zsizeT P t = some z → appendA objs dr z by_ s x = some (y, objs') → OpOK P C objs w (builtin .append #[t, u] ty consts #[v1, v2]) y objs' := fun U hu hU hz ha =>
      (appendA_ok g hp he hu hU hz r1 r3 ha).op
    split at h
    · rename_i e hu
      split at h
      case isFalse => cases h
      rename_i hz
      exact key _ hu (.inl ⟨e, rfl⟩) hz h
    · rename_i hu
      split at h
      case isFalse => cases h
      rename_i hz
      exact key _ hu (.inr rfl) hz h
    · cases h
  · -- min
    rename_i k n rest
    simp only [Option.map_eq_some_iff, Prod.mk.injEq] at h
    obtain ⟨v, q1, rfl, rfl⟩ := h
    obtain ⟨v0, us, hvs, r1, r2⟩ := ra.uncons
    have hv := rel_int' r1
    subst hv
    obtain ⟨m, p1, rfl⟩ := foldI_ok (P := P) (w := w) _ Builtin.min2 (fun k a b => by simp [Builtin.min2]) rest us k n r2 q1
    refine .value g (v := .int k m) ?_ (.d (.int _ _))
    simp [builtin, Builtin.min_, hvs, p1, Result.andThen]
  · -- max
    rename_i k n rest
    simp only [Option.map_eq_some_iff, Prod.mk.injEq] at h
    obtain ⟨v, q1, rfl, rfl⟩ := h
    obtain ⟨v0, us, hvs, r1, r2⟩ := ra.uncons
    have hv := rel_int' r1
    subst hv
    obtain ⟨m, p1, rfl⟩ := foldI_ok (P := P) (w := w) _ Builtin.max2 (fun k a b => by simp [Builtin.max2]) rest us k n r2 q1
    refine .value g (v := .int k m) ?_ (.d (.int _ _))
    simp [builtin, Builtin.max_, hvs, p1, Result.andThen]
  · cases h

theorem opA_ok {H : Hints} {call : FuncId → List A → Store → Option (A × Store)} (hc : CallOK P call) {C : Cx} {objs : Store} {w : World} (g : Good C objs w) {ts : List A} {a : Act} (rt : RelT C objs ts a.tmps) {dr : Option Nat} (hp : Place objs dr) {o : Oper} {x : A} {objs' : Store}
    (h : opA P H call ts objs dr o.type o.op = some (x, objs')) : OpOK P C objs w (execOp a.eval o) x objs' := by
  obtain ⟨dst, op, type, pos, after, guard⟩ := o
  cases op
  case move x =>
    simp only [opA, Option.some.injEq, Prod.mk.injEq] at h
    obtain ⟨rfl, rfl⟩ := h
    exact .value g rfl (evT_rel rt _ _)
  case assign x =>
    simp only [opA, Option.some.injEq, Prod.mk.injEq] at h
    obtain ⟨rfl, rfl⟩ := h
    exact .value g rfl (evT_rel rt _ _)
  case pick c p q =>
    have rc := ev_rel rt c
    have rp := ev_rel rt p
    have rq := ev_rel rt q
    simp only [opA] at h
    split at h
    · rename_i b hb
      simp only [Option.some.injEq, Prod.mk.injEq] at h
      obtain ⟨rfl, rfl⟩ := h
      rw [hb] at rc
      have hv := rel_bool rc
      refine .value (v := if b then a.eval p else a.eval q) g ?_ ?_
      · simp [execOp, hv, asBool]
      · cases b
        · exact rq
        · exact rp
    · cases h
  case alloc e =>
    simp only [opA] at h
    split at h
    case h_2 => cases h
    rename_i z hz
    split at h
    case isFalse => cases h
    rename_i hok
    simp only [Option.some.injEq, Prod.mk.injEq] at h
    obtain ⟨rfl, rfl⟩ := h
    obtain ⟨i, zv, hi, hzv, hzr⟩ := zeroA_ok (C := C) (objs := objs) hz
    obtain ⟨C', adv, g', r'⟩ := newBox_ok g hp e hzr hok.2
    exact Yields.op ⟨_, C', _, by simp [Instr.alloc, zeroValue, typeInfo, hi, hzv, newVar, newRow], adv, g', r'⟩
  case box e v =>
    have rv := evT_rel (P := P) rt e v
    simp only [opA] at h
    split at h
    case isFalse => cases h
    rename_i hok
    simp only [Option.some.injEq, Prod.mk.injEq] at h
    obtain ⟨rfl, rfl⟩ := h
    obtain ⟨C', adv, g', r'⟩ := newBox_ok g hp e (cells_rel rv hok).1 hok
    exact Yields.op ⟨_, C', _, by simp [Instr.box, newVar, newRow], adv, g', r'⟩
  case build t parts =>
    simp only [opA] at h
    split at h
    case h_2 => cases h
    rename_i cs hcs
    simp only [Option.some.injEq, Prod.mk.injEq] at h
    obtain ⟨rfl, rfl⟩ := h
    have hgo : Gives P C objs w (Instr.build t (parts.map fun (i, x) => (i, a.eval x))) (.agg cs) := by
      unfold buildA at hcs
      split at hcs
      · rename_i z fs hz hu
        split at hcs
        case isFalse => cases hcs
        rename_i hsz
        refine build_struct hu hz ?_ hsz hcs
        rw [Array.toList_map]
        exact RelP.map (C := C) (objs := objs) _ a.eval (fun p => evT_rel rt _ _) parts.toList
      · rename_i z k e hz hu
        split at hcs
        · rename_i n hn
          refine build_array hu hn hz ?_ hcs
          have := RelP.map (C := C) (objs := objs) (fun p => evT P ts e p.2) a.eval (fun p => evT_rel rt _ _) parts.toList
          simpa using this
        · cases hcs
      · cases hcs
    exact (hgo.yields g).op
  case buildSlice t len parts =>
    simp only [opA] at h
    split at h
    case h_2 => cases h
    rename_i e hu
    split at h
    case h_2 => cases h
    rename_i z n by_ hz he
    split at h
    case h_2 => cases h
    rename_i zd hzd
    split at h
    case isFalse => cases h
    rename_i hok
    split at h
    case h_2 => cases h
    rename_i es objs1 hel
    simp only [Option.some.injEq, Prod.mk.injEq] at h
    obtain ⟨rfl, rfl⟩ := h
    exact (buildSlice_ok g rt hp hu he hz hzd hok.1 hok.2.2.1 hok.2.2.2 hel).op
  case load t p =>
    have rp := ev_rel rt p
    simp only [opA, Option.map_eq_some_iff] at h
    obtain ⟨v, h1, h2⟩ := h
    cases h2
    exact (load_ok g rp h1).op
  case store t p v =>
    have rp := ev_rel rt p
    have rv := evT_rel (P := P) rt t v
    simp only [opA, Option.map_eq_some_iff] at h
    obtain ⟨o1, h1, h2⟩ := h
    cases h2
    obtain ⟨C', w', q1, q2, q3⟩ := store_ok g rp rv h1
    exact unit_op q1 q2 q3
  case nilCheck v =>
    have rv := ev_rel rt v
    simp only [opA] at h
    split at h
    · rename_i hn
      simp only [Option.some.injEq, Prod.mk.injEq] at h
      obtain ⟨rfl, rfl⟩ := h
      rcases rel_nil rv hn with ⟨q, _⟩ | ⟨_, ⟨p, hp⟩ | ⟨f, us, vs, hp⟩⟩
      · cases q
      · exact .value g (by simp only [execOp, hp]; rfl) (by rw [← hp]; exact rv)
      · exact .value g (by simp only [execOp, hp]; rfl) (by rw [← hp]; exact rv)
    · cases h
  case binOp op t p q yt =>
    simp only [opA, Option.map_eq_some_iff] at h
    obtain ⟨v, h1, h2⟩ := h
    cases h2
    have := (binA_ok (w := w) (ev_rel rt p) (ev_rel rt q) h1 p q)
    exact (this.yields g).op
  case unOp op t p =>
    have rp := ev_rel rt p
    simp only [opA] at h
    split at h
    · rename_i b hb
      simp only [Option.some.injEq, Prod.mk.injEq] at h
      obtain ⟨rfl, rfl⟩ := h
      rw [hb] at rp
      have hv := rel_bool rp
      exact .value (v := .bool !b) g (by simp [execOp, hv, Op.unary]) (.d (.bool _))
    · rename_i k n hb
      simp only [Option.some.injEq, Prod.mk.injEq] at h
      obtain ⟨rfl, rfl⟩ := h
      rw [hb] at rp
      have hv := rel_int' rp
      exact .value (v := .int k (k.wrap (0 - n))) g (by simp [execOp, hv, Op.unary, Op.intArith]) (.d (.int _ _))
    · cases h
  case convert s t p => exact (convertA_ok g (ev_rel rt p) (by simpa [opA] using h)).op
  case makeFunc fn p q =>
    cases fn <;> simp only [opA] at h <;> first | (cases h; done) | skip
    case func f =>
      simp only [Option.some.injEq, Prod.mk.injEq] at h
      obtain ⟨rfl, rfl⟩ := h
      refine .value (v := .func (.func f) (p.map a.eval) (q.map a.eval)) g (by simp [execOp, Instr.makeFunc]) ?_
      have h1 := RelL.map (C := C) (objs := objs) (ev ts) a.eval (fun x => ev_rel rt x) p.toList
      have h2 := RelL.map (C := C) (objs := objs) (ev ts) a.eval (fun x => ev_rel rt x) q.toList
      obtain ⟨l1, r1⟩ := array_of_relL h1
      obtain ⟨l2, r2⟩ := array_of_relL h2
      simp at r1 r2
      exact .fn f _ _ _ _ (by simp) (by simp) (by simpa using r1) (by simpa using r2)
  case makeMap t r =>
    cases r with
    | some r => simp [opA] at h
    | none =>
      simp only [opA, Option.some.injEq, Prod.mk.injEq] at h
      obtain ⟨rfl, rfl⟩ := h
      exact (makeMap_ok g hp t).op
  case makeSlice t l c =>
    simp only [opA] at h
    split at h
    case h_2 => cases h
    rename_i e n by_ len cap hu he hl hcap
    split at h
    case h_2 => cases h
    rename_i z hz
    split at h
    case h_2 => cases h
    rename_i zd hzd
    split at h
    case isFalse => cases h
    rename_i hok
    obtain ⟨k0, rfl, k2, k3, k4, k5, k6⟩ := hok
    simp only [Option.some.injEq, Prod.mk.injEq] at h
    obtain ⟨rfl, rfl⟩ := h
    exact (makeSlice_ok g hp hu he (ev_rel rt l) (ev_rel rt c) hl hcap hz hzd k0 k2 k4 k5 k6).op
  case slice t p l hh m => exact (sliceA_ok g (ev_rel rt p) (RelO.map rt l) (RelO.map rt hh) (RelO.map rt m) (by simpa [opA] using h)).op
  case fieldAddr s p f =>
    have rp := ev_rel rt p
    simp only [opA] at h
    split at h
    case h_2 => cases h
    rename_i o n ag hf
    split at h
    case isFalse => cases h
    rename_i hn
    simp only [Option.map_eq_some_iff] at h
    obtain ⟨v, h1, h2⟩ := h
    cases h2
    exact ((fieldAddr_ok (w := w) hf hn rp h1).yields g).op
  case field t p f =>
    have rp := ev_rel rt p
    simp only [opA] at h
    split at h
    case h_2 => cases h
    rename_i o n ag cs hf hp'
    split at h
    case isFalse => cases h
    rename_i hl
    simp only [Option.map_eq_some_iff] at h
    obtain ⟨v, h1, h2⟩ := h
    cases h2
    rw [hp'] at rp
    exact ((field_ok (w := w) hf rp hl h1).yields g).op
  case indexAddr t p i =>
    simp only [opA, Option.map_eq_some_iff] at h
    obtain ⟨v, h1, h2⟩ := h
    cases h2
    exact ((indexAddr_ok (w := w) (ev_rel rt p) (ev_rel rt i) h1).yields g).op
  case index t p i =>
    simp only [opA] at h
    obtain ⟨rfl, q⟩ := index_ok (w := w) (ev_rel rt p) (ev_rel rt i) h
    exact (q.yields g).op
  case lookup t m k ok =>
    have rk := ev_rel rt k
    simp only [opA] at h
    split at h
    case h_2 => cases h
    rename_i kt e kd hm hk
    split at h
    case h_2 => cases h
    rename_i z hz
    rw [hk] at rk
    obtain ⟨rfl, q⟩ := lookupA_ok (w := w) g hm hz (ev_rel rt m) rk h
    exact (q.yields g).op
  case mapUpdate t m k v =>
    have rk := ev_rel rt k
    have rm := ev_rel rt m
    simp only [opA] at h
    split at h
    case h_2 => cases h
    rename_i kt e id kd hm hmid hk
    rw [hk] at rk
    rw [hmid] at rm
    obtain ⟨C', w', q1, q2, q3, rfl⟩ := mapPutA_ok g hm rm rk (evT_rel (P := P) rt e v) h
    exact unit_op q1 q2 q3
  case insert t m k v =>
    have rk := ev_rel rt k
    have rm := ev_rel rt m
    simp only [opA] at h
    split at h
    case h_2 => cases h
    rename_i kt e id kd hm hmid hk
    rw [hk] at rk
    rw [hmid] at rm
    obtain ⟨C', w', q1, q2, q3, rfl⟩ := mapPutA_ok g hm rm rk (evT_rel (P := P) rt e v) h
    exact unit_op q1 q2 q3
  case extract p i =>
    have rp := ev_rel rt p
    simp only [opA] at h
    split at h
    case h_2 => cases h
    rename_i vs hvs
    split at h
    case h_2 => cases h
    rename_i v hv
    simp only [Option.some.injEq, Prod.mk.injEq] at h
    obtain ⟨rfl, rfl⟩ := h
    rw [hvs] at rp
    generalize hq : a.eval p = pv at rp
    cases rp with
    | tup _ us hl hr =>
      have hi : i < us.size := by have := (List.getElem?_eq_some_iff.1 hv).1; omega
      have := hr i v hv
      rw [Array.getD_eq_getD_getElem?, Array.getElem?_eq_getElem hi] at this
      exact .value (v := us[i]) g (by simp [execOp, hq, Instr.extract, hi]) this
  case call c =>
    simp only [opA] at h
    split at h
    · rename_i b hb
      have := builtinA_ok (w := w) (ty := type) (consts := c.args.map fun | .const _ => true | _ => false) (vs := c.args.map a.eval) g hp (by
        have := RelL.map (C := C) (objs := objs) (ev ts) a.eval (fun x => ev_rel rt x) c.args.toList
        simpa using this) h
      refine OpOK.congr ?_ this
      simp only [execOp, resolve, hb]
      rfl
    · rename_i gv hg
      split at h
      case h_2 => cases h
      rename_i f p q hfn
      have rg := ev_rel rt gv
      rw [hfn] at rg
      generalize hq : a.eval gv = gvv at rg
      cases rg with
      | fn _ _ _ vs us hv hu h1 h2 =>
        have hrel : RelL C objs (p ++ (c.args.toList.zipIdx.map fun (x, i) => evT P ts (c.argTypes.getD i 0) x) ++ q) (vs ++ c.args.map a.eval ++ us).toList := by
          have hmid := RelL.map (C := C) (objs := objs) (fun p : Operand × Nat => evT P ts (c.argTypes.getD p.2 0) p.1) (fun p => a.eval p.1) (fun p => evT_rel rt _ _) c.args.toList.zipIdx
          have : c.args.toList.zipIdx.map (fun p => a.eval p.1) = (c.args.map a.eval).toList := by
            rw [show (fun p : Operand × Nat => a.eval p.1) = a.eval ∘ Prod.fst from rfl, ← List.map_map, List.zipIdx_map_fst]
            simp
          rw [this] at hmid
          simpa using ((relL_of_array hv h1).append hmid).append (relL_of_array hu h2)
        obtain ⟨⟨fn, body, hf, hbody, hname⟩, hcalls⟩ := callA_ok hc g hp hrel h
        refine .inr ⟨f, vs ++ c.args.map a.eval ++ us, ?_, hcalls⟩
        simp [execOp, resolve, hg, hq, Deferred.ofValue, invoke, callFunc, hf, hbody, hname, Result.andThen]
    · cases h
  all_goals simp [opA] at h

end Ab
