/- A part of the proof of a row by an interpreter that is proved sound; no conditions of its own. -/
import Derived.Test.YtpoheolnnbgebaaAbCode
namespace Ab
open Go

variable {P : Program}

theorem loadVar_ok {C : Cx} {objs : Store} {w : World} (g : Good C objs w) {t : TypeId} {p x : A} {v : Value} (r : RelA C objs p v) (h : loadA P objs t p = some x) :
    ∃ u, (do loadVar t (← asAddr v) : Sem Value).run P w = .ok u w ∧ RelA C objs x u := by
  unfold loadA at h
  split at h
  · rename_i n ag hn hag
    split at h
    · rename_i cs hcs
      split at h
      · rename_i hle
        obtain ⟨ad, vs, rfl, hr, hcell⟩ := cellsAt_rel g r hcs
        have hr2 := hr.take n
        have hl : (vs.take n).length = n := by rw [← hr2.1, List.length_take]; omega
        have hc2 : ∀ j u, (vs.take n)[j]? = some u → w.cell? (ad.add j) = some u := fun j u hu => hcell j u (by
          rw [List.getElem?_take] at hu; split at hu
          · exact hu
          · cases hu)
        obtain ⟨k1, k2⟩ := cellsTo_rel hr2 h
        cases ag with
        | true =>
          refine ⟨_, ?_, k1 rfl⟩
          have hlc := run_loadCells_list (P := P) (w := w) ad (vs.take n) hc2
          rw [hl] at hlc
          simp [asAddr, loadVar, run_isAgg' hag, run_sizeOf' hn, hlc]
        | false =>
          obtain ⟨u, hu, k3⟩ := k2 rfl
          refine ⟨u, ?_, k3⟩
          have h0 := hc2 0 u (by rw [hu]; rfl)
          have ha : ad.add 0 = ad := by simp [Addr.add]
          rw [ha] at h0
          simp [asAddr, loadVar, run_isAgg' hag, h0]
      · cases h
    · cases h
  · cases h

/-- One result as the model reads it. -/
def readR (tmps : Array Value) : ResultVar → Sem Value
  | .tmp t => pure (tmps.getD t undef)
  | .cell a t => do loadVar t (← asAddr (tmps.getD a undef))

theorem results_eq (fn : Func) (tmps : Array Value) : results fn tmps = (do
    let vs ← fn.results.mapM (readR tmps)
    pure (if h : vs.size = 1 then vs[0] else .tuple vs)) := rfl

theorem bind_pure' {α : Type} (x : Sem α) : x.bind Sem.pure = x := by
  induction x with
  | pure a => rfl
  | frozen a k ih => simp only [Sem.bind]; congr 1; funext b; exact ih b
  | _ => simp_all [Sem.bind]

theorem bind_assoc' {α β γ : Type} (x : Sem α) (f : α → Sem β) (g : β → Sem γ) : (x.bind f).bind g = x.bind fun a => (f a).bind g := by
  induction x with
  | pure a => rfl
  | frozen a k ih => simp only [Sem.bind]; congr 1; funext b; exact ih b
  | _ => simp_all [Sem.bind]

theorem lawful : LawfulMonad Sem := LawfulMonad.mk' Sem (fun x => bind_pure' x) (fun _ _ => rfl) (fun x f g => bind_assoc' x f g)

theorem mapM_run_list {α : Type} {f : α → Sem Value} {w : World} : ∀ (as : List α) (vs : List Value), as.length = vs.length → (∀ i x, as[i]? = some x → (f x).run P w = .ok (vs.getD i undef) w) → (as.mapM f).run P w = .ok vs w
  | [], [], _, _ => rfl
  | a :: as, v :: vs, hl, h => by
    haveI := lawful
    rw [List.mapM_cons]
    have h0 := h 0 a rfl
    have ih := mapM_run_list as vs (by simpa using hl) (fun i x hx => by simpa using h (i + 1) x (by simpa using hx))
    simp only [List.getD_cons_zero] at h0
    simp [h0, ih]

theorem mapM_run {α : Type} {f : α → Sem Value} {w : World} (as : Array α) (vs : List Value) (hl : as.toList.length = vs.length) (h : ∀ i x, as.toList[i]? = some x → (f x).run P w = .ok (vs.getD i undef) w) : (as.mapM f).run P w = .ok vs.toArray w := by
  haveI := lawful
  rw [Array.mapM_eq_mapM_toList]
  have := mapM_run_list as.toList vs hl h
  show ((List.mapM f as.toList).bind fun x => Sem.pure x.toArray).run P w = _
  have e : ((List.mapM f as.toList >>= fun x => (pure x.toArray : Sem (Array Value)))).run P w = .ok vs.toArray w := by
    simp only [Sem.run_bind, this]; rfl
  exact e

theorem resA_ok {H : Hints} {f : FuncId} {C : Cx} {objs : Store} {w : World} (g : Good C objs w) {x : A} {v : Value} (r : RelA C objs x v) {y : A} {objs' : Store} (h : resA H f objs x = some (y, objs')) :
    ∃ C', Adv C objs w C' objs' w ∧ Good C' objs' w ∧ RelA C' objs' y v := by
  unfold resA at h
  split at h
  · split at h
    · rename_i tg
      cases h
      obtain ⟨C', adv, g', hφ, hat⟩ := newNone_ok g (dr := none) trivial tg false
      cases r with
      | nilsl _ a => exact ⟨C', adv, g', .arr _ _ _ _ _ _ tg [] false hat (Nat.le_refl _) (by simp) fun _ => ⟨by simp, by simp, .inl ⟨hφ, rfl, rfl⟩⟩⟩
    · cases h
      exact ⟨C, .refl _ _ _, g, r⟩
  · split at h
    case isFalse => cases h
    rename_i hflat
    split at h
    case h_2 => cases h
    rename_i z hz
    cases h
    obtain ⟨C', s, r'⟩ := exA_ok x hflat g r hz
    exact ⟨C', s.adv, s.good, r'⟩

theorem resultA_ok {C : Cx} {objs : Store} {w : World} (g : Good C objs w) {ts : List A} {tmps : Array Value} (rt : RelT C objs ts tmps) {rv : ResultVar} {x : A} (h : resultA P ts objs rv = some x) :
    ∃ v, (readR tmps rv).run P w = .ok v w ∧ RelA C objs x v := by
  cases rv with
  | tmp t => simp only [resultA, Option.some.injEq] at h; subst h; exact ⟨_, by simp [readR], rt.get t⟩
  | cell a t => exact loadVar_ok g (rt.get a) h

theorem resultsA_ok {H : Hints} {f : FuncId} {tmps : Array Value} {w : World} {ts : List A} : ∀ (rs : List ResultVar) {C : Cx} {objs : Store} (_ : Good C objs w) (_ : RelT C objs ts tmps) {xs : List A} {objs' : Store} (_ : resultsA P H f ts objs rs = some (xs, objs')),
    ∃ C' vs, (∀ i rv, rs[i]? = some rv → (readR tmps rv).run P w = .ok (vs.getD i undef) w) ∧ rs.length = vs.length ∧ Adv C objs w C' objs' w ∧ Good C' objs' w ∧ RelL C' objs' xs vs
  | [], C, objs, g, rt, xs, objs', h => by
    unfold resultsA at h; cases h
    exact ⟨C, [], by simp, rfl, .refl _ _ _, g, .nil _ _⟩
  | rv :: rs, C, objs, g, rt, xs, objs', h => by
    unfold resultsA at h
    split at h
    case h_2 => cases h
    rename_i x hx
    split at h
    case h_2 => cases h
    rename_i y objs1 hy
    split at h
    case h_2 => cases h
    rename_i ys objs2 hys
    cases h
    obtain ⟨v, e1, r1⟩ := resultA_ok g rt hx
    obtain ⟨C1, adv1, g1, r2⟩ := resA_ok g r1 hy
    obtain ⟨C2, vs, e2, e3, adv2, g2, r3⟩ := resultsA_ok rs g1 (rt.adv adv1) hys
    refine ⟨C2, v :: vs, fun i rv' hi => ?_, by simp [e3], adv1.trans adv2, g2, .cons (r2.adv adv2) r3⟩
    cases i with
    | zero => simp at hi; subst hi; simpa using e1
    | succ i => simp at hi; simpa using e2 i rv' hi

/-- The contracts of the functions that are not run. -/
def ExtOK (P : Program) (E : Ext) : Prop := ∀ f g, E f = some g → ∀ args inc r out, g args inc = some (r, out) → (∃ fn c, P.funcs[f]? = some fn ∧ fn.body = some c ∧ fn.name ≠ "runtime.NumGoroutine") ∧
    ∀ (C : Cx) (w : World) (vs : Array Value), Good C inc w → RelL C inc args vs.toList →
      Calls P f vs w (fun e w' => ∃ v C', e = .returned v ∧ Adv C inc w C' out w' ∧ Good C' out w' ∧ RelA C' out r v)

theorem callF_ok {H : Hints} {E : Ext} (hm : P.follows .mixedOrders = true) (hE : ExtOK P E) : ∀ k, CallOK P (callF P H E k)
  | 0 => fun f args inc r out h => by unfold callF at h; cases h
  | k + 1 => fun f args inc r out h => by
    unfold callF at h
    split at h
    · rename_i g hg
      exact hE f g hg args inc r out h
    split at h
    · cases h
    rename_i fn hfn
    split at h
    · cases h
    rename_i c hbody
    split at h
    · cases h
    rename_i hname
    refine ⟨⟨fn, c, hfn, hbody, hname⟩, fun C w vs g ra => ?_⟩
    split at h
    · cases h
    case h_3 => cases h
    rename_i x s hne hcode
    have hrel : (⟨args ++ List.replicate (fn.ntmps - args.length) .un, inc⟩ : St).Rel C { tmps := vs ++ Array.replicate (fn.ntmps - vs.size) undef, defers := [] } w := by
      have hsz : args.length = vs.size := by simpa using ra.1
      refine ⟨g, ⟨by simp [hsz], fun i y hy => ?_⟩, rfl⟩
      rw [Array.getD_eq_getD_getElem?]
      rcases Nat.lt_or_ge i args.length with hi | hi
      · rw [List.getElem?_append_left hi] at hy
        rw [Array.getElem?_append_left (by omega)]
        have := ra.2 i y hy
        rwa [List.getD_eq_getElem?_getD, Array.getElem?_toList] at this
      · rw [List.getElem?_append_right hi] at hy
        rw [Array.getElem?_append_right (by omega)]
        rw [List.getElem?_replicate] at hy
        split at hy
        · cases hy
          rename_i hi2
          rw [Array.getElem?_replicate, if_pos (by omega)]
          exact .un
        · cases hy
    refine calls_of_wp hfn hbody (codeA_ok hm (callF_ok hm hE k) c 0 (C := C) (w := w) ⟨.refl C inc w, hrel⟩ hcode fun C' a' w' hf => ?_)
    have hend : ∀ e : Exit, (e = .normal ∨ e = .ret) → bodyPost P fn (fun e w' => ∃ v C', e = .returned v ∧ Adv C inc w C' out w' ∧ Good C' out w' ∧ RelA C' out r v) e a' w' := by
      intro e he
      have key : a'.defers = [] ∧ ∃ v, (results fn a'.tmps).run P w' = .ok v w' ∧ ∃ v' C', Ending.returned v = .returned v' ∧ Adv C inc w C' out w' ∧ Good C' out w' ∧ RelA C' out r v' := by
        refine ⟨hf.rel.defers, ?_⟩
        have run : ∀ vs : List Value, (∀ i rv, fn.results.toList[i]? = some rv → (readR a'.tmps rv).run P w' = .ok (vs.getD i undef) w') → fn.results.toList.length = vs.length →
            (results fn a'.tmps).run P w' = .ok (if h : vs.toArray.size = 1 then vs.toArray[0] else .tuple vs.toArray) w' := fun vs h1 h2 => by
          rw [results_eq]
          have := mapM_run (P := P) (f := readR a'.tmps) (w := w') fn.results vs h2 h1
          simp only [Sem.run_bind, this]
          rfl
        split at h
        · rename_i r1 objs1 hres
          obtain ⟨C1, vs1, e1, e2, adv1, g1, r1'⟩ := resultsA_ok _ hf.rel.good hf.rel.tmps hres
          obtain ⟨v, us, rfl, q1, q2⟩ := r1'.uncons
          have hus := q2.unnil
          subst hus
          obtain ⟨C2, k1, k2, k3⟩ := leaveA_ok (hf.adv.trans adv1) g1 q1 h
          exact ⟨v, run [v] e1 e2, v, C2, rfl, k1, k2, k3⟩
        · rename_i rs objs1 hne1 hres
          obtain ⟨C1, vs1, e1, e2, adv1, g1, r1'⟩ := resultsA_ok _ hf.rel.good hf.rel.tmps hres
          obtain ⟨C2, k1, k2, k3⟩ := leaveA_ok (hf.adv.trans adv1) g1 (.tup' r1') h
          have hlen : vs1.length ≠ 1 := fun h1 => by
            have hr := r1'.1
            rw [h1] at hr
            obtain ⟨r0, rfl⟩ := List.length_eq_one_iff.1 hr
            simp_all
          refine ⟨_, run vs1 e1 e2, _, C2, rfl, k1, k2, ?_⟩
          rw [dif_neg (by simpa using hlen)]
          exact k3
        · cases h
      rcases he with rfl | rfl <;> exact key
    cases x with
    | normal => exact hend _ (.inl rfl)
    | exit id => exact absurd rfl (hne id)
    | ret => exact hend _ (.inr rfl)

end Ab
