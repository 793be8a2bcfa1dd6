/- A part of the proof of a row by an interpreter that is proved sound; no conditions of its own. -/
import Derived.Test.YtpoheolnnbgebaaAbFrame5
namespace Ab
open Go

variable {P : Program}

/-! ### An operation depends on the temporaries only through its operands -/

theorem evT_congr {ts ts2 : List A} {x : Operand} (h : ev ts x = ev ts2 x) (t : TypeId) : evT P ts t x = evT P ts2 t x := by
  unfold evT
  split
  · rfl
  · exact h

theorem opA_congr {H : Hints} {call : FuncId → List A → Store → Option (A × Store)} {ts ts2 : List A} {o : Store} {dr : Option Nat} {ty : TypeId} {op : Op} (h : ∀ x ∈ op.operands, ev ts x = ev ts2 x) : opA P H call ts o dr ty op = opA P H call ts2 o dr ty op := by
  have mp : ∀ (l : List Operand), (∀ x ∈ l, ev ts x = ev ts2 x) → l.map (ev ts) = l.map (ev ts2) := fun l hl => List.map_congr_left hl
  cases op <;> simp only [Op.operands] at h <;> simp only [opA]
  case move x => rw [evT_congr (h x (by simp))]
  case assign x => rw [evT_congr (h x (by simp))]
  case pick c a b => rw [h c (by simp), h a (by simp), h b (by simp)]
  case box e x => rw [evT_congr (h x (by simp))]
  case build t parts =>
    have : buildA P ts t parts.toList = buildA P ts2 t parts.toList := by
      unfold buildA
      have hx : ∀ p ∈ parts.toList, ev ts p.2 = ev ts2 p.2 := fun p hp => h p.2 (by simp; exact ⟨p.1, by simpa using hp⟩)
      split
      · split
        · refine congrArg (fillA _ _) ?_
          exact List.map_congr_left fun p hp => by rw [evT_congr (hx p hp)]
        · rfl
      · split
        · refine congrArg (fillA _ _) ?_
          exact List.map_congr_left fun p hp => by rw [evT_congr (hx p hp)]
        · rfl
      · rfl
    rw [this]
  case buildSlice t len parts =>
    have : ∀ (ps : List (Nat × Operand)) (o : Store) (e : TypeId) (n : Nat) (es : List (List D)), (∀ p ∈ ps, ev ts p.2 = ev ts2 p.2) → elemsA P ts o e n es ps = elemsA P ts2 o e n es ps := by
      intro ps
      induction ps with
      | nil => intro o e n es _; rfl
      | cons p ps ih =>
        intro o e n es hp
        obtain ⟨i, x⟩ := p
        unfold elemsA
        rw [evT_congr (hp (i, x) (by simp))]
        simp only [ih _ _ _ _ (fun p hq => hp p (by simp [hq]))]
    have e : ∀ o e n es, elemsA P ts o e n es parts.toList = elemsA P ts2 o e n es parts.toList := fun o e n es => this parts.toList o e n es (fun p hp => h p.2 (by simp; exact ⟨p.1, by simpa using hp⟩))
    simp only [e]
  case load t a => rw [h a (by simp)]
  case store t a x => rw [h a (by simp), evT_congr (h x (by simp))]
  case nilCheck x => rw [h x (by simp)]
  case binOp b t x y yt => rw [h x (by simp), h y (by simp)]
  case unOp u t x => rw [h x (by simp)]
  case convert s t x => rw [h x (by simp)]
  case makeFunc fn a b =>
    cases fn with
    | func f => simp only []; rw [mp a.toList fun x hx => h x (by simp; left; simpa using hx), mp b.toList fun x hx => h x (by simp; right; simpa using hx)]
    | _ => rfl
  case makeMap t r => cases r <;> rfl
  case makeSlice t l c => rw [h l (by simp), h c (by simp)]
  case slice t x l hh m =>
    have hl : l.map (ev ts) = l.map (ev ts2) := by cases l <;> simp_all
    have h2 : hh.map (ev ts) = hh.map (ev ts2) := by cases hh <;> simp_all
    have h3 : m.map (ev ts) = m.map (ev ts2) := by cases m <;> simp_all
    rw [h x (by simp), hl, h2, h3]
  case fieldAddr s x f => rw [h x (by simp)]
  case field t x f => rw [h x (by simp)]
  case indexAddr t x i => rw [h x (by simp), h i (by simp)]
  case index t x i => rw [h x (by simp), h i (by simp)]
  case lookup t m k ok => rw [h m (by simp), h k (by simp)]
  case mapUpdate t m k x => rw [h m (by simp), h k (by simp)]; simp only [evT_congr (h x (by simp))]
  case insert t m k x => rw [h m (by simp), h k (by simp)]; simp only [evT_congr (h x (by simp))]
  case extract x i => rw [h x (by simp)]
  case call c =>
    have hargs : c.args.toList.map (ev ts) = c.args.toList.map (ev ts2) := mp _ fun x hx => h x (by simp [Call.operands]; right; simpa using hx)
    have hz : (c.args.toList.zipIdx.map fun (x, i) => evT P ts (c.argTypes.getD i 0) x) = c.args.toList.zipIdx.map fun (x, i) => evT P ts2 (c.argTypes.getD i 0) x :=
      List.map_congr_left fun p hp => by
        obtain ⟨x, i⟩ := p
        have hx : x ∈ c.args.toList := by
          have := List.mem_map_of_mem (f := Prod.fst) hp
          rwa [List.zipIdx_map_fst] at this
        exact evT_congr (h x (by simp [Call.operands]; right; simpa using hx)) _
    rw [hargs, hz]
    cases hc : c.callee with
    | value g => simp only [h g (by simp [Call.operands, hc])]
    | _ => rfl

/-! ### Two operations change places -/

structure Rec where
  i : Nat
  o : Oper
  w : Bool
  v : A
  R : List Nat
  W : List Nat

def stepF (P : Program) (H : Hints) (call : FuncId → List A → Store → Option (A × Store)) (base : Nat) (r : Rec) (ts : List A) (o : Store) : Option (A × Store) :=
  if r.w then opA P H call ts o (some (base + r.i)) r.o.type r.o.op else some (.un, o)

structure At (P : Program) (H : Hints) (call : FuncId → List A → Store → Option (A × Store)) (ops : List Oper) (base : Nat) (r : Rec) (s s1 : St) : Prop where
  want : wantedA ops s.tmps r.o = some r.w
  gone : s.objs[base + r.i]? = some .gone
  run : stepF P H call base r s.tmps s.objs = some (r.v, s1.objs)
  loc : Loc (stepF P H call base r s.tmps) s.objs (base + r.i) r.R r.W r.v s1.objs
  tmps : s1.tmps = putA s.tmps r.o.dst r.v

/-- What is changed, with the place of a new object. -/
def Rec.WW (base : Nat) (r : Rec) : List Nat := (base + r.i) :: r.W

structure Free (ops : List Oper) (base : Nat) (q r : Rec) : Prop where
  apart : apartA ops q.o r.o = true
  d1 : ∀ i ∈ q.WW base, i ∉ r.R ++ r.WW base
  d2 : ∀ i ∈ q.R, i ∉ r.WW base

theorem ev_put {ts : List A} {d : Option Tmp} {v : A} {x : Operand} (h : ∀ t, d = some t → x ≠ .tmp t) : ev (putA ts d v) x = ev ts x := by
  cases d with
  | none => rfl
  | some t =>
    cases x with
    | tmp j =>
      have hne : t ≠ j := fun e => h t rfl (by rw [e])
      simp only [ev, putA, List.getD_eq_getElem?_getD, List.getElem?_set_ne hne]
    | _ => rfl

theorem looks_op {ops : List Oper} {o : Oper} {t : Tmp} (h : .tmp t ∈ o.op.operands) : t ∈ looksA ops o := by
  unfold looksA
  exact List.mem_append_left _ (List.mem_filterMap.2 ⟨.tmp t, by simpa using h, rfl⟩)

theorem stepF_put {H : Hints} {call : FuncId → List A → Store → Option (A × Store)} {ops : List Oper} {base : Nat} {r : Rec} {ts : List A} {d : Option Tmp} {v : A} (h : ∀ t, d = some t → t ∉ looksA ops r.o) : stepF P H call base r (putA ts d v) = stepF P H call base r ts := by
  funext o
  unfold stepF
  split
  · exact opA_congr fun x hx => ev_put fun t ht e => h t ht (looks_op (e ▸ hx))
  · rfl

theorem wanted_put' {ops : List Oper} {o : Oper} {ts : List A} {d : Option Tmp} {v : A} (h : ∀ t, d = some t → t ∉ looksA ops o) : wantedA ops (putA ts d v) o = wantedA ops ts o := by
  unfold wantedA
  cases hg : o.guard with
  | none => rfl
  | some g =>
    obtain ⟨j, wn⟩ := g
    simp only
    cases hq : ops[j]? with
    | none => rfl
    | some q =>
      simp only
      cases ht : q.dst with
      | none => rfl
      | some t =>
        simp only
        have : (putA ts d v).getD t .top = ts.getD t .top := by
          cases d with
          | none => rfl
          | some t' =>
            have hne : t' ≠ t := fun e => h t' rfl (by
              unfold looksA
              refine List.mem_append_right _ ?_
              rw [hg]
              simp [hq, ht, e])
            simp only [putA, List.getD_eq_getElem?_getD, List.getElem?_set_ne hne]
        rw [this]

theorem put_comm {ts : List A} {d e : Option Tmp} {u v : A} (h : ∀ t, d = some t → e ≠ some t) : putA (putA ts d u) e v = putA (putA ts e v) d u := by
  cases d with
  | none => rfl
  | some t =>
    cases e with
    | none => rfl
    | some t' =>
      have hne : t ≠ t' := fun x => h t rfl (by rw [x])
      exact List.set_comm _ _ hne

theorem apart_split {ops : List Oper} {x y : Oper} (h : apartA ops x y = true) : (∀ t, x.dst = some t → t ∉ looksA ops y) ∧ (∀ t, x.dst = some t → y.dst ≠ some t) ∧ (∀ t, y.dst = some t → t ∉ looksA ops x) := by
  unfold apartA at h
  rw [Bool.and_eq_true] at h
  obtain ⟨h1, h2⟩ := h
  refine ⟨fun t ht => ?_, fun t ht => ?_, fun t ht => ?_⟩
  · simp only [ht, Bool.and_eq_true] at h1; simpa using h1.1
  · simp only [ht, Bool.and_eq_true] at h1; simpa using h1.2
  · simp only [ht] at h2; simpa using h2

/-- What an operation leaves as it is. -/
theorem At.out {H : Hints} {call : FuncId → List A → Store → Option (A × Store)} {ops : List Oper} {base : Nat} {r : Rec} {s s1 : St} (h : At P H call ops base r s s1) : s1.objs.length = s.objs.length ∧ ∀ i, i ∉ r.WW base → s1.objs[i]? = s.objs[i]? := by
  obtain ⟨o', h1, h2, h3, h4⟩ := h.loc s.objs (.refl _ _) h.gone
  rw [h.run] at h1; cases h1
  exact ⟨h2, fun i hi => h4 i (fun hc => hi (List.mem_cons_of_mem _ hc)) (fun e => hi (by rw [e]; exact List.mem_cons_self))⟩

theorem swap {H : Hints} {call : FuncId → List A → Store → Option (A × Store)} {ops : List Oper} {base : Nat} {q r : Rec} {s s1 s2 : St} (hq : At P H call ops base q s s1) (hr : At P H call ops base r s1 s2) (hf : Free ops base q r) :
    ∃ s1', At P H call ops base r s s1' ∧ At P H call ops base q s1' s2 := by
  obtain ⟨a1, a2, a3⟩ := apart_split hf.apart
  obtain ⟨lq, oq⟩ := hq.out
  obtain ⟨lr, or_⟩ := hr.out
  have wq : ∀ i, i ∈ q.W ∨ i = base + q.i → i ∈ q.WW base := fun i hi => by rcases hi with h | h <;> simp [Rec.WW, h]
  have wr : ∀ i, i ∈ r.W ∨ i = base + r.i → i ∈ r.WW base := fun i hi => by rcases hi with h | h <;> simp [Rec.WW, h]
  have wr' : ∀ i, i ∈ r.WW base → i ∈ r.W ∨ i = base + r.i := fun i hi => by simp [Rec.WW] at hi; exact hi.symm
  have wq' : ∀ i, i ∈ q.WW base → i ∈ q.W ∨ i = base + q.i := fun i hi => by simp [Rec.WW] at hi; exact hi.symm
  have rnq : ∀ i, i ∈ r.R ++ r.WW base → i ∉ q.WW base := fun i hi hc => hf.d1 i hc hi
  have qnr : ∀ i, i ∈ q.R ++ q.WW base → i ∉ r.WW base := fun i hi hc => by
    rcases List.mem_append.1 hi with h | h
    · exact hf.d2 i h hc
    · exact hf.d1 i h (List.mem_append_right _ hc)
  have hFr : stepF P H call base r s1.tmps = stepF P H call base r s.tmps := by rw [hq.tmps]; exact stepF_put a1
  have hwr : wantedA ops s1.tmps r.o = wantedA ops s.tmps r.o := by rw [hq.tmps]; exact wanted_put' a1
  have rsub : ∀ i, i ∈ r.R ++ r.W → i ∈ r.R ++ r.WW base := fun i hi => by
    rcases List.mem_append.1 hi with h | h
    · exact List.mem_append_left _ h
    · exact List.mem_append_right _ (List.mem_cons_of_mem _ h)
  have qsub : ∀ i, i ∈ q.R ++ q.W → i ∈ q.R ++ q.WW base := fun i hi => by
    rcases List.mem_append.1 hi with h | h
    · exact List.mem_append_left _ h
    · exact List.mem_append_right _ (List.mem_cons_of_mem _ h)
  have ag : Agree (r.R ++ r.W) s1.objs s.objs := ⟨lq.symm, fun i hi => (oq i (rnq i (rsub i hi))).symm⟩
  have gr : s.objs[base + r.i]? = some .gone := by rw [← oq _ (rnq _ (List.mem_append_right _ List.mem_cons_self))]; exact hr.gone
  have Lr : Loc (stepF P H call base r s.tmps) s1.objs (base + r.i) r.R r.W r.v s2.objs := by rw [← hFr]; exact hr.loc
  obtain ⟨o', h1, h2, h3, h4⟩ := Lr s.objs ag gr
  have h4' : ∀ i, i ∉ r.WW base → o'[i]? = s.objs[i]? := fun i hi => h4 i (fun hc => hi (wr i (.inl hc))) (fun e => hi (wr i (.inr e)))
  have atr : At P H call ops base r s ⟨putA s.tmps r.o.dst r.v, o'⟩ := by
    refine ⟨by rw [← hwr]; exact hr.want, gr, h1, fun o2 ha hg => ?_, rfl⟩
    have ha' : Agree (r.R ++ r.W) s1.objs o2 := ⟨by rw [ha.1, lq], fun i hi => by rw [ha.2 i hi]; exact ag.2 i hi⟩
    obtain ⟨o2', q1, q2, q3, q4⟩ := Lr o2 ha' hg
    exact ⟨o2', q1, q2, fun i hi => by rw [q3 i hi]; exact (h3 i hi).symm, q4⟩
  have hFq : stepF P H call base q (putA s.tmps r.o.dst r.v) = stepF P H call base q s.tmps := stepF_put a3
  have hwq : wantedA ops (putA s.tmps r.o.dst r.v) q.o = wantedA ops s.tmps q.o := wanted_put' a3
  have agq : Agree (q.R ++ q.W) s.objs o' := ⟨h2, fun i hi => h4' i (qnr i (qsub i hi))⟩
  have gq : o'[base + q.i]? = some .gone := by rw [h4' _ (qnr _ (List.mem_append_right _ List.mem_cons_self))]; exact hq.gone
  obtain ⟨o'', k1, k2, k3, k4⟩ := hq.loc o' agq gq
  have k4' : ∀ i, i ∉ q.WW base → o''[i]? = o'[i]? := fun i hi => k4 i (fun hc => hi (wq i (.inl hc))) (fun e => hi (wq i (.inr e)))
  have heq : o'' = s2.objs := by
    apply List.ext_getElem?
    intro i
    by_cases hi : i ∈ q.WW base
    · rw [k3 i (wq' i hi), or_ i (qnr i (List.mem_append_right _ hi))]
    · rw [k4' i hi]
      by_cases hj : i ∈ r.WW base
      · exact h3 i (wr' i hj)
      · rw [h4' i hj, or_ i hj, oq i hi]
  subst heq
  refine ⟨_, atr, by rw [hwq]; exact hq.want, gq, by rw [hFq]; exact k1, ?_, ?_⟩
  · rw [hFq]
    intro o2 ha hg
    have ha' : Agree (q.R ++ q.W) s.objs o2 := ⟨by rw [ha.1]; exact h2, fun i hi => by rw [ha.2 i hi]; exact agq.2 i hi⟩
    obtain ⟨o2', p1, p2, p3, p4⟩ := hq.loc o2 ha' hg
    exact ⟨o2', p1, p2, fun i hi => by rw [p3 i hi]; exact (k3 i hi).symm, p4⟩
  · rw [hr.tmps, hq.tmps]
    exact put_comm a2

inductive Chain (P : Program) (H : Hints) (call : FuncId → List A → Store → Option (A × Store)) (ops : List Oper) (base : Nat) : List Rec → St → St → Prop
  | nil (s : St) : Chain P H call ops base [] s s
  | cons {r : Rec} {rs : List Rec} {s s1 s2 : St} (h : At P H call ops base r s s1) (t : Chain P H call ops base rs s1 s2) : Chain P H call ops base (r :: rs) s s2

theorem bubble {H : Hints} {call : FuncId → List A → Store → Option (A × Store)} {ops : List Oper} {base : Nat} {r : Rec} {post : List Rec} {s2 : St} : ∀ (pre : List Rec) {s : St}, Chain P H call ops base (pre ++ r :: post) s s2 → (∀ q ∈ pre, Free ops base q r) →
    ∃ s1, At P H call ops base r s s1 ∧ Chain P H call ops base (pre ++ post) s1 s2
  | [], s, h, _ => by
    cases h with
    | cons h t => exact ⟨_, h, t⟩
  | q :: pre, s, h, hf => by
    cases h with
    | cons hq t =>
      obtain ⟨s1', h1, h2⟩ := bubble pre t (fun q hq => hf q (by simp [hq]))
      obtain ⟨s3, h3, h4⟩ := swap hq h1 (hf q (by simp))
      exact ⟨s3, h3, .cons h4 h2⟩

end Ab
namespace Ab
open Go

variable {P : Program}

/-- A pair of operations: the later one follows the earlier one, or they are free. -/
def Pair (ops : List Oper) (bef : List Nat) (base : Nat) (q r : Rec) : Prop := (bef.getD r.i 0).testBit q.i = true ∨ Free ops base q r

theorem disj_ok {a b : List Nat} (h : disj a b = true) : ∀ i ∈ a, i ∉ b := fun i hi hb => by
  have := List.all_eq_true.mp h i hi
  simp at this
  exact this hb

theorem freeA_ok {ops : List Oper} {bef : List Nat} {base : Nat} {r : Rec} : ∀ (D : List Rec) (j : Nat), (∀ k q, D[k]? = some q → q.i = j + k) → freeA ops (bef.getD r.i 0) r.o (r.R, r.WW base) j (D.map fun q => (q.o, (q.R, q.WW base))) = true → ∀ q ∈ D, Pair ops bef base q r
  | [], _, _, _ => by simp
  | d :: D, j, hi, h => by
    simp only [List.map_cons, freeA, Bool.and_eq_true, Bool.or_eq_true] at h
    obtain ⟨h1, h2⟩ := h
    have hd : d.i = j := by simpa using hi 0 d rfl
    intro q hq
    rcases List.mem_cons.1 hq with rfl | hq
    · rcases h1 with h1 | ⟨⟨h1, h3⟩, h4⟩
      · exact .inl (by rw [hd]; exact h1)
      · exact .inr ⟨h1, disj_ok h3, disj_ok h4⟩
    · exact freeA_ok D (j + 1) (fun k q hk => by rw [hi (k + 1) q (by simpa using hk)]; omega) h2 q hq

theorem runDrawn_ok {H : Hints} {call : FuncId → List A → Store → Option (A × Store)} {f rid : Nat} {ops : List Oper} {bef : List Nat} {base : Nat} : ∀ (os : List Oper) (i : Nat) (D : List Rec) (s s' : St), (∀ (k : Nat) (q : Rec), D[k]? = some q → q.i = k) → D.length = i →
    runDrawn P H call f rid ops bef base i os (D.map fun q => (q.o, (q.R, q.WW base))) s = some s' →
    ∃ recs : List Rec, Chain P H call ops base recs s s' ∧ recs.map (·.i) = List.range' i os.length ∧ recs.map (·.o) = os ∧ (∀ q ∈ D, ∀ r ∈ recs, Pair ops bef base q r) ∧ recs.Pairwise (Pair ops bef base) ∧
      ∀ r ∈ recs, H.fresh f rid r.i = [] ∧ ∀ e ∈ r.o.after.toList, Region.binds .any e = true → e.on < r.i
  | [], i, D, s, s', hD, hl, h => by
    unfold runDrawn at h; cases h
    exact ⟨[], .nil _, rfl, rfl, by simp, .nil, by simp⟩
  | o :: os, i, D, s, s', hD, hl, h => by
    unfold runDrawn at h
    split at h
    · cases h
    rename_i w hw
    simp only at h
    generalize hft : (if w = true then footA P H s.tmps s.objs o.op else ([], [])) = ft at h
    split at h
    case isFalse => cases h
    rename_i hok
    simp only [Bool.and_eq_true] at hok
    obtain ⟨⟨⟨h1, h2⟩, h3⟩, h4⟩ := hok
    have hgone : s.objs[base + i]? = some .gone := by
      unfold isGone at h4
      split at h4
      · rename_i hg; exact hg
      · cases h4
    have hfr : H.fresh f rid i = [] := by simpa using h3
    split at h
    case h_2 => cases h
    rename_i s1 hs1
    have hat : ∃ v, At P H call ops base ⟨i, o, w, v, ft.1, ft.2⟩ s s1 := by
      unfold stepA at hs1
      rw [hw] at hs1
      cases w with
      | true =>
        simp only at hs1
        split at hs1
        case h_2 => cases hs1
        rename_i v objs hop
        rw [hfr] at hs1
        simp only [Option.some.injEq] at hs1
        subst hs1
        simp only [if_true] at hft
        refine ⟨v, hw, hgone, by simp only [stepF, if_true]; exact hop, ?_, rfl⟩
        have := opA_frame hgone hop (R := ft.1) (W := ft.2) (by rw [hft])
        have e : stepF P H call base ⟨i, o, true, v, ft.1, ft.2⟩ s.tmps = fun o2 => opA P H call s.tmps o2 (some (base + i)) o.type o.op := by funext o2; simp [stepF]
        rw [e]; exact this
      | false =>
        simp only [Option.some.injEq] at hs1
        subst hs1
        simp only [Bool.false_eq_true, if_false] at hft
        subst hft
        refine ⟨.un, hw, hgone, by simp [stepF], ?_, rfl⟩
        have := Loc.read (F := fun o2 => some (.un, o2)) (R := []) (v := .un) hgone (fun o2 _ => rfl)
        have e : stepF P H call base ⟨i, o, false, .un, [], []⟩ s.tmps = fun o2 => some (.un, o2) := by funext o2; simp [stepF]
        rw [e]; exact this
    obtain ⟨v, hat⟩ := hat
    have hpair := freeA_ok (ops := ops) (bef := bef) (base := base) (r := ⟨i, o, w, v, ft.1, ft.2⟩) D 0 (fun k q hk => by rw [hD k q hk]; omega) h1
    obtain ⟨recs, c1, c2, c3, c4, c5, c6⟩ := runDrawn_ok os (i + 1) (D ++ [⟨i, o, w, v, ft.1, ft.2⟩]) s1 s' (fun k q hk => by
      rcases Nat.lt_or_ge k D.length with hlt | hge
      · rw [List.getElem?_append_left hlt] at hk; exact hD k q hk
      · rw [List.getElem?_append_right hge] at hk
        have : k - D.length = 0 := by
          have := (List.getElem?_eq_some_iff.1 hk).1
          simp at this; omega
        rw [this] at hk
        simp at hk
        subst hk
        show i = k
        omega) (by simp [hl]) (by simpa [Rec.WW] using h)
    refine ⟨⟨i, o, w, v, ft.1, ft.2⟩ :: recs, .cons hat c1, ?_, by simp [c3], fun q hq r hr => ?_, ?_, fun r hr => ?_⟩
    · simp [c2, List.range'_succ]
    · rcases List.mem_cons.1 hr with rfl | hr
      · exact hpair q hq
      · exact c4 q (by simp [hq]) r hr
    · exact List.pairwise_cons.2 ⟨fun r hr => c4 _ (by simp) r hr, c5⟩
    · rcases List.mem_cons.1 hr with rfl | hr
      · refine ⟨hfr, fun e he hb => ?_⟩
        have := List.all_eq_true.mp h2 e he
        simpa [hb] using this
      · exact c6 r hr

end Ab
namespace Ab
open Go

variable {P : Program}

theorem fold_bits (acc : List Nat) (q : Nat) : ∀ (l : List Edge) (m : Nat), (l.foldl (fun m e => if Region.binds .any e then m ||| (1 <<< e.on) ||| acc.getD e.on 0 else m) m).testBit q = true →
    m.testBit q = true ∨ ∃ e ∈ l, Region.binds .any e = true ∧ (q = e.on ∨ (acc.getD e.on 0).testBit q = true)
  | [], m, h => .inl h
  | e :: l, m, h => by
    rw [List.foldl_cons] at h
    rcases fold_bits acc q l _ h with h1 | ⟨e', he, h2⟩
    · split at h1
      · rename_i hb
        rw [Nat.testBit_or, Nat.testBit_or, Bool.or_eq_true, Bool.or_eq_true] at h1
        rcases h1 with (h1 | h1) | h1
        · exact .inl h1
        · refine .inr ⟨e, by simp, hb, .inl ?_⟩
          rw [Nat.one_shiftLeft, Nat.testBit_two_pow] at h1
          simpa using (of_decide_eq_true h1).symm
        · exact .inr ⟨e, by simp, hb, .inr h1⟩
      · exact .inl h1
    · exact .inr ⟨e', by simp [he], h2⟩

theorem beforeA_ok : ∀ (os : List Oper) (i : Nat) (acc : List Nat), acc.length = i → (∀ j, j < i → (beforeA os i acc)[j]? = acc[j]?) ∧ ∀ (k : Nat) (o : Oper), os[k]? = some o → ∀ q, ((beforeA os i acc).getD (i + k) 0).testBit q = true →
    ∃ e ∈ o.after.toList, Region.binds .any e = true ∧ (q = e.on ∨ ((beforeA os i acc).getD e.on 0).testBit q = true)
  | [], i, acc, hl => by
    unfold beforeA
    exact ⟨fun _ _ => rfl, fun k o h => by simp at h⟩
  | o :: os, i, acc, hl => by
    unfold beforeA
    generalize hm : o.after.toList.foldl (fun m e => if Region.binds .any e then m ||| (1 <<< e.on) ||| acc.getD e.on 0 else m) 0 = m
    obtain ⟨h1, h2⟩ := beforeA_ok os (i + 1) (acc ++ [m]) (by simp [hl])
    have hpre : ∀ j, j < i → (beforeA os (i + 1) (acc ++ [m]))[j]? = acc[j]? := fun j hj => by rw [h1 j (by omega), List.getElem?_append_left (by omega)]
    refine ⟨hpre, fun k o' hk q hq => ?_⟩
    cases k with
    | zero =>
      simp at hk; subst hk
      change ((beforeA os (i + 1) (acc ++ [m])).getD i 0).testBit q = true at hq
      rw [List.getD_eq_getElem?_getD, h1 i (by omega), List.getElem?_append_right (by omega)] at hq
      simp [hl] at hq
      rw [← hm] at hq
      rcases fold_bits acc q _ _ hq with h | ⟨e, he, hb, h⟩
      · simp at h
      · refine ⟨e, he, hb, h.imp id fun h => ?_⟩
        rcases Nat.lt_or_ge e.on i with hlt | hge
        · rw [List.getD_eq_getElem?_getD, hpre _ hlt, ← List.getD_eq_getElem?_getD]; exact h
        · rw [List.getD_eq_getElem?_getD, List.getElem?_eq_none (by omega)] at h; simp at h
    | succ k =>
      rw [show i + (k + 1) = i + 1 + k from by omega] at hq
      exact h2 k o' (by simpa using hk) q hq

/-- A drawn region, in any order. -/
theorem any_ok {H : Hints} {call : FuncId → List A → Store → Option (A × Store)} (hc : CallOK P call) {f rid : Nat} {ops : Array Oper} {base : Nat} {bef : List Nat}
    (hbef : ∀ (k : Nat) (o : Oper), ops[k]? = some o → ∀ q, (bef.getD k 0).testBit q = true → ∃ e ∈ o.after.toList, Region.binds .any e = true ∧ (q = e.on ∨ (bef.getD e.on 0).testBit q = true)) {Q : Exit → Act → World → Prop} {s' : St} :
    ∀ (fuel : Nat) (recs : List Rec) (listed : Array Bool) {C : Cx} {s : St} {a : Act} {w : World}, recs.length = fuel → listed.size = ops.size → (∀ j, listed.getD j true = false ↔ ∃ r ∈ recs, r.i = j) → (∀ r ∈ recs, ops[r.i]? = some r.o) →
      recs.Pairwise (Pair ops.toList bef base) → recs.Pairwise (fun q r => q.i < r.i) → (∀ r ∈ recs, H.fresh f rid r.i = [] ∧ ∀ e ∈ r.o.after.toList, Region.binds .any e = true → e.on < r.i) →
      (∀ j, j < ops.size → listed.getD j true = true → ∀ q, (bef.getD j 0).testBit q = true → listed.getD q true = true) →
      Chain P H call ops.toList base recs s s' → s.Rel C a w → (∀ C' a' w', Adv C s.objs w C' s'.objs w' → s'.Rel C' a' w' → Q .normal a' w') → wpAny P .any ops Q fuel listed a w := by
  intro fuel
  induction fuel with
  | zero =>
    intro recs listed C s a w hl hsz hun ho hp hs hfr hcl hch hr hK
    have hnil : recs = [] := List.length_eq_zero_iff.1 hl
    subst hnil
    cases hch
    refine ⟨?_, hK C a w (.refl _ _ _) hr⟩
    cases hx : Region.ready .any ops listed with
    | nil => rfl
    | cons j js =>
      have hj : j ∈ Region.ready .any ops listed := by rw [hx]; simp
      obtain ⟨r, hr', _⟩ := (hun j).1 (mem_ready.1 hj).1
      cases hr'
  | succ fuel ih =>
    intro recs listed C s a w hl hsz hun ho hp hs hfr hcl hch hr hK
    refine ⟨fun hnone => ?_, fun i hi => ?_⟩
    · exfalso
      cases recs with
      | nil => simp at hl
      | cons r rs =>
        have hri : r.i ∈ Region.ready .any ops listed := by
          refine mem_ready.2 ⟨(hun r.i).2 ⟨r, by simp, rfl⟩, r.o, ho r (by simp), fun e he hb => ?_⟩
          have hlt := (hfr r (by simp)).2 e (by simpa using he) hb
          have hro := (Array.getElem?_eq_some_iff.1 (ho r (by simp))).1
          cases hx : listed.getD e.on false with
          | true => rfl
          | false =>
            have hb' : e.on < listed.size := by omega
            have hx2 : listed.getD e.on true = false := by
              rw [Array.getD_eq_getD_getElem?, Array.getElem?_eq_getElem hb'] at hx ⊢
              exact hx
            obtain ⟨q, hq, hqi⟩ := (hun e.on).1 hx2
            rcases List.mem_cons.1 hq with rfl | hq
            · omega
            · have := (List.pairwise_cons.1 hs).1 q hq
              omega
        rw [hnone] at hri
        cases hri
    · obtain ⟨hun0, oi, hoi, hall⟩ := mem_ready.1 hi
      obtain ⟨r, hrm, hri⟩ := (hun i).1 hun0
      obtain ⟨pre, post, rfl⟩ := List.append_of_mem hrm
      have hro := ho r hrm
      rw [hri, hoi] at hro
      cases hro
      have hfree : ∀ q ∈ pre, Free ops.toList base q r := by
        intro q hq
        rcases (List.pairwise_append.1 hp).2.2 q hq r (by simp) with hb | hf
        · exfalso
          have hqu : listed.getD q.i true = false := (hun q.i).2 ⟨q, by simp [hq], rfl⟩
          have hqs : q.i < listed.size := by
            rcases Nat.lt_or_ge q.i listed.size with h | h
            · exact h
            · rw [Array.getD_eq_getD_getElem?, Array.getElem?_eq_none h] at hqu; cases hqu
          rw [hri] at hb
          obtain ⟨e, he, hbe, hor⟩ := hbef i _ hoi q.i hb
          have hel := hall e (by simpa using he) hbe
          have hes : e.on < listed.size := by
            rcases Nat.lt_or_ge e.on listed.size with h | h
            · exact h
            · rw [Array.getD_eq_getD_getElem?, Array.getElem?_eq_none h] at hel; cases hel
          have hel' : listed.getD e.on true = true := by
            rw [Array.getD_eq_getD_getElem?, Array.getElem?_eq_getElem hes] at hel ⊢
            exact hel
          rcases hor with heq | hbit
          · rw [heq] at hqu; rw [hel'] at hqu; cases hqu
          · have := hcl e.on (by omega) hel' q.i hbit
            rw [this] at hqu; cases hqu
        · exact hf
      obtain ⟨s1, hat, hch'⟩ := bubble pre hch hfree
      have hstep : stepA P H call f rid ops.toList (some (base + i)) i r.o s = some s1 := by
        have hfresh := (hfr r hrm).1
        rw [hri] at hfresh
        obtain ⟨st, so⟩ := s1
        have htm := hat.tmps
        have hrun := hat.run
        simp only at htm hrun
        unfold stepA
        rw [hat.want]
        unfold stepF at hrun
        rw [hri] at hrun
        cases hw : r.w with
        | true =>
          rw [hw] at hrun
          simp only [if_true] at hrun
          simp only [hrun, hfresh, htm]
        | false =>
          rw [hw] at hrun
          simp only [Bool.false_eq_true, if_false, Option.some.injEq, Prod.mk.injEq] at hrun
          simp only [htm, ← hrun.1, ← hrun.2]
      have hplace : Place s.objs (some (base + i)) := by have := hat.gone; rw [hri] at this; exact this
      refine stepA_ok hc hr hplace hoi hstep fun C' a' w' adv hr' => ?_
      have his : i < listed.size := by
        have := (Array.getElem?_eq_some_iff.1 hoi).1; omega
      have hset : ∀ j, (listed.setIfInBounds i true).getD j true = if j = i then true else listed.getD j true := by
        intro j
        by_cases hj : j = i
        · subst hj; simp [Array.getD_eq_getD_getElem?, his]
        · rw [if_neg hj]; exact getD_set_ne true (Ne.symm hj)
      have hirr : ∀ q ∈ pre ++ post, q.i ≠ i := by
        intro q hq e
        rcases List.mem_append.1 hq with h | h
        · have := (List.pairwise_append.1 hs).2.2 q h r (by simp); omega
        · have := (List.pairwise_cons.1 (List.pairwise_append.1 hs).2.1).1 q h; omega
      have hsubl : (pre ++ post).Sublist (pre ++ r :: post) := List.Sublist.append_left (List.sublist_cons_self _ _) _
      refine ih (pre ++ post) _ (by simp at hl ⊢; omega) (by simpa using hsz) (fun j => ?_) (fun q hq => ho q (hsubl.subset hq)) (hp.sublist hsubl) (hs.sublist hsubl) (fun q hq => hfr q (hsubl.subset hq)) (fun j hj hjl q hq => ?_) hch' hr' fun C2 a2 w2 adv2 hr2 => hK C2 a2 w2 (adv.trans adv2) hr2
      · rw [hset]
        by_cases hj : j = i
        · rw [if_pos hj]
          refine ⟨(fun h => by cases h), fun ⟨q, hq, hqi⟩ => absurd (hqi.trans hj) (hirr q hq)⟩
        · rw [if_neg hj, hun j]
          refine ⟨fun ⟨q, hq, hqi⟩ => ⟨q, ?_, hqi⟩, fun ⟨q, hq, hqi⟩ => ⟨q, hsubl.subset hq, hqi⟩⟩
          rcases List.mem_append.1 hq with h | h
          · simp [h]
          · rcases List.mem_cons.1 h with rfl | h
            · exact absurd (hqi.symm.trans hri) hj
            · simp [h]
      · rw [hset]
        by_cases hqi : q = i
        · rw [if_pos hqi]
        · rw [if_neg hqi]
          rw [hset] at hjl
          by_cases hji : j = i
          · subst hji
            obtain ⟨e, he, hbe, hor⟩ := hbef j _ hoi q hq
            have hel := hall e (by simpa using he) hbe
            have hes : e.on < listed.size := by
              rcases Nat.lt_or_ge e.on listed.size with h | h
              · exact h
              · rw [Array.getD_eq_getD_getElem?, Array.getElem?_eq_none h] at hel; cases hel
            have hel' : listed.getD e.on true = true := by
              rw [Array.getD_eq_getD_getElem?, Array.getElem?_eq_getElem hes] at hel ⊢
              exact hel
            rcases hor with rfl | hbit
            · exact hel'
            · exact hcl e.on (by omega) hel' q hbit
          · rw [if_neg hji] at hjl
            exact hcl j hj hjl q hq

end Ab
namespace Ab
open Go

variable {P : Program}

/-- Places are kept behind the objects. -/
theorem kept_ok {C : Cx} {objs : Store} {w : World} (g : Good C objs w) (n : Nat) :
    ∃ C', Adv C objs w C' (objs ++ List.replicate n .gone) w ∧ Good C' (objs ++ List.replicate n .gone) w := by
  let C' : Cx := ⟨C.M, fun i => if i < objs.length then C.φ i else none⟩
  have hφ : ∀ i, i < objs.length → C'.φ i = C.φ i := fun i hi => by simp [C', hi]
  have hφ2 : ∀ i, ¬ i < objs.length → C'.φ i = none := fun i hi => by simp only [C', if_neg hi]
  have adv : Adv C objs w C' (objs ++ List.replicate n .gone) w := by
    refine ⟨fun _ _ h => h, by simp, fun j x hx => ?_, rfl, rfl, rfl, Nat.le_refl _, fun _ _ _ => rfl, fun _ _ h => .inl h, fun j b m _ hb => ?_⟩
    · have hj := (List.getElem?_eq_some_iff.1 hx).1
      rw [List.getElem?_append_left hj, hx]
      have e := hφ j hj
      cases x with
      | box cs => exact ⟨e, cs, rfl⟩
      | arr sz es fr => exact ⟨es, fr, rfl, .inl ⟨rfl, e⟩⟩
      | mp es => exact ⟨e, es, rfl⟩
      | gone => trivial
    · by_cases hj : j < objs.length
      · rw [hφ j hj] at hb; exact .inr ⟨j, m, hj, hb⟩
      · rw [hφ2 j hj] at hb; cases hb
  refine ⟨C', adv, g.seal_, fun j x hx => ?_, fun i j b m k hi hj h1 h2 => ?_⟩
  · rcases Nat.lt_or_ge j objs.length with hj | hj
    · rw [List.getElem?_append_left hj] at hx
      exact good_keep adv (hφ j hj) (fun _ _ _ => ⟨rfl, fun _ => rfl⟩) (g.obj j x hx)
    · rw [List.getElem?_append_right hj] at hx
      have := List.mem_of_getElem? hx
      rw [List.eq_of_mem_replicate this]
      exact hφ2 j (by omega)
  · by_cases hi' : i < objs.length
    · by_cases hj' : j < objs.length
      · rw [hφ i hi'] at h1; rw [hφ j hj'] at h2
        exact g.inj i j b m k hi' hj' h1 h2
      · rw [hφ2 j hj'] at h2; cases h2
    · rw [hφ2 i hi'] at h1; cases h1

theorem drawn_ok {H : Hints} {call : FuncId → List A → Store → Option (A × Store)} (hm : P.follows .mixedOrders = true) (hc : CallOK P call) {f rid : Nat} {ops : Array Oper} {C : Cx} {s s' : St} {a : Act} {w : World} (hr : s.Rel C a w)
    (h : runDrawn P H call f rid ops.toList (beforeA ops.toList 0 []) s.objs.length 0 ops.toList [] ⟨s.tmps, s.objs ++ List.replicate ops.size .gone⟩ = some s') {Q : Exit → Act → World → Prop}
    (hK : ∀ C' a' w', Adv C s.objs w C' s'.objs w' → s'.Rel C' a' w' → Q .normal a' w') : (Code.region rid ops true).wp P Q a w := by
  refine wp_region_any hm ?_
  obtain ⟨C1, adv1, g1⟩ := kept_ok hr.good ops.size
  obtain ⟨recs, c1, c2, c3, _, c5, c6⟩ := runDrawn_ok (base := s.objs.length) ops.toList 0 [] _ s' (by simp) rfl (by simpa using h)
  have hlen : recs.length = ops.size := by have := congrArg List.length c3; simpa using this
  have hi : ∀ (k : Nat) (r : Rec), recs[k]? = some r → r.i = k ∧ ops[k]? = some r.o := by
    intro k r hk
    have h1 := congrArg (·[k]?) c2
    have h2 := congrArg (·[k]?) c3
    simp only [List.getElem?_map, hk, Option.map_some] at h1 h2
    have hlt : k < ops.size := by have := (List.getElem?_eq_some_iff.1 hk).1; omega
    rw [List.getElem?_range' (by simpa using hlt)] at h1
    exact ⟨by simpa using h1, by simpa using h2.symm⟩
  have hrepF : ∀ j, j < ops.size → (Array.replicate ops.size false).getD j true = false := fun j hj => by simp [Array.getD_eq_getD_getElem?, hj]
  have hrepT : ∀ j, ¬ j < ops.size → (Array.replicate ops.size false).getD j true = true := fun j hj => by simp [Array.getD_eq_getD_getElem?, hj]
  refine any_ok (H := H) (f := f) (rid := rid) (base := s.objs.length) (bef := beforeA ops.toList 0 []) hc (fun k o hk q hq => ?_) ops.size recs _ hlen (by simp) (fun j => ?_) (fun r hr => ?_) c5 ?_ c6 (fun j hj hl => ?_) c1
    (s := ⟨s.tmps, s.objs ++ List.replicate ops.size .gone⟩) (C := C1) ⟨g1.drew, hr.tmps.adv adv1, hr.defers⟩ (fun C2 a2 w2 adv2 hr2 => hK C2 a2 w2 ((adv1.trans (drew_adv _ _ _)).trans adv2) hr2)
  · have := (beforeA_ok ops.toList 0 [] rfl).2 k o (by simpa using hk) q
    rw [Nat.zero_add] at this
    exact this hq
  · by_cases hj : j < ops.size
    · refine ⟨fun _ => ?_, fun _ => hrepF j hj⟩
      have hj' : j < recs.length := by omega
      exact ⟨recs[j], List.getElem_mem hj', (hi j _ (List.getElem?_eq_getElem hj')).1⟩
    · refine ⟨(fun h => by rw [hrepT j hj] at h; cases h), fun ⟨r, hr, hri⟩ => ?_⟩
      obtain ⟨k, hk⟩ := List.getElem?_of_mem hr
      have := (List.getElem?_eq_some_iff.1 hk).1
      have := (hi k r hk).1
      omega
  · obtain ⟨k, hk⟩ := List.getElem?_of_mem hr
    obtain ⟨h1, h2⟩ := hi k r hk
    rw [h1]; exact h2
  · rw [List.pairwise_iff_getElem]
    intro i j hi' hj' hij
    rw [(hi i _ (List.getElem?_eq_getElem hi')).1, (hi j _ (List.getElem?_eq_getElem hj')).1]
    exact hij
  · rw [hrepF j hj] at hl; cases hl

end Ab
