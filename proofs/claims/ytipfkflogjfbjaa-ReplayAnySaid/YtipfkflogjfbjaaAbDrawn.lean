/- A part of the proof of a row by an interpreter that is proved sound; no conditions of its own. -/
import Derived.Test.YtipfkflogjfbjaaAbFrame5
namespace Ab
open Go

variable {P : Program}

/-! ### An operation depends on the temporaries only through its operands -/

theorem evT_congr {ts ts2 : List A} {x : Operand} (h : ev ts x = ev ts2 x) (t : TypeId) : evT P ts t x = evT P ts2 t x := by
  unfold evT
  split
  · rfl
  · exact h

theorem opA_congr {H : Hints} {call : FuncId → List A → Store → Option (A × Store)} {ts ts2 : List A} {o : Store} {dr : Option Nat} {ty : TypeId} {op : Op} (h : ∀ x ∈ op.operands, ev ts x = ev ts2 x) : opA P H call ts o dr ty op = opA P H call ts2 o dr ty op := by
  have mp : ∀ (l : List Operand), (∀ x ∈ l, ev ts x = ev ts2 x) → l.map (ev ts) = l.map (ev ts2) := fun l hl => List.map_congr_left hl
  cases op <;> simp only [Op.operands] at h <;> simp only [opA]
  case move x => rw [evT_congr (h x (by simp))]
  case assign x => rw [evT_congr (h x (by simp))]
  case pick c a b => rw [h c (by simp), h a (by simp), h b (by simp)]
  case box e x => rw [evT_congr (h x (by simp))]
  case build t parts =>
    have : buildA P ts t parts.toList = buildA P ts2 t parts.toList := by
      unfold buildA
      have hx : ∀ p ∈ parts.toList, ev ts p.2 = ev ts2 p.2 := fun p hp => h p.2 (by simp; exact ⟨p.1, by simpa using hp⟩)
      split
      · split
        · refine congrArg (fillA _ _) ?_
          exact List.map_congr_left fun p hp => by rw [evT_congr (hx p hp)]
        · rfl
      · split
        · refine congrArg (fillA _ _) ?_
          exact List.map_congr_left fun p hp => by rw [evT_congr (hx p hp)]
        · rfl
      · rfl
    rw [this]
  case buildSlice t len parts =>
    have : ∀ (ps : List (Nat × Operand)) (o : Store) (e : TypeId) (n : Nat) (es : List (List D)), (∀ p ∈ ps, ev ts p.2 = ev ts2 p.2) → elemsA P ts o e n es ps = elemsA P ts2 o e n es ps := by
      intro ps
      induction ps with
      | nil => intro o e n es _; rfl
      | cons p ps ih =>
        intro o e n es hp
        obtain ⟨i, x⟩ := p
        unfold elemsA
        rw [evT_congr (hp (i, x) (by simp))]
        simp only [ih _ _ _ _ (fun p hq => hp p (by simp [hq]))]
    have e : ∀ o e n es, elemsA P ts o e n es parts.toList = elemsA P ts2 o e n es parts.toList := fun o e n es => this parts.toList o e n es (fun p hp => h p.2 (by simp; exact ⟨p.1, by simpa using hp⟩))
    simp only [e]
  case load t a => rw [h a (by simp)]
  case store t a x => rw [h a (by simp), evT_congr (h x (by simp))]
  case nilCheck x => rw [h x (by simp)]
  case binOp b t x y yt => rw [h x (by simp), h y (by simp)]
  case unOp u t x => rw [h x (by simp)]
  case convert s t x => rw [h x (by simp)]
  case makeFunc fn a b =>
    cases fn with
    | func f => simp only []; rw [mp a.toList fun x hx => h x (by simp; left; simpa using hx), mp b.toList fun x hx => h x (by simp; right; simpa using hx)]
    | _ => rfl
  case makeMap t r => cases r <;> rfl
  case makeSlice t l c => rw [h l (by simp), h c (by simp)]
  case slice t x l hh m =>
    have hl : l.map (ev ts) = l.map (ev ts2) := by cases l <;> simp_all
    have h2 : hh.map (ev ts) = hh.map (ev ts2) := by cases hh <;> simp_all
    have h3 : m.map (ev ts) = m.map (ev ts2) := by cases m <;> simp_all
    rw [h x (by simp), hl, h2, h3]
  case fieldAddr s x f => rw [h x (by simp)]
  case field t x f => rw [h x (by simp)]
  case indexAddr t x i => rw [h x (by simp), h i (by simp)]
  case index t x i => rw [h x (by simp), h i (by simp)]
  case lookup t m k ok => rw [h m (by simp), h k (by simp)]
  case mapUpdate t m k x => rw [h m (by simp), h k (by simp)]; simp only [evT_congr (h x (by simp))]
  case insert t m k x => rw [h m (by simp), h k (by simp)]; simp only [evT_congr (h x (by simp))]
  case extract x i => rw [h x (by simp)]
  case call c =>
    have hargs : c.args.toList.map (ev ts) = c.args.toList.map (ev ts2) := mp _ fun x hx => h x (by simp [Call.operands]; right; simpa using hx)
    have hz : (c.args.toList.zipIdx.map fun (x, i) => evT P ts (c.argTypes.getD i 0) x) = c.args.toList.zipIdx.map fun (x, i) => evT P ts2 (c.argTypes.getD i 0) x :=
      List.map_congr_left fun p hp => by
        obtain ⟨x, i⟩ := p
        have hx : x ∈ c.args.toList := by
          have := List.mem_map_of_mem (f := Prod.fst) hp
          rwa [List.zipIdx_map_fst] at this
        exact evT_congr (h x (by simp [Call.operands]; right; simpa using hx)) _
    rw [hargs, hz]
    cases hc : c.callee with
    | value g => simp only [h g (by simp [Call.operands, hc])]
    | _ => rfl

/-! ### Two operations change places -/

structure Rec where
  i : Nat
  o : Oper
  w : Bool
  v : A
  R : List Nat
  W : List Nat

def stepF (P : Program) (H : Hints) (call : FuncId → List A → Store → Option (A × Store)) (base : Nat) (r : Rec) (ts : List A) (o : Store) : Option (A × Store) :=
  if r.w then opA P H call ts o (some (base + r.i)) r.o.type r.o.op else some (.un, o)

structure At (P : Program) (H : Hints) (call : FuncId → List A → Store → Option (A × Store)) (ops : List Oper) (base : Nat) (r : Rec) (s s1 : St) : Prop where
  want : wantedA ops s.tmps r.o = some r.w
  gone : s.objs[base + r.i]? = some .gone
  run : stepF P H call base r s.tmps s.objs = some (r.v, s1.objs)
  loc : Loc (stepF P H call base r s.tmps) s.objs (base + r.i) r.R r.W r.v s1.objs
  tmps : s1.tmps = putA s.tmps r.o.dst r.v

/-- What is changed, with the place of a new object. -/
def Rec.WW (base : Nat) (r : Rec) : List Nat := (base + r.i) :: r.W

structure Free (ops : List Oper) (base : Nat) (q r : Rec) : Prop where
  apart : apartA ops q.o r.o = true
  d1 : ∀ i ∈ q.WW base, i ∉ r.R ++ r.WW base
  d2 : ∀ i ∈ q.R, i ∉ r.WW base

theorem ev_put {ts : List A} {d : Option Tmp} {v : A} {x : Operand} (h : ∀ t, d = some t → x ≠ .tmp t) : ev (putA ts d v) x = ev ts x := by
  cases d with
  | none => rfl
  | some t =>
    cases x with
    | tmp j =>
      have hne : t ≠ j := fun e => h t rfl (by rw [e])
      simp only [ev, putA, List.getD_eq_getElem?_getD, List.getElem?_set_ne hne]
    | _ => rfl

theorem looks_op {ops : List Oper} {o : Oper} {t : Tmp} (h : .tmp t ∈ o.op.operands) : t ∈ looksA ops o := by
  unfold looksA
  exact List.mem_append_left _ (List.mem_filterMap.2 ⟨.tmp t, by simpa using h, rfl⟩)

theorem stepF_put {H : Hints} {call : FuncId → List A → Store → Option (A × Store)} {ops : List Oper} {base : Nat} {r : Rec} {ts : List A} {d : Option Tmp} {v : A} (h : ∀ t, d = some t → t ∉ looksA ops r.o) : stepF P H call base r (putA ts d v) = stepF P H call base r ts := by
  funext o
  unfold stepF
  split
  · exact opA_congr fun x hx => ev_put fun t ht e => h t ht (looks_op (e ▸ hx))
  · rfl

theorem wanted_put' {ops : List Oper} {o : Oper} {ts : List A} {d : Option Tmp} {v : A} (h : ∀ t, d = some t → t ∉ looksA ops o) : wantedA ops (putA ts d v) o = wantedA ops ts o := by
  unfold wantedA
  cases hg : o.guard with
  | none => rfl
  | some g =>
    obtain ⟨j, wn⟩ := g
    simp only
    cases hq : ops[j]? with
    | none => rfl
    | some q =>
      simp only
      cases ht : q.dst with
      | none => rfl
      | some t =>
        simp only
        have : (putA ts d v).getD t .top = ts.getD t .top := by
          cases d with
          | none => rfl
          | some t' =>
            have hne : t' ≠ t := fun e => h t' rfl (by
              unfold looksA
              refine List.mem_append_right _ ?_
              rw [hg]
              simp [hq, ht, e])
            simp only [putA, List.getD_eq_getElem?_getD, List.getElem?_set_ne hne]
        rw [this]

theorem put_comm {ts : List A} {d e : Option Tmp} {u v : A} (h : ∀ t, d = some t → e ≠ some t) : putA (putA ts d u) e v = putA (putA ts e v) d u := by
  cases d with
  | none => rfl
  | some t =>
    cases e with
    | none => rfl
    | some t' =>
      have hne : t ≠ t' := fun x => h t rfl (by rw [x])
      exact List.set_comm _ _ hne

theorem apart_split {ops : List Oper} {x y : Oper} (h : apartA ops x y = true) : (∀ t, x.dst = some t → t ∉ looksA ops y) ∧ (∀ t, x.dst = some t → y.dst ≠ some t) ∧ (∀ t, y.dst = some t → t ∉ looksA ops x) := by
  unfold apartA at h
  rw [Bool.and_eq_true] at h
  obtain ⟨h1, h2⟩ := h
  refine ⟨fun t ht => ?_, fun t ht => ?_, fun t ht => ?_⟩
  · simp only [ht, Bool.and_eq_true] at h1; simpa using h1.1
  · simp only [ht, Bool.and_eq_true] at h1; simpa using h1.2
  · simp only [ht] at h2; simpa using h2

/-- What an operation leaves as it is. -/
theorem At.out {H : Hints} {call : FuncId → List A → Store → Option (A × Store)} {ops : List Oper} {base : Nat} {r : Rec} {s s1 : St} (h : At P H call ops base r s s1) : s1.objs.length = s.objs.length ∧ ∀ i, i ∉ r.WW base → s1.objs[i]? = s.objs[i]? := by
  obtain ⟨o', h1, h2, h3, h4⟩ := h.loc s.objs (.refl _ _) h.gone
  rw [h.run] at h1; cases h1
  exact ⟨h2, fun i hi => h4 i (fun hc => hi (List.mem_cons_of_mem _ hc)) (fun e => hi (by rw [e]; exact List.mem_cons_self))⟩

theorem swap {H : Hints} {call : FuncId → List A → Store → Option (A × Store)} {ops : List Oper} {base : Nat} {q r : Rec} {s s1 s2 : St} (hq : At P H call ops base q s s1) (hr : At P H call ops base r s1 s2) (hf : Free ops base q r) :
    ∃ s1', At P H call ops base r s s1' ∧ At P H call ops base q s1' s2 := by
  obtain ⟨a1, a2, a3⟩ := apart_split hf.apart
  obtain ⟨lq, oq⟩ := hq.out
  obtain ⟨lr, or_⟩ := hr.out
  have wq : ∀ i, i ∈ q.W ∨ i = base + q.i → i ∈ q.WW base := fun i hi => by rcases hi with h | h <;> simp [Rec.WW, h]
  have wr : ∀ i, i ∈ r.W ∨ i = base + r.i → i ∈ r.WW base := fun i hi => by rcases hi with h | h <;> simp [Rec.WW, h]
  have wr' : ∀ i, i ∈ r.WW base → i ∈ r.W ∨ i = base + r.i := fun i hi => by simp [Rec.WW] at hi; exact hi.symm
  have wq' : ∀ i, i ∈ q.WW base → i ∈ q.W ∨ i = base + q.i := fun i hi => by simp [Rec.WW] at hi; exact hi.symm
  have rnq : ∀ i, i ∈ r.R ++ r.WW base → i ∉ q.WW base := fun i hi hc => hf.d1 i hc hi
  have qnr : ∀ i, i ∈ q.R ++ q.WW base → i ∉ r.WW base := fun i hi hc => by
    rcases List.mem_append.1 hi with h | h
    · exact hf.d2 i h hc
    · exact hf.d1 i h (List.mem_append_right _ hc)
  have hFr : stepF P H call base r s1.tmps = stepF P H call base r s.tmps := by rw [hq.tmps]; exact stepF_put a1
  have hwr : wantedA ops s1.tmps r.o = wantedA ops s.tmps r.o := by rw [hq.tmps]; exact wanted_put' a1
  have rsub : ∀ i, i ∈ r.R ++ r.W → i ∈ r.R ++ r.WW base := fun i hi => by
    rcases List.mem_append.1 hi with h | h
    · exact List.mem_append_left _ h
    · exact List.mem_append_right _ (List.mem_cons_of_mem _ h)
  have qsub : ∀ i, i ∈ q.R ++ q.W → i ∈ q.R ++ q.WW base := fun i hi => by
    rcases List.mem_append.1 hi with h | h
    · exact List.mem_append_left _ h
    · exact List.mem_append_right _ (List.mem_cons_of_mem _ h)
  have ag : Agree (r.R ++ r.W) s1.objs s.objs := ⟨lq.symm, fun i hi => (oq i (rnq i (rsub i hi))).symm⟩
  have gr : s.objs[base + r.i]? = some .gone := by rw [← oq _ (rnq _ (List.mem_append_right _ List.mem_cons_self))]; exact hr.gone
  have Lr : Loc (stepF P H call base r s.tmps) s1.objs (base + r.i) r.R r.W r.v s2.objs := by rw [← hFr]; exact hr.loc
  obtain ⟨o', h1, h2, h3, h4⟩ := Lr s.objs ag gr
  have h4' : ∀ i, i ∉ r.WW base → o'[i]? = s.objs[i]? := fun i hi => h4 i (fun hc => hi (wr i (.inl hc))) (fun e => hi (wr i (.inr e)))
  have atr : At P H call ops base r s ⟨putA s.tmps r.o.dst r.v, o'⟩ := by
    refine ⟨by rw [← hwr]; exact hr.want, gr, h1, fun o2 ha hg => ?_, rfl⟩
    have ha' : Agree (r.R ++ r.W) s1.objs o2 := ⟨by rw [ha.1, lq], fun i hi => by rw [ha.2 i hi]; exact ag.2 i hi⟩
    obtain ⟨o2', q1, q2, q3, q4⟩ := Lr o2 ha' hg
    exact ⟨o2', q1, q2, fun i hi => by rw [q3 i hi]; exact (h3 i hi).symm, q4⟩
  have hFq : stepF P H call base q (putA s.tmps r.o.dst r.v) = stepF P H call base q s.tmps := stepF_put a3
  have hwq : wantedA ops (putA s.tmps r.o.dst r.v) q.o = wantedA ops s.tmps q.o := wanted_put' a3
  have agq : Agree (q.R ++ q.W) s.objs o' := ⟨h2, fun i hi => h4' i (qnr i (qsub i hi))⟩
  have gq : o'[base + q.i]? = some .gone := by rw [h4' _ (qnr _ (List.mem_append_right _ List.mem_cons_self))]; exact hq.gone
  obtain ⟨o'', k1, k2, k3, k4⟩ := hq.loc o' agq gq
  have k4' : ∀ i, i ∉ q.WW base → o''[i]? = o'[i]? := fun i hi => k4 i (fun hc => hi (wq i (.inl hc))) (fun e => hi (wq i (.inr e)))
  have heq : o'' = s2.objs := by
    apply List.ext_getElem?
    intro i
    by_cases hi : i ∈ q.WW base
    · rw [k3 i (wq' i hi), or_ i (qnr i (List.mem_append_right _ hi))]
    · rw [k4' i hi]
      by_cases hj : i ∈ r.WW base
      · exact h3 i (wr' i hj)
      · rw [h4' i hj, or_ i hj, oq i hi]
  subst heq
  refine ⟨_, atr, by rw [hwq]; exact hq.want, gq, by rw [hFq]; exact k1, ?_, ?_⟩
  · rw [hFq]
    intro o2 ha hg
    have ha' : Agree (q.R ++ q.W) s.objs o2 := ⟨by rw [ha.1]; exact h2, fun i hi => by rw [ha.2 i hi]; exact agq.2 i hi⟩
    obtain ⟨o2', p1, p2, p3, p4⟩ := hq.loc o2 ha' hg
    exact ⟨o2', p1, p2, fun i hi => by rw [p3 i hi]; exact (k3 i hi).symm, p4⟩
  · rw [hr.tmps, hq.tmps]
    exact put_comm a2

inductive Chain (P : Program) (H : Hints) (call : FuncId → List A → Store → Option (A × Store)) (ops : List Oper) (base : Nat) : List Rec → St → St → Prop
  | nil (s : St) : Chain P H call ops base [] s s
  | cons {r : Rec} {rs : List Rec} {s s1 s2 : St} (h : At P H call ops base r s s1) (t : Chain P H call ops base rs s1 s2) : Chain P H call ops base (r :: rs) s s2

theorem bubble {H : Hints} {call : FuncId → List A → Store → Option (A × Store)} {ops : List Oper} {base : Nat} {r : Rec} {post : List Rec} {s2 : St} : ∀ (pre : List Rec) {s : St}, Chain P H call ops base (pre ++ r :: post) s s2 → (∀ q ∈ pre, Free ops base q r) →
    ∃ s1, At P H call ops base r s s1 ∧ Chain P H call ops base (pre ++ post) s1 s2
  | [], s, h, _ => by
    cases h with
    | cons h t => exact ⟨_, h, t⟩
  | q :: pre, s, h, hf => by
    cases h with
    | cons hq t =>
      obtain ⟨s1', h1, h2⟩ := bubble pre t (fun q hq => hf q (by simp [hq]))
      obtain ⟨s3, h3, h4⟩ := swap hq h1 (hf q (by simp))
      exact ⟨s3, h3, .cons h4 h2⟩

end Ab
