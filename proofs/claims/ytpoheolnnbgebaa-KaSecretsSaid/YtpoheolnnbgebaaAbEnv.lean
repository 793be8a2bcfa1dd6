/- A part of the proof of a row by an interpreter that is proved sound; no conditions of its own. -/
import Derived.Test.YtpoheolnnbgebaaAbFn
namespace Ab
open Go

/-! ### A second form of the interpreter, made for proofs that step through it: temporaries by name, continuations, and of each operation only what is needed. -/

inductive Env where
  | nil (d : A)
  | cons (t : Nat) (v : A) (e : Env)

def getE : Env → Nat → A
  | .nil d, _ => d
  | .cons u v e, t => if u = t then v else getE e t

/-- As a list. -/
def lk (n : Nat) (e : Env) : List A := (List.range n).map (getE e)

theorem lk_length (n : Nat) (e : Env) : (lk n e).length = n := by simp [lk]

theorem lk_get {n : Nat} {e : Env} {t : Nat} (h : t < n) : (lk n e)[t]? = some (getE e t) := by
  simp [lk, List.getElem?_range h]

theorem ev_lk {n : Nat} {e : Env} {t : Nat} (h : t < n) : ev (lk n e) (.tmp t) = getE e t := by
  simp only [ev]
  rw [List.getD_eq_getElem?_getD, lk_get h]; rfl

def putE (e : Env) (d : Option Tmp) (v : A) : Env := match d with | some t => .cons t v e | none => e

theorem put_lk (n : Nat) (e : Env) (d : Option Tmp) (v : A) : putA (lk n e) d v = lk n (putE e d v) := by
  cases d with
  | none => rfl
  | some d =>
    apply List.ext_getElem?
    intro i
    simp only [putA, putE]
    rw [List.getElem?_set]
    rcases Nat.lt_or_ge i n with h | h
    · rw [lk_get h]
      by_cases hd : d = i
      · subst hd; rw [if_pos rfl, if_pos (by rw [lk_length]; exact h), lk_get h]; simp [getE]
      · simp [hd, getE, lk_get h]
    · have h1 : (lk n (.cons d v e))[i]? = none := List.getElem?_eq_none (by rw [lk_length]; exact h)
      have h2 : (lk n e)[i]? = none := List.getElem?_eq_none (by rw [lk_length]; exact h)
      rw [h1, h2, lk_length]
      by_cases hd : d = i
      · subst hd; rw [if_pos rfl, if_neg (by omega)]
      · rw [if_neg hd]

/-- One operation: where its value goes, when it is wanted, and which nil slices behind it become local arrays. -/
structure SO where
  dst : Option Tmp
  op : Op
  ty : TypeId
  gd : Option (Tmp × Bool)
  fr : List Nat

inductive SC where
  | skip | ret | exit (id : Nat)
  | seq (a b : SC)
  | cond (c : Operand) (a b : SC)
  | block (id : Nat) (a : SC)
  | loop (hd : Option (List Nat × Nat)) (a : SC)
  | reg (ops : List SO)
  | drw (ops : List (SO × List Nat))

abbrev Res := Option (A × Store)

def wantE (n : Nat) (g : Option (Tmp × Bool)) (e : Env) : Option Bool :=
  match g with
  | none => some true
  | some (t, w) => match ev (lk n e) (.tmp t) with
    | .d (.bool b) => some (b == w)
    | .un => some false
    | _ => none

def doE (P : Program) (H : Hints) (call : FuncId → List A → Store → Option (A × Store)) (n : Nat) (dr : Option Nat) (x : SO) (e : Env) (o : Store) (K : Env → Store → Res) : Res :=
  match opA P H call (lk n e) o dr x.ty x.op with
  | some (v, o1) => match x.fr with
    | [] => K (putE e x.dst v) o1
    | l => match dr with
      | none => match freshA o1 v l with
        | some (v, o2) => K (putE e x.dst v) o2
        | none => none
      | some _ => none
  | none => none

def stepE (P : Program) (H : Hints) (call : FuncId → List A → Store → Option (A × Store)) (n : Nat) (dr : Option Nat) (x : SO) (e : Env) (o : Store) (K : Env → Store → Res) : Res :=
  match wantE n x.gd e with
  | some true => doE P H call n dr x e o K
  | some false => K (putE e x.dst .un) o
  | none => none

def opsE (P : Program) (H : Hints) (call : FuncId → List A → Store → Option (A × Store)) (n : Nat) : List SO → Env → Store → (Env → Store → Res) → Res
  | [], e, o, K => K e o
  | x :: xs, e, o, K => stepE P H call n none x e o fun e o => opsE P H call n xs e o K

def freeE (un : List Nat) (done : List (List Nat × List Nat)) (fp : List Nat × List Nat) : Bool :=
  un.all fun j => match done[j]? with
    | some fq => disj fq.2 (fp.1 ++ fp.2) && disj fq.1 fp.2
    | none => false

def drwE (P : Program) (H : Hints) (call : FuncId → List A → Store → Option (A × Store)) (n base : Nat) : Nat → List (SO × List Nat) → List (List Nat × List Nat) → Env → Store → (Env → Store → Res) → Res
  | _, [], _, e, o, K => K e o
  | i, (x, un) :: xs, done, e, o, K =>
    match wantE n x.gd e with
    | none => none
    | some w =>
      let ft := if w then footA P H (lk n e) o x.op else ([], [])
      let fp := (ft.1, (base + i) :: ft.2)
      if freeE un done fp && isGone o[base + i]? then
        stepE P H call n (some (base + i)) x e o fun e o => drwE P H call n base (i + 1) xs (done ++ [fp]) e o K
      else none

def envE : List Nat → List A → Env
  | k :: ks, v :: vs => .cons k v (envE ks vs)
  | _, _ => .nil .top

def headE (n m : Nat) (hd : Option (List Nat × Nat)) (e : Env) (o : Store) (K : Env → Store → Res) : Res :=
  match hd with
  | none => K e o
  | some (ks, _) => match leaveA m (.tup (ks.map fun t => ev (lk n e) (.tmp t))) o with
    | some (.tup vs, os) => K (envE ks vs) os
    | _ => none

def loopE (step : Env → Store → (X → Env → Store → Res) → Res) : Nat → Env → Store → (X → Env → Store → Res) → Res
  | 0, _, _, _ => none
  | k + 1, e, o, K => step e o fun x e o => match x with
    | .normal => loopE step k e o K
    | .exit id => K (.exit id) e o
    | .ret => K .ret e o

def codeE (P : Program) (H : Hints) (call : FuncId → List A → Store → Option (A × Store)) (n k m : Nat) : SC → Env → Store → (X → Env → Store → Res) → Res
  | .skip, e, o, K => K .normal e o
  | .ret, e, o, K => K .ret e o
  | .exit id, e, o, K => K (.exit id) e o
  | .seq a b, e, o, K => codeE P H call n k m a e o fun x e o => match x with
    | .normal => codeE P H call n k m b e o K
    | .exit id => K (.exit id) e o
    | .ret => K .ret e o
  | .cond c a b, e, o, K => match ev (lk n e) c with
    | .d (.bool t) => if t = true then codeE P H call n k m a e o K else codeE P H call n k m b e o K
    | _ => none
  | .block id a, e, o, K => codeE P H call n k m a e o fun x e o => match x with
    | .normal => K .normal e o
    | .exit j => if j = id then K .normal e o else K (.exit j) e o
    | .ret => K .ret e o
  | .loop hd a, e, o, K => loopE (fun e o K => headE n m hd e o fun e o => codeE P H call n k m a e o K) k e o K
  | .reg ops, e, o, K => opsE P H call n ops e o (K .normal)
  | .drw ops, e, o, K => drwE P H call n o.length 0 ops [] e (o ++ List.replicate ops.length .gone) (K .normal)

/-! ### From the code to this form -/

def slimO (H : Hints) (f rid : Nat) (ops : List Oper) (i : Nat) (o : Oper) : Option SO :=
  match o.guard with
  | none => some ⟨o.dst, o.op, o.type, none, H.fresh f rid i⟩
  | some (j, w) => match ops[j]? with
    | some q => match q.dst with
      | some t => some ⟨o.dst, o.op, o.type, some (t, w), H.fresh f rid i⟩
      | none => none
    | none => none

def slimR (H : Hints) (f rid : Nat) (ops : List Oper) : Nat → List Oper → Option (List SO)
  | _, [] => some []
  | i, o :: os => match slimO H f rid ops i o with
    | some x => match slimR H f rid ops (i + 1) os with
      | some xs => some (x :: xs)
      | none => none
    | none => none

/-- Operations that look at no object. -/
def quiet : Op → Bool
  | .move _ | .assign _ | .pick _ _ _ | .alloc _ | .box _ _ | .build _ _ | .nilCheck _ | .binOp _ _ _ _ _ | .unOp _ _ _ | .makeFunc _ _ _ | .fieldAddr _ _ _ | .field _ _ _ | .index _ _ _ | .extract _ _ => true
  | _ => false

/-- The earlier operations that an operation need not follow and whose objects are to be compared. -/
def unA (ops : List Oper) (bef : Nat) (o : Oper) : Nat → List Oper → Option (List Nat)
  | _, [] => some []
  | j, q :: rest => match unA ops bef o (j + 1) rest with
    | none => none
    | some l => if bef.testBit j then some l else if apartA ops q o then (if quiet o.op && quiet q.op then some l else some (j :: l)) else none

def slimD (H : Hints) (f rid : Nat) (ops : List Oper) (bef : List Nat) : Nat → List Oper → Option (List (SO × List Nat))
  | _, [] => some []
  | i, o :: os =>
    if o.after.toList.all (fun e => !Region.binds .any e || decide (e.on < i)) && (H.fresh f rid i).isEmpty then
      match slimO H f rid ops i o, unA ops (bef.getD i 0) o 0 (ops.take i), slimD H f rid ops bef (i + 1) os with
      | some x, some un, some xs => some ((x, un) :: xs)
      | _, _, _ => none
    else none

def slimC (H : Hints) (f : Nat) : Nat → Code → Option SC
  | _, .skip => some .skip
  | _, .ret => some .ret
  | _, .exit id => some (.exit id)
  | b, .seq x y => match slimC H f b x, slimC H f b y with
    | some a, some c => some (.seq a c)
    | _, _ => none
  | b, .cond c x y => match slimC H f b x, slimC H f b y with
    | some a, some d => some (.cond c a d)
    | _, _ => none
  | _, .block id x => match slimC H f id x with | some a => some (.block id a) | none => none
  | b, .loop x => match slimC H f b x with | some a => some (.loop (H.head f b) a) | none => none
  | _, .region rid ops false => match slimR H f rid ops.toList 0 ops.toList with | some l => some (.reg l) | none => none
  | _, .region rid ops true => match slimD H f rid ops.toList (beforeA ops.toList 0 []) 0 ops.toList with | some l => some (.drw l) | none => none
  | _, _ => none

/-! ### What this form says holds of the other one -/

variable {P : Program} {H : Hints} {call : FuncId → List A → Store → Option (A × Store)}

theorem slim_want {f rid : Nat} {ops : List Oper} {i : Nat} {o : Oper} {x : SO} (h : slimO H f rid ops i o = some x) (n : Nat) (e : Env) :
    wantedA ops (lk n e) o = wantE n x.gd e ∧ x.dst = o.dst ∧ x.op = o.op ∧ x.ty = o.type ∧ x.fr = H.fresh f rid i := by
  unfold slimO at h
  split at h
  · rename_i hg; cases h; simp [wantedA, wantE, hg]
  · rename_i j w hg
    split at h
    case h_2 => cases h
    rename_i q hq
    split at h
    case h_2 => cases h
    rename_i t ht
    cases h
    simp [wantedA, wantE, hg, hq, ht, ev]
    rfl

theorem stepE_sound {f rid : Nat} {ops : List Oper} {dr : Option Nat} {i n : Nat} {o : Oper} {x : SO} (hx : slimO H f rid ops i o = some x) {e : Env} {objs : Store} {K : Env → Store → Res} {r : A × Store} (h : stepE P H call n dr x e objs K = some r) :
    ∃ e' o', stepA P H call f rid ops dr i o ⟨lk n e, objs⟩ = some ⟨lk n e', o'⟩ ∧ K e' o' = some r := by
  obtain ⟨h1, h2, h3, h4, h5⟩ := slim_want hx n e
  unfold stepE at h
  unfold stepA
  simp only [h1]
  split at h
  · rename_i hw
    simp only [hw]
    unfold doE at h
    rw [h3, h4] at h
    split at h
    case h_2 => cases h
    rename_i v o1 hop
    simp only [hop]
    rw [h5] at h
    split at h
    · rename_i hf
      simp only [hf]
      rw [h2, ] at h
      exact ⟨_, _, by rw [put_lk], h⟩
    · rename_i l hf
      split at h
      · split at h
        case h_2 => cases h
        rename_i v2 o2 hfr
        rw [h2] at h
        refine ⟨putE e o.dst v2, o2, ?_, h⟩
        split
        · rename_i hnil; exact absurd hnil hf
        · simp only [hfr, put_lk]
      · cases h
  · rename_i hw
    simp only [hw]
    rw [h2] at h
    exact ⟨_, _, by rw [put_lk], h⟩
  · cases h

theorem opsE_sound {f rid n : Nat} {ops : List Oper} {K : Env → Store → Res} {r : A × Store} : ∀ (os : List Oper) (i : Nat) (xs : List SO) (_ : slimR H f rid ops i os = some xs) {e : Env} {objs : Store} (_ : opsE P H call n xs e objs K = some r),
    ∃ e' o', runOps P H call f rid ops i os ⟨lk n e, objs⟩ = some ⟨lk n e', o'⟩ ∧ K e' o' = some r
  | [], i, xs, hs, e, objs, h => by
    unfold slimR at hs; cases hs
    unfold opsE at h
    exact ⟨e, objs, by unfold runOps; rfl, h⟩
  | o :: os, i, xs, hs, e, objs, h => by
    unfold slimR at hs
    split at hs
    case h_2 => cases hs
    rename_i x hx
    split at hs
    case h_2 => cases hs
    rename_i ys hys
    cases hs
    unfold opsE at h
    obtain ⟨e1, o1, h1, h2⟩ := stepE_sound hx h
    obtain ⟨e2, o2, h3, h4⟩ := opsE_sound os (i + 1) ys hys h2
    exact ⟨e2, o2, by unfold runOps; simp only [h1]; exact h3, h4⟩

theorem quiet_foot {ts : List A} {o : Store} {op : Op} (h : quiet op = true) : footA P H ts o op = ([], []) := by
  cases op <;> simp_all [quiet, footA]

/-- What is kept of the operations that were done. -/
def Done (base : Nat) (done : List (Oper × (List Nat × List Nat))) : Prop := ∀ (j : Nat) q fq, done[j]? = some (q, fq) → quiet q.op = true → fq = ([], [base + j])

theorem free_sound {ops : List Oper} {bef base : Nat} {o : Oper} {fp : List Nat × List Nat} (hq : quiet o.op = true → ∃ i, fp = ([], [base + i]) ∧ ∀ j, j ∈ ([] : List Nat) ∨ j ≠ i ∨ True) :
    ∀ (rest : List Oper) (j : Nat) (un : List Nat) (_ : unA ops bef o j rest = some un) (full : List (Oper × (List Nat × List Nat))) (done : List (Oper × (List Nat × List Nat))) (_ : ∀ k, done[k]? = full[j + k]?) (_ : done.map (·.1) = rest) (_ : Done base full)
      (_ : ∀ i, fp = ([], [base + i]) → full.length ≤ i) (_ : freeE un (full.map (·.2)) fp = true), freeA ops bef o fp j done = true
  | [], j, un, hu, full, done, hk, hm, hd, hi, hf => by
    have : done = [] := by simpa using hm
    subst this
    unfold freeA; rfl
  | q :: rest, j, un, hu, full, done, hk, hm, hd, hi, hf => by
    cases done with
    | nil => simp at hm
    | cons p done =>
      obtain ⟨q', fq⟩ := p
      simp only [List.map_cons, List.cons.injEq] at hm
      obtain ⟨rfl, hm⟩ := hm
      have hfull : full[j]? = some (q', fq) := by have := hk 0; simpa using this.symm
      unfold unA at hu
      split at hu
      · cases hu
      · rename_i l hl
        have hk' : ∀ k, done[k]? = full[j + 1 + k]? := fun k => by have := hk (k + 1); simpa [Nat.add_assoc, Nat.add_comm 1] using this
        unfold freeA
        split at hu
        · rename_i hb
          cases hu
          rw [hb]
          simp only [Bool.true_or, Bool.true_and]
          exact free_sound hq rest (j + 1) _ hl full done hk' hm hd hi hf
        · split at hu
          · rename_i hap
            rw [hap]
            simp only [Bool.true_and, Bool.and_eq_true, Bool.or_eq_true]
            split at hu
            · rename_i hqq
              cases hu
              refine ⟨.inr ?_, free_sound hq rest (j + 1) _ hl full done hk' hm hd hi hf⟩
              simp only [Bool.and_eq_true] at hqq
              obtain ⟨i, hfp, _⟩ := hq hqq.1
              have hfq := hd j q' fq hfull hqq.2
              have hji : j < i := Nat.lt_of_lt_of_le (List.getElem?_eq_some_iff.1 hfull).1 (hi i hfp)
              subst hfq; subst hfp
              simp [disj]; omega
            · cases hu
              unfold freeE at hf
              simp only [List.all_cons, Bool.and_eq_true] at hf
              obtain ⟨hf1, hf2⟩ := hf
              refine ⟨.inr ?_, free_sound hq rest (j + 1) _ hl full done hk' hm hd hi hf2⟩
              simp only [List.getElem?_map, hfull, Option.map_some, Bool.and_eq_true] at hf1
              exact hf1
          · cases hu

theorem drwE_sound {f rid n base : Nat} {ops : List Oper} {bef : List Nat} {K : Env → Store → Res} {r : A × Store} : ∀ (os : List Oper) (i : Nat) (xs : List (SO × List Nat)) (_ : slimD H f rid ops bef i os = some xs) (done : List (Oper × (List Nat × List Nat))) (_ : done.map (·.1) = ops.take i) (_ : ops.drop i = os) (_ : i ≤ ops.length) (_ : Done base done)
    {e : Env} {objs : Store} (_ : drwE P H call n base i xs (done.map (·.2)) e objs K = some r),
    ∃ e' o', runDrawn P H call f rid ops bef base i os done ⟨lk n e, objs⟩ = some ⟨lk n e', o'⟩ ∧ K e' o' = some r
  | [], i, xs, hs, done, hm, ho, hil, hd, e, objs, h => by
    unfold slimD at hs; cases hs
    unfold drwE at h
    exact ⟨e, objs, by unfold runDrawn; rfl, h⟩
  | o :: os, i, xs, hs, done, hm, ho, hil, hd, e, objs, h => by
    unfold slimD at hs
    split at hs
    case isFalse => cases hs
    rename_i hok
    simp only [Bool.and_eq_true] at hok
    split at hs
    case h_2 => cases hs
    rename_i x un ys hx hun hys
    cases hs
    obtain ⟨q1, q2, q3, q4, q5⟩ := slim_want hx n e
    have hilt : i < ops.length := by
      rcases Nat.lt_or_ge i ops.length with h | h
      · exact h
      · rw [List.drop_eq_nil_of_le h] at ho; cases ho
    unfold drwE at h
    unfold runDrawn
    simp only at h ⊢
    rw [q1]
    split at h
    · cases h
    rename_i w hw
    simp only [hw]
    rw [q3] at h
    generalize hft : (if w = true then footA P H (lk n e) objs o.op else ([], [])) = ft at h ⊢
    split at h
    case isFalse => cases h
    rename_i hfree
    simp only [Bool.and_eq_true] at hfree
    have hlen : done.length = i := by
      have := congrArg List.length hm
      simp at this; omega
    have hqf : quiet o.op = true → (ft.1, (base + i) :: ft.2) = ([], [base + i]) := fun hq => by
      rw [← hft]
      cases w <;> simp [quiet_foot hq]
    have hfr : freeA ops (bef.getD i 0) o (ft.1, (base + i) :: ft.2) 0 done = true := by
      refine free_sound (base := base) (fun hq => ⟨i, hqf hq, fun _ => .inr (.inr trivial)⟩) (ops.take i) 0 un hun done done (fun k => by simp) hm hd (fun i' he => ?_) hfree.1
      simp only [Prod.mk.injEq, List.cons.injEq] at he
      have := he.2.1
      omega
    rw [if_pos (by simp only [Bool.and_eq_true]; exact ⟨⟨⟨hfr, hok.1⟩, hok.2⟩, hfree.2⟩)]
    obtain ⟨e1, o1, h1, h2⟩ := stepE_sound hx h
    simp only [h1]
    have hm' : (done ++ [(o, (ft.1, (base + i) :: ft.2))]).map (·.1) = ops.take (i + 1) := by
      rw [List.map_append, hm, List.take_add_one]
      have : ops[i]? = some o := by
        have := congrArg (fun l => l[0]?) ho
        simpa using this
      simp [this]
    have ho' : ops.drop (i + 1) = os := by
      have := congrArg List.tail ho
      simpa using this
    have hd' : Done base (done ++ [(o, (ft.1, (base + i) :: ft.2))]) := fun j q fq hj hq => by
      rcases Nat.lt_or_ge j done.length with hl | hl
      · rw [List.getElem?_append_left hl] at hj; exact hd j q fq hj hq
      · rw [List.getElem?_append_right hl] at hj
        have hj0 : j - done.length = 0 := by
          have := (List.getElem?_eq_some_iff.1 hj).1
          simp at this; omega
        rw [hj0] at hj
        simp only [List.getElem?_cons_zero, Option.some.injEq, Prod.mk.injEq] at hj
        obtain ⟨rfl, rfl⟩ := hj
        rw [hqf hq]
        have : j = i := by omega
        rw [this]
    obtain ⟨e2, o2, h3, h4⟩ := drwE_sound os (i + 1) ys hys (done ++ [(o, (ft.1, (base + i) :: ft.2))]) hm' ho' hilt hd' (by rw [List.map_append]; exact h2)
    exact ⟨e2, o2, h3, h4⟩

theorem getE_env (i : Nat) : ∀ (ks : List Nat) (vs : List A), getE (envE ks vs) i = pickA ks vs i
  | [], _ => by unfold envE pickA; rfl
  | _ :: _, [] => by unfold envE pickA; rfl
  | k :: ks, v :: vs => by
    unfold envE pickA getE
    rw [getE_env i ks vs]

theorem headE_sound {m n : Nat} {hd : Option (List Nat × Nat)} {e : Env} {o : Store} {K : Env → Store → Res} {r : A × Store} (h : headE n m hd e o K = some r) :
    ∃ e' o', headA m hd ⟨lk n e, o⟩ = some ⟨lk n e', o'⟩ ∧ K e' o' = some r := by
  unfold headE at h
  unfold headA
  split at h
  · exact ⟨e, o, rfl, h⟩
  · rename_i ks b
    split at h
    case h_2 => cases h
    rename_i vs os hl
    refine ⟨envE ks vs, os, ?_, h⟩
    simp only [ev] at hl
    simp only [hl, lk_length]
    congr 2
    unfold scatterA lk
    exact List.map_congr_left fun i _ => (getE_env i ks vs).symm

theorem codeE_sound {f n k m : Nat} : ∀ (c : Code) (b : Nat) (sc : SC) (_ : slimC H f b c = some sc) {e : Env} {o : Store} {K : X → Env → Store → Res} {r : A × Store} (_ : codeE P H call n k m sc e o K = some r),
    ∃ x e' o', codeA P H call f k m b c ⟨lk n e, o⟩ = some (x, ⟨lk n e', o'⟩) ∧ K x e' o' = some r := by
  intro c
  induction c with
  | skip => intro b sc hs e o K r h; simp only [slimC, Option.some.injEq] at hs; subst hs; exact ⟨.normal, e, o, by simp [codeA], by simpa [codeE] using h⟩
  | ret => intro b sc hs e o K r h; simp only [slimC, Option.some.injEq] at hs; subst hs; exact ⟨.ret, e, o, by simp [codeA], by simpa [codeE] using h⟩
  | exit id => intro b sc hs e o K r h; simp only [slimC, Option.some.injEq] at hs; subst hs; exact ⟨.exit id, e, o, by simp [codeA], by simpa [codeE] using h⟩
  | region rid ops d =>
    intro b sc hs e o K r h
    cases d with
    | false =>
      simp only [slimC] at hs
      split at hs
      case h_2 => cases hs
      rename_i l hl
      cases hs
      simp only [codeE] at h
      obtain ⟨e', o', h1, h2⟩ := opsE_sound _ 0 l hl h
      exact ⟨.normal, e', o', by simp only [codeA, h1]; rfl, h2⟩
    | true =>
      simp only [slimC] at hs
      split at hs
      case h_2 => cases hs
      rename_i l hl
      cases hs
      simp only [codeE] at h
      have hlen : l.length = ops.size := by
        have : ∀ (os : List Oper) (i : Nat) (xs : List (SO × List Nat)), slimD H f rid ops.toList (beforeA ops.toList 0 []) i os = some xs → xs.length = os.length := by
          intro os
          induction os with
          | nil => intro i xs h; unfold slimD at h; cases h; rfl
          | cons o os ih =>
            intro i xs h
            unfold slimD at h
            split at h
            case isFalse => cases h
            split at h
            case h_2 => cases h
            rename_i hys
            cases h
            simp [ih _ _ hys]
        rw [this _ _ _ hl]; simp
      rw [hlen] at h
      obtain ⟨e', o', h1, h2⟩ := drwE_sound ops.toList 0 l hl [] (by simp) (by simp) (Nat.zero_le _) (fun j q fq hj => by simp at hj) h
      exact ⟨.normal, e', o', by simp only [codeA, h1]; rfl, h2⟩
  | seq x y ihx ihy =>
    intro b sc hs e o K r h
    simp only [slimC] at hs
    split at hs
    case h_2 => cases hs
    rename_i a c ha hc
    cases hs
    simp only [codeE] at h
    obtain ⟨z, e1, o1, h1, h2⟩ := ihx b a ha h
    cases z with
    | normal =>
      obtain ⟨z, e2, o2, h3, h4⟩ := ihy b c hc h2
      exact ⟨z, e2, o2, by simp only [codeA, h1]; exact h3, h4⟩
    | exit id => exact ⟨.exit id, e1, o1, by simp only [codeA, h1], h2⟩
    | ret => exact ⟨.ret, e1, o1, by simp only [codeA, h1], h2⟩
  | cond c x y ihx ihy =>
    intro b sc hs e o K r h
    simp only [slimC] at hs
    split at hs
    case h_2 => cases hs
    rename_i a d ha hd
    cases hs
    simp only [codeE] at h
    split at h
    case h_2 => cases h
    rename_i t ht
    split at h
    · rename_i htt
      obtain ⟨z, e1, o1, h1, h2⟩ := ihx b a ha h
      exact ⟨z, e1, o1, by simp only [codeA, ht, htt, if_true]; exact h1, h2⟩
    · rename_i htt
      obtain ⟨z, e1, o1, h1, h2⟩ := ihy b d hd h
      exact ⟨z, e1, o1, by simp only [codeA, ht, htt]; exact h1, h2⟩
  | block id x ih =>
    intro b sc hs e o K r h
    simp only [slimC] at hs
    split at hs
    case h_2 => cases hs
    rename_i a ha
    cases hs
    simp only [codeE] at h
    obtain ⟨z, e1, o1, h1, h2⟩ := ih id a ha h
    cases z with
    | normal => exact ⟨.normal, e1, o1, by simp only [codeA, h1], h2⟩
    | ret => exact ⟨.ret, e1, o1, by simp only [codeA, h1], h2⟩
    | exit j =>
      simp only at h2
      split at h2
      · rename_i hj; exact ⟨.normal, e1, o1, by simp only [codeA, h1, hj, if_true], h2⟩
      · rename_i hj; exact ⟨.exit j, e1, o1, by simp only [codeA, h1, hj, if_false], h2⟩
  | loop x ih =>
    intro b sc hs e o K r h
    simp only [slimC] at hs
    split at hs
    case h_2 => cases hs
    rename_i a ha
    cases hs
    simp only [codeE] at h
    have key : ∀ (j : Nat) (e : Env) (o : Store), loopE (fun e o K => headE n m (H.head f b) e o fun e o => codeE P H call n k m a e o K) j e o K = some r →
        ∃ x' e' o', loopA (fun s => match headA m (H.head f b) s with | some s1 => codeA P H call f k m b x s1 | none => none) j ⟨lk n e, o⟩ = some (x', ⟨lk n e', o'⟩) ∧ K x' e' o' = some r := by
      intro j
      induction j with
      | zero => intro e o h; simp [loopE] at h
      | succ j ihj =>
        intro e o h
        unfold loopE at h
        obtain ⟨e1, o1, h1, h2⟩ := headE_sound (n := n) h
        obtain ⟨z, e2, o2, h3, h4⟩ := ih b a ha h2
        unfold loopA
        simp only [h1, h3]
        cases z with
        | normal =>
          obtain ⟨x', e3, o3, h5, h6⟩ := ihj e2 o2 h4
          exact ⟨x', e3, o3, h5, h6⟩
        | exit id => exact ⟨.exit id, e2, o2, rfl, h4⟩
        | ret => exact ⟨.ret, e2, o2, rfl, h4⟩
    obtain ⟨x', e', o', h1, h2⟩ := key k e o h
    exact ⟨x', e', o', by simp only [codeA]; exact h1, h2⟩
  | _ => intro b sc hs; simp [slimC] at hs

/-- The temporaries of a function that is entered. -/
def entE : Nat → List A → Env
  | _, [] => .nil .un
  | i, a :: as => .cons i a (entE (i + 1) as)

theorem ent_lk {n : Nat} {args : List A} (h : args.length ≤ n) : lk n (entE 0 args) = args ++ List.replicate (n - args.length) .un := by
  have key : ∀ (as : List A) (i t : Nat), getE (entE i as) t = if i ≤ t then (as[t - i]?).getD .un else .un := by
    intro as
    induction as with
    | nil => intro i t; simp [entE, getE]
    | cons a as ih =>
      intro i t
      simp only [entE, getE, ih]
      by_cases h : i = t
      · subst h; simp
      · rw [if_neg h]
        by_cases h2 : i ≤ t
        · rw [if_pos (by omega), if_pos h2]
          have : t - i = (t - (i + 1)) + 1 := by omega
          rw [this]; simp
        · rw [if_neg (by omega), if_neg h2]
  apply List.ext_getElem?
  intro t
  rcases Nat.lt_or_ge t n with h1 | h1
  · rw [lk_get h1, key]
    simp only [Nat.zero_le, if_true, Nat.sub_zero]
    rcases Nat.lt_or_ge t args.length with h2 | h2
    · rw [List.getElem?_append_left h2, List.getElem?_eq_getElem h2]; rfl
    · rw [List.getElem?_append_right h2, List.getElem?_eq_none h2, List.getElem?_replicate, if_pos (by omega)]; rfl
  · rw [List.getElem?_eq_none (by rw [lk_length]; exact h1), List.getElem?_eq_none (by simp; omega)]

/-- What is behind a function's code. -/
def finE (P : Program) (H : Hints) (f n m : Nat) (rs : List ResultVar) : X → Env → Store → Res
  | .exit _, _, _ => none
  | _, e, o => match resultsA P H f (lk n e) o rs with
    | some ([r], objs) => leaveA m r objs
    | some (rs, objs) => leaveA m (.tup rs) objs
    | none => none

theorem callE {E : Ext} {f k : Nat} {args : List A} {inc : Store} {fn : Func} {c : Code} {sc : SC} (hE : E f = none) (hf : P.funcs[f]? = some fn) (hb : fn.body = some c) (hname : fn.name ≠ "runtime.NumGoroutine") (hs : slimC H f 0 c = some sc) (hl : args.length ≤ fn.ntmps)
    {r : A × Store} (h : codeE P H (callF P H E k) fn.ntmps k inc.length sc (entE 0 args) inc (finE P H f fn.ntmps inc.length fn.results.toList) = some r) : callF P H E (k + 1) f args inc = some r := by
  obtain ⟨x, e', o', h1, h2⟩ := codeE_sound c 0 sc hs h
  rw [ent_lk hl] at h1
  unfold callF
  simp only [hE, hf, hb, if_neg hname, h1]
  cases x with
  | exit id => simp [finE] at h2
  | normal => exact h2
  | ret => exact h2

/-- A function in the second form: how many temporaries, its code, its results. -/
def slimF (H : Hints) (f : Nat) (fn : Func) : Option (Nat × SC × List ResultVar) :=
  match fn.body with
  | some c => if fn.name = "runtime.NumGoroutine" then none else match slimC H f 0 c with
    | some sc => some (fn.ntmps, sc, fn.results.toList)
    | none => none
  | none => none

theorem evalE {E : Ext} {f k n : Nat} {args : List A} {inc : Store} {fn : Func} {sc : SC} {rs : List ResultVar} (hE : E f = none) (hf : P.funcs[f]? = some fn) (hs : slimF H f fn = some (n, sc, rs)) {r : A × Store}
    (h : codeE P H (callF P H E k) n k inc.length sc (entE 0 args) inc (finE P H f n inc.length rs) = some r) (hl : args.length ≤ n) : callF P H E (k + 1) f args inc = some r := by
  unfold slimF at hs
  split at hs
  case h_2 => cases hs
  rename_i c hc
  split at hs
  · cases hs
  rename_i hn
  split at hs
  case h_2 => cases hs
  rename_i sc' hsc
  simp only [Option.some.injEq, Prod.mk.injEq] at hs
  obtain ⟨rfl, rfl, rfl⟩ := hs
  exact callE hE hf hc hn hsc hl h

end Ab
