/- A part of the proof of a row by an interpreter that is proved sound; no conditions of its own. -/
import Derived.Test.YtpoheolnnbgebaaAbEnv
import Derived.IntWalk
namespace Ab
open Go

variable {P : Program} {H : Hints} {call : FuncId → List A → Store → Option (A × Store)} {n k m : Nat} {e : Env} {o : Store}

theorem idr {α : Type}  {a b : α} (h : a = b) : a = b := h

theorem c_skip {K} : codeE P H call n k m .skip e o K = K .normal e o := idr rfl
theorem c_ret {K} : codeE P H call n k m .ret e o K = K .ret e o := idr rfl
theorem c_exit {K id} : codeE P H call n k m (.exit id) e o K = K (.exit id) e o := idr rfl
theorem c_seq {K a b} : codeE P H call n k m (.seq a b) e o K = codeE P H call n k m a e o fun x e o => match x with
    | .normal => codeE P H call n k m b e o K
    | .exit id => K (.exit id) e o
    | .ret => K .ret e o := idr rfl
theorem c_cond {K c a b} : codeE P H call n k m (.cond c a b) e o K = match ev (lk n e) c with
    | .d (.bool t) => if t = true then codeE P H call n k m a e o K else codeE P H call n k m b e o K
    | _ => none := by
  rw [codeE]
  generalize ev (lk n e) c = v
  cases v with
  | d x => cases x <;> rfl
  | _ => rfl
theorem c_block {K id a} : codeE P H call n k m (.block id a) e o K = codeE P H call n k m a e o fun x e o => match x with
    | .normal => K .normal e o
    | .exit j => if j = id then K .normal e o else K (.exit j) e o
    | .ret => K .ret e o := idr rfl
theorem c_reg {K ops} : codeE P H call n k m (.reg ops) e o K = opsE P H call n ops e o (K .normal) := idr rfl
theorem c_drw {K ops} : codeE P H call n k m (.drw ops) e o K = drwE P H call n o.length 0 ops [] e (o ++ List.replicate ops.length .gone) (K .normal) := idr rfl

theorem o_nil {K} : opsE P H call n [] e o K = K e o := idr rfl
theorem o_plain {K d op ty xs} : opsE P H call n (⟨d, op, ty, none, []⟩ :: xs) e o K = match opA P H call (lk n e) o none ty op with
    | some (v, o1) => opsE P H call n xs (putE e d v) o1 K
    | none => none := idr rfl
theorem o_guard {K d op ty t w xs} : opsE P H call n (⟨d, op, ty, some (t, w), []⟩ :: xs) e o K = match ev (lk n e) (.tmp t) with
    | .d (.bool b) => if b = w then (match opA P H call (lk n e) o none ty op with
      | some (v, o1) => opsE P H call n xs (putE e d v) o1 K
      | none => none) else opsE P H call n xs (putE e d .un) o K
    | .un => opsE P H call n xs (putE e d .un) o K
    | _ => none := by
  have h0 : opsE P H call n (⟨d, op, ty, some (t, w), []⟩ :: xs) e o K = stepE P H call n none ⟨d, op, ty, some (t, w), []⟩ e o fun e o => opsE P H call n xs e o K := idr rfl
  rw [h0]
  unfold stepE wantE
  simp only
  generalize ev (lk n e) (.tmp t) = v
  cases v with
  | d x =>
    cases x with
    | bool b => cases b <;> cases w <;> rfl
    | _ => rfl
  | _ => rfl

theorem evT_tmp (ts : List A) (t u : Nat) : evT P ts t (.tmp u) = ev ts (.tmp u) := idr rfl
theorem evT_int (ts : List A) (t : Nat) (k : IntKind) (i : Int) : evT P ts t (.const (.int k i)) = .d (.int k i) := idr rfl
theorem evT_bool (ts : List A) (t : Nat) (b : Bool) : evT P ts t (.const (.bool b)) = .d (.bool b) := idr rfl
theorem evT_str (ts : List A) (t : Nat) (s : ByteArray) : evT P ts t (.const (.string s)) = .d (.str s) := idr rfl
theorem evT_ptr (ts : List A) (t : Nat) : evT P ts t (.const (.pointer none)) = .d .nilp := idr rfl
theorem evT_fn (ts : List A) (t f : Nat) : evT P ts t (.func f) = .fn f [] [] := idr rfl
theorem ev_int (ts : List A) (k : IntKind) (i : Int) : ev ts (.const (.int k i)) = .d (.int k i) := idr rfl
theorem ev_bool (ts : List A) (b : Bool) : ev ts (.const (.bool b)) = .d (.bool b) := idr rfl
theorem ev_str (ts : List A) (s : ByteArray) : ev ts (.const (.string s)) = .d (.str s) := idr rfl
theorem ev_ptr (ts : List A) : ev ts (.const (.pointer none)) = .d .nilp := idr rfl
theorem ev_fn (ts : List A) (f : Nat) : ev ts (.func f) = .fn f [] [] := idr rfl

theorem p_move {call' dr ty x ts} : opA P H call' ts o dr ty (.move x) = some (evT P ts ty x, o) := idr rfl
theorem p_assign {call' dr ty x ts} : opA P H call' ts o dr ty (.assign x) = some (evT P ts ty x, o) := idr rfl
theorem p_pick {call' dr ty c a b ts} : opA P H call' ts o dr ty (.pick c a b) = match ev ts c with
    | .d (.bool t) => some (if t then ev ts a else ev ts b, o)
    | _ => none := idr rfl
theorem p_bin {call' dr ty op t x y z ts} : opA P H call' ts o dr ty (.binOp op t x y z) = match binA P op t (ev ts x) (ev ts y) with | some v => some (v, o) | none => none := by
  rw [opA]; cases binA P op t (ev ts x) (ev ts y) <;> rfl
theorem p_not {call' dr ty t x ts} : opA P H call' ts o dr ty (.unOp .not t x) = match ev ts x with | .d (.bool b) => some (.d (.bool !b), o) | _ => none := by
  unfold opA
  simp only
  generalize ev ts x = v
  cases v with
  | d x => cases x <;> rfl
  | _ => rfl

section
variable {t : TypeId} {k : IntKind} {a b : Int}
theorem b_add : binA P .add t (.d (.int k a)) (.d (.int k b)) = some (.d (.int k (k.wrap (a + b)))) := by simp [binA, intOp]
theorem b_sub : binA P .sub t (.d (.int k a)) (.d (.int k b)) = some (.d (.int k (k.wrap (a - b)))) := by simp [binA, intOp]
theorem b_mul : binA P .mul t (.d (.int k a)) (.d (.int k b)) = some (.d (.int k (k.wrap (a * b)))) := by simp [binA, intOp]
theorem b_lss : binA P .lss t (.d (.int k a)) (.d (.int k b)) = some (.d (.bool (decide (a < b)))) := by simp [binA, intOp, cmpI]
theorem b_leq : binA P .leq t (.d (.int k a)) (.d (.int k b)) = some (.d (.bool (decide (a ≤ b)))) := by simp [binA, intOp, cmpI]
theorem b_gtr : binA P .gtr t (.d (.int k a)) (.d (.int k b)) = some (.d (.bool (decide (b < a)))) := by simp [binA, intOp, cmpI]
theorem b_geq : binA P .geq t (.d (.int k a)) (.d (.int k b)) = some (.d (.bool (decide (b ≤ a)))) := by simp [binA, intOp, cmpI]
theorem b_eql : binA P .eql t (.d (.int k a)) (.d (.int k b)) = some (.d (.bool (decide (a = b)))) := by
  simp [binA, intOp, cmpI]; by_cases h : a = b <;> simp [h]
theorem b_neq : binA P .neq t (.d (.int k a)) (.d (.int k b)) = some (.d (.bool (!decide (a = b)))) := by
  simp [binA, intOp, cmpI, bne]; by_cases h : a = b <;> simp [h]
theorem b_quo : binA P .quo t (.d (.int k a)) (.d (.int k b)) = if b = 0 then none else some (.d (.int k (k.wrap (a.tdiv b)))) := by
  by_cases h : b = 0 <;> simp [binA, intOp, h]
theorem b_rem : binA P .rem t (.d (.int k a)) (.d (.int k b)) = if b = 0 then none else some (.d (.int k (a.tmod b))) := by
  by_cases h : b = 0 <;> simp [binA, intOp, h]
end

theorem b_beql {t : TypeId} (h : P.underlying t = some .bool) (a b : Bool) : binA P .eql t (.d (.bool a)) (.d (.bool b)) = some (.d (.bool (a == b))) := by simp [binA, h]
theorem b_bneq {t : TypeId} (h : P.underlying t = some .bool) (a b : Bool) : binA P .neq t (.d (.bool a)) (.d (.bool b)) = some (.d (.bool !(a == b))) := by simp [binA, h]
theorem b_sadd {t : TypeId} {a b : ByteArray} (h : a.size + b.size ≤ 9223372036854775807) : binA P .add t (.d (.str a)) (.d (.str b)) = some (.d (.str (a ++ b))) := by simp [binA, strOp, h]
theorem b_seql {t : TypeId} {a b : ByteArray} : binA P .eql t (.d (.str a)) (.d (.str b)) = some (.d (.bool (a.toList == b.toList))) := by simp [binA, strOp]
theorem b_sneq {t : TypeId} {a b : ByteArray} : binA P .neq t (.d (.str a)) (.d (.str b)) = some (.d (.bool !(a.toList == b.toList))) := by simp [binA, strOp]

/-! ### Calls -/

def A.data1 : A → Bool
  | .d _ => true
  | .agg cs => cs.all fun c => match c with | .d _ => true | _ => false
  | _ => false

def A.dataR : A → Bool
  | .tup vs => vs.all A.data1
  | a => a.data1

theorem dR_d (x : D) : (A.d x).dataR = true := idr rfl
theorem dR_agg (cs : List A) : (A.agg cs).dataR = (A.agg cs).data1 := idr rfl
theorem dR_tup (cs : List A) : (A.tup cs).dataR = cs.all A.data1 := idr rfl
theorem d1_d (x : D) : (A.d x).data1 = true := idr rfl
theorem d1_nil : (A.agg []).data1 = true := idr rfl
theorem d1_cons (x : D) (cs : List A) : (A.agg (.d x :: cs)).data1 = (A.agg cs).data1 := by simp [A.data1]

theorem refsAs_data : ∀ (cs : List A), (cs.all fun c => match c with | .d _ => true | _ => false) = true → refsAs cs = [] ∧ (∀ g, renAs g cs = some cs) ∧ (∀ o, exCells o cs = some cs) ∧ ∀ o, shutAs o cs = o
  | [], _ => ⟨by simp [refsAs], fun _ => by simp [renAs], fun _ => by simp [exCells], fun _ => by simp [shutAs]⟩
  | c :: cs, h => by
    simp only [List.all_cons, Bool.and_eq_true] at h
    obtain ⟨h1, h2, h3, h4⟩ := refsAs_data cs h.2
    cases c with
    | d x => exact ⟨by simp [refsAs, refsA, h1], fun g => by simp [renAs, renA, h2], fun o => by simp [exCells, exCell, h3], fun o => by simp [shutAs, shutA, h4]⟩
    | _ => simp at h

theorem data1_ok {a : A} (h : a.data1 = true) : refsA a = [] ∧ (∀ g, renA g a = some a) ∧ (∀ o, exA o a = some a) ∧ (∀ o, shutA o a = o) ∧ a.flat = true := by
  cases a with
  | d x => exact ⟨by simp [refsA], fun _ => by simp [renA], fun _ => by simp [exA, exCell], fun _ => by simp [shutA], by simp [A.flat]⟩
  | agg cs =>
    obtain ⟨h1, h2, h3, h4⟩ := refsAs_data cs h
    refine ⟨by simp [refsA, h1], fun g => by simp [renA, h2], fun o => by simp [exA, h3], fun o => by simp [shutA, h4], ?_⟩
    simp only [A.flat, List.all_eq_true]
    intro c hc
    have := List.all_eq_true.1 h c hc
    cases c <;> simp_all
  | _ => simp [A.data1] at h

theorem datas_ok : ∀ {cs : List A}, (cs.all A.data1) = true → refsAs cs = [] ∧ (∀ g, renAs g cs = some cs) ∧ (∀ o, exAs o cs = some cs) ∧ (∀ o, shutAs o cs = o) ∧ cs.all A.flat = true
  | [], _ => ⟨by simp [refsAs], fun _ => by simp [renAs], fun _ => by simp [exAs], fun _ => by simp [shutAs], by simp⟩
  | c :: cs, h => by
    simp only [List.all_cons, Bool.and_eq_true] at h
    obtain ⟨h1, h2, h3, h4, h5⟩ := datas_ok h.2
    obtain ⟨k1, k2, k3, k4, k5⟩ := data1_ok h.1
    exact ⟨by simp [refsAs, k1, h1], fun g => by simp [renAs, k2, h2], fun o => by simp [exAs, k3, h3], fun o => by simp [shutAs, k4, h4], by simp [k5, h5]⟩

theorem dataR_ok {a : A} (h : a.dataR = true) : refsA a = [] ∧ ∀ g, renA g a = some a := by
  cases a with
  | tup cs => obtain ⟨h1, h2, _⟩ := datas_ok (show cs.all A.data1 = true from h); exact ⟨by simp [refsA, h1], fun g => by simp [renA, h2]⟩
  | d x => exact ⟨by simp [refsA], fun _ => by simp [renA]⟩
  | agg cs => obtain ⟨h1, h2, _⟩ := data1_ok (a := .agg cs) h; exact ⟨h1, h2⟩
  | _ => simp [A.dataR, A.data1] at h

theorem leave0 {r : A} (h : r.dataR = true) : leaveA 0 r o = some (r, []) := by
  obtain ⟨h1, h2⟩ := dataR_ok h
  simp [leaveA, h1, h2, reach, renOs]

theorem reach_nil (k : Nat) : reach o k [] [] = [] := by cases k <;> simp [reach]

theorem callA_data {f : FuncId} {args : List A} {dr : Option Nat} (hi : H.inPlace f = false) (ha : (args.all A.data1) = true) {r : A} (hc : call f args [] = some (r, [])) (hr : r.dataR = true) : callA H call f args o dr = some (r, o) := by
  obtain ⟨h1, h2, h3, h4, h5⟩ := datas_ok ha
  obtain ⟨k1, k2⟩ := dataR_ok hr
  simp only [callA, hi, h5, h3, h4, callR, h1, reach_nil, List.all_nil, h2, List.map_nil, renOs, hc, backA, k2, List.length_nil, Nat.le_refl, if_true, setAll, List.drop_nil, List.append_nil, List.contains_nil, Bool.false_eq_true, if_false]
  cases dr <;> rfl

/-- A call's arguments. -/
def argsE (P : Program) (ts : List A) : List Operand → List TypeId → List A
  | [], _ => []
  | x :: xs, [] => evT P ts 0 x :: argsE P ts xs []
  | x :: xs, t :: tys => evT P ts t x :: argsE P ts xs tys

theorem argsE_eq {ts : List A} : ∀ (xs : List Operand) (tys : Array TypeId) (i : Nat), ((xs.zipIdx i).map fun (x, i) => evT P ts (tys.getD i 0) x) = argsE P ts xs (tys.toList.drop i)
  | [], tys, i => by simp [argsE]
  | x :: xs, tys, i => by
    rw [List.zipIdx_cons, List.map_cons, argsE_eq xs tys (i + 1)]
    rcases Nat.lt_or_ge i tys.toList.length with h | h
    · rw [List.drop_eq_getElem_cons h]
      simp only [argsE]
      have h' : i < tys.size := by simpa using h
      simp [Array.getD, h']
    · rw [List.drop_eq_nil_of_le h, List.drop_eq_nil_of_le (by omega)]
      simp only [argsE]
      have h' : ¬ i < tys.size := by simpa using h
      simp [Array.getD, h']

theorem p_call {call' dr ty f ts} {args : List Operand} {tys : List TypeId} : opA P H call' ts o dr ty (.call ⟨.value (.func f), args.toArray, tys.toArray⟩) = callA H call' f (argsE P ts args tys) o dr := by
  have := argsE_eq (P := P) (ts := ts) args tys.toArray 0
  simp only [List.drop_zero] at this
  rw [opA]
  simp only [ev, List.nil_append, List.append_nil, this]

theorem p_builtin {call' dr ty b ts} {args : List Operand} {tys : List TypeId} : opA P H call' ts o dr ty (.call ⟨.builtin b, args.toArray, tys.toArray⟩) = builtinA P o dr b tys (args.map (ev ts)) := by
  rw [opA]

theorem f_ret {f : FuncId} {rs : List ResultVar} : finE P H f n m rs .ret e o = match resultsA P H f (lk n e) o rs with
    | some ([r], objs) => leaveA m r objs
    | some (rs, objs) => leaveA m (.tup rs) objs
    | none => none := idr rfl
theorem f_normal {f : FuncId} {rs : List ResultVar} : finE P H f n m rs .normal e o = match resultsA P H f (lk n e) o rs with
    | some ([r], objs) => leaveA m r objs
    | some (rs, objs) => leaveA m (.tup rs) objs
    | none => none := idr rfl
theorem r_tmp {t : Nat} : resultA P (lk n e) o (.tmp t) = some (ev (lk n e) (.tmp t)) := idr rfl
theorem r_nil {f : FuncId} {ts : List A} : resultsA P H f ts o [] = some ([], o) := idr rfl
theorem r_cons {f : FuncId} {ts : List A} {r : ResultVar} {rs : List ResultVar} : resultsA P H f ts o (r :: rs) = match resultA P ts o r with
  | some v => match resA H f o v with
    | some (x, objs1) => match resultsA P H f ts objs1 rs with
      | some (xs, objs2) => some (x :: xs, objs2)
      | none => none
    | none => none
  | none => none := by rw [resultsA]; rfl
theorem resA_d {f : FuncId} {x : D} (h : H.own f = false) : resA H f o (.d x) = some (.d x, o) := by simp [resA, h, A.flat, exA, exCell, shutA]
theorem resA_nilsl {f : FuncId} {g : Nat} (h : H.own f = false) : resA H f o (.nilsl g) = some (.d (.sl g []), o) := by simp [resA, h, A.flat, exA, exCell, shutA]

theorem p_load {call' dr ty t a ts} : opA P H call' ts o dr ty (.load t a) = match loadA P o t (ev ts a) with | some v => some (v, o) | none => none := by
  rw [opA]; cases loadA P o t (ev ts a) <;> rfl
theorem p_indexAddr {call' dr ty t x i ts} : opA P H call' ts o dr ty (.indexAddr t x i) = match indexAddrA P o t (ev ts x) (ev ts i) with | some v => some (v, o) | none => none := by
  rw [opA]; cases indexAddrA P o t (ev ts x) (ev ts i) <;> rfl
theorem p_convert {call' dr ty s t x ts} : opA P H call' ts o dr ty (.convert s t x) = convertA P o s t (ev ts x) := by rw [opA]
theorem p_extract {call' dr ty i x ts} : opA P H call' ts o dr ty (.extract x i) = match ev ts x with
    | .tup vs => match vs[i]? with | some v => some (v, o) | none => none
    | _ => none := by rw [opA]; rfl
theorem p_slice {call' dr ty t x l h mx ts} : opA P H call' ts o dr ty (.slice t x l h mx) = sliceA P o t (ev ts x) (l.map (ev ts)) (h.map (ev ts)) (mx.map (ev ts)) := by rw [opA]

/-- A conversion of numbers. -/
theorem cv_int {s t : TypeId} {k k' k'' : IntKind} (h1 : P.underlying s = some (.int k)) (h2 : P.underlying t = some (.int k')) (n : Int) : convertA P o s t (.d (.int k'' n)) = some (.d (.int k' (k'.wrap n)), o) := by
  simp [convertA, h1, h2]

theorem evT_nilsl (ts : List A) (t : Nat) : evT P ts t (.const (.slice none 0 0)) = .nilsl (match elemT P t with | some (z, _) => z | none => 0) := idr rfl
theorem ev_nilsl (ts : List A) : ev ts (.const (.slice none 0 0)) = .nilsl 0 := idr rfl
theorem p_bslice {call' dr ty t len ts} {parts : List (Nat × Operand)} :
    opA P H call' ts o dr ty (.buildSlice t len parts.toArray) = match P.underlying t with
    | some (.slice e) => match zeroA P e, elemT P t with
      | some z, some (n, _) => match toDs [] z with
        | some zd => if zd.length = n ∧ z.length = n ∧ 0 < n ∧ len * n ≤ 16777216 then
            match elemsA P ts o e n (List.replicate len zd) parts with
            | some (es, objs1) => some (.arr (newO objs1 dr (.arr n es false)).1 0 len len, (newO objs1 dr (.arr n es false)).2)
            | none => none
          else none
        | none => none
      | _, _ => none
    | _ => none := by rw [opA]; rfl
theorem e_nil {ts : List A} {el z : Nat} {es : List (List D)} : elemsA P ts o el z es [] = some (es, o) := idr rfl
theorem e_cons {ts : List A} {el z i : Nat} {x : Operand} {es : List (List D)} {rest : List (Nat × Operand)} : elemsA P ts o el z es ((i, x) :: rest) = match toD o (evT P ts el x) with
    | some ds => if ds.length = z ∧ (evT P ts el x).cells.length = z ∧ (evT P ts el x).cells.all A.leaf ∧ i < es.length then elemsA P ts (shutA o (evT P ts el x)) el z (es.set i ds) rest else none
    | none => none := by rw [elemsA]; rfl
theorem toD_d (x : D) : toD o (.d x) = some [x] := by rw [toD]
theorem toDs_nil : toDs o [] = some [] := by rw [toDs]
theorem toDs_d (x : D) (cs : List A) : toDs o (.d x :: cs) = match toDs o cs with | some y => some (x :: y) | none => none := by
  rw [toDs, toD]; simp only [A.leaf, if_true]; cases toDs o cs <;> rfl
theorem toDs_nilsl (g : Nat) (cs : List A) : toDs o (.nilsl g :: cs) = match toDs o cs with | some y => some (.sl g [] :: y) | none => none := by
  rw [toDs, toD]; simp only [A.leaf, if_true]; cases toDs o cs <;> rfl
theorem shut_d (x : D) : shutA o (.d x) = o := by simp [shutA]
theorem resA_arr {f : FuncId} {i a b c : Nat} (h : H.own f = false) : resA H f o (.arr i a b c) = match viewA o i a b c with | some (sz, es) => some (.d (.sl sz es), shutA o (.arr i a b c)) | none => none := by
  simp only [resA, h, A.flat, exA, exCell]; cases viewA o i a b c <;> rfl
theorem p_index {call' dr ty t x i ts} : opA P H call' ts o dr ty (.index t x i) = indexA P o t (ev ts x) (ev ts i) := by rw [opA]
theorem p_field {call' dr ty t x f ts} : opA P H call' ts o dr ty (.field t x f) = match fieldT P t f, ev ts x with
    | some (of, n, ag), .agg cs => if of + n ≤ cs.length then (cellsTo ag ((cs.drop of).take n)).map fun v => (v, o) else none
    | _, _ => none := by rw [opA]; rfl
theorem p_store {call' dr ty t a x ts} : opA P H call' ts o dr ty (.store t a x) = match storeA P o t (ev ts a) (evT P ts t x) with | some o1 => some (.top, o1) | none => none := by
  rw [opA]; cases storeA P o t (ev ts a) (evT P ts t x) <;> rfl
theorem p_lookup {call' dr ty t m k ok ts} : opA P H call' ts o dr ty (.lookup t m k ok) = match mapT P t, ev ts k with
    | some (kt, e), .d k => match zeroV P e with
      | some z => lookupA P o kt z (ev ts m) k ok
      | none => none
    | _, _ => none := by rw [opA]; rfl
theorem p_makeMap {call' dr ty t ts} : opA P H call' ts o dr ty (.makeMap t none) = some (.mp (newO o dr (.mp [])).1, (newO o dr (.mp [])).2) := by rw [opA]
theorem p_mapUpdate {call' dr ty t m k x ts} : opA P H call' ts o dr ty (.mapUpdate t m k x) = match mapT P t, ev ts m, ev ts k with
    | some (kt, e), .mp id, .d k => mapPutA P o kt id k (evT P ts e x)
    | _, _, _ => none := by rw [opA]; rfl
theorem p_insert {call' dr ty t m k x ts} : opA P H call' ts o dr ty (.insert t m k x) = match mapT P t, ev ts m, ev ts k with
    | some (kt, e), .mp id, .d k => mapPutA P o kt id k (evT P ts e x)
    | _, _, _ => none := by rw [opA]; rfl

theorem bl_len {t : Nat} {dr : Option Nat} {x : A} : builtinA P o dr .len [t] [x] = match P.underlying t with
    | some .string => match x with
      | .d (.str s) => some (.d (.int .i64 s.size), o)
      | _ => none
    | some (.slice _) => match x with
      | .d (.str _) | .nilm => none
      | x => (lenA x).map fun n => (.d (.int .i64 n), o)
    | some (.map _ _) => (mapOf o x).map fun es => (.d (.int .i64 es.length), o)
    | some (.array n _) => some (.d (.int .i64 n), o)
    | _ => none := idr rfl
theorem bl_append {t u : Nat} {dr : Option Nat} {s x : A} : builtinA P o dr .append [t, u] [s, x] = match elemT P t with
    | some (z, by_) => match P.underlying u with
      | some (.slice _) | some .string => if zsizeT P t = some z then appendA o dr z by_ s x else none
      | _ => none
    | none => none := idr rfl
theorem bl_min {dr : Option Nat} {tys : List TypeId} {k : IntKind} {n : Int} {rest : List A} : builtinA P o dr .min tys (.d (.int k n) :: rest) = (foldI (fun x y => if y < x then y else x) rest k n).map fun a => (a, o) := idr rfl
theorem bl_max {dr : Option Nat} {tys : List TypeId} {k : IntKind} {n : Int} {rest : List A} : builtinA P o dr .max tys (.d (.int k n) :: rest) = (foldI (fun x y => if y > x then y else x) rest k n).map fun a => (a, o) := idr rfl
theorem newO_none (x : O) : newO o none x = (o.length, o ++ [x]) := idr rfl
theorem newO_some (p : Nat) (x : O) : newO o (some p) x = (p, o.set p x) := idr rfl

/-! ### Slices of numbers -/

def ints (k : IntKind) (ns : List Int) : List (List D) := ns.map fun n => [.int k n]

theorem ints_nil (k : IntKind) : ints k [] = [] := idr rfl
theorem ints_cons (k : IntKind) (n : Int) (ns : List Int) : ints k (n :: ns) = [.int k n] :: ints k ns := idr rfl
theorem ints_len (k : IntKind) (ns : List Int) : (ints k ns).length = ns.length := by simp [ints]
theorem ints_get {k : IntKind} {ns : List Int} {i : Nat} (h : i < ns.length) : (ints k ns)[i]? = some [.int k (ns.getD i 0)] := by
  simp [ints, List.getD_eq_getElem?_getD, h]
theorem ints_app (k : IntKind) (a b : List Int) : ints k a ++ ints k b = ints k (a ++ b) := by simp [ints]
theorem ints_app1 (k : IntKind) (a : List Int) (n : Int) : ints k a ++ [[.int k n]] = ints k (a ++ [n]) := by simp [ints]
theorem ints_take (k : IntKind) (n : Nat) (a : List Int) : (ints k a).take n = ints k (a.take n) := by simp [ints]
theorem ints_drop (k : IntKind) (n : Nat) (a : List Int) : (ints k a).drop n = ints k (a.drop n) := by simp [ints]
theorem ints_eq_nil (k : IntKind) (a : List Int) : ints k a = [] ↔ a = [] := by simp [ints]

/-! ### Drawn regions -/

theorem d_nil {K base i done} : drwE P H call n base i [] done e o K = K e o := idr rfl
theorem d_plain {K base i done d op ty un xs} : drwE P H call n base i ((⟨d, op, ty, none, []⟩, un) :: xs) done e o K = match footA P H (lk n e) o op with
    | (R, W) => if (freeE un done (R, (base + i) :: W) && isGone o[base + i]?) = true then
      (match opA P H call (lk n e) o (some (base + i)) ty op with
       | some (v, o1) => drwE P H call n base (i + 1) xs (done ++ [(R, (base + i) :: W)]) (putE e d v) o1 K
       | none => none) else none := idr rfl
theorem d_guard {K base i done d op ty t w un xs} : drwE P H call n base i ((⟨d, op, ty, some (t, w), []⟩, un) :: xs) done e o K = match ev (lk n e) (.tmp t) with
    | .d (.bool b) => if b = w then (match footA P H (lk n e) o op with
      | (R, W) => if (freeE un done (R, (base + i) :: W) && isGone o[base + i]?) = true then
        (match opA P H call (lk n e) o (some (base + i)) ty op with
         | some (v, o1) => drwE P H call n base (i + 1) xs (done ++ [(R, (base + i) :: W)]) (putE e d v) o1 K
         | none => none) else none)
      else if (freeE un done ([], [base + i]) && isGone o[base + i]?) = true then drwE P H call n base (i + 1) xs (done ++ [([], [base + i])]) (putE e d .un) o K else none
    | .un => if (freeE un done ([], [base + i]) && isGone o[base + i]?) = true then drwE P H call n base (i + 1) xs (done ++ [([], [base + i])]) (putE e d .un) o K else none
    | _ => none := by
  have h0 : drwE P H call n base i ((⟨d, op, ty, some (t, w), []⟩, un) :: xs) done e o K = match wantE n (some (t, w)) e with
    | none => none
    | some w' =>
      let ft := if w' then footA P H (lk n e) o op else ([], [])
      let fp := (ft.1, (base + i) :: ft.2)
      if freeE un done fp && isGone o[base + i]? then
        stepE P H call n (some (base + i)) ⟨d, op, ty, some (t, w), []⟩ e o fun e o => drwE P H call n base (i + 1) xs (done ++ [fp]) e o K
      else none := rfl
  rw [h0]
  unfold stepE wantE
  simp only
  generalize ev (lk n e) (.tmp t) = v
  cases v with
  | d x =>
    cases x with
    | bool b => cases b <;> cases w <;> rfl
    | _ => rfl
  | un => rfl
  | _ => rfl
theorem free_nil {done fp} : freeE [] done fp = true := idr rfl
theorem free_cons {j un done fp} : freeE (j :: un) done fp = ((match done[j]? with | some fq => disj fq.2 (fp.1 ++ fp.2) && disj fq.1 fp.2 | none => false) && freeE un done fp) := idr rfl
theorem disj_nil {b : List Nat} : disj [] b = true := idr rfl
theorem disj_cons {x : Nat} {a b : List Nat} : disj (x :: a) b = (!b.contains x && disj a b) := idr rfl
theorem gone_gone : isGone (some .gone) = true := idr rfl
theorem ft_move {ts : List A} {x} : footA P H ts o (.move x) = ([], []) := idr rfl
theorem ft_assign {ts : List A} {x} : footA P H ts o (.assign x) = ([], []) := idr rfl
theorem ft_pick {ts : List A} {a b c} : footA P H ts o (.pick a b c) = ([], []) := idr rfl
theorem ft_alloc {ts : List A} {a} : footA P H ts o (.alloc a) = ([], []) := idr rfl
theorem ft_box {ts : List A} {a b} : footA P H ts o (.box a b) = ([], []) := idr rfl
theorem ft_build {ts : List A} {a b} : footA P H ts o (.build a b) = ([], []) := idr rfl
theorem ft_nilCheck {ts : List A} {x} : footA P H ts o (.nilCheck x) = ([], []) := idr rfl
theorem ft_binOp {ts : List A} {a b c d f} : footA P H ts o (.binOp a b c d f) = ([], []) := idr rfl
theorem ft_unOp {ts : List A} {a b c} : footA P H ts o (.unOp a b c) = ([], []) := idr rfl
theorem ft_makeFunc {ts : List A} {a b c} : footA P H ts o (.makeFunc a b c) = ([], []) := idr rfl
theorem ft_fieldAddr {ts : List A} {a b c} : footA P H ts o (.fieldAddr a b c) = ([], []) := idr rfl
theorem ft_field {ts : List A} {a b c} : footA P H ts o (.field a b c) = ([], []) := idr rfl
theorem ft_index {ts : List A} {a b c} : footA P H ts o (.index a b c) = ([], []) := idr rfl
theorem ft_extract {ts : List A} {a b} : footA P H ts o (.extract a b) = ([], []) := idr rfl
theorem ft_makeMap {ts : List A} {a b} : footA P H ts o (.makeMap a b) = ([], []) := idr rfl
theorem ft_makeSlice {ts : List A} {a b c} : footA P H ts o (.makeSlice a b c) = ([], []) := idr rfl
theorem ft_load {ts : List A} {t a} : footA P H ts o (.load t a) = (refsA (ev ts a), []) := idr rfl
theorem ft_store {ts : List A} {t a x} : footA P H ts o (.store t a x) = ([], refsA (ev ts a) ++ refsA (evT P ts t x)) := idr rfl
theorem ft_buildSlice {ts : List A} {t l} {parts : List (Nat × Operand)} : footA P H ts o (.buildSlice t l parts.toArray) = ([], parts.flatMap fun p => refsA (ev ts p.2)) := idr rfl
theorem ft_convert {ts : List A} {s t x} : footA P H ts o (.convert s t x) = (refsA (ev ts x), []) := idr rfl
theorem ft_slice {ts : List A} {t x l h} : footA P H ts o (.slice t x l h none) = (refsA (ev ts x), []) := idr rfl
theorem ft_slice3 {ts : List A} {t x l h m} : footA P H ts o (.slice t x l h (some m)) = ([], refsA (ev ts x)) := idr rfl
theorem ft_indexAddr {ts : List A} {t x i} : footA P H ts o (.indexAddr t x i) = (refsA (ev ts x), []) := idr rfl
theorem ft_lookup {ts : List A} {t m k c} : footA P H ts o (.lookup t m k c) = (refsA (ev ts m), []) := idr rfl
theorem ft_builtin {ts : List A} {b tys} {args : List Operand} : footA P H ts o (.call ⟨.builtin b, args.toArray, tys⟩) = footB b (args.map (ev ts)) := idr rfl
theorem ftb_len {args : List A} : footB .len args = (refsAs args, []) := idr rfl
theorem ftb_append {args : List A} : footB .append args = ([], refsAs args) := idr rfl
theorem ftb_min {args : List A} : footB .min args = (refsAs args, []) := idr rfl
theorem ftb_max {args : List A} : footB .max args = (refsAs args, []) := idr rfl
theorem ft_call {ts : List A} {f} {args : List Operand} {tys : List TypeId} : footA P H ts o (.call ⟨.value (.func f), args.toArray, tys.toArray⟩) = ([], footCall H o f (argsE P ts args tys)) := by
  have := argsE_eq (P := P) (ts := ts) args tys.toArray 0
  simp only [List.drop_zero] at this
  rw [footA]
  simp only [ev, List.nil_append, List.append_nil, this]
theorem footCall_data {f : FuncId} {args : List A} (hi : H.inPlace f = false) (ha : (args.all A.data1) = true) : footCall H o f args = [] := by
  obtain ⟨h1, h2, h3, h4, h5⟩ := datas_ok ha
  simp [footCall, hi, h3, h1, h4, reach_nil]
theorem refs_d (x : D) : refsA (.d x) = [] := by simp [refsA]
theorem refs_cp (x : List D) : refsA (.cp x) = [] := by simp [refsA]
theorem refs_nilsl (g : Nat) : refsA (.nilsl g) = [] := by simp [refsA]
theorem refs_arr {a b c d : Nat} : refsA (.arr a b c d) = [a] := by simp [refsA]
theorem refs_ep {a b c d : Nat} : refsA (.ep a b c d) = [a] := by simp [refsA]
theorem refs_bp {a b : Nat} : refsA (.bp a b) = [a] := by simp [refsA]
theorem refs_mp {a : Nat} : refsA (.mp a) = [a] := by simp [refsA]
theorem refs_fn {f : FuncId} {a b : List A} : refsA (.fn f a b) = refsAs a ++ refsAs b := by rw [refsA]
theorem refss_nil : refsAs [] = [] := by rw [refsAs]
theorem refss_cons {c : A} {cs : List A} : refsAs (c :: cs) = refsA c ++ refsAs cs := by rw [refsAs]
theorem refs_agg {cs : List A} : refsA (.agg cs) = refsAs cs := by rw [refsA]
theorem refs_tup {cs : List A} : refsA (.tup cs) = refsAs cs := by rw [refsA]

theorem refs_un : refsA .un = [] := by rw [refsA] <;> simp
theorem refs_top : refsA .top = [] := by rw [refsA] <;> simp
theorem refs_nilm : refsA .nilm = [] := by rw [refsA] <;> simp

/-! ### Loops -/

/-- A bar: what a type hangs on is left alone by the simplifier. -/
inductive Hold (K : X → Env → Store → Res) : Type
  | mk (n : Nat)

def loopC (P : Program) (H : Hints) (call : FuncId → List A → Store → Option (A × Store)) (n k m : Nat) (hd : Option (List Nat × Nat)) (a : SC) (j : Nat) (e : Env) (o : Store) (K : X → Env → Store → Res) (_w : Hold K) : Res :=
  loopE (fun e o K => headE n m hd e o fun e o => codeE P H call n k m a e o K) j e o K

theorem c_loop {K hd a} : codeE P H call n k m (.loop hd a) e o K = loopC P H call n k m hd a k e o K ⟨0⟩ := idr rfl
theorem l_succ {K hd a j} : loopC P H call n k m hd a (j + 1) e o K ⟨0⟩ = headE n m hd e o fun e o => codeE P H call n k m a e o fun x e o => match x with
    | .normal => loopC P H call n k m hd a j e o K ⟨0⟩
    | .exit id => K (.exit id) e o
    | .ret => K .ret e o := idr rfl
theorem l_succ2 {K hd a b j} (h : b = a) : loopC P H call n k m hd a (j + 1) e o K ⟨0⟩ = headE n m hd e o fun e o => codeE P H call n k m b e o fun x e o => match x with
    | .normal => loopC P H call n k m hd a j e o K ⟨0⟩
    | .exit id => K (.exit id) e o
    | .ret => K .ret e o := by subst h; rfl
theorem h_some {K ks b} : headE n m (some (ks, b)) e o K = match leaveA m (.tup (ks.map fun t => ev (lk n e) (.tmp t))) o with
    | some (.tup vs, os) => K (envE ks vs) os
    | _ => none := idr rfl
theorem envE_nil {vs : List A} : envE [] vs = .nil .top := by cases vs <;> rfl
theorem envE_cons {k : Nat} {ks : List Nat} {v : A} {vs : List A} : envE (k :: ks) (v :: vs) = .cons k v (envE ks vs) := idr rfl

/-! ### What leaves -/

def leaveR (ρ : List Nat) (r : A) (objs : Store) : Option (A × Store) :=
  if ρ.all (· < objs.length) then match renA (idx ρ) r, renOs (idx ρ) (ρ.map (getO objs)) with
  | some r2, some o2 => some (r2, o2)
  | _, _ => none
  else none

theorem lv_eq {r : A} : leaveA m r o = leaveR (reach o (4 * o.length + 40) (List.range m ++ refsA r) []) r o := idr rfl
theorem lr_eq {ρ : List Nat} {r : A} : leaveR ρ r o = if ρ.all (· < o.length) then match renA (idx ρ) r, renOs (idx ρ) (ρ.map (getO o)) with
  | some r2, some o2 => some (r2, o2)
  | _, _ => none
  else none := idr rfl
theorem reach_done (k : Nat) (seen : List Nat) : reach o k [] seen = seen := by cases k <;> rfl
theorem reach_step {k i : Nat} {todo seen : List Nat} : reach o (k + 1) (i :: todo) seen = if seen.contains i then reach o k todo seen else reach o k (todo ++ refsO (getO o i)) (seen ++ [i]) := by rw [reach]
theorem idx_nil (i : Nat) : idx [] i = none := idr rfl
theorem idx_cons (j i : Nat) (l : List Nat) : idx (j :: l) i = if i = j then some 0 else (idx l i).map (· + 1) := idr rfl
theorem rn_d {g : Nat → Option Nat} (x : D) : renA g (.d x) = some (.d x) := by rw [renA]
theorem rn_nilsl {g : Nat → Option Nat} (x : Nat) : renA g (.nilsl x) = some (.nilsl x) := by rw [renA]
theorem rn_nilm {g : Nat → Option Nat} : renA g .nilm = some .nilm := by rw [renA]
theorem rn_un {g : Nat → Option Nat} : renA g .un = some .un := by rw [renA]
theorem rn_top {g : Nat → Option Nat} : renA g .top = some .top := by rw [renA]
theorem rn_cp {g : Nat → Option Nat} (x : List D) : renA g (.cp x) = some (.cp x) := by rw [renA]
theorem rn_arr {g : Nat → Option Nat} {i a b c : Nat} : renA g (.arr i a b c) = match g i with | some j => some (.arr j a b c) | none => none := by rw [renA]; cases g i <;> rfl
theorem rn_ep {g : Nat → Option Nat} {i a b c : Nat} : renA g (.ep i a b c) = match g i with | some j => some (.ep j a b c) | none => none := by rw [renA]; cases g i <;> rfl
theorem rn_bp {g : Nat → Option Nat} {i a : Nat} : renA g (.bp i a) = match g i with | some j => some (.bp j a) | none => none := by rw [renA]; cases g i <;> rfl
theorem rn_mp {g : Nat → Option Nat} {i : Nat} : renA g (.mp i) = match g i with | some j => some (.mp j) | none => none := by rw [renA]; cases g i <;> rfl
theorem rn_agg {g : Nat → Option Nat} {cs : List A} : renA g (.agg cs) = match renAs g cs with | some x => some (.agg x) | none => none := by rw [renA]; cases renAs g cs <;> rfl
theorem rn_tup {g : Nat → Option Nat} {cs : List A} : renA g (.tup cs) = match renAs g cs with | some x => some (.tup x) | none => none := by rw [renA]; cases renAs g cs <;> rfl
theorem rn_fn {g : Nat → Option Nat} {f : FuncId} {a b : List A} : renA g (.fn f a b) = match renAs g a, renAs g b with | some x, some y => some (.fn f x y) | _, _ => none := by rw [renA]; rfl
theorem rns_nil {g : Nat → Option Nat} : renAs g [] = some [] := by rw [renAs]
theorem rns_cons {g : Nat → Option Nat} {c : A} {cs : List A} : renAs g (c :: cs) = match renA g c with
    | some x => match renAs g cs with
      | some y => some (x :: y)
      | none => none
    | none => none := by rw [renAs]; rfl
theorem ro2_box {g : Nat → Option Nat} {cs : List A} : renO g (.box cs) = match renAs g cs with | some x => some (.box x) | none => none := by rw [renO]; cases renAs g cs <;> rfl
theorem ro2_mp {g : Nat → Option Nat} {cs : List (D × A)} : renO g (.mp cs) = match renMp g cs with | some x => some (.mp x) | none => none := by rw [renO]; cases renMp g cs <;> rfl
theorem ro2_arr {g : Nat → Option Nat} {sz : Nat} {es : List (List D)} {fz : Bool} : renO g (.arr sz es fz) = some (.arr sz es fz) := by rw [renO]
theorem ro2_gone {g : Nat → Option Nat} : renO g .gone = some .gone := by rw [renO]
theorem ros_nil {g : Nat → Option Nat} : renOs g [] = some [] := by rw [renOs]
theorem ros_cons {g : Nat → Option Nat} {c : O} {cs : List O} : renOs g (c :: cs) = match renO g c with
    | some x => match renOs g cs with
      | some y => some (x :: y)
      | none => none
    | none => none := by rw [renOs]; rfl
theorem rng1 : List.range 1 = [0] := idr rfl
theorem rng2 : List.range 2 = [0, 1] := idr rfl
theorem rng3 : List.range 3 = [0, 1, 2] := idr rfl

theorem strOf_ints : ∀ ns : List Int, strOf (ints .u8 ns) = some (ns.map fun n => UInt8.ofNat n.toNat)
  | [] => rfl
  | n :: ns => by rw [ints_cons, strOf, strOf_ints ns]; rfl

/-! ### Calls whose arguments may be local slices -/

theorem callA_np {f : FuncId} {args : List A} {dr : Option Nat} (hi : H.inPlace f = false) : callA H call f args o dr = if args.all A.flat = true then (match exAs o args with
    | some args1 => callR call f args1 (shutAs o args) dr
    | none => none) else none := by
  simp only [callA, hi, Bool.false_eq_true, if_false]; cases exAs o args <;> rfl
theorem callR_data {f : FuncId} {args : List A} {dr : Option Nat} {r : A} (hc : call f args [] = some (r, [])) (ha : (args.all A.data1) = true) (hr : r.dataR = true) : callR call f args o dr = some (r, o) := by
  obtain ⟨h1, h2, h3, h4, h5⟩ := datas_ok ha
  obtain ⟨k1, k2⟩ := dataR_ok hr
  simp only [callR, h1, reach_nil, List.all_nil, h2, List.map_nil, renOs, hc, backA, k2, List.length_nil, Nat.le_refl, if_true, setAll, List.drop_nil, List.append_nil, List.contains_nil, Bool.false_eq_true, if_false]
  cases dr <;> rfl
theorem fc_np {f : FuncId} {args : List A} (hi : H.inPlace f = false) : footCall H o f args = match exAs o args with
    | some args1 => refsAs args ++ reach (shutAs o args) (4 * (shutAs o args).length + 40) (refsAs args1) []
    | none => [] := by
  simp only [footCall, hi, Bool.false_eq_true, if_false]; cases exAs o args <;> rfl
theorem x_nil : exAs o [] = some [] := idr rfl
theorem x_cons {c : A} {cs : List A} : exAs o (c :: cs) = match exA o c with
    | some x => match exAs o cs with
      | some y => some (x :: y)
      | none => none
    | none => none := by rw [exAs]; rfl
theorem xa_d (x : D) : exA o (.d x) = some (.d x) := by simp [exA, exCell]
theorem xa_nilsl (g : Nat) : exA o (.nilsl g) = some (.d (.sl g [])) := by simp [exA, exCell]
theorem xa_arr {i a b c : Nat} : exA o (.arr i a b c) = match viewA o i a b c with | some (sz, es) => some (.d (.sl sz es)) | none => none := by simp only [exA, exCell]; rfl
theorem xa_bp {i a : Nat} : exA o (.bp i a) = some (.bp i a) := by simp [exA, exCell]
theorem xa_mp {i : Nat} : exA o (.mp i) = some (.mp i) := by simp [exA, exCell]
theorem xa_cp {i : List D} : exA o (.cp i) = some (.cp i) := by simp [exA, exCell]
theorem xa_fn {f : FuncId} {a b : List A} : exA o (.fn f a b) = some (.fn f a b) := by simp [exA, exCell]
theorem xa_agg {cs : List A} : exA o (.agg cs) = match exCells o cs with | some y => some (.agg y) | none => none := by simp only [exA]; rfl
theorem xc_nil : exCells o [] = some [] := idr rfl
theorem xc_cons {c : A} {cs : List A} : exCells o (c :: cs) = match exCell o c with
    | some x => match exCells o cs with
      | some y => some (x :: y)
      | none => none
    | none => none := by rw [exCells]; rfl
theorem xl_d (x : D) : exCell o (.d x) = some (.d x) := by simp [exCell]
theorem xl_nilsl (g : Nat) : exCell o (.nilsl g) = some (.d (.sl g [])) := by simp [exCell]
theorem xl_arr {i a b c : Nat} : exCell o (.arr i a b c) = match viewA o i a b c with | some (sz, es) => some (.d (.sl sz es)) | none => none := by simp only [exCell]; rfl
theorem xl_bp {i a : Nat} : exCell o (.bp i a) = some (.bp i a) := by simp [exCell]
theorem xl_fn {f : FuncId} {a b : List A} : exCell o (.fn f a b) = some (.fn f a b) := by simp [exCell]
theorem ss_nil : shutAs o [] = o := by rw [shutAs]
theorem ss_cons {c : A} {cs : List A} : shutAs o (c :: cs) = shutAs (shutA o c) cs := by rw [shutAs]
theorem sh_nilsl (g : Nat) : shutA o (.nilsl g) = o := by simp [shutA]
theorem sh_arr {i a b c : Nat} : shutA o (.arr i a b c) = match getO o i with | .arr sz es _ => o.set i (.arr sz es true) | _ => o := by rw [shutA]; rfl
theorem sh_agg {cs : List A} : shutA o (.agg cs) = shutAs o cs := by rw [shutA]
theorem sh_bp {i a : Nat} : shutA o (.bp i a) = o := by simp [shutA]
theorem sh_mp {i : Nat} : shutA o (.mp i) = o := by simp [shutA]
theorem sh_cp {i : List D} : shutA o (.cp i) = o := by simp [shutA]
theorem sh_fn {f : FuncId} {a b : List A} : shutA o (.fn f a b) = o := by simp [shutA]
theorem fl_agg {cs : List A} : A.flat (.agg cs) = cs.all fun c => match c with | .agg _ => false | _ => true := idr rfl
theorem fl_d {x : D} : A.flat (.d x) = true := idr rfl
theorem fl_nilsl {g : Nat} : A.flat (.nilsl g) = true := idr rfl
theorem fl_arr {a b c d : Nat} : A.flat (.arr a b c d) = true := idr rfl
theorem fl_bp {a b : Nat} : A.flat (.bp a b) = true := idr rfl
theorem fl_mp {a : Nat} : A.flat (.mp a) = true := idr rfl
theorem fl_cp {a : List D} : A.flat (.cp a) = true := idr rfl
theorem fl_fn {f : FuncId} {a b : List A} : A.flat (.fn f a b) = true := idr rfl

theorem ints_whole (k : IntKind) (a : List Int) : (ints k a).take a.length = ints k a := by rw [← ints_len k a, List.take_length]

theorem ints_f1 (k : IntKind) (n : Int) : [[D.int k n]] = ints k [n] := idr rfl
theorem ints_f2 (k : IntKind) (n : Int) (ns : List Int) : [D.int k n] :: ints k ns = ints k (n :: ns) := idr rfl
theorem ints_set (k : IntKind) (n : Int) (ns : List Int) (i : Nat) : (ints k ns).set i [D.int k n] = ints k (ns.set i n) := by simp [ints, List.map_set]
theorem ints_at0 (k : IntKind) (n : Int) (ns : List Int) : (ints k (n :: ns))[0]? = some [D.int k n] := idr rfl
theorem ints_atS (k : IntKind) (n : Int) (ns : List Int) (i : Nat) : (ints k (n :: ns))[i + 1]? = (ints k ns)[i]? := idr rfl

theorem toD_arr {i a b c : Nat} : toD o (.arr i a b c) = match viewA o i a b c with | some (sz, es) => some [.sl sz es] | none => none := by rw [toD]; rfl
theorem toD_nilsl {g : Nat} : toD o (.nilsl g) = some [.sl g []] := by rw [toD]
theorem toD_agg {cs : List A} : toD o (.agg cs) = toDs o cs := by rw [toD]
theorem toDs_arr {i a b c : Nat} (cs : List A) : toDs o (.arr i a b c :: cs) = match viewA o i a b c with | some (sz, es) => (match toDs o cs with | some y => some (.sl sz es :: y) | none => none) | none => none := by
  rw [toDs, toD]; simp only [A.leaf, if_true]; cases viewA o i a b c with
  | none => rfl
  | some p => obtain ⟨sz, es⟩ := p; simp only; cases toDs o cs <;> rfl

theorem ro_arr {sz : Nat} {es : List (List D)} {fz : Bool} : refsO (.arr sz es fz) = [] := idr rfl
theorem ro_gone : refsO .gone = [] := idr rfl
theorem ro_box {cs : List A} : refsO (.box cs) = refsAs cs := idr rfl
theorem ro_mp {es : List (D × A)} : refsO (.mp es) = refsAs (es.map (·.2)) := idr rfl

theorem o_fresh {K d op ty c cs xs} : opsE P H call n (⟨d, op, ty, none, c :: cs⟩ :: xs) e o K = match opA P H call (lk n e) o none ty op with
    | some (v, o1) => (match freshA o1 v (c :: cs) with
      | some (v, o2) => opsE P H call n xs (putE e d v) o2 K
      | none => none)
    | none => none := idr rfl
theorem fr_nilsl {g c : Nat} {cs : List Nat} : freshA o (.nilsl g) (c :: cs) = some (.arr o.length 0 0 0, o ++ [.arr g [] false]) := by rw [freshA]
theorem fr_agg {c : Nat} {cs : List Nat} {bs : List A} : freshA o (.agg bs) (c :: cs) = match bs[c]? with | some (.nilsl g) => freshA (o ++ [.arr g [] false]) (.agg (bs.set c (.arr o.length 0 0 0))) cs | _ => none := by rw [freshA]; rfl
theorem fr_nil {v : A} : freshA o v [] = some (v, o) := by rw [freshA]

/-! ### Lists -/

theorem dropG {ns : List Int} {i : Nat} (h : i < ns.length) : ns.drop i = ns.getD i 0 :: ns.drop (i + 1) := by
  rw [List.drop_eq_getElem_cons h, List.getD_eq_getElem?_getD, List.getElem?_eq_getElem h]; rfl
theorem tmodB {a m : Int} (ha : 0 ≤ a) (hm : 0 < m) : a.tmod m = a % m ∧ 0 ≤ a % m ∧ a % m < m :=
  ⟨Int.tmod_eq_emod_of_nonneg ha, Int.emod_nonneg _ (by omega), Int.emod_lt_of_pos _ hm⟩
theorem inB {ns : List Int} {a b : Int} (h : ∀ n ∈ ns, a ≤ n ∧ n ≤ b) (h0 : a ≤ 0 ∧ 0 ≤ b) (i : Nat) : a ≤ ns.getD i 0 ∧ ns.getD i 0 ≤ b := by
  rw [List.getD_eq_getElem?_getD]
  cases hx : ns[i]? with
  | none => exact h0
  | some x => exact h x (List.mem_of_getElem? hx)

/-! ### More arithmetic -/

theorem p_neg {call' dr ty t x ts} : opA P H call' ts o dr ty (.unOp .neg t x) = match ev ts x with | .d (.int k n) => some (.d (.int k (k.wrap (0 - n))), o) | _ => none := by
  unfold opA
  simp only
  generalize ev ts x = v
  cases v with
  | d x => cases x <;> rfl
  | _ => rfl

theorem b_shl {t : TypeId} {k k' : IntKind} {a b : Int} : binA P .shl t (.d (.int k a)) (.d (.int k' b)) = if b < 0 then none else some (.d (.int k (k.wrap (a * 2 ^ (min b.toNat k.bits))))) := by
  by_cases h : b < 0 <;> simp [binA, shiftOp, h]
theorem b_shr {t : TypeId} {k k' : IntKind} {a b : Int} : binA P .shr t (.d (.int k a)) (.d (.int k' b)) = if b < 0 then none else some (.d (.int k (a.fdiv (2 ^ (min b.toNat k.bits))))) := by
  by_cases h : b < 0 <;> simp [binA, shiftOp, h]
/-- Bits that are put together, or picked out. -/
def bitOr (k : IntKind) (a b : Int) : Int := k.wrap (BitVec.ofInt k.bits a ||| BitVec.ofInt k.bits b).toNat
def bitAnd (k : IntKind) (a b : Int) : Int := k.wrap (BitVec.ofInt k.bits a &&& BitVec.ofInt k.bits b).toNat
theorem b_or {t : TypeId} {k : IntKind} {a b : Int} : binA P .or t (.d (.int k a)) (.d (.int k b)) = some (.d (.int k (bitOr k a b))) := by simp [binA, intOp, bitOr]
theorem b_and {t : TypeId} {k : IntKind} {a b : Int} : binA P .and t (.d (.int k a)) (.d (.int k b)) = some (.d (.int k (bitAnd k a b))) := by simp [binA, intOp, bitAnd]
theorem bits_u64 : IntKind.u64.bits = 64 := idr rfl
theorem bits_u8 : IntKind.u8.bits = 8 := idr rfl
theorem bits_i64 : IntKind.i64.bits = 64 := idr rfl

theorem ofNat64 (n : Nat) (h : n < 2 ^ 64) : (BitVec.ofInt 64 (n : Int)).toNat = n := by
  rw [BitVec.toNat_ofInt]; omega

/-- High bits and low bits. -/
theorem or_add (c s : Int) (i : Nat) (hi : i < 64) (hc : 0 ≤ c) (hc2 : c * 2 ^ i < 2 ^ 64) (hs : 0 ≤ s ∧ s < 2 ^ i) (ht : c * 2 ^ i + s < 2 ^ 64) : bitOr .u64 (c * 2 ^ i) s = c * 2 ^ i + s := by
  obtain ⟨c, rfl⟩ := Int.eq_ofNat_of_zero_le hc
  obtain ⟨s, rfl⟩ := Int.eq_ofNat_of_zero_le hs.1
  have h1 : ((c : Int) * 2 ^ i) = ((c * 2 ^ i : Nat) : Int) := by push_cast; rfl
  have hc3 : c * 2 ^ i < 2 ^ 64 := by
    have := hc2; rw [h1] at this; exact_mod_cast this
  have hs2 : s < 2 ^ i := by exact_mod_cast hs.2
  have hs3 : s < 2 ^ 64 := Nat.lt_trans hs2 (Nat.pow_lt_pow_right (by omega) hi)
  have ht2 : c * 2 ^ i + s < 2 ^ 64 := by
    have := ht; rw [h1] at this; exact_mod_cast this
  rw [h1]
  have key : (BitVec.ofInt 64 ((c * 2 ^ i : Nat) : Int) ||| BitVec.ofInt 64 (s : Int)).toNat = c * 2 ^ i + s := by
    rw [BitVec.toNat_or, ofNat64 _ hc3, ofNat64 _ hs3]
    have := Nat.shiftLeft_add_eq_or_of_lt hs2 c
    rw [Nat.shiftLeft_eq] at this
    exact this.symm
  show IntKind.u64.wrap ((BitVec.ofInt 64 ((c * 2 ^ i : Nat) : Int) ||| BitVec.ofInt 64 (s : Int)).toNat : Int) = _
  rw [key, Go.IntWalk.u64_in _ (by push_cast; omega)]
  push_cast; rfl

/-- The low bits. -/
theorem and_low (a : Int) (i : Nat) (hi : i < 64) (ha : 0 ≤ a ∧ a < 2 ^ 64) : bitAnd .u64 a (2 ^ i - 1) = a % 2 ^ i := by
  obtain ⟨a, rfl⟩ := Int.eq_ofNat_of_zero_le ha.1
  have ha2 : a < 2 ^ 64 := by exact_mod_cast ha.2
  have hp : 0 < 2 ^ i := Nat.pow_pos (by omega)
  have h1 : ((2 : Int) ^ i - 1) = ((2 ^ i - 1 : Nat) : Int) := by
    rw [Int.ofNat_sub hp]; push_cast; rfl
  have hb : 2 ^ i - 1 < 2 ^ 64 := by
    have := Nat.pow_lt_pow_right (a := 2) (by omega) hi
    omega
  rw [h1]
  have key : (BitVec.ofInt 64 (a : Int) &&& BitVec.ofInt 64 ((2 ^ i - 1 : Nat) : Int)).toNat = a % 2 ^ i := by
    rw [BitVec.toNat_and, ofNat64 _ ha2, ofNat64 _ hb, Nat.and_two_pow_sub_one_eq_mod]
  show IntKind.u64.wrap ((BitVec.ofInt 64 (a : Int) &&& BitVec.ofInt 64 ((2 ^ i - 1 : Nat) : Int)).toNat : Int) = _
  have hm : a % 2 ^ i ≤ a := Nat.mod_le _ _
  rw [key, Go.IntWalk.u64_in _ (by omega)]
  push_cast; rfl

/-! ### Results that are local arrays -/

theorem callR_new {f : FuncId} {args : List A} {dr : Option Nat} {sz a b c : Nat} {es : List (List D)} {fz : Bool} (hc : call f args [] = some (.arr 0 a b c, [.arr sz es fz])) (ha : (args.all A.data1) = true) :
    callR call f args o dr = some (.arr (newO o dr (.arr sz es fz)).1 a b c, (newO o dr (.arr sz es fz)).2) := by
  obtain ⟨h1, h2, h3, h4, h5⟩ := datas_ok ha
  cases dr with
  | none => simp [callR, h1, reach_nil, h2, renOs, hc, backA, renA, renO, setAll, newO]
  | some p => simp [callR, h1, reach_nil, h2, renOs, hc, backA, renA, renO, setAll, newO]
theorem resA_own {f : FuncId} {a b c d : Nat} (h : H.own f = true) : resA H f o (.arr a b c d) = some (.arr a b c d, o) := by simp [resA, h]
theorem resA_ownn {f : FuncId} {g : Nat} (h : H.own f = true) : resA H f o (.nilsl g) = some (.arr o.length 0 0 0, o ++ [.arr g [] false]) := by simp [resA, h]

/-! ### Maps from numbers to true -/

def mpK (ks : List Int) : List (D × A) := ks.map fun k => (.int .u64 k, .d (.bool true))

theorem mp_put (k : Int) : ∀ ks : List Int, putMp (.int .u64 k) (.d (.bool true)) (mpK ks) = some (mpK (if k ∈ ks then ks else ks ++ [k]))
  | [] => by simp [mpK, putMp]
  | q :: ks => by
    have ih := mp_put k ks
    simp only [mpK, List.map_cons, putMp, eqD, if_true]
    by_cases h : k = q
    · subst h; simp
    · have hb : (k == q) = false := by simp [h]
      rw [hb]
      simp only [mpK] at ih
      simp only [ih, Option.map_some]
      by_cases h2 : k ∈ ks
      · simp [h2, h]
      · simp [h2, h]
theorem mp_find (k : Int) : ∀ ks : List Int, findMp (.int .u64 k) (mpK ks) = some (if k ∈ ks then some (.d (.bool true)) else none)
  | [] => by simp [mpK, findMp]
  | q :: ks => by
    have ih := mp_find k ks
    simp only [mpK, List.map_cons, findMp, eqD, if_true]
    by_cases h : k = q
    · subst h; simp
    · have hb : (k == q) = false := by simp [h]
      rw [hb]
      simp only [mpK] at ih
      simp only [ih]
      simp [h]
theorem mpK_nil : mpK [] = [] := idr rfl

theorem mpK_refs : ∀ ks : List Int, refsAs ((mpK ks).map fun x => x.2) = []
  | [] => by simp [mpK, refsAs]
  | k :: ks => by
    have ih := mpK_refs ks
    simp only [mpK] at ih
    simp only [mpK, List.map_cons, refsAs, refsA, List.nil_append]
    exact ih
theorem mpK_ren {g : Nat → Option Nat} : ∀ ks : List Int, renMp g (mpK ks) = some (mpK ks)
  | [] => by simp [mpK, renMp]
  | k :: ks => by
    have ih := mpK_ren (g := g) ks
    simp only [mpK] at ih
    simp [mpK, renMp, renA, ih]

theorem rm_nil {g : Nat → Option Nat} : renMp g [] = some [] := by rw [renMp]

/-! ### Structs -/

theorem p_alloc {call' dr ty el ts} : opA P H call' ts o dr ty (.alloc el) = match zeroA P el with
    | some z => if sizeT P el = some z.length ∧ z.all A.leaf then some (.bp (newO o dr (.box z)).1 0, (newO o dr (.box z)).2) else none
    | none => none := by rw [opA]; rfl
theorem p_box {call' dr ty el x ts} : opA P H call' ts o dr ty (.box el x) = if (evT P ts el x).cells.all A.leaf then some (.bp (newO o dr (.box (evT P ts el x).cells)).1 0, (newO o dr (.box (evT P ts el x).cells)).2) else none := by
  rw [opA]
theorem p_fieldAddr {call' dr ty s x f ts} : opA P H call' ts o dr ty (.fieldAddr s x f) = match fieldT P s f with
    | some (of, n, _) => if 0 < n then (match faA of (ev ts x) with | some v => some (v, o) | none => none) else none
    | none => none := by
  rw [opA]
  cases h : fieldT P s f with
  | none => rfl
  | some q =>
    obtain ⟨a, b, c⟩ := q
    simp only
    split
    · cases faA a (ev ts x) <;> rfl
    · rfl

def structOk (P : Program) (t : TypeId) : Bool := match P.underlying t with
  | some (.struct fs) => fs.toList.all fun f => (sizeT P f.type).isSome
  | _ => false
def fieldTy (P : Program) (t : TypeId) (i : Nat) : TypeId := match P.underlying t with
  | some (.struct fs) => (match fs[i]? with | some f => f.type | none => 0)
  | _ => 0

def partsE (P : Program) (ts : List A) (t : TypeId) : List (Nat × Operand) → List (Nat × A)
  | [] => []
  | (i, x) :: ps => (i, evT P ts (fieldTy P t i) x) :: partsE P ts t ps

def fillE (P : Program) (t : TypeId) (cells : List A) : List (Nat × A) → Option (List A)
  | [] => some cells
  | (i, v) :: rest =>
    match fieldT P t i with
    | none => none
    | some (off, size, _) =>
      if v.cells.length = size ∧ off + size ≤ cells.length ∧ v.cells.all A.leaf then fillE P t (setRange cells off v.cells) rest else none

theorem fillE_eq (t : TypeId) : ∀ (ps : List (Nat × A)) (cells : List A), fillA (fun i => match fieldT P t i with | some (o, n, _) => some (o, n) | none => none) cells ps = fillE P t cells ps
  | [], cells => by unfold fillA fillE; rfl
  | (i, v) :: ps, cells => by
    unfold fillA fillE
    cases h : fieldT P t i with
    | none => simp
    | some q =>
      obtain ⟨a, b, c⟩ := q
      simp only
      split
      · exact fillE_eq t ps _
      · rfl

theorem p_build {call' dr ty t ts} {parts : List (Nat × Operand)} (h : structOk P t = true) : opA P H call' ts o dr ty (.build t parts.toArray) = match zeroA P t with
    | some z => (match fillE P t z (partsE P ts t parts) with | some cs => some (.agg cs, o) | none => none)
    | none => none := by
  rw [opA]
  have hb : buildA P ts t parts.toArray.toList = match zeroA P t with
    | some z => fillE P t z (partsE P ts t parts)
    | none => none := by
    unfold structOk at h
    unfold buildA
    cases hz : zeroA P t with
    | none =>
      cases hu : P.underlying t with
      | none => rfl
      | some u => cases u <;> rfl
    | some z =>
      split at h
      case h_2 => cases h
      rename_i fs hu
      simp only [hu, h, if_true]
      have this : ∀ ps : List (Nat × Operand), (ps.map fun p => (p.1, evT P ts (match fs[p.1]? with | some f => f.type | none => 0) p.2)) = partsE P ts t ps := by
        intro ps
        induction ps with
        | nil => rfl
        | cons p ps ih =>
          obtain ⟨i, x⟩ := p
          have e : fieldTy P t i = (match fs[i]? with | some f => f.type | none => 0) := by unfold fieldTy; rw [hu]
          simp only [List.map_cons, partsE, ih, e]
      refine Eq.trans ?_ (fillE_eq t _ z)
      rw [← this parts]
      rfl
  rw [hb]
  cases zeroA P t <;> rfl
theorem pe_nil {ts : List A} {t : TypeId} : partsE P ts t [] = [] := idr rfl
theorem pe_cons {ts : List A} {t : TypeId} {i : Nat} {x : Operand} {ps : List (Nat × Operand)} : partsE P ts t ((i, x) :: ps) = (i, evT P ts (fieldTy P t i) x) :: partsE P ts t ps := idr rfl
theorem fe_nil {t : TypeId} {cells : List A} : fillE P t cells [] = some cells := idr rfl
theorem fe_cons {t : TypeId} {cells : List A} {i : Nat} {v : A} {rest : List (Nat × A)} : fillE P t cells ((i, v) :: rest) = match fieldT P t i with
    | none => none
    | some (off, size, _) =>
      if v.cells.length = size ∧ off + size ≤ cells.length ∧ v.cells.all A.leaf then fillE P t (setRange cells off v.cells) rest else none := by rw [fillE]
theorem b_aeql {t : TypeId} {as bs : List A} (h : P.eqGuardType P.depth t = false) (h2 : isAggT P t = some true) : binA P .eql t (.agg as) (.agg bs) = match eqT P 8 t as bs with
    | some z => some (.d (.bool z))
    | none => none := by simp only [binA, h, h2, and_self, if_true]; rfl
theorem b_aneq {t : TypeId} {as bs : List A} (h : P.eqGuardType P.depth t = false) (h2 : isAggT P t = some true) : binA P .neq t (.agg as) (.agg bs) = match eqT P 8 t as bs with
    | some z => some (.d (.bool !z))
    | none => none := by simp only [binA, h, h2, and_self, if_true]; rfl

theorem r_cell {a t : Nat} : resultA P (lk n e) o (.cell a t) = loadA P o t (ev (lk n e) (.tmp a)) := idr rfl
theorem resA_agg {f : FuncId} {cs : List A} (h : H.own f = false) : resA H f o (.agg cs) = if A.flat (.agg cs) = true then (match exA o (.agg cs) with | some r => some (r, shutA o (.agg cs)) | none => none) else none := by
  simp only [resA, h, Bool.false_eq_true, if_false]
  cases exA o (.agg cs) <;> rfl

theorem ba_eq (a b : ByteArray) : (a == b) = decide (a = b) := by
  cases a with | mk a => cases b with | mk b =>
  show ByteArray.beq ⟨a⟩ ⟨b⟩ = _
  unfold ByteArray.beq
  by_cases h : a = b
  · subst h; simp
  · simp [h]

theorem p_makeSlice {call' dr ty t l c ts} : opA P H call' ts o dr ty (.makeSlice t l c) = match P.underlying t, elemT P t, asInt (ev ts l), asInt (ev ts c) with
    | some (.slice e), some (n, by_), some len, some cap => match zeroA P e with
      | some z => match toDs [] z with
        | some zd => if 0 ≤ len ∧ cap = len ∧ zd.length = n ∧ z.length = n ∧ 0 < n ∧ 0 < by_ ∧ len * by_ ≤ 140737488355328 then
            some (.arr (newO o dr (.arr n (List.replicate len.toNat zd) false)).1 0 len.toNat len.toNat, (newO o dr (.arr n (List.replicate len.toNat zd) false)).2) else none
        | none => none
      | none => none
    | _, _, _, _ => none := by rw [opA]; rfl

theorem or8 {a c : Int} (ha : 0 ≤ a ∧ a < 72057594037927936) (hc : 0 ≤ c ∧ c ≤ 255) : bitOr .u64 (IntKind.u64.wrap (a * 256)) c = a * 256 + c := by
  rw [Go.IntWalk.u64_in _ (by omega)]
  have := or_add a c 8 (by omega) ha.1 (by omega) (by omega) (by omega)
  simpa using this

/-! ### Function values, and calls that are handed objects -/
theorem p_makeFunc {call' dr ty f ts} {a b : List Operand} : opA P H call' ts o dr ty (.makeFunc (.func f) a.toArray b.toArray) = some (.fn f (a.map (ev ts)) (b.map (ev ts)), o) := by
  rw [opA]
theorem p_callv {call' dr ty t ts} {args : List Operand} {tys : List TypeId} : opA P H call' ts o dr ty (.call ⟨.value (.tmp t), args.toArray, tys.toArray⟩) = match ev ts (.tmp t) with
    | .fn f a b => callA H call' f (a ++ argsE P ts args tys ++ b) o dr
    | _ => none := by
  have := argsE_eq (P := P) (ts := ts) args tys.toArray 0
  simp only [List.drop_zero] at this
  rw [opA]
  simp only [this]
  rfl
theorem ft_callv {ts : List A} {t} {args : List Operand} {tys : List TypeId} : footA P H ts o (.call ⟨.value (.tmp t), args.toArray, tys.toArray⟩) = match ev ts (.tmp t) with
    | .fn f a b => ([], footCall H o f (a ++ argsE P ts args tys ++ b))
    | _ => ([], []) := by
  have := argsE_eq (P := P) (ts := ts) args tys.toArray 0
  simp only [List.drop_zero] at this
  rw [footA]
  simp only [this]
  rfl

/-- The call of a function that is handed objects. -/
theorem callR_obj {f : FuncId} {args : List A} {dr : Option Nat} (_h : (args.all A.data1) = false) : callR call f args o dr =
    if (reach o (4 * o.length + 40) (refsAs args) []).all (fun i => decide (i < o.length)) = true then
      match renAs (idx (reach o (4 * o.length + 40) (refsAs args) [])) args with
      | some args2 => match renOs (idx (reach o (4 * o.length + 40) (refsAs args) [])) ((reach o (4 * o.length + 40) (refsAs args) []).map (getO o)) with
        | some sub => match call f args2 sub with
          | some (r, sub2) => backA (reach o (4 * o.length + 40) (refsAs args) []) o dr r sub2
          | none => none
        | none => none
      | none => none
    else none := by
  unfold callR
  simp only
  split
  · rename_i hq
    cases renAs (idx (reach o (4 * o.length + 40) (refsAs args) [])) args with
    | none => rfl
    | some a => cases renOs (idx (reach o (4 * o.length + 40) (refsAs args) [])) ((reach o (4 * o.length + 40) (refsAs args) []).map (getO o)) <;> rfl
  · rfl

theorem backA_none {ρ : List Nat} {r : A} {sub : Store} : backA ρ o none r sub =
    match renA (fun j => if j < ρ.length then ρ[j]? else some (o.length + (j - ρ.length))) r with
    | some r2 => match renOs (fun j => if j < ρ.length then ρ[j]? else some (o.length + (j - ρ.length))) sub with
      | some sub3 => if ρ.length ≤ sub3.length then some (r2, setAll o ρ sub3 ++ sub3.drop ρ.length) else none
      | none => none
    | none => none := by
  unfold backA
  simp only
  cases renA (fun j => if j < ρ.length then ρ[j]? else some (o.length + (j - ρ.length))) r with
  | none => rfl
  | some a => cases renOs (fun j => if j < ρ.length then ρ[j]? else some (o.length + (j - ρ.length))) sub <;> rfl

theorem backA_some {ρ : List Nat} {r : A} {sub : Store} {p : Nat} : backA ρ o (some p) r sub =
    match renA (fun j => if j < ρ.length then ρ[j]? else some (p + (j - ρ.length))) r with
    | some r2 => match renOs (fun j => if j < ρ.length then ρ[j]? else some (p + (j - ρ.length))) sub with
      | some sub3 => if ρ.length ≤ sub3.length then (if ρ.contains p then none else match sub3.drop ρ.length with
          | [] => some (r2, setAll o ρ sub3)
          | [x] => some (r2, (setAll o ρ sub3).set p x)
          | _ => none) else none
      | none => none
    | none => none := by
  unfold backA
  simp only
  cases renA (fun j => if j < ρ.length then ρ[j]? else some (p + (j - ρ.length))) r with
  | none => rfl
  | some a => cases renOs (fun j => if j < ρ.length then ρ[j]? else some (p + (j - ρ.length))) sub <;> rfl
theorem callA_ip {f : FuncId} {args : List A} {dr : Option Nat} (hi : H.inPlace f = true) : callA H call f args o dr = callR call f args o dr := by
  simp only [callA, hi, if_true]
theorem fc_ip {f : FuncId} {args : List A} (hi : H.inPlace f = true) : footCall H o f args = reach o (4 * o.length + 40) (refsAs args) [] := by
  simp only [footCall, hi, if_true]
theorem p_nilCheck {call' dr ty x ts} : opA P H call' ts o dr ty (.nilCheck x) = match isNil (ev ts x) with
    | some false => some (ev ts x, o)
    | _ => none := by
  rw [opA]
  rfl
theorem np_bp {i a : Nat} : isNil (.bp i a) = some false := idr rfl
theorem np_ep {i a b c : Nat} : isNil (.ep i a b c) = some false := idr rfl
theorem np_cp {cs : List D} : isNil (.cp cs) = some false := idr rfl
theorem np_nil : isNil (.d .nilp) = some true := idr rfl
theorem setAll_nil {l : List O} : setAll o [] l = o := by cases l <;> rfl
theorem setAll_cons {i : Nat} {is : List Nat} {x : O} {l : List O} : setAll o (i :: is) (x :: l) = setAll (o.set i x) is l := idr rfl
theorem d1_bp {i a : Nat} : (A.bp i a).data1 = false := idr rfl
theorem d1_fn {f : FuncId} {a b : List A} : (A.fn f a b).data1 = false := idr rfl
theorem d1_arr {i a b c : Nat} : (A.arr i a b c).data1 = false := idr rfl
theorem d1_mp {i : Nat} : (A.mp i).data1 = false := idr rfl
theorem data1_all {c : A} {cs : List A} : (c :: cs).all A.data1 = (c.data1 && cs.all A.data1) := List.all_cons


end Ab
