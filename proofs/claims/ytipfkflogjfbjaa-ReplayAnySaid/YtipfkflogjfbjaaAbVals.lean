/- A part of the proof of a row by an interpreter that is proved sound; no conditions of its own. -/
import Derived.Test.YtipfkflogjfbjaaAbStore2
import Derived.Laws.StructEq
namespace Ab
open Go

variable {P : Program}

theorem rel_int {C : Cx} {objs : Store} {x : A} {v : Value} {n : Int} (r : RelA C objs x v) (h : asInt x = some n) : ∃ k, x = .d (.int k n) ∧ v = .int k n := by
  unfold asInt at h
  split at h
  · cases h
    cases r with
    | d hd => cases hd; exact ⟨_, rfl, rfl⟩
  · cases h

theorem rel_str {C : Cx} {objs : Store} {s : ByteArray} {v : Value} (r : RelA C objs (.d (.str s)) v) : v = .string s := by
  cases r with
  | d hd => cases hd; rfl

theorem rel_bool {C : Cx} {objs : Store} {s : Bool} {v : Value} (r : RelA C objs (.d (.bool s)) v) : v = .bool s := by
  cases r with
  | d hd => cases hd; rfl

theorem rel_int' {C : Cx} {objs : Store} {k : IntKind} {n : Int} {v : Value} (r : RelA C objs (.d (.int k n)) v) : v = .int k n := by
  cases r with
  | d hd => cases hd; rfl

theorem rel_agg {C : Cx} {objs : Store} {cs : List A} {v : Value} (r : RelA C objs (.agg cs) v) : ∃ vs, v = .agg vs ∧ RelL C objs cs vs.toList := by
  cases r with
  | agg _ vs hl h => exact ⟨vs, rfl, relL_of_array hl h⟩

theorem rel_nil {C : Cx} {objs : Store} {x : A} {v : Value} {b : Bool} (r : RelA C objs x v) (h : isNil x = some b) :
    (b = true ∧ (v = .pointer none ∨ v = .nilFunc)) ∨ (b = false ∧ ((∃ a, v = .pointer (some a)) ∨ ∃ f us vs, v = .func (.func f) us vs)) := by
  cases r with
  | d hd =>
    cases hd with
    | nilp => simp [isNil] at h; subst h; exact .inl ⟨rfl, .inl rfl⟩
    | nilf => simp [isNil] at h; subst h; exact .inl ⟨rfl, .inr rfl⟩
    | _ => simp [isNil] at h
  | bp => simp [isNil] at h; subst h; exact .inr ⟨rfl, .inl ⟨_, rfl⟩⟩
  | ep => simp [isNil] at h; subst h; exact .inr ⟨rfl, .inl ⟨_, rfl⟩⟩
  | cp => simp [isNil] at h; subst h; exact .inr ⟨rfl, .inl ⟨_, rfl⟩⟩
  | fn => simp [isNil] at h; subst h; exact .inr ⟨rfl, .inr ⟨_, _, _, rfl⟩⟩
  | _ => simp [isNil] at h

theorem intOp_ok {op : BinOp} {k : IntKind} {a b : Int} {x : D} (h : intOp op k a b = some x) (hs : op ≠ .shl ∧ op ≠ .shr) (t : TypeId) (w : World) :
    ∃ v, (binOp op t (.int k a) (.int k b)).run P w = .ok v w ∧ ∀ M, RelD M x v := by
  cases op <;> simp only [intOp, cmpI, Option.map_some, Option.some.injEq] at h
  case add => subst h; exact ⟨_, by simp [binOp, Op.intArith], fun M => .int _ _⟩
  case sub => subst h; exact ⟨_, by simp [binOp, Op.intArith], fun M => .int _ _⟩
  case mul => subst h; exact ⟨_, by simp [binOp, Op.intArith], fun M => .int _ _⟩
  case quo =>
    split at h
    · cases h
    · rename_i hb; cases h
      exact ⟨.int k (k.wrap (a.tdiv b)), by simp [binOp, Op.intDiv, hb], fun M => .int _ _⟩
  case rem =>
    split at h
    · cases h
    · rename_i hb; cases h
      exact ⟨.int k (a.tmod b), by simp [binOp, Op.intDiv, hb], fun M => .int _ _⟩
  case and => subst h; exact ⟨_, by simp only [binOp, Op.intBits]; simp, fun M => .int _ _⟩
  case or => subst h; exact ⟨_, by simp only [binOp, Op.intBits]; simp, fun M => .int _ _⟩
  case xor => subst h; exact ⟨_, by simp only [binOp, Op.intBits]; simp, fun M => .int _ _⟩
  case andNot => subst h; exact ⟨_, by simp only [binOp, Op.intBits]; simp, fun M => .int _ _⟩
  case shl => exact absurd rfl hs.1
  case shr => exact absurd rfl hs.2
  case eql => subst h; exact ⟨_, by simp [binOp, Op.intCmp], fun M => .bool _⟩
  case neq => subst h; exact ⟨_, by simp [binOp, Op.intCmp], fun M => .bool _⟩
  case lss => subst h; exact ⟨_, by simp [binOp, Op.intCmp], fun M => .bool _⟩
  case leq => subst h; exact ⟨_, by simp [binOp, Op.intCmp], fun M => .bool _⟩
  case gtr => subst h; exact ⟨_, by simp [binOp, Op.intCmp], fun M => .bool _⟩
  case geq => subst h; exact ⟨_, by simp [binOp, Op.intCmp], fun M => .bool _⟩
  all_goals cases h

theorem shiftOp_ok {op : BinOp} {k k' : IntKind} {a b : Int} {x : D} (h : shiftOp op k a b = some x) (t : TypeId) (w : World) :
    ∃ v, (binOp op t (.int k a) (.int k' b)).run P w = .ok v w ∧ ∀ M, RelD M x v := by
  unfold shiftOp at h
  split at h
  · cases h
  · rename_i hb
    cases op <;> simp only [Option.some.injEq] at h
    case shl => subst h; exact ⟨_, by simp [binOp, Op.shift, hb], fun M => .int _ _⟩
    case shr => subst h; exact ⟨_, by simp [binOp, Op.shift, hb], fun M => .int _ _⟩
    all_goals cases h

theorem strOp_ok {op : BinOp} {a b : ByteArray} {x : D} (h : strOp op a b = some x) (t : TypeId) (w : World) :
    ∃ v, (binOp op t (.string a) (.string b)).run P w = .ok v w ∧ ∀ M, RelD M x v := by
  cases op <;> simp only [strOp, Option.some.injEq] at h
  case add =>
    split at h
    · rename_i hb; cases h
      refine ⟨.string (a ++ b), ?_, fun M => .str _⟩
      have : ¬ (((a.size + b.size : Nat) : Int) > IntKind.i64.max) := by
        have : IntKind.i64.max = 9223372036854775807 := by decide
        rw [this]; omega
      simp only [binOp, Op.stringOp, this, if_false]; rfl
    · cases h
  case eql => subst h; exact ⟨_, rfl, fun M => .bool _⟩
  case neq => subst h; exact ⟨_, rfl, fun M => .bool _⟩
  case lss => subst h; exact ⟨_, rfl, fun M => .bool _⟩
  case leq => subst h; exact ⟨_, rfl, fun M => .bool _⟩
  case gtr => subst h; exact ⟨_, rfl, fun M => .bool _⟩
  case geq => subst h; exact ⟨_, rfl, fun M => .bool _⟩
  all_goals cases h

theorem part_ok {C : Cx} {objs : Store} {xs : Array Value} {cs ys : List A} (r : RelL C objs cs xs.toList) {t : TypeId} {off : Nat} (h : partA P t cs off = some ys) {ag : Bool} (hag : isAggT P t = some ag) (h1 : ag = false → ys.length = 1) (w : World) :
    ∃ v us, (part t xs off).run P w = .ok v w ∧ RelL C objs ys us ∧ (ag = true → v = .agg us.toArray) ∧ (ag = false → us = [v]) := by
  unfold partA at h
  split at h
  · rename_i n hn
    split at h
    · rename_i hle
      cases h
      have hl : off + n ≤ xs.size := by have := r.1; simp at this; omega
      have hr := (r.drop off).take n
      cases ag with
      | true =>
        refine ⟨.agg ((xs.toList.drop off).take n).toArray, _, ?_, hr, fun _ => rfl, fun h => by cases h⟩
        have e : ((xs.toList.drop off).take n).toArray = xs.extract off (off + n) := by
          apply Array.ext'
          simp [List.take_drop, Array.toList_extract]
        rw [e]
        simp [part, run_isAgg' hag, run_sizeOf' hn]
      | false =>
        have hn1 : n = 1 := by have := h1 rfl; simp at this; omega
        subst hn1
        have hlt : off < xs.size := by omega
        refine ⟨xs[off], _, ?_, hr, (fun h => by cases h), fun _ => ?_⟩
        · simp [part, run_isAgg' hag, hlt]
        · rw [List.drop_eq_getElem_cons (by simpa using hlt)]; simp
    · cases h
  · cases h

theorem eqD_rel {C : Cx} {objs : Store} {a b : D} {z : Bool} (h : eqD a b = some z) {u v : Value} (hu : RelA C objs (.d a) u) (hv : RelA C objs (.d b) v) :
    (∃ k m n, u = .int k m ∧ v = .int k n ∧ z = (m == n)) ∨ (∃ s t, u = .string s ∧ v = .string t ∧ z = (s.toList == t.toList)) ∨ (∃ p q, u = .bool p ∧ v = .bool q ∧ z = (p == q)) := by
  unfold eqD at h
  split at h
  · split at h
    · rename_i hk; subst hk; cases h
      exact .inl ⟨_, _, _, rel_int' hu, rel_int' hv, rfl⟩
    · cases h
  · cases h
    exact .inr (.inl ⟨_, _, rel_str hu, rel_str hv, beq_toListBytes _ _⟩)
  · cases h
    exact .inr (.inr ⟨_, _, rel_bool hu, rel_bool hv, rfl⟩)
  · cases h

theorem eqT_len1 {k : Nat} {t : TypeId} {xs ys : List A} {z : Bool} (h : eqT P k t xs ys = some z) (hag : isAggT P t = some false) : xs.length = 1 ∧ ys.length = 1 := by
  cases k with
  | zero => simp [eqT] at h
  | succ k =>
    unfold eqT at h
    unfold isAggT at hag
    split at h
    · rename_i fs hu; rw [hu] at hag; cases hag
    · split at h
      · simp
      · cases h
    · split at h
      · simp
      · cases h
    · split at h
      · simp
      · cases h
    · cases h

theorem eqT_agg {k : Nat} {t : TypeId} {xs ys : List A} {z : Bool} (h : eqT P k t xs ys = some z) : ∃ b, isAggT P t = some b := by
  cases k with
  | zero => simp [eqT] at h
  | succ k =>
    unfold eqT at h
    unfold isAggT
    split at h
    · rename_i hu; exact ⟨true, by rw [hu]⟩
    · rename_i hu; exact ⟨false, by rw [hu]⟩
    · rename_i hu; exact ⟨false, by rw [hu]⟩
    · rename_i hu; exact ⟨false, by rw [hu]⟩
    · cases h

theorem eqT_ok {C : Cx} {objs : Store} : ∀ (k : Nat) (t : TypeId) {xs ys : List A} {us vs : List Value} {z : Bool}, RelL C objs xs us → RelL C objs ys vs → eqT P k t xs ys = some z →
    ∀ (d : Nat) (w : World), k ≤ d → (isAggT P t = some true → (Op.equalIn d t (.agg us.toArray) (.agg vs.toArray)).run P w = .ok z w) ∧ (isAggT P t = some false → ∀ u v, us = [u] → vs = [v] → (Op.equalIn d t u v).run P w = .ok z w) := by
  intro k
  induction k with
  | zero => intro t xs ys us vs z _ _ h; simp [eqT] at h
  | succ k ih =>
    intro t xs ys us vs z hx hy h d w hd
    obtain ⟨d, rfl⟩ : ∃ e, d = e + 1 := ⟨d - 1, by omega⟩
    unfold eqT at h
    split at h
    · rename_i fs hu
      refine ⟨fun _ => ?_, fun hf => by unfold isAggT at hf; rw [hu] at hf; cases hf⟩
      split at h
      · cases h
      · rename_i hst
        have hst' : P.stoodInHeld t = false := by simpa using hst
        have hfo : P.fieldsOf t = fs := by unfold Program.fieldsOf; rw [hu]
        rw [run_equalIn_struct w d t _ _ (by rw [hfo]; exact hu) hst', hfo]
        have key : ∀ (l : List Field) (z : Bool), eqFs P (eqT P k) xs ys l = some z → (Op.eqFields d us.toArray vs.toArray l).run P w = .ok z w := by
          intro l
          induction l with
          | nil => intro z h; simp only [eqFs, Option.some.injEq] at h; subst h; simp [Op.eqFields]
          | cons f l ihl =>
            intro z h
            unfold eqFs at h
            split at h
            · rename_i hnm
              split at h
              · rename_i a b ha hb
                split at h
                · rename_i p hp
                  split at h
                  · rename_i q hq
                    cases h
                    obtain ⟨ag, hag⟩ := eqT_agg hp
                    obtain ⟨v1, l1, r1, q1, q2, q3⟩ := part_ok (P := P) (xs := us.toArray) (by simpa using hx) ha hag (fun e => (eqT_len1 hp (e ▸ hag)).1) w
                    obtain ⟨v2, l2, r2, p1, p2, p3⟩ := part_ok (P := P) (xs := vs.toArray) (by simpa using hy) hb hag (fun e => (eqT_len1 hp (e ▸ hag)).2) w
                    obtain ⟨k1, k2⟩ := ih f.type q1 p1 hp d w (by omega)
                    have heq : (Op.equalIn d f.type v1 v2).run P w = .ok p w := by
                      cases ag with
                      | true => rw [q2 rfl, p2 rfl]; exact k1 hag
                      | false => exact k2 hag v1 v2 (q3 rfl) (p3 rfl)
                    have := ihl q hq
                    simp only [Op.eqFields, if_pos hnm, Sem.run_bind, r1, r2, heq, Result.andThen_ok, Sem.run_ite]
                    cases p
                    · simp
                    · simpa using this
                  · cases h
                · cases h
              · cases h
            · cases h
        exact key _ _ h
    · rename_i hu
      refine ⟨(fun hf => by unfold isAggT at hf; rw [hu] at hf; cases hf), fun _ u v hu1 hv1 => ?_⟩
      subst hu1 hv1
      split at h
      · split at h
        · rename_i hk; subst hk; cases h
          rw [rel_int' (hx.head).1, rel_int' (hy.head).1]
          simp [Op.equalIn, run_under hu]
        · cases h
      · cases h
    · rename_i hu
      refine ⟨(fun hf => by unfold isAggT at hf; rw [hu] at hf; cases hf), fun _ u v hu1 hv1 => ?_⟩
      subst hu1 hv1
      split at h
      · cases h
        rw [rel_str (hx.head).1, rel_str (hy.head).1]
        simp [Op.equalIn, run_under hu]
      · cases h
    · rename_i hu
      refine ⟨(fun hf => by unfold isAggT at hf; rw [hu] at hf; cases hf), fun _ u v hu1 hv1 => ?_⟩
      subst hu1 hv1
      split at h
      · cases h
        rw [rel_bool (hx.head).1, rel_bool (hy.head).1]
        simp [Op.equalIn, run_under hu]
      · cases h
    · cases h

end Ab
