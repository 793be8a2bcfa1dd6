/- A part of the proof of a row by an interpreter that is proved sound; no conditions of its own. -/
import Derived.Test.YtpoheolnnbgebaaAbStore2
import Derived.Laws.StructEq
import Derived.Laws.BytesString
import Derived.Laws.Strings
namespace Ab
open Go

variable {P : Program}

theorem rel_int {C : Cx} {objs : Store} {x : A} {v : Value} {n : Int} (r : RelA C objs x v) (h : asInt x = some n) : ∃ k, x = .d (.int k n) ∧ v = .int k n := by
  unfold asInt at h
  split at h
  · cases h
    cases r with
    | d hd => cases hd; exact ⟨_, rfl, rfl⟩
  · cases h

theorem rel_str {C : Cx} {objs : Store} {s : ByteArray} {v : Value} (r : RelA C objs (.d (.str s)) v) : v = .string s := by
  cases r with
  | d hd => cases hd; rfl

theorem rel_bool {C : Cx} {objs : Store} {s : Bool} {v : Value} (r : RelA C objs (.d (.bool s)) v) : v = .bool s := by
  cases r with
  | d hd => cases hd; rfl

theorem rel_int' {C : Cx} {objs : Store} {k : IntKind} {n : Int} {v : Value} (r : RelA C objs (.d (.int k n)) v) : v = .int k n := by
  cases r with
  | d hd => cases hd; rfl

theorem rel_agg {C : Cx} {objs : Store} {cs : List A} {v : Value} (r : RelA C objs (.agg cs) v) : ∃ vs, v = .agg vs ∧ RelL C objs cs vs.toList := by
  cases r with
  | agg _ vs hl h => exact ⟨vs, rfl, relL_of_array hl h⟩

theorem rel_nil {C : Cx} {objs : Store} {x : A} {v : Value} {b : Bool} (r : RelA C objs x v) (h : isNil x = some b) :
    (b = true ∧ (v = .pointer none ∨ v = .nilFunc)) ∨ (b = false ∧ ((∃ a, v = .pointer (some a)) ∨ ∃ f us vs, v = .func (.func f) us vs)) := by
  cases r with
  | d hd =>
    cases hd with
    | nilp => simp [isNil] at h; subst h; exact .inl ⟨rfl, .inl rfl⟩
    | nilf => simp [isNil] at h; subst h; exact .inl ⟨rfl, .inr rfl⟩
    | _ => simp [isNil] at h
  | bp => simp [isNil] at h; subst h; exact .inr ⟨rfl, .inl ⟨_, rfl⟩⟩
  | ep => simp [isNil] at h; subst h; exact .inr ⟨rfl, .inl ⟨_, rfl⟩⟩
  | cp => simp [isNil] at h; subst h; exact .inr ⟨rfl, .inl ⟨_, rfl⟩⟩
  | fn => simp [isNil] at h; subst h; exact .inr ⟨rfl, .inr ⟨_, _, _, rfl⟩⟩
  | _ => simp [isNil] at h

theorem intOp_ok {op : BinOp} {k : IntKind} {a b : Int} {x : D} (h : intOp op k a b = some x) (hs : op ≠ .shl ∧ op ≠ .shr) (t : TypeId) (w : World) :
    ∃ v, (binOp op t (.int k a) (.int k b)).run P w = .ok v w ∧ ∀ M, RelD M x v := by
  cases op <;> simp only [intOp, cmpI, Option.map_some, Option.some.injEq] at h
  case add => subst h; exact ⟨_, by simp [binOp, Op.intArith], fun M => .int _ _⟩
  case sub => subst h; exact ⟨_, by simp [binOp, Op.intArith], fun M => .int _ _⟩
  case mul => subst h; exact ⟨_, by simp [binOp, Op.intArith], fun M => .int _ _⟩
  case quo =>
    split at h
    · cases h
    · rename_i hb; cases h
      exact ⟨.int k (k.wrap (a.tdiv b)), by simp [binOp, Op.intDiv, hb], fun M => .int _ _⟩
  case rem =>
    split at h
    · cases h
    · rename_i hb; cases h
      exact ⟨.int k (a.tmod b), by simp [binOp, Op.intDiv, hb], fun M => .int _ _⟩
  case and => subst h; exact ⟨_, by simp only [binOp, Op.intBits]; simp, fun M => .int _ _⟩
  case or => subst h; exact ⟨_, by simp only [binOp, Op.intBits]; simp, fun M => .int _ _⟩
  case xor => subst h; exact ⟨_, by simp only [binOp, Op.intBits]; simp, fun M => .int _ _⟩
  case andNot => subst h; exact ⟨_, by simp only [binOp, Op.intBits]; simp, fun M => .int _ _⟩
  case shl => exact absurd rfl hs.1
  case shr => exact absurd rfl hs.2
  case eql => subst h; exact ⟨_, by simp [binOp, Op.intCmp], fun M => .bool _⟩
  case neq => subst h; exact ⟨_, by simp [binOp, Op.intCmp], fun M => .bool _⟩
  case lss => subst h; exact ⟨_, by simp [binOp, Op.intCmp], fun M => .bool _⟩
  case leq => subst h; exact ⟨_, by simp [binOp, Op.intCmp], fun M => .bool _⟩
  case gtr => subst h; exact ⟨_, by simp [binOp, Op.intCmp], fun M => .bool _⟩
  case geq => subst h; exact ⟨_, by simp [binOp, Op.intCmp], fun M => .bool _⟩
  all_goals cases h

theorem shiftOp_ok {op : BinOp} {k k' : IntKind} {a b : Int} {x : D} (h : shiftOp op k a b = some x) (t : TypeId) (w : World) :
    ∃ v, (binOp op t (.int k a) (.int k' b)).run P w = .ok v w ∧ ∀ M, RelD M x v := by
  unfold shiftOp at h
  split at h
  · cases h
  · rename_i hb
    cases op <;> simp only [Option.some.injEq] at h
    case shl => subst h; exact ⟨_, by simp [binOp, Op.shift, hb], fun M => .int _ _⟩
    case shr => subst h; exact ⟨_, by simp [binOp, Op.shift, hb], fun M => .int _ _⟩
    all_goals cases h

theorem strOp_ok {op : BinOp} {a b : ByteArray} {x : D} (h : strOp op a b = some x) (t : TypeId) (w : World) :
    ∃ v, (binOp op t (.string a) (.string b)).run P w = .ok v w ∧ ∀ M, RelD M x v := by
  cases op <;> simp only [strOp, Option.some.injEq] at h
  case add =>
    split at h
    · rename_i hb; cases h
      refine ⟨.string (a ++ b), ?_, fun M => .str _⟩
      have : ¬ (((a.size + b.size : Nat) : Int) > IntKind.i64.max) := by
        have : IntKind.i64.max = 9223372036854775807 := by decide
        rw [this]; omega
      simp only [binOp, Op.stringOp, this, if_false]; rfl
    · cases h
  case eql => subst h; exact ⟨_, rfl, fun M => .bool _⟩
  case neq => subst h; exact ⟨_, rfl, fun M => .bool _⟩
  case lss => subst h; exact ⟨_, rfl, fun M => .bool _⟩
  case leq => subst h; exact ⟨_, rfl, fun M => .bool _⟩
  case gtr => subst h; exact ⟨_, rfl, fun M => .bool _⟩
  case geq => subst h; exact ⟨_, rfl, fun M => .bool _⟩
  all_goals cases h

theorem part_ok {C : Cx} {objs : Store} {xs : Array Value} {cs ys : List A} (r : RelL C objs cs xs.toList) {t : TypeId} {off : Nat} (h : partA P t cs off = some ys) {ag : Bool} (hag : isAggT P t = some ag) (h1 : ag = false → ys.length = 1) (w : World) :
    ∃ v us, (part t xs off).run P w = .ok v w ∧ RelL C objs ys us ∧ (ag = true → v = .agg us.toArray) ∧ (ag = false → us = [v]) := by
  unfold partA at h
  split at h
  · rename_i n hn
    split at h
    · rename_i hle
      cases h
      have hl : off + n ≤ xs.size := by have := r.1; simp at this; omega
      have hr := (r.drop off).take n
      cases ag with
      | true =>
        refine ⟨.agg ((xs.toList.drop off).take n).toArray, _, ?_, hr, fun _ => rfl, fun h => by cases h⟩
        have e : ((xs.toList.drop off).take n).toArray = xs.extract off (off + n) := by
          apply Array.ext'
          simp [List.take_drop, Array.toList_extract]
        rw [e]
        simp [part, run_isAgg' hag, run_sizeOf' hn]
      | false =>
        have hn1 : n = 1 := by have := h1 rfl; simp at this; omega
        subst hn1
        have hlt : off < xs.size := by omega
        refine ⟨xs[off], _, ?_, hr, (fun h => by cases h), fun _ => ?_⟩
        · simp [part, run_isAgg' hag, hlt]
        · rw [List.drop_eq_getElem_cons (by simpa using hlt)]; simp
    · cases h
  · cases h

theorem eqD_rel {C : Cx} {objs : Store} {a b : D} {z : Bool} (h : eqD a b = some z) {u v : Value} (hu : RelA C objs (.d a) u) (hv : RelA C objs (.d b) v) :
    (∃ k m n, u = .int k m ∧ v = .int k n ∧ z = (m == n)) ∨ (∃ s t, u = .string s ∧ v = .string t ∧ z = (s.toList == t.toList)) ∨ (∃ p q, u = .bool p ∧ v = .bool q ∧ z = (p == q)) := by
  unfold eqD at h
  split at h
  · split at h
    · rename_i hk; subst hk; cases h
      exact .inl ⟨_, _, _, rel_int' hu, rel_int' hv, rfl⟩
    · cases h
  · cases h
    exact .inr (.inl ⟨_, _, rel_str hu, rel_str hv, beq_toListBytes _ _⟩)
  · cases h
    exact .inr (.inr ⟨_, _, rel_bool hu, rel_bool hv, rfl⟩)
  · cases h

theorem eqT_len1 {k : Nat} {t : TypeId} {xs ys : List A} {z : Bool} (h : eqT P k t xs ys = some z) (hag : isAggT P t = some false) : xs.length = 1 ∧ ys.length = 1 := by
  cases k with
  | zero => simp [eqT] at h
  | succ k =>
    unfold eqT at h
    unfold isAggT at hag
    split at h
    · rename_i fs hu; rw [hu] at hag; cases hag
    · split at h
      · simp
      · cases h
    · split at h
      · simp
      · cases h
    · split at h
      · simp
      · cases h
    · cases h

theorem eqT_agg {k : Nat} {t : TypeId} {xs ys : List A} {z : Bool} (h : eqT P k t xs ys = some z) : ∃ b, isAggT P t = some b := by
  cases k with
  | zero => simp [eqT] at h
  | succ k =>
    unfold eqT at h
    unfold isAggT
    split at h
    · rename_i hu; exact ⟨true, by rw [hu]⟩
    · rename_i hu; exact ⟨false, by rw [hu]⟩
    · rename_i hu; exact ⟨false, by rw [hu]⟩
    · rename_i hu; exact ⟨false, by rw [hu]⟩
    · cases h

theorem eqT_ok {C : Cx} {objs : Store} : ∀ (k : Nat) (t : TypeId) {xs ys : List A} {us vs : List Value} {z : Bool}, RelL C objs xs us → RelL C objs ys vs → eqT P k t xs ys = some z →
    ∀ (d : Nat) (w : World), k ≤ d → (isAggT P t = some true → (Op.equalIn d t (.agg us.toArray) (.agg vs.toArray)).run P w = .ok z w) ∧ (isAggT P t = some false → ∀ u v, us = [u] → vs = [v] → (Op.equalIn d t u v).run P w = .ok z w) := by
  intro k
  induction k with
  | zero => intro t xs ys us vs z _ _ h; simp [eqT] at h
  | succ k ih =>
    intro t xs ys us vs z hx hy h d w hd
    obtain ⟨d, rfl⟩ : ∃ e, d = e + 1 := ⟨d - 1, by omega⟩
    unfold eqT at h
    split at h
    · rename_i fs hu
      refine ⟨fun _ => ?_, fun hf => by unfold isAggT at hf; rw [hu] at hf; cases hf⟩
      split at h
      · cases h
      · rename_i hst
        have hst' : P.stoodInHeld t = false := by simpa using hst
        have hfo : P.fieldsOf t = fs := by unfold Program.fieldsOf; rw [hu]
        rw [run_equalIn_struct w d t _ _ (by rw [hfo]; exact hu) hst', hfo]
        have key : ∀ (l : List Field) (z : Bool), eqFs P (eqT P k) xs ys l = some z → (Op.eqFields d us.toArray vs.toArray l).run P w = .ok z w := by
          intro l
          induction l with
          | nil => intro z h; simp only [eqFs, Option.some.injEq] at h; subst h; simp [Op.eqFields]
          | cons f l ihl =>
            intro z h
            unfold eqFs at h
            split at h
            · rename_i hnm
              split at h
              · rename_i a b ha hb
                split at h
                · rename_i p hp
                  split at h
                  · rename_i q hq
                    cases h
                    obtain ⟨ag, hag⟩ := eqT_agg hp
                    obtain ⟨v1, l1, r1, q1, q2, q3⟩ := part_ok (P := P) (xs := us.toArray) (by simpa using hx) ha hag (fun e => (eqT_len1 hp (e ▸ hag)).1) w
                    obtain ⟨v2, l2, r2, p1, p2, p3⟩ := part_ok (P := P) (xs := vs.toArray) (by simpa using hy) hb hag (fun e => (eqT_len1 hp (e ▸ hag)).2) w
                    obtain ⟨k1, k2⟩ := ih f.type q1 p1 hp d w (by omega)
                    have heq : (Op.equalIn d f.type v1 v2).run P w = .ok p w := by
                      cases ag with
                      | true => rw [q2 rfl, p2 rfl]; exact k1 hag
                      | false => exact k2 hag v1 v2 (q3 rfl) (p3 rfl)
                    have := ihl q hq
                    simp only [Op.eqFields, if_pos hnm, Sem.run_bind, r1, r2, heq, Result.andThen_ok, Sem.run_ite]
                    cases p
                    · simp
                    · simpa using this
                  · cases h
                · cases h
              · cases h
            · cases h
        exact key _ _ h
    · rename_i hu
      refine ⟨(fun hf => by unfold isAggT at hf; rw [hu] at hf; cases hf), fun _ u v hu1 hv1 => ?_⟩
      subst hu1 hv1
      split at h
      · split at h
        · rename_i hk; subst hk; cases h
          rw [rel_int' (hx.head).1, rel_int' (hy.head).1]
          simp [Op.equalIn, run_under hu]
        · cases h
      · cases h
    · rename_i hu
      refine ⟨(fun hf => by unfold isAggT at hf; rw [hu] at hf; cases hf), fun _ u v hu1 hv1 => ?_⟩
      subst hu1 hv1
      split at h
      · cases h
        rw [rel_str (hx.head).1, rel_str (hy.head).1]
        simp [Op.equalIn, run_under hu]
      · cases h
    · rename_i hu
      refine ⟨(fun hf => by unfold isAggT at hf; rw [hu] at hf; cases hf), fun _ u v hu1 hv1 => ?_⟩
      subst hu1 hv1
      split at h
      · cases h
        rw [rel_bool (hx.head).1, rel_bool (hy.head).1]
        simp [Op.equalIn, run_under hu]
      · cases h
    · cases h

end Ab
namespace Ab
open Go

variable {P : Program}

/-- A value that leaves everything as it is. -/
def Gives (P : Program) (C : Cx) (objs : Store) (w : World) (s : Sem Value) (x : A) : Prop := ∃ v, s.run P w = .ok v w ∧ RelA C objs x v

theorem Gives.yields {C : Cx} {objs : Store} {w : World} {s : Sem Value} {x : A} (g : Good C objs w) (h : Gives P C objs w s x) : Yields P C objs w s x objs := by
  obtain ⟨v, h1, h2⟩ := h; exact .same g h1 h2

theorem rel_nilP {C : Cx} {objs : Store} {x : A} {v : Value} {b : Bool} (r : RelA C objs x v) (h : isNilP x = some b) : (b = true ∧ v = .pointer none) ∨ (b = false ∧ ∃ a, v = .pointer (some a)) := by
  cases r with
  | d hd =>
    cases hd with
    | nilp => simp [isNilP] at h; subst h; exact .inl ⟨rfl, rfl⟩
    | _ => simp [isNilP] at h
  | bp => simp [isNilP] at h; subst h; exact .inr ⟨rfl, _, rfl⟩
  | ep => simp [isNilP] at h; subst h; exact .inr ⟨rfl, _, rfl⟩
  | cp => simp [isNilP] at h; subst h; exact .inr ⟨rfl, _, rfl⟩
  | _ => simp [isNilP] at h

theorem rel_nilF {C : Cx} {objs : Store} {x : A} {v : Value} {b : Bool} (r : RelA C objs x v) (h : isNilF x = some b) : (b = true ∧ v = .nilFunc) ∨ (b = false ∧ ∃ f us vs, v = .func f us vs) := by
  cases r with
  | d hd =>
    cases hd with
    | nilf => simp [isNilF] at h; subst h; exact .inl ⟨rfl, rfl⟩
    | _ => simp [isNilF] at h
  | fn => simp [isNilF] at h; subst h; exact .inr ⟨rfl, _, _, _, rfl⟩
  | _ => simp [isNilF] at h

theorem nilOp_split {op : BinOp} {x y : Option Bool} {z : A} (h : nilOp op x y = some z) : ∃ p q, x = some p ∧ y = some q ∧ (p || q) = true ∧ ((op = .eql ∧ z = .d (.bool (p && q))) ∨ (op = .neq ∧ z = .d (.bool !(p && q)))) := by
  unfold nilOp at h
  split at h
  · rename_i p q
    split at h
    · rename_i hor
      split at h
      · cases h; exact ⟨p, q, rfl, rfl, hor, .inl ⟨rfl, rfl⟩⟩
      · cases h; exact ⟨p, q, rfl, rfl, hor, .inr ⟨rfl, rfl⟩⟩
      · cases h
    · cases h
  · cases h

theorem binA_ok {C : Cx} {objs : Store} {w : World} {op : BinOp} {t : TypeId} {x y z : A} {u v : Value} (rx : RelA C objs x u) (ry : RelA C objs y v) (h : binA P op t x y = some z) (xo yo : Operand) :
    Gives P C objs w (do eqGuard op t xo yo u v; binOp op t u v) z := by
  have plain : ∀ (u v : Value), (∀ as bs, ¬ (u = .agg as ∧ v = .agg bs)) → (¬ (u = .nilIface ∧ v = .nilIface)) → (eqGuard op t xo yo u v).run P w = .ok () w := by
    intro u v h1 h2
    cases op <;> first
      | rfl
      | (simp only [eqGuard]
         split
         · rfl
         · split
           · exact absurd ⟨rfl, rfl⟩ h2
           · exact absurd ⟨rfl, rfl⟩ (h1 _ _)
           · rfl)
  unfold binA at h
  split at h
  · rename_i k a k' b
    have hu := rel_int' rx; have hv := rel_int' ry
    subst hu hv
    have hg := plain (.int k a) (.int k' b) (by intro as bs h; cases h.1) (by intro h; cases h.1)
    simp only [Option.map_eq_some_iff] at h
    obtain ⟨d, hd, rfl⟩ := h
    have : ∃ v, (binOp op t (.int k a) (.int k' b)).run P w = .ok v w ∧ ∀ M, RelD M d v := by
      split at hd
      · exact shiftOp_ok hd t w
      · exact shiftOp_ok hd t w
      · rename_i h1 h2
        split at hd
        · rename_i hk; subst hk
          exact intOp_ok hd ⟨h1, h2⟩ t w
        · cases hd
    obtain ⟨v, h1, h2⟩ := this
    exact ⟨v, by simp [hg, h1], .d (h2 _)⟩
  · rename_i a b
    have hu := rel_str rx; have hv := rel_str ry
    subst hu hv
    have hg := plain (.string a) (.string b) (by intro as bs h; cases h.1) (by intro h; cases h.1)
    simp only [Option.map_eq_some_iff] at h
    obtain ⟨d, hd, rfl⟩ := h
    obtain ⟨v, h1, h2⟩ := strOp_ok (P := P) hd t w
    exact ⟨v, by simp [hg, h1], .d (h2 _)⟩
  · rename_i a b
    have hu := rel_bool rx; have hv := rel_bool ry
    subst hu hv
    have hg := plain (.bool a) (.bool b) (by intro as bs h; cases h.1) (by intro h; cases h.1)
    split at h
    · rename_i hu
      split at h
      · cases h
        exact ⟨.bool (a == b), by simp [hg, run_eql_bool w t a b hu], .d (.bool _)⟩
      · cases h
        exact ⟨.bool !(a == b), by simp [hg, binOp, Op.equal, Op.maxDepth, run_equalIn_bool w _ t a b hu], .d (.bool _)⟩
      · cases h
    · cases h
  · rename_i as bs
    obtain ⟨us, rfl, hr1⟩ := rel_agg rx
    obtain ⟨vs, rfl, hr2⟩ := rel_agg ry
    split at h
    · rename_i hmm
      obtain ⟨hm, hag⟩ := hmm
      split at h
      · rename_i q hq
        have heq := ((eqT_ok 8 t hr1 hr2 hq 10000 w (by omega)).1 hag)
        simp only [Array.toArray_toList] at heq
        split at h
        · cases h
          exact ⟨.bool q, by simp [run_eqGuard_agg w _ t xo yo us vs hm, run_eql_struct, heq], .d (.bool _)⟩
        · cases h
          exact ⟨.bool !q, by simp [run_eqGuard_agg w _ t xo yo us vs hm, run_neq_struct, heq], .d (.bool _)⟩
        · cases h
      · cases h
    · cases h
  · split at h
    · rename_i e hu
      obtain ⟨p, q, hp, hq, hor, hz⟩ := nilOp_split h
      have hx := rel_nilP rx hp
      have hy := rel_nilP ry hq
      have hg := plain u v (by rcases hx with ⟨_, rfl⟩ | ⟨_, a, rfl⟩ <;> intro as bs h <;> cases h.1) (by rcases hx with ⟨_, rfl⟩ | ⟨_, a, rfl⟩ <;> intro h <;> cases h.1)
      have heq0 : ∀ d, (Op.equalIn (d + 1) t u v).run P w = .ok (p && q) w := by
        intro d
        rcases hx with ⟨rfl, rfl⟩ | ⟨rfl, a, rfl⟩ <;> rcases hy with ⟨rfl, rfl⟩ | ⟨rfl, b, rfl⟩ <;> first | (simp [Op.equalIn, run_under hu]; done) | simp at hor
      have heq : (Op.equalIn 10000 t u v).run P w = .ok (p && q) w := heq0 9999
      rcases hz with ⟨rfl, rfl⟩ | ⟨rfl, rfl⟩
      · refine ⟨.bool (p && q), ?_, .d (.bool _)⟩
        have : (binOp .eql t u v).run P w = .ok (.bool (p && q)) w := by
          rcases hx with ⟨_, rfl⟩ | ⟨_, a, rfl⟩ <;> rcases hy with ⟨_, rfl⟩ | ⟨_, b, rfl⟩ <;> simp [binOp, Op.equal, Op.maxDepth, heq]
        simp [hg, this]
      · refine ⟨.bool !(p && q), ?_, .d (.bool _)⟩
        have : (binOp .neq t u v).run P w = .ok (.bool !(p && q)) w := by
          rcases hx with ⟨_, rfl⟩ | ⟨_, a, rfl⟩ <;> rcases hy with ⟨_, rfl⟩ | ⟨_, b, rfl⟩ <;> simp [binOp, Op.equal, Op.maxDepth, heq]
        simp [hg, this]
    · rename_i p1 p2 p3 hu
      obtain ⟨p, q, hp, hq, hor, hz⟩ := nilOp_split h
      have hx := rel_nilF rx hp
      have hy := rel_nilF ry hq
      have hg := plain u v (by rcases hx with ⟨_, rfl⟩ | ⟨_, a, b, c, rfl⟩ <;> intro as bs h <;> cases h.1) (by rcases hx with ⟨_, rfl⟩ | ⟨_, a, b, c, rfl⟩ <;> intro h <;> cases h.1)
      have heq0 : ∀ d, (Op.equalIn (d + 1) t u v).run P w = .ok (p && q) w := by
        intro d
        rcases hx with ⟨rfl, rfl⟩ | ⟨rfl, a, b, c, rfl⟩ <;> rcases hy with ⟨rfl, rfl⟩ | ⟨rfl, a', b', c', rfl⟩ <;> first | (simp [Op.equalIn, run_under hu]; done) | simp at hor
      have heq : (Op.equalIn 10000 t u v).run P w = .ok (p && q) w := heq0 9999
      rcases hz with ⟨rfl, rfl⟩ | ⟨rfl, rfl⟩
      · refine ⟨.bool (p && q), ?_, .d (.bool _)⟩
        have : (binOp .eql t u v).run P w = .ok (.bool (p && q)) w := by
          rcases hx with ⟨_, rfl⟩ | ⟨_, a, b, c, rfl⟩ <;> rcases hy with ⟨_, rfl⟩ | ⟨_, a', b', c', rfl⟩ <;> simp [binOp, Op.equal, Op.maxDepth, heq]
        simp [hg, this]
      · refine ⟨.bool !(p && q), ?_, .d (.bool _)⟩
        have : (binOp .neq t u v).run P w = .ok (.bool !(p && q)) w := by
          rcases hx with ⟨_, rfl⟩ | ⟨_, a, b, c, rfl⟩ <;> rcases hy with ⟨_, rfl⟩ | ⟨_, a', b', c', rfl⟩ <;> simp [binOp, Op.equal, Op.maxDepth, heq]
        simp [hg, this]
    · cases h

end Ab
namespace Ab
open Go

variable {P : Program}

theorem add_add' (a : Addr) (i j : Nat) : (a.add i).add j = a.add (i + j) := by
  obtain ⟨b, o, s⟩ := a
  unfold Addr.add
  by_cases hi : i = 0
  · subst hi; simp
  · by_cases hj : j = 0
    · subst hj; simp [hi]
    · simp [hi, hj]; omega

theorem fieldAddr_ok {C : Cx} {objs : Store} {w : World} {s : TypeId} {f o n : Nat} {ag : Bool} (hf : fieldT P s f = some (o, n, ag)) (hn : 0 < n) {x : A} {v : Value} (r : RelA C objs x v) {y : A}
    (h : faA o x = some y) :
    Gives P C objs w (Instr.fieldAt s v f) y := by
  unfold fieldT at hf
  split at hf
  · rename_i fs hu
    split at hf
    · rename_i fl hfl
      split at hf
      · rename_i z b hz hb
        cases hf
        have run : ∀ ad, (Instr.fieldAt s (.pointer (some ad)) f).run P w = .ok (.pointer (some (ad.add fl.offset))) w := by
          intro ad
          have hz0 : n ≠ 0 := by omega
          simp [Instr.fieldAt, run_under hu, hfl, Instr.sureAddr, fieldPlace, run_sizeOf' hz, hz0]
        cases r with
        | bp id off b m cs ho hbb =>
          simp only [faA, Option.some.injEq] at h; subst h
          exact ⟨_, run _, by rw [add_plain']; exact .bp id _ b m cs ho hbb⟩
        | ep id i off m p sz es fr ho hle hcur =>
          simp only [faA, Option.some.injEq] at h; subst h
          refine ⟨_, run _, .ep id i _ m _ sz es fr ho hle fun hm => ?_⟩
          obtain ⟨b, N, h1, h2, h3⟩ := hcur hm
          exact ⟨b, N, h1, by rw [h2, add_plain', Nat.add_assoc], h3⟩
        | cp cs ad u hr hm =>
          simp only [faA, Option.some.injEq] at h; subst h
          refine ⟨_, run _, .cp _ _ (fun j => u (fl.offset + j)) (fun j c hc => ?_) (fun j hj => ?_)⟩
          · rw [List.getElem?_drop] at hc; exact hr _ c hc
          · rw [add_add']; exact hm _ (by simp at hj; omega)
        | _ => simp [faA] at h
      · cases hf
    · cases hf
  · cases hf

theorem cellsTo_len {ag : Bool} {cs : List A} {x : A} (h : cellsTo ag cs = some x) : ag = false → cs.length = 1 := by
  intro ha; subst ha
  unfold cellsTo at h
  simp at h
  split at h
  · rfl
  · cases h

theorem part_gives {C : Cx} {objs : Store} {w : World} {xs : Array Value} {cs : List A} (r : RelL C objs cs xs.toList) {t : TypeId} {o n : Nat} {ag : Bool} (hn : sizeT P t = some n) (hag : isAggT P t = some ag) (hl : o + n ≤ cs.length) {x : A}
    (h : cellsTo ag ((cs.drop o).take n) = some x) : Gives P C objs w (part t xs o) x := by
  have hp : partA P t cs o = some ((cs.drop o).take n) := by unfold partA; rw [hn]; simp [hl]
  obtain ⟨v, us, h1, h2, h3, h4⟩ := part_ok r hp hag (fun e => cellsTo_len h e) w
  obtain ⟨k1, k2⟩ := cellsTo_rel h2 h
  cases ag with
  | true => exact ⟨v, h1, by rw [h3 rfl]; exact k1 rfl⟩
  | false =>
    obtain ⟨u, hu, k3⟩ := k2 rfl
    rw [h4 rfl] at hu; cases hu
    exact ⟨v, h1, k3⟩

theorem field_ok {C : Cx} {objs : Store} {w : World} {s : TypeId} {f o n : Nat} {ag : Bool} (hf : fieldT P s f = some (o, n, ag)) {cs : List A} {v : Value} (r : RelA C objs (.agg cs) v) (hl : o + n ≤ cs.length) {x : A}
    (h : cellsTo ag ((cs.drop o).take n) = some x) : Gives P C objs w (Instr.field s v f) x := by
  unfold fieldT at hf
  split at hf
  · rename_i fs hu
    split at hf
    · rename_i fl hfl
      split at hf
      · rename_i z b hz hb
        cases hf
        obtain ⟨vs, rfl, hr⟩ := rel_agg r
        obtain ⟨u, h1, h2⟩ := part_gives (w := w) hr hz hb hl h
        exact ⟨u, by simp [Instr.field, run_under hu, hfl, asAgg, h1], h2⟩
      · cases hf
    · cases hf
  · cases hf

theorem indexAddr_ok {C : Cx} {objs : Store} {w : World} {t : TypeId} {x i y : A} {v vi : Value} (rx : RelA C objs x v) (ri : RelA C objs i vi) (h : indexAddrA P objs t x i = some y) :
    Gives P C objs w (Instr.indexAt t v vi) y := by
  unfold indexAddrA at h
  split at h
  · cases h
  rename_i n hi
  obtain ⟨k, rfl, rfl⟩ := rel_int ri hi
  split at h
  · rename_i h0
    cases rx with
    | d hd =>
      cases hd with
      | sl sz es a cap u hc hz hr hm =>
        simp only at h
        split at h
        · rename_i z by_ he
          split at h
          · rename_i hzz
            obtain ⟨rfl, hpos⟩ := hzz
            split at h
            · rename_i e hee
              cases h
              unfold elemT at he
              split at he
              · rename_i te hu
                simp only [Option.map_eq_some_iff, Prod.mk.injEq] at he
                obtain ⟨inf, hinf, hsz, hby⟩ := he
                have hlt : n.toNat < es.length := (List.getElem?_eq_some_iff.1 hee).1
                have hel : e.length = z := hz e (List.mem_of_getElem? hee)
                obtain ⟨ad, rfl, _⟩ := hm _ e 0 hee (by omega)
                refine ⟨.pointer (some (ad.add (n.toNat * z))), ?_, .cp e _ (u n.toNat) (fun j c hc => hr _ _ e c hee hc) (fun j hj => ?_)⟩
                · have hs : sizeT P te = some z := by unfold sizeT; rw [hinf]; simp [hsz]
                  have h1 : 0 ≤ n ∧ n < (es.length : Int) := by omega
                  simp [Instr.indexAt, asIntOf, run_under hu, h1, run_sizeOf' hs]
                · obtain ⟨ad', h1, h2⟩ := hm _ e j hee hj
                  cases h1
                  rw [add_add']; exact h2
              · cases he
            · cases h
          · cases h
        · cases h
      | _ => simp at h
    | arr id off len m a cap sz es fr ho hle hc hcur =>
      simp only at h
      rw [getO_some ho] at h
      split at h
      · rename_i z by_ sz' es' fr' he heq
        cases heq
        split at h
        · rename_i hcond
          obtain ⟨rfl, hlt, hm, hfit⟩ := hcond
          cases h
          unfold elemT at he
          split at he
          · rename_i te hu
            simp only [Option.map_eq_some_iff, Prod.mk.injEq] at he
            obtain ⟨inf, hinf, hsz, hby⟩ := he
            obtain ⟨k1, k2, k3⟩ := hcur hm
            rcases k3 with ⟨_, p2, _⟩ | ⟨b, N, p1, p2, p3⟩
            · omega
            · have ha := p2 (by omega)
              subst ha
              refine ⟨.pointer (some ((⟨b, off * z, none⟩ : Addr).add (n.toNat * z))), ?_, .ep id _ 0 m _ z es fr ho hle fun _ => ⟨b, N, p1, ?_, by omega⟩⟩
              · have hs : sizeT P te = some z := by unfold sizeT; rw [hinf]; simp [hsz]
                have h1 : 0 ≤ n ∧ n < (len : Int) := by omega
                simp [Instr.indexAt, asIntOf, run_under hu, h1, run_sizeOf' hs]
              · rw [add_plain', ← Nat.add_mul, Nat.add_zero]
          · cases he
        · cases h
      · cases h
    | bp id off b m cs ho hb =>
      simp only at h
      split at h
      · rename_i len te hu
        split at h
        · rename_i z hz
          split at h
          · rename_i hlt
            cases h
            refine ⟨.pointer (some ((⟨b, off, none⟩ : Addr).add (n.toNat * z))), ?_, by rw [add_plain']; exact .bp id _ b m cs ho hb⟩
            have h1 : 0 ≤ n ∧ n < (len : Int) := ⟨h0, hlt⟩
            simp [Instr.indexAt, asIntOf, run_under hu, Instr.sureAddr, h1, run_sizeOf' hz]
          · cases h
        · cases h
      · cases h
    | cp cs ad u hr hm =>
      simp only at h
      split at h
      · rename_i len te hu
        split at h
        · rename_i z hz
          split at h
          · rename_i hlt
            cases h
            refine ⟨.pointer (some (ad.add (n.toNat * z))), ?_, .cp _ _ (fun j => u (n.toNat * z + j)) (fun j c hc => ?_) (fun j hj => ?_)⟩
            · have h1 : 0 ≤ n ∧ n < (len : Int) := ⟨h0, hlt⟩
              simp [Instr.indexAt, asIntOf, run_under hu, Instr.sureAddr, h1, run_sizeOf' hz]
            · rw [List.getElem?_drop] at hc; exact hr _ c hc
            · rw [add_add']; exact hm _ (by simp at hj; omega)
          · cases h
        · cases h
      · cases h
    | _ => simp at h
  · cases h

theorem lenA_ok {C : Cx} {objs : Store} {x : A} {v : Value} {n : Int} (r : RelA C objs x v) (h : lenA x = some n) :
    (∃ a c m : Nat, ∃ b : Option Addr, v = .slice b m c ∧ n = m ∧ m ≤ c ∧ a = 0) ∨ (∃ s : ByteArray, v = .string s ∧ n = s.size) ∨ (v = .map none ∧ n = 0) := by
  cases r with
  | d hd =>
    cases hd with
    | sl sz es a cap u hc => simp [lenA] at h; exact .inl ⟨0, cap, es.length, a, rfl, h.symm, hc, rfl⟩
    | str s => simp [lenA] at h; exact .inr (.inl ⟨s, rfl, h.symm⟩)
    | _ => simp [lenA] at h
  | nilsl g a => simp [lenA] at h; exact .inl ⟨0, 0, 0, a, rfl, h.symm, Nat.le_refl _, rfl⟩
  | nilm => simp [lenA] at h; exact .inr (.inr ⟨rfl, h.symm⟩)
  | arr id off len n a cap sz es fr ho hn hc hcur => simp [lenA] at h; exact .inl ⟨0, cap, len, a, rfl, h.symm, hc, rfl⟩
  | _ => simp [lenA] at h

end Ab
namespace Ab
open Go

variable {P : Program}

theorem elemT_split {t : TypeId} {z b : Nat} (h : elemT P t = some (z, b)) : ∃ e i, P.underlying t = some (.slice e) ∧ P.info? e = some i ∧ i.size = z ∧ i.bytes = b ∧ sizeT P e = some z := by
  unfold elemT at h
  split at h
  · rename_i e hu
    simp only [Option.map_eq_some_iff, Prod.mk.injEq] at h
    obtain ⟨i, h1, h2, h3⟩ := h
    exact ⟨e, i, hu, h1, h2, h3, by unfold sizeT; rw [h1]; simp [h2]⟩
  · cases h

def RelO (C : Cx) (objs : Store) : Option A → Option Value → Prop
  | none, none => True
  | some x, some v => RelA C objs x v
  | _, _ => False

theorem bound_ok {k : IntKind} {i : Int} {y : Nat} {c : BoundsCode} (h : 0 ≤ i ∧ i ≤ (y : Int)) (w : World) : (Instr.sliceBound (.int k i) y c).run P w = .ok i.toNat w := by
  simp [Instr.sliceBound, asIntOf, h]

theorem bounds_ok {C : Cx} {objs : Store} {w : World} (isSlice : Bool) {len cap : Nat} {lo hi mx : Option A} {lv hv mv : Option Value} (rl : RelO C objs lo lv) (rh : RelO C objs hi hv) (rm : RelO C objs mx mv) {l h m : Int}
    (hl : boundI 0 lo = some l) (hh : boundI len hi = some h) (hm : boundI len mx = some m)
    (hc : 0 ≤ l ∧ l ≤ h ∧ h ≤ m ∧ m ≤ (len : Int) ∧ (mx.isSome → hi.isSome)) (hlc : len ≤ cap) :
    ∃ M : Nat, (Instr.sliceBounds isSlice len cap lv hv mv).run P w = .ok (l.toNat, h.toNat, M) w ∧ h.toNat ≤ M ∧ (mx = none → M = cap) ∧ (mx.isSome → M = m.toNat) := by
  obtain ⟨c1, c2, c3, c4, c5⟩ := hc
  unfold boundI at hl hh hm
  cases mx with
  | none =>
    cases mv with
    | some v => exact rm.elim
    | none =>
      refine ⟨cap, ?_, by simp at hm; omega, fun _ => rfl, fun h => by simp at h⟩
      simp only [Option.some.injEq] at hm
      cases hi with
      | none =>
        cases hv with
        | some v => exact rh.elim
        | none =>
          simp only [Option.some.injEq] at hh
          have hh' : len = h.toNat := by omega
          cases lo with
          | none =>
            cases lv with
            | some v => exact rl.elim
            | none =>
              simp only [Option.some.injEq] at hl
              have hl' : l.toNat = 0 := by omega
              simp [Instr.sliceBounds, hh', hl']
          | some a =>
            cases lv with
            | none => exact rl.elim
            | some v =>
              obtain ⟨k, rfl, rfl⟩ := rel_int rl hl
              simp [Instr.sliceBounds, hh']
              rw [bound_ok ⟨c1, by omega⟩]; rfl
      | some a =>
        cases hv with
        | none => exact rh.elim
        | some v =>
          obtain ⟨k, rfl, rfl⟩ := rel_int rh hh
          cases lo with
          | none =>
            cases lv with
            | some v => exact rl.elim
            | none =>
              simp only [Option.some.injEq] at hl
              have hl' : l.toNat = 0 := by omega
              simp only [Instr.sliceBounds, Sem.run_bind, Sem.run_pure, Result.andThen_ok, bound_ok (P := P) (k := k) (i := h) (y := cap) ⟨by omega, by omega⟩, hl']
          | some b =>
            cases lv with
            | none => exact rl.elim
            | some v =>
              obtain ⟨k', rfl, rfl⟩ := rel_int rl hl
              simp only [Instr.sliceBounds, Sem.run_bind, Sem.run_pure, Result.andThen_ok, bound_ok (P := P) (k := k) (i := h) (y := cap) ⟨by omega, by omega⟩]
              rw [bound_ok ⟨c1, by omega⟩]; rfl
  | some a =>
    cases mv with
    | none => exact rm.elim
    | some v =>
      obtain ⟨k, rfl, rfl⟩ := rel_int rm hm
      refine ⟨m.toNat, ?_, by omega, fun h => by simp at h, fun _ => rfl⟩
      cases hi with
      | none => exact absurd (c5 rfl) (by simp)
      | some a =>
        cases hv with
        | none => exact rh.elim
        | some v =>
          obtain ⟨k2, rfl, rfl⟩ := rel_int rh hh
          cases lo with
          | none =>
            cases lv with
            | some v => exact rl.elim
            | none =>
              simp only [Option.some.injEq] at hl
              have hl' : l.toNat = 0 := by omega
              simp only [Instr.sliceBounds, Sem.run_bind, Sem.run_pure, Result.andThen_ok, bound_ok (P := P) (k := k) (i := m) (y := cap) ⟨by omega, by omega⟩,
                bound_ok (P := P) (k := k2) (i := h) (y := m.toNat) ⟨by omega, by omega⟩, hl']
          | some b =>
            cases lv with
            | none => exact rl.elim
            | some v =>
              obtain ⟨k', rfl, rfl⟩ := rel_int rl hl
              simp only [Instr.sliceBounds, Sem.run_bind, Sem.run_pure, Result.andThen_ok, bound_ok (P := P) (k := k) (i := m) (y := cap) ⟨by omega, by omega⟩,
                bound_ok (P := P) (k := k2) (i := h) (y := m.toNat) ⟨by omega, by omega⟩]
              rw [bound_ok ⟨c1, by omega⟩]; rfl

/-- A sealed slice, cut. -/
theorem sl_cut {M : Mem} {sz : Nat} {es : List (List D)} {a : Option Addr} {cap l h m : Nat} (r : RelD M (.sl sz es) (.slice a es.length cap)) (h1 : l ≤ h) (h2 : h ≤ es.length) (h3 : h ≤ m) :
    RelD M (.sl sz ((es.take h).drop l)) (.slice (if m = l then a else a.map (·.add (l * sz))) (h - l) (m - l)) := by
  cases r with
  | sl _ _ _ _ u hc hz hr hm =>
    have hlen : ((es.take h).drop l).length = h - l := by simp; omega
    have hsub : ∀ i e, ((es.take h).drop l)[i]? = some e → es[l + i]? = some e ∧ l + i < h := by
      intro i e he
      rw [List.getElem?_drop, List.getElem?_take] at he
      split at he
      · exact ⟨he, by assumption⟩
      · cases he
    have key := RelD.sl (M := M) sz ((es.take h).drop l) (if m = l then a else a.map (·.add (l * sz))) (m - l) (fun i j => u (l + i) j) (by omega)
      (fun e he => hz e (List.mem_of_mem_take (List.mem_of_mem_drop he))) (fun i j e c he hc => hr _ j e c (hsub i e he).1 hc) (fun i e j he hj => ?_)
    · rw [hlen] at key; exact key
    · obtain ⟨he', hi⟩ := hsub i e he
      obtain ⟨ad, h4, h5⟩ := hm _ e j he' hj
      subst h4
      rw [if_neg (by omega)]
      refine ⟨_, rfl, ?_⟩
      rw [add_add']
      have : l * sz + (i * sz + j) = (l + i) * sz + j := by rw [Nat.add_mul]; omega
      rw [this]; exact h5

theorem sliceA_ok {C : Cx} {objs : Store} {w : World} (g : Good C objs w) {t : TypeId} {x y : A} {objs' : Store} {lo hi mx : Option A} {v : Value} {lv hv mv : Option Value} (rx : RelA C objs x v) (rl : RelO C objs lo lv) (rh : RelO C objs hi hv) (rm : RelO C objs mx mv)
    (hs : sliceA P objs t x lo hi mx = some (y, objs')) : Yields P C objs w (Instr.sliceAt t v lv hv mv) y objs' := by
  unfold sliceA at hs
  split at hs
  · cases hs
  rename_i len hlen
  split at hs
  · rename_i h l m hh hl hm
    split at hs
    · rename_i hc
      cases rx with
      | d hd =>
        cases hd with
        | str s =>
          simp only [lenA, Option.some.injEq] at hlen
          subst hlen
          simp only at hs
          split at hs
          · rename_i hu
            split at hs
            · cases hs
            · rename_i hmx
              cases hs
              have hmx' : mx = none := by cases mx with | none => rfl | some _ => simp at hmx
              subst hmx'
              cases mv with
              | some _ => exact rm.elim
              | none =>
                obtain ⟨M, h1, h2, h3, _⟩ := bounds_ok (P := P) (w := w) false (len := s.size) (cap := s.size) rl rh (mx := none) (mv := none) trivial hl hh hm hc (Nat.le_refl _)
                exact .same (v := .string (s.extract l.toNat h.toNat)) g (by simp [Instr.sliceAt, Instr.slice, run_under hu, h1]) (.d (.str _))
          · cases hs
        | sl sz es a cap u hcap hz hr hmm =>
          simp only [lenA, Option.some.injEq] at hlen
          subst hlen
          simp only at hs
          split at hs
          · rename_i z by_ he
            split at hs
            · rename_i hzz
              obtain ⟨rfl, hpos⟩ := hzz
              obtain ⟨te, inf, hu, hinf, hsz, hby, hst⟩ := elemT_split he
              obtain ⟨M, h1, h2, h3, h4⟩ := bounds_ok (P := P) (w := w) true (len := es.length) (cap := cap) rl rh rm hl hh hm hc hcap
              have hrun : (Instr.sliceAt t (.slice a es.length cap) lv hv mv).run P w = .ok (.slice (if M = l.toNat then a else a.map (·.add (l.toNat * z))) (h.toNat - l.toNat) (M - l.toNat)) w := by
                simp [Instr.sliceAt, Instr.slice, run_under hu, h1, run_sizeOf' hst]
              split at hs
              · rename_i hmz
                cases hs
                have hM := h4 hmz.1
                have e1 : h.toNat - l.toNat = 0 := by omega
                have e2 : M - l.toNat = 0 := by omega
                rw [e1, e2] at hrun
                exact .same g hrun (.nilsl _ _)
              · cases hs
                exact .same g hrun (.d (sl_cut (.sl z es a cap u hcap hz hr hmm) (by omega) (by omega) h2))
            · cases hs
          · cases hs
        | _ => simp [lenA] at hlen
      | nilsl tg a =>
        simp only [lenA, Option.some.injEq] at hlen
        subst hlen
        simp only at hs
        split at hs
        · rename_i zb he
          cases hs
          obtain ⟨te, inf, hu, hinf, hsz, hby, hst⟩ := elemT_split (z := zb.1) (b := zb.2) he
          obtain ⟨M, h1, h2, h3, h4⟩ := bounds_ok (P := P) (w := w) true (len := 0) (cap := 0) rl rh rm hl hh hm hc (Nat.le_refl _)
          have hl0 : l = 0 := by omega
          have hh0 : h = 0 := by omega
          subst hl0 hh0
          have hM : M = 0 := by
            cases mx with
            | none => exact h3 rfl
            | some _ => have := h4 rfl; omega
          subst hM
          have hrun : (Instr.sliceAt t (.slice a 0 0) lv hv mv).run P w = .ok (.slice a 0 0) w := by
            simp [Instr.sliceAt, Instr.slice, run_under hu, h1, run_sizeOf' hst]
          exact .same g hrun (.nilsl _ _)
        · cases hs
      | arr id off ln n a cap sz es fr ho hn hcap hcur =>
        have rx' : RelA C objs (.arr id off ln n) (.slice a ln cap) := .arr id off ln n a cap sz es fr ho hn hcap hcur
        simp only [lenA, Option.some.injEq] at hlen
        subst hlen
        simp only at hs
        rw [getO_some ho] at hs
        split at hs
        · rename_i z by_ sz' es' fr' he heq
          cases heq
          split at hs
          · rename_i hcond
            obtain ⟨rfl, hpos, hnl, hfit⟩ := hcond
            obtain ⟨te, inf, hu, hinf, hsz, hby, hst⟩ := elemT_split he
            obtain ⟨M, h1, h2, h3, h4⟩ := bounds_ok (P := P) (w := w) true (len := ln) (cap := cap) rl rh rm hl hh hm hc hcap
            have hrun : (Instr.sliceAt t (.slice a ln cap) lv hv mv).run P w = .ok (.slice (if M = l.toNat then a else a.map (·.add (l.toNat * z))) (h.toNat - l.toNat) (M - l.toNat)) w := by
              simp [Instr.sliceAt, Instr.slice, run_under hu, h1, run_sizeOf' hst]
            split at hs
            · rename_i hmx
              have hM := h4 hmx
              split at hs
              · rename_i hm0
                cases hs
                have e1 : h.toNat - l.toNat = 0 := by omega
                have e2 : M - l.toNat = 0 := by omega
                rw [e1, e2] at hrun
                exact .same g hrun (.nilsl _ _)
              · cases hs
                obtain ⟨C', s1, r1⟩ := shut_arr g rx'
                have hv : viewA objs id off ln n = some (z, (es.drop off).take ln) := by
                  unfold viewA; rw [getO_some ho]; simp [hnl, hfit]
                have hsh : shutA objs (.arr id off ln n) = objs.set id (.arr z es true) := by unfold shutA; rw [getO_some ho]
                rw [hsh] at s1
                have r2 := r1 _ _ hv
                have hl2 : ((es.drop off).take ln).length = ln := by simp; omega
                have r3 : RelD C'.M (.sl z ((es.drop off).take ln)) (.slice a ((es.drop off).take ln).length cap) := by rw [hl2]; exact r2
                have r4 := sl_cut (l := l.toNat) (h := h.toNat) (m := M) r3 (by omega) (by omega) h2
                exact ⟨_, C', w, hrun, s1.adv, s1.good, .d r4⟩
            · rename_i hmx
              cases hs
              have hmx' : mx = none := by cases mx with | none => rfl | some _ => simp at hmx
              have hM := h3 hmx'
              subst hM
              refine .same g hrun (.arr id _ _ n _ _ z es fr ho hn (by omega) fun hne => ?_)
              obtain ⟨k1, k2, k3⟩ := hcur hne
              have q1 : off + l.toNat + (h.toNat - l.toNat) ≤ es.length := by clear k3 hcur rx'; omega
              have q2 : es.length ≤ off + l.toNat + (M - l.toNat) := by clear k3 hcur rx'; omega
              refine ⟨q1, q2, ?_⟩
              rcases k3 with ⟨p1, p2, p3⟩ | ⟨b, N, p1, p2, p3⟩
              · exact .inl ⟨p1, p2, by omega⟩
              · refine .inr ⟨b, N, p1, fun hc0 => ?_, ?_⟩
                · rw [if_neg (by omega), p2 (by omega)]
                  simp only [Option.map_some]
                  rw [add_plain', Nat.add_mul]
                · have : off + l.toNat + (M - l.toNat) = off + M := by omega
                  rw [this]; exact p3
          · cases hs
        · cases hs
      | nilm => simp at hs
      | _ => simp [lenA] at hlen
    · cases hs
  · cases hs

end Ab
