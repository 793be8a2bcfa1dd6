/- A part of the proof of a row by an interpreter that is proved sound; no conditions of its own. -/
import Derived.Test.YtipfkflogjfbjaaAbVals
namespace Ab
open Go

variable {P : Program}

/-- A value that leaves everything as it is. -/
def Gives (P : Program) (C : Cx) (objs : Store) (w : World) (s : Sem Value) (x : A) : Prop := ∃ v, s.run P w = .ok v w ∧ RelA C objs x v

theorem Gives.yields {C : Cx} {objs : Store} {w : World} {s : Sem Value} {x : A} (g : Good C objs w) (h : Gives P C objs w s x) : Yields P C objs w s x objs := by
  obtain ⟨v, h1, h2⟩ := h; exact .same g h1 h2

theorem rel_nilP {C : Cx} {objs : Store} {x : A} {v : Value} {b : Bool} (r : RelA C objs x v) (h : isNilP x = some b) : (b = true ∧ v = .pointer none) ∨ (b = false ∧ ∃ a, v = .pointer (some a)) := by
  cases r with
  | d hd =>
    cases hd with
    | nilp => simp [isNilP] at h; subst h; exact .inl ⟨rfl, rfl⟩
    | _ => simp [isNilP] at h
  | bp => simp [isNilP] at h; subst h; exact .inr ⟨rfl, _, rfl⟩
  | ep => simp [isNilP] at h; subst h; exact .inr ⟨rfl, _, rfl⟩
  | cp => simp [isNilP] at h; subst h; exact .inr ⟨rfl, _, rfl⟩
  | _ => simp [isNilP] at h

theorem rel_nilF {C : Cx} {objs : Store} {x : A} {v : Value} {b : Bool} (r : RelA C objs x v) (h : isNilF x = some b) : (b = true ∧ v = .nilFunc) ∨ (b = false ∧ ∃ f us vs, v = .func f us vs) := by
  cases r with
  | d hd =>
    cases hd with
    | nilf => simp [isNilF] at h; subst h; exact .inl ⟨rfl, rfl⟩
    | _ => simp [isNilF] at h
  | fn => simp [isNilF] at h; subst h; exact .inr ⟨rfl, _, _, _, rfl⟩
  | _ => simp [isNilF] at h

theorem nilOp_split {op : BinOp} {x y : Option Bool} {z : A} (h : nilOp op x y = some z) : ∃ p q, x = some p ∧ y = some q ∧ (p || q) = true ∧ ((op = .eql ∧ z = .d (.bool (p && q))) ∨ (op = .neq ∧ z = .d (.bool !(p && q)))) := by
  unfold nilOp at h
  split at h
  · rename_i p q
    split at h
    · rename_i hor
      split at h
      · cases h; exact ⟨p, q, rfl, rfl, hor, .inl ⟨rfl, rfl⟩⟩
      · cases h; exact ⟨p, q, rfl, rfl, hor, .inr ⟨rfl, rfl⟩⟩
      · cases h
    · cases h
  · cases h

theorem binA_ok {C : Cx} {objs : Store} {w : World} {op : BinOp} {t : TypeId} {x y z : A} {u v : Value} (rx : RelA C objs x u) (ry : RelA C objs y v) (h : binA P op t x y = some z) (xo yo : Operand) :
    Gives P C objs w (do eqGuard op t xo yo u v; binOp op t u v) z := by
  have plain : ∀ (u v : Value), (∀ as bs, ¬ (u = .agg as ∧ v = .agg bs)) → (¬ (u = .nilIface ∧ v = .nilIface)) → (eqGuard op t xo yo u v).run P w = .ok () w := by
    intro u v h1 h2
    cases op <;> first
      | rfl
      | (simp only [eqGuard]
         split
         · rfl
         · split
           · exact absurd ⟨rfl, rfl⟩ h2
           · exact absurd ⟨rfl, rfl⟩ (h1 _ _)
           · rfl)
  unfold binA at h
  split at h
  · rename_i k a k' b
    have hu := rel_int' rx; have hv := rel_int' ry
    subst hu hv
    have hg := plain (.int k a) (.int k' b) (by intro as bs h; cases h.1) (by intro h; cases h.1)
    simp only [Option.map_eq_some_iff] at h
    obtain ⟨d, hd, rfl⟩ := h
    have : ∃ v, (binOp op t (.int k a) (.int k' b)).run P w = .ok v w ∧ ∀ M, RelD M d v := by
      split at hd
      · exact shiftOp_ok hd t w
      · exact shiftOp_ok hd t w
      · rename_i h1 h2
        split at hd
        · rename_i hk; subst hk
          exact intOp_ok hd ⟨h1, h2⟩ t w
        · cases hd
    obtain ⟨v, h1, h2⟩ := this
    exact ⟨v, by simp [hg, h1], .d (h2 _)⟩
  · rename_i a b
    have hu := rel_str rx; have hv := rel_str ry
    subst hu hv
    have hg := plain (.string a) (.string b) (by intro as bs h; cases h.1) (by intro h; cases h.1)
    simp only [Option.map_eq_some_iff] at h
    obtain ⟨d, hd, rfl⟩ := h
    obtain ⟨v, h1, h2⟩ := strOp_ok (P := P) hd t w
    exact ⟨v, by simp [hg, h1], .d (h2 _)⟩
  · rename_i a b
    have hu := rel_bool rx; have hv := rel_bool ry
    subst hu hv
    have hg := plain (.bool a) (.bool b) (by intro as bs h; cases h.1) (by intro h; cases h.1)
    split at h
    · rename_i hu
      split at h
      · cases h
        exact ⟨.bool (a == b), by simp [hg, run_eql_bool w t a b hu], .d (.bool _)⟩
      · cases h
        exact ⟨.bool !(a == b), by simp [hg, binOp, Op.equal, Op.maxDepth, run_equalIn_bool w _ t a b hu], .d (.bool _)⟩
      · cases h
    · cases h
  · rename_i as bs
    obtain ⟨us, rfl, hr1⟩ := rel_agg rx
    obtain ⟨vs, rfl, hr2⟩ := rel_agg ry
    split at h
    · rename_i hmm
      obtain ⟨hm, hag⟩ := hmm
      split at h
      · rename_i q hq
        have heq := ((eqT_ok 8 t hr1 hr2 hq 10000 w (by omega)).1 hag)
        simp only [Array.toArray_toList] at heq
        split at h
        · cases h
          exact ⟨.bool q, by simp [run_eqGuard_agg w _ t xo yo us vs hm, run_eql_struct, heq], .d (.bool _)⟩
        · cases h
          exact ⟨.bool !q, by simp [run_eqGuard_agg w _ t xo yo us vs hm, run_neq_struct, heq], .d (.bool _)⟩
        · cases h
      · cases h
    · cases h
  · split at h
    · rename_i e hu
      obtain ⟨p, q, hp, hq, hor, hz⟩ := nilOp_split h
      have hx := rel_nilP rx hp
      have hy := rel_nilP ry hq
      have hg := plain u v (by rcases hx with ⟨_, rfl⟩ | ⟨_, a, rfl⟩ <;> intro as bs h <;> cases h.1) (by rcases hx with ⟨_, rfl⟩ | ⟨_, a, rfl⟩ <;> intro h <;> cases h.1)
      have heq0 : ∀ d, (Op.equalIn (d + 1) t u v).run P w = .ok (p && q) w := by
        intro d
        rcases hx with ⟨rfl, rfl⟩ | ⟨rfl, a, rfl⟩ <;> rcases hy with ⟨rfl, rfl⟩ | ⟨rfl, b, rfl⟩ <;> first | (simp [Op.equalIn, run_under hu]; done) | simp at hor
      have heq : (Op.equalIn 10000 t u v).run P w = .ok (p && q) w := heq0 9999
      rcases hz with ⟨rfl, rfl⟩ | ⟨rfl, rfl⟩
      · refine ⟨.bool (p && q), ?_, .d (.bool _)⟩
        have : (binOp .eql t u v).run P w = .ok (.bool (p && q)) w := by
          rcases hx with ⟨_, rfl⟩ | ⟨_, a, rfl⟩ <;> rcases hy with ⟨_, rfl⟩ | ⟨_, b, rfl⟩ <;> simp [binOp, Op.equal, Op.maxDepth, heq]
        simp [hg, this]
      · refine ⟨.bool !(p && q), ?_, .d (.bool _)⟩
        have : (binOp .neq t u v).run P w = .ok (.bool !(p && q)) w := by
          rcases hx with ⟨_, rfl⟩ | ⟨_, a, rfl⟩ <;> rcases hy with ⟨_, rfl⟩ | ⟨_, b, rfl⟩ <;> simp [binOp, Op.equal, Op.maxDepth, heq]
        simp [hg, this]
    · rename_i p1 p2 p3 hu
      obtain ⟨p, q, hp, hq, hor, hz⟩ := nilOp_split h
      have hx := rel_nilF rx hp
      have hy := rel_nilF ry hq
      have hg := plain u v (by rcases hx with ⟨_, rfl⟩ | ⟨_, a, b, c, rfl⟩ <;> intro as bs h <;> cases h.1) (by rcases hx with ⟨_, rfl⟩ | ⟨_, a, b, c, rfl⟩ <;> intro h <;> cases h.1)
      have heq0 : ∀ d, (Op.equalIn (d + 1) t u v).run P w = .ok (p && q) w := by
        intro d
        rcases hx with ⟨rfl, rfl⟩ | ⟨rfl, a, b, c, rfl⟩ <;> rcases hy with ⟨rfl, rfl⟩ | ⟨rfl, a', b', c', rfl⟩ <;> first | (simp [Op.equalIn, run_under hu]; done) | simp at hor
      have heq : (Op.equalIn 10000 t u v).run P w = .ok (p && q) w := heq0 9999
      rcases hz with ⟨rfl, rfl⟩ | ⟨rfl, rfl⟩
      · refine ⟨.bool (p && q), ?_, .d (.bool _)⟩
        have : (binOp .eql t u v).run P w = .ok (.bool (p && q)) w := by
          rcases hx with ⟨_, rfl⟩ | ⟨_, a, b, c, rfl⟩ <;> rcases hy with ⟨_, rfl⟩ | ⟨_, a', b', c', rfl⟩ <;> simp [binOp, Op.equal, Op.maxDepth, heq]
        simp [hg, this]
      · refine ⟨.bool !(p && q), ?_, .d (.bool _)⟩
        have : (binOp .neq t u v).run P w = .ok (.bool !(p && q)) w := by
          rcases hx with ⟨_, rfl⟩ | ⟨_, a, b, c, rfl⟩ <;> rcases hy with ⟨_, rfl⟩ | ⟨_, a', b', c', rfl⟩ <;> simp [binOp, Op.equal, Op.maxDepth, heq]
        simp [hg, this]
    · cases h

end Ab
