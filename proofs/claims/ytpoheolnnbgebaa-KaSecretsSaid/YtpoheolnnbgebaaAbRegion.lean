/- A part of the proof of a row by an interpreter that is proved sound; no conditions of its own. -/
import Derived.Test.YtpoheolnnbgebaaAbOp
namespace Ab
open Go

variable {P : Program}

structure St.Rel (C : Cx) (s : St) (a : Act) (w : World) : Prop where
  good : Good C s.objs w
  tmps : RelT C s.objs s.tmps a.tmps
  defers : a.defers = []

theorem put_defers' (a : Act) (d : Option Tmp) (v : Value) : (a.put d v).defers = a.defers := by cases d <;> rfl

theorem freshA_ok {C : Cx} {w : World} : ∀ (l : List Nat) {objs : Store} (_ : Good C objs w) {x : A} {v : Value} (_ : RelA C objs x v) {y : A} {objs' : Store} (_ : freshA objs x l = some (y, objs')),
    ∃ C', Adv C objs w C' objs' w ∧ Good C' objs' w ∧ RelA C' objs' y v := by
  intro l
  induction l generalizing C with
  | nil => intro objs g x v r y objs' h; unfold freshA at h; cases h; exact ⟨C, .refl _ _ _, g, r⟩
  | cons c cs ih =>
    intro objs g x v r y objs' h
    unfold freshA at h
    split at h
    · rename_i tg
      cases h
      obtain ⟨C', adv, g', hφ, hat⟩ := newNone_ok g (dr := none) trivial tg false
      cases r with
      | nilsl _ a => exact ⟨C', adv, g', .arr _ _ _ _ _ _ tg [] false hat (Nat.le_refl _) (by simp) fun _ => ⟨by simp, by simp, .inl ⟨hφ, rfl, rfl⟩⟩⟩
    · rename_i id off
      split at h
      case h_2 => cases h
      rename_i bs hg
      split at h
      case h_2 => cases h
      rename_i tg hc
      have ho := getO_box hg
      have hid : id < objs.length := (List.getElem?_eq_some_iff.1 ho).1
      obtain ⟨C1, adv, g1, hφ, hat⟩ := newNone_ok g (dr := none) trivial tg false
      simp only [newO] at adv g1 hφ hat
      have ho1 : (objs ++ [O.arr tg [] false])[id]? = some (.box bs) := by rw [List.getElem?_append_left hid]; exact ho
      obtain ⟨b, vs, t, h1, h2, h3, h4, h5⟩ := g1.obj id _ ho1
      have hrel : RelL C1 (objs ++ [O.arr tg [] false]) (bs.set c (.arr objs.length 0 0 0)) vs.toList := by
        refine ⟨by simp [h3], fun i d hd => ?_⟩
        rw [List.getElem?_set] at hd
        split at hd
        · rename_i hci
          subst hci
          split at hd
          · cases hd
            have := (h4 c _ hc).2
            rw [List.getD_eq_getElem?_getD, Array.getElem?_toList, ← Array.getD_eq_getD_getElem?]
            generalize vs.getD c undef = u at this
            cases this with
            | nilsl _ a => exact .arr _ _ _ _ _ _ tg [] false hat (Nat.le_refl _) (by simp) fun _ => ⟨by simp, by simp, .inl ⟨hφ, rfl, rfl⟩⟩
          · cases hd
        · have := (h4 i d hd).2
          rwa [List.getD_eq_getElem?_getD, Array.getElem?_toList, ← Array.getD_eq_getD_getElem?]
      have hleaf : (bs.set c (.arr objs.length 0 0 0)).all A.leaf = true := by
        have hall := box_leaf g1 ho1
        rw [List.all_eq_true] at hall ⊢
        intro x hx
        rcases List.mem_or_eq_of_mem_set hx with h | h
        · exact hall x h
        · subst h; rfl
      obtain ⟨adv2, g2⟩ := setBox_ok g1 ho1 h1 h2 hrel (by simp [h3]) hleaf
      have hself : w.setRow b vs.toList.toArray = w := by
        rw [Array.toArray_toList]; exact setRow_self w b vs t (0, 0) h2
      rw [hself] at adv2 g2
      have hset : (objs ++ [O.arr tg [] false]).set id (.box (bs.set c (.arr objs.length 0 0 0))) = objs.set id (.box (bs.set c (.arr objs.length 0 0 0))) ++ [O.arr tg [] false] := by
        rw [List.set_append_left _ _ hid]
      rw [hset] at adv2 g2
      obtain ⟨C2, adv3, g3, r3⟩ := ih g2 ((r.adv adv).adv adv2) h
      exact ⟨C2, (adv.trans adv2).trans adv3, g3, r3⟩
    · rename_i bs
      split at h
      case h_2 => cases h
      rename_i tg hc
      obtain ⟨C1, adv, g1, hφ, hat⟩ := newNone_ok g (dr := none) trivial tg false
      simp only [newO] at adv g1 hφ hat
      have r' : RelA C1 (objs ++ [O.arr tg [] false]) (.agg (bs.set c (.arr objs.length 0 0 0))) v := by
        have r1 := r.adv adv
        cases r1 with
        | agg _ vs hl h4 =>
          refine .agg _ _ (by simp [hl]) fun i d hd => ?_
          rw [List.getElem?_set] at hd
          split at hd
          · rename_i hci
            subst hci
            split at hd
            · cases hd
              have := h4 c _ hc
              generalize vs.getD c undef = u at this
              cases this with
              | nilsl _ a => exact .arr _ _ _ _ _ _ tg [] false hat (Nat.le_refl _) (by simp) fun _ => ⟨by simp, by simp, .inl ⟨hφ, rfl, rfl⟩⟩
            · cases hd
          · exact h4 i d hd
      obtain ⟨C2, adv3, g3, r3⟩ := ih g1 r' h
      exact ⟨C2, adv.trans adv3, g3, r3⟩
    · cases h

theorem wanted_ok {C : Cx} {s : St} {a : Act} {w : World} (hr : s.Rel C a w) {ops : Array Oper} {o : Oper} {b : Bool} (h : wantedA ops.toList s.tmps o = some b) : Region.wanted o (yielded ops a.tmps) = b := by
  unfold wantedA at h
  unfold Region.wanted
  split at h
  · rename_i hg; cases h; simp [hg]
  · rename_i j wn hg
    simp only [hg]
    split at h
    case h_2 => cases h
    rename_i q hq
    have hq' : ops[j]? = some q := by simpa using hq
    split at h
    case h_2 => cases h
    rename_i t ht
    have key := hr.tmps.get t
    split at h
    · rename_i bb hb
      cases h
      rw [hb] at key
      have hv := rel_bool key
      have htl : t < a.tmps.size := by
        rcases Nat.lt_or_ge t a.tmps.size with h | h
        · exact h
        · rw [List.getD_eq_getElem?_getD, List.getElem?_eq_none (by have := hr.tmps.1; omega)] at hb; cases hb
      have hget : a.tmps[t]? = some (.bool bb) := by
        rw [Array.getD_eq_getD_getElem?, Array.getElem?_eq_getElem htl] at hv
        rw [Array.getElem?_eq_getElem htl]; simpa using hv
      simp [yielded, hq', ht, hget]
    · rename_i hb
      cases h
      rw [hb] at key
      generalize hv : a.tmps.getD t undef = v at key
      cases key
      rw [Array.getD_eq_getD_getElem?] at hv
      have : yielded ops a.tmps j = none := by
        simp only [yielded, hq', ht, Option.bind_some]
        cases hx : a.tmps[t]? with
        | none => rfl
        | some u => rw [hx] at hv; simp at hv; subst hv; rfl
      simp [this]
    · cases h

/-- One operation of a region. -/
theorem stepA_ok {H : Hints} {call : FuncId → List A → Store → Option (A × Store)} (hc : CallOK P call) {C : Cx} {s : St} {a : Act} {w : World} (hr : s.Rel C a w) {f rid : Nat} {ops : Array Oper} {dr : Option Nat} (hp : Place s.objs dr) {i : Nat} {o : Oper} (ho : ops[i]? = some o) {s1 : St}
    (h : stepA P H call f rid ops.toList dr i o s = some s1) {K : Act → World → Prop} {Q : Exit → Act → World → Prop} (hK : ∀ C' a' w', Adv C s.objs w C' s1.objs w' → s1.Rel C' a' w' → K a' w') : wpOp P ops Q i K a w := by
  unfold wpOp
  simp only [ho]
  unfold stepA at h
  split at h
  · rename_i hw
    rw [if_pos (wanted_ok hr hw)]
    split at h
    case h_2 => cases h
    rename_i v objs hop
    have hok := opA_ok hc hr.good hr.tmps hp hop
    refine .inl (hok.wp fun u C' w' adv g r => ?_)
    split at h
    · cases h
      exact hK C' _ w' adv ⟨g, (hr.tmps.adv adv).put r _, by rw [put_defers']; exact hr.defers⟩
    · split at h
      case h_2 => cases h
      split at h
      case h_2 => cases h
      rename_i v2 objs2 hf
      cases h
      obtain ⟨C2, adv2, g2, r2⟩ := freshA_ok _ g r hf
      have adv3 := adv.trans adv2
      exact hK C2 _ w' adv3 ⟨g2, (hr.tmps.adv adv3).put r2 _, by rw [put_defers']; exact hr.defers⟩
  · rename_i hw
    rw [if_neg (by rw [wanted_ok hr hw]; simp)]
    cases h
    exact hK C _ w (.refl _ _ _) ⟨hr.good, hr.tmps.put .un _, by rw [put_defers']; exact hr.defers⟩
  · cases h

/-- A region in its text's order. -/
theorem runOps_ok {H : Hints} {call : FuncId → List A → Store → Option (A × Store)} (hc : CallOK P call) {f rid : Nat} {ops : Array Oper} {Q : Exit → Act → World → Prop} : ∀ (l : List Oper) (i : Nat) (_ : ∀ k o, l[k]? = some o → ops[i + k]? = some o) {C : Cx} {s : St} {a : Act} {w : World} (_ : s.Rel C a w)
    {s' : St} (_ : runOps P H call f rid ops.toList i l s = some s') (_ : ∀ C' a' w', Adv C s.objs w C' s'.objs w' → s'.Rel C' a' w' → Q .normal a' w'), wpOps P ops Q (List.range' i l.length) a w
  | [], i, _, C, s, a, w, hr, s', h, hK => by
    unfold runOps at h; cases h
    exact hK C a w (.refl _ _ _) hr
  | o :: l, i, hl, C, s, a, w, hr, s', h, hK => by
    unfold runOps at h
    split at h
    case h_2 => cases h
    rename_i s1 hs1
    rw [List.length_cons, List.range'_succ, wpOps_cons]
    refine stepA_ok (dr := none) hc hr trivial (hl 0 o rfl) hs1 fun C' a' w' adv hr' => ?_
    refine runOps_ok hc l (i + 1) (fun k o hk => by rw [Nat.add_assoc, Nat.add_comm 1]; exact hl (k + 1) o hk) hr' h fun C2 a2 w2 adv2 hr2 => hK C2 a2 w2 (adv.trans adv2) hr2

end Ab
