/- A part of the proof of a row by an interpreter that is proved sound; no conditions of its own. -/
import Derived.Test.YtpoheolnnbgebaaAbDrawn4
namespace Ab
open Go

variable {P : Program}

def X.exit' : X → Exit
  | .normal => .normal
  | .exit id => .exit id
  | .ret => .ret

/-- A state that came from the objects that came in. -/
structure From (C0 : Cx) (inc : Store) (w0 : World) (C : Cx) (s : St) (a : Act) (w : World) : Prop where
  adv : Adv C0 inc w0 C s.objs w
  rel : s.Rel C a w

theorem reach_prefix (objs : Store) : ∀ (k : Nat) (todo seen : List Nat), seen <+: reach objs k todo seen
  | 0, _, _ => by unfold reach; exact List.prefix_refl _
  | k + 1, [], seen => by unfold reach; exact List.prefix_refl _
  | k + 1, i :: todo, seen => by
    unfold reach
    split
    · exact reach_prefix objs k _ _
    · exact (List.prefix_append _ _).trans (reach_prefix objs k _ _)

theorem reach_range (objs : Store) (m : Nat) : ∀ (d j k : Nat) (rest : List Nat), j + d = m → d ≤ k → List.range m <+: reach objs k (List.range' j d ++ rest) (List.range j)
  | 0, j, k, rest, h, _ => by
    simp at h; subst h
    exact reach_prefix objs k _ _
  | d + 1, j, 0, rest, h, hk => by omega
  | d + 1, j, k + 1, rest, h, hk => by
    rw [List.range'_succ, List.cons_append]
    unfold reach
    rw [if_neg (by simp), List.append_assoc, ← List.range_succ]
    exact reach_range objs m d (j + 1) k _ (by omega) (by omega)

/-- What leaves a call. -/
theorem leaveA_ok {C0 C : Cx} {inc objs : Store} {w0 w : World} (adv : Adv C0 inc w0 C objs w) (g : Good C objs w) {x : A} {v : Value} (r : RelA C objs x v) {y : A} {out : Store} (h : leaveA inc.length x objs = some (y, out)) :
    ∃ C', Adv C0 inc w0 C' out w ∧ Good C' out w ∧ RelA C' out y v := by
  unfold leaveA at h
  simp only at h
  have hn := reach_nodup objs (4 * objs.length + 40) (List.range inc.length ++ refsA x) [] List.nodup_nil
  have hpre := reach_range objs inc.length inc.length 0 (4 * objs.length + 40) (refsA x) (by omega) (by have := adv.len; omega)
  rw [← List.range_eq_range'] at hpre
  simp only [List.range_zero] at hpre
  generalize reach objs (4 * objs.length + 40) (List.range inc.length ++ refsA x) [] = ρ at h hn hpre
  split at h
  case isFalse => cases h
  rename_i hall
  have hlt : ∀ i ∈ ρ, i < objs.length := fun i hi => by simpa using List.all_eq_true.mp hall i hi
  split at h
  case h_2 => cases h
  rename_i r2 o2 h1 h2
  cases h
  obtain ⟨gs, rn, hl⟩ := sub_ok g hn hlt h2
  obtain ⟨hlen, hget⟩ := renOs_get _ h2
  have hat : ∀ i, i < inc.length → ρ[i]? = some i := fun i hi => by
    obtain ⟨t, rfl⟩ := hpre
    rw [List.getElem?_append_left (by simpa using hi), List.getElem?_range hi]
  have hpl : inc.length ≤ ρ.length := by
    obtain ⟨t, rfl⟩ := hpre
    simp
  refine ⟨subCx C ρ, ⟨adv.M, by omega, fun id o ho => ?_, adv.os, adv.tape, adv.output, adv.size, adv.blk, adv.new, fun id b n hid hb => ?_⟩, gs, ren_ok rn r h1⟩
  · have hid : id < inc.length := (List.getElem?_eq_some_iff.1 ho).1
    have hb := adv.bec id o ho
    have hφ : (subCx C ρ).φ id = C.φ id := by simp [subCx, hat id hid]
    have ho2 : out[id]? = some out[id] := List.getElem?_eq_getElem (by omega)
    obtain ⟨q, q1, q2⟩ := hget id _ ho2
    rw [List.getElem?_map, hat id hid] at q1
    simp only [Option.map_some, Option.some.injEq] at q1
    subst q1
    rw [ho2]
    cases o with
    | box cs =>
      obtain ⟨e1, cs', e2⟩ := hb
      rw [getO_some e2] at q2
      obtain ⟨cs2, e3⟩ := (renO_kind q2).1 cs' rfl
      exact ⟨hφ.trans e1, cs2, by rw [e3]⟩
    | mp es =>
      obtain ⟨e1, cs', e2⟩ := hb
      rw [getO_some e2] at q2
      obtain ⟨cs2, e3⟩ := (renO_kind q2).2.2 cs' rfl
      exact ⟨hφ.trans e1, cs2, by rw [e3]⟩
    | arr sz es fr =>
      obtain ⟨es', fr', e2, e4⟩ := hb
      rw [getO_some e2] at q2
      refine ⟨es', fr', by rw [(renO_kind q2).2.1 sz es' fr' rfl], ?_⟩
      rw [hφ]; exact e4
    | gone => trivial
  · simp only [subCx, Option.bind_eq_some_iff] at hb
    obtain ⟨i, e1, e2⟩ := hb
    exact adv.own i b n (hlt i (List.mem_of_getElem? e1)) e2

theorem pickA_rel {C : Cx} {os : Store} {us : Array Value} (i : Nat) : ∀ (ks : List Nat) (vs : List A), RelL C os vs (ks.map fun t => us.getD t undef) → RelA C os (pickA ks vs i) (us.getD i undef)
  | [], vs, _ => by unfold pickA; exact .top _
  | k :: ks, [], _ => by unfold pickA; exact .top _
  | k :: ks, v :: vs, h => by
    unfold pickA
    obtain ⟨h1, h2⟩ := h.head
    split
    · rename_i e; subst e; exact h1
    · exact pickA_rel i ks vs h2

theorem relL_kept {C : Cx} {os : Store} {ts : List A} {us : Array Value} (rt : RelT C os ts us) : ∀ ks : List Nat, RelL C os (ks.map fun t => ts.getD t .top) (ks.map fun t => us.getD t undef)
  | [] => .nil _ _
  | k :: ks => .cons (rt.get k) (relL_kept rt ks)

theorem head_ok {C0 C : Cx} {inc : Store} {w0 w : World} {s s1 : St} {a : Act} (hf : From C0 inc w0 C s a w) {hd : Option (List Nat × Nat)} (h : headA inc.length hd s = some s1) : ∃ C', From C0 inc w0 C' s1 a w := by
  unfold headA at h
  split at h
  · cases h; exact ⟨C, hf⟩
  · rename_i ks n
    split at h
    case h_2 => cases h
    rename_i vs os hl
    cases h
    obtain ⟨C', adv, g', r'⟩ := leaveA_ok hf.adv hf.rel.good (.tup' (relL_kept hf.rel.tmps ks)) hl
    refine ⟨C', adv, g', ⟨by simp [scatterA, hf.rel.tmps.1], fun i y hy => ?_⟩, hf.rel.defers⟩
    have hr : RelL C' os vs (ks.map fun t => a.tmps.getD t undef) := by
      cases r' with
      | tup _ us hl h => exact relL_of_array hl h
    simp only [scatterA, List.getElem?_map, Option.map_eq_some_iff] at hy
    obtain ⟨j, hj, rfl⟩ := hy
    have hji : j = i := by
      have := List.getElem?_eq_some_iff.1 hj
      obtain ⟨_, e⟩ := this
      simpa using e.symm
    subst hji
    exact pickA_rel j ks vs hr

theorem From.step {C0 C C' : Cx} {inc : Store} {w0 w w' : World} {s s' : St} {a a' : Act} (hf : From C0 inc w0 C s a w) (adv : Adv C s.objs w C' s'.objs w') (hr : s'.Rel C' a' w') : From C0 inc w0 C' s' a' w' := ⟨hf.adv.trans adv, hr⟩

theorem codeA_ok {H : Hints} {call : FuncId → List A → Store → Option (A × Store)} (hm : P.follows .mixedOrders = true) (hc : CallOK P call) {f k : Nat} {C0 : Cx} {inc : Store} {w0 : World} : ∀ (c : Code) (b : Nat) {C : Cx} {s s' : St} {a : Act} {w : World} {x : X} (_ : From C0 inc w0 C s a w)
    (_ : codeA P H call f k inc.length b c s = some (x, s')) {Q : Exit → Act → World → Prop} (_ : ∀ C' a' w', From C0 inc w0 C' s' a' w' → Q x.exit' a' w'), c.wp P Q a w := by
  intro c
  induction c with
  | skip => intro b C s s' a w x hf h Q hQ; simp only [codeA] at h; cases h; exact wp_skip (hQ C a w hf)
  | ret => intro b C s s' a w x hf h Q hQ; simp only [codeA] at h; cases h; exact wp_ret (hQ C a w hf)
  | exit id => intro b C s s' a w x hf h Q hQ; simp only [codeA] at h; cases h; exact wp_exit (hQ C a w hf)
  | region rid ops d =>
    intro b C s s' a w x hf h Q hQ
    cases d with
    | false =>
      simp only [codeA, Option.map_eq_some_iff, Prod.mk.injEq] at h
      obtain ⟨s1, h1, rfl, rfl⟩ := h
      refine wp_region ?_
      have := runOps_ok (Q := Q) hc ops.toList 0 (fun k o hk => by simpa using hk) hf.rel h1 (fun C' a' w' adv hr => hQ C' a' w' (hf.step adv hr))
      rw [List.range_eq_range']
      simpa using this
    | true =>
      simp only [codeA, Option.map_eq_some_iff, Prod.mk.injEq] at h
      obtain ⟨s1, h1, rfl, rfl⟩ := h
      exact drawn_ok hm hc hf.rel h1 fun C' a' w' adv hr => hQ C' a' w' (hf.step adv hr)
  | seq x y ihx ihy =>
    intro b C s s' a w r hf h Q hQ
    simp only [codeA] at h
    refine wp_seq ?_
    split at h
    · rename_i s1 h1
      refine ihx b hf h1 fun C' a' w' hf' => ?_
      exact ihy b hf' h hQ
    · rename_i hne
      refine ihx b hf h fun C' a' w' hf' => ?_
      have := hQ C' a' w' hf'
      cases r with
      | normal => exact absurd h (hne _)
      | exit id => exact this
      | ret => exact this
  | cond c x y ihx ihy =>
    intro b C s s' a w r hf h Q hQ
    have rc := ev_rel hf.rel.tmps c
    simp only [codeA] at h
    split at h
    · rename_i t ht
      rw [ht] at rc
      refine wp_cond (rel_bool rc) ?_
      cases t with
      | true => exact ihx b hf h hQ
      | false => exact ihy b hf h hQ
    · cases h
  | block id x ih =>
    intro b C s s' a w r hf h Q hQ
    simp only [codeA] at h
    refine wp_block ?_
    split at h
    · rename_i j s1 h1
      refine ih id hf h1 fun C' a' w' hf' => ?_
      split at h
      · rename_i hj
        cases h
        simp only [X.exit', Exit.inBlock, hj, if_true]
        exact hQ C' a' w' hf'
      · rename_i hj
        cases h
        simp only [X.exit', Exit.inBlock, hj, if_false]
        exact hQ C' a' w' hf'
    · rename_i hne
      refine ih id hf h fun C' a' w' hf' => ?_
      have := hQ C' a' w' hf'
      cases r with
      | normal => exact this
      | exit j => exact absurd h (hne _ _)
      | ret => exact this
  | loop x ih =>
    intro b C s s' a w r hf h Q hQ
    simp only [codeA] at h
    refine wp_loop_rounds k ?_
    have key : ∀ (n : Nat) {C : Cx} {s : St} {a : Act} {w : World}, From C0 inc w0 C s a w → loopA (fun s => match headA inc.length (H.head f b) s with | some s1 => codeA P H call f k inc.length b x s1 | none => none) n s = some (r, s') → Code.rounds P x Q n a w := by
      intro n
      induction n with
      | zero => intro C s a w _ h; simp [loopA] at h
      | succ n ihn =>
        intro C s a w hf h
        unfold loopA at h
        rw [rounds_succ]
        cases hh : headA inc.length (H.head f b) s with
        | none => simp [hh] at h
        | some s1 =>
          simp only [hh] at h
          obtain ⟨C1, hf1⟩ := head_ok hf hh
          split at h
          · rename_i s2 h2
            refine ih b hf1 h2 fun C' a' w' hf' => ?_
            exact ihn hf' h
          · rename_i hne
            refine ih b hf1 h fun C' a' w' hf' => ?_
            have := hQ C' a' w' hf'
            cases r with
            | normal => exact absurd h (hne _)
            | exit id => exact this
            | ret => exact this
    exact key k hf h
  | _ => intro b C s s' a w r hf h Q hQ; simp [codeA] at h

end Ab
