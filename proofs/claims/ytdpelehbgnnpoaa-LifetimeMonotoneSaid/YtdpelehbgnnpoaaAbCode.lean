/- A part of the proof of a row by an interpreter that is proved sound; no conditions of its own. -/
import Derived.Test.YtdpelehbgnnpoaaAbDrawn4
namespace Ab
open Go

variable {P : Program}

def X.exit' : X → Exit
  | .normal => .normal
  | .exit id => .exit id
  | .ret => .ret

/-- A state that came from the objects that came in. -/
structure From (C0 : Cx) (inc : Store) (w0 : World) (C : Cx) (s : St) (a : Act) (w : World) : Prop where
  adv : Adv C0 inc w0 C s.objs w
  rel : s.Rel C a w

theorem mem_refsAs {id : Nat} : ∀ {cs : List A} {c : A}, c ∈ cs → id ∈ refsA c → id ∈ refsAs cs
  | d :: cs, c, h, hi => by
    unfold refsAs
    rcases List.mem_cons.1 h with rfl | h
    · exact List.mem_append_left _ hi
    · exact List.mem_append_right _ (mem_refsAs h hi)

/-- What refers to the first n objects only stands when the others are forgotten. -/
theorem RelA.forget {C : Cx} {objs : Store} {x : A} {v : Value} (r : RelA C objs x v) {n : Nat} (h : ∀ i ∈ refsA x, i < n) : RelA C (objs.take n) x v := by
  have get : ∀ {i : Nat} {o : O}, i < n → objs[i]? = some o → (objs.take n)[i]? = some o := fun hi ho => by rw [List.getElem?_take, if_pos hi]; exact ho
  induction r with
  | d hd => exact .d hd
  | nilsl g a => exact .nilsl g a
  | nilm => exact .nilm
  | agg cs vs hl _ ih => exact .agg cs vs hl fun i c hc => ih i c hc fun j hj => h j (by unfold refsA; exact mem_refsAs (List.mem_of_getElem? hc) hj)
  | tup cs vs hl _ ih => exact .tup cs vs hl fun i c hc => ih i c hc fun j hj => h j (by unfold refsA; exact mem_refsAs (List.mem_of_getElem? hc) hj)
  | bp id off b m cs ho hb => exact .bp id off b m cs (get (h id (by simp [refsA])) ho) hb
  | ep id i off m p sz es fr ho hn hc => exact .ep id i off m p sz es fr (get (h id (by simp [refsA])) ho) hn hc
  | cp cs ad u hr hm => exact .cp cs ad u hr hm
  | arr id off len m a cap sz es fr ho hn hc hcur => exact .arr id off len m a cap sz es fr (get (h id (by simp [refsA])) ho) hn hc hcur
  | fn f a b vs us hv hu _ _ ih1 ih2 =>
    exact .fn f a b vs us hv hu (fun i c hc => ih1 i c hc fun j hj => h j (by unfold refsA; exact List.mem_append_left _ (mem_refsAs (List.mem_of_getElem? hc) hj)))
      (fun i c hc => ih2 i c hc fun j hj => h j (by unfold refsA; exact List.mem_append_right _ (mem_refsAs (List.mem_of_getElem? hc) hj)))
  | mp id b m es ho hb => exact .mp id b m es (get (h id (by simp [refsA])) ho) hb
  | un => exact .un
  | top v => exact .top v

theorem keepA_get (ks : List Nat) : ∀ (vs : List A) (i0 : Nat), (keepA ks i0 vs).length = vs.length ∧ ∀ (i : Nat) (y : A), (keepA ks i0 vs)[i]? = some y → y = .top ∨ vs[i]? = some y
  | [], i0 => by unfold keepA; exact ⟨rfl, fun i y h => by simp at h⟩
  | v :: vs, i0 => by
    obtain ⟨h1, h2⟩ := keepA_get ks vs (i0 + 1)
    unfold keepA
    refine ⟨by simp [h1], fun i y hy => ?_⟩
    cases i with
    | zero => simp at hy; subst hy; split <;> simp
    | succ i => simp at hy; simpa using h2 i y hy

theorem GoodO.forget {C : Cx} {objs : Store} {w : World} {id : Nat} {o : O} (g : GoodO C objs w id o) {n : Nat} (h : ∀ i ∈ refsO o, i < n) : GoodO C (objs.take n) w id o := by
  cases o with
  | box cs =>
    obtain ⟨b, vs, t, g1, g2, g3, g4, g5⟩ := g
    exact ⟨b, vs, t, g1, g2, g3, fun i c hc => ⟨(g4 i c hc).1, (g4 i c hc).2.forget fun j hj => h j (by unfold refsO; exact mem_refsAs (List.mem_of_getElem? hc) hj)⟩, g5⟩
  | arr sz es fr => exact g
  | mp es =>
    obtain ⟨b, m, ents, clock, g1, g2, g3, g4⟩ := g
    exact ⟨b, m, ents, clock, g1, g2, g3, fun i k v hi => ⟨(g4 i k v hi).1, (g4 i k v hi).2.forget fun j hj => h j (by
      unfold refsO
      exact mem_refsAs (List.mem_map.2 ⟨(k, v), List.mem_of_getElem? hi, rfl⟩) hj)⟩⟩
  | gone => exact g

theorem head_ok {C0 C : Cx} {inc : Store} {w0 w : World} {s s1 : St} {a : Act} (hf : From C0 inc w0 C s a w) {hd : Option (List Nat × Nat)} (h : headA inc.length hd s = some s1) : From C0 inc w0 C s1 a w := by
  unfold headA at h
  split at h
  · cases h; exact hf
  · rename_i ks n
    simp only at h
    split at h
    case isFalse => cases h
    rename_i hok
    simp only [Bool.and_eq_true, decide_eq_true_eq] at hok
    obtain ⟨⟨h1, h2⟩, h3⟩ := hok
    cases h
    have hlt : ∀ {i : Nat} {o : O}, (s.objs.take n)[i]? = some o → i < n ∧ s.objs[i]? = some o := fun hi => by
      rw [List.getElem?_take] at hi
      split at hi
      · rename_i hn; exact ⟨hn, hi⟩
      · cases hi
    refine ⟨⟨hf.adv.M, by have := hf.adv.len; simp; omega, fun id o ho => ?_, hf.adv.os, hf.adv.tape, hf.adv.output, hf.adv.size, hf.adv.blk, hf.adv.new, fun id b m hi hb => hf.adv.own id b m (by simp at hi; omega) hb⟩, ⟨⟨hf.rel.good.seal_, fun id o ho => ?_, fun i j b m k hi hj => hf.rel.good.inj i j b m k (by simp at hi; omega) (by simp at hj; omega)⟩, ⟨?_, fun i y hy => ?_⟩, hf.rel.defers⟩⟩
    · have hid := (List.getElem?_eq_some_iff.1 ho).1
      rw [List.getElem?_take, if_pos (by omega)]
      exact hf.adv.bec id o ho
    · obtain ⟨q1, q2⟩ := hlt ho
      refine (hf.rel.good.obj id o q2).forget fun j hj => ?_
      have := List.all_eq_true.mp h3 o (List.mem_of_getElem? ho)
      simpa using List.all_eq_true.mp this j hj
    · rw [(keepA_get ks s.tmps 0).1]; exact hf.rel.tmps.1
    · rcases (keepA_get ks s.tmps 0).2 i y hy with rfl | hy2
      · exact .top _
      · refine (hf.rel.tmps.2 i y hy2).forget fun j hj => ?_
        have := List.all_eq_true.mp h2 j (mem_refsAs (List.mem_of_getElem? hy) hj)
        simpa using this

theorem From.step {C0 C C' : Cx} {inc : Store} {w0 w w' : World} {s s' : St} {a a' : Act} (hf : From C0 inc w0 C s a w) (adv : Adv C s.objs w C' s'.objs w') (hr : s'.Rel C' a' w') : From C0 inc w0 C' s' a' w' := ⟨hf.adv.trans adv, hr⟩

theorem codeA_ok {H : Hints} {call : FuncId → List A → Store → Option (A × Store)} (hm : P.follows .mixedOrders = true) (hc : CallOK P call) {f k : Nat} {C0 : Cx} {inc : Store} {w0 : World} : ∀ (c : Code) (b : Nat) {C : Cx} {s s' : St} {a : Act} {w : World} {x : X} (_ : From C0 inc w0 C s a w)
    (_ : codeA P H call f k inc.length b c s = some (x, s')) {Q : Exit → Act → World → Prop} (_ : ∀ C' a' w', From C0 inc w0 C' s' a' w' → Q x.exit' a' w'), c.wp P Q a w := by
  intro c
  induction c with
  | skip => intro b C s s' a w x hf h Q hQ; simp only [codeA] at h; cases h; exact wp_skip (hQ C a w hf)
  | ret => intro b C s s' a w x hf h Q hQ; simp only [codeA] at h; cases h; exact wp_ret (hQ C a w hf)
  | exit id => intro b C s s' a w x hf h Q hQ; simp only [codeA] at h; cases h; exact wp_exit (hQ C a w hf)
  | region rid ops d =>
    intro b C s s' a w x hf h Q hQ
    cases d with
    | false =>
      simp only [codeA, Option.map_eq_some_iff, Prod.mk.injEq] at h
      obtain ⟨s1, h1, rfl, rfl⟩ := h
      refine wp_region ?_
      have := runOps_ok (Q := Q) hc ops.toList 0 (fun k o hk => by simpa using hk) hf.rel h1 (fun C' a' w' adv hr => hQ C' a' w' (hf.step adv hr))
      rw [List.range_eq_range']
      simpa using this
    | true =>
      simp only [codeA, Option.map_eq_some_iff, Prod.mk.injEq] at h
      obtain ⟨s1, h1, rfl, rfl⟩ := h
      exact drawn_ok hm hc hf.rel h1 fun C' a' w' adv hr => hQ C' a' w' (hf.step adv hr)
  | seq x y ihx ihy =>
    intro b C s s' a w r hf h Q hQ
    simp only [codeA] at h
    refine wp_seq ?_
    split at h
    · rename_i s1 h1
      refine ihx b hf h1 fun C' a' w' hf' => ?_
      exact ihy b hf' h hQ
    · rename_i hne
      refine ihx b hf h fun C' a' w' hf' => ?_
      have := hQ C' a' w' hf'
      cases r with
      | normal => exact absurd h (hne _)
      | exit id => exact this
      | ret => exact this
  | cond c x y ihx ihy =>
    intro b C s s' a w r hf h Q hQ
    have rc := ev_rel hf.rel.tmps c
    simp only [codeA] at h
    split at h
    · rename_i t ht
      rw [ht] at rc
      refine wp_cond (rel_bool rc) ?_
      cases t with
      | true => exact ihx b hf h hQ
      | false => exact ihy b hf h hQ
    · cases h
  | block id x ih =>
    intro b C s s' a w r hf h Q hQ
    simp only [codeA] at h
    refine wp_block ?_
    split at h
    · rename_i j s1 h1
      refine ih id hf h1 fun C' a' w' hf' => ?_
      split at h
      · rename_i hj
        cases h
        simp only [X.exit', Exit.inBlock, hj, if_true]
        exact hQ C' a' w' hf'
      · rename_i hj
        cases h
        simp only [X.exit', Exit.inBlock, hj, if_false]
        exact hQ C' a' w' hf'
    · rename_i hne
      refine ih id hf h fun C' a' w' hf' => ?_
      have := hQ C' a' w' hf'
      cases r with
      | normal => exact this
      | exit j => exact absurd h (hne _ _)
      | ret => exact this
  | loop x ih =>
    intro b C s s' a w r hf h Q hQ
    simp only [codeA] at h
    refine wp_loop_rounds k ?_
    have key : ∀ (n : Nat) {C : Cx} {s : St} {a : Act} {w : World}, From C0 inc w0 C s a w → loopA (fun s => match headA inc.length (H.head f b) s with | some s1 => codeA P H call f k inc.length b x s1 | none => none) n s = some (r, s') → Code.rounds P x Q n a w := by
      intro n
      induction n with
      | zero => intro C s a w _ h; simp [loopA] at h
      | succ n ihn =>
        intro C s a w hf h
        unfold loopA at h
        rw [rounds_succ]
        cases hh : headA inc.length (H.head f b) s with
        | none => simp [hh] at h
        | some s1 =>
          simp only [hh] at h
          have hf1 := head_ok hf hh
          split at h
          · rename_i s2 h2
            refine ih b hf1 h2 fun C' a' w' hf' => ?_
            exact ihn hf' h
          · rename_i hne
            refine ih b hf1 h fun C' a' w' hf' => ?_
            have := hQ C' a' w' hf'
            cases r with
            | normal => exact absurd h (hne _)
            | exit id => exact this
            | ret => exact this
    exact key k hf h
  | _ => intro b C s s' a w r hf h Q hQ; simp [codeA] at h

end Ab
