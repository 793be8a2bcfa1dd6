/- A part of the proof of a row by an interpreter that is proved sound; no conditions of its own. -/
import Derived.Test.YtipfkflogjfbjaaAbDrawn2
namespace Ab
open Go

variable {P : Program}

theorem fold_bits (acc : List Nat) (q : Nat) : ∀ (l : List Edge) (m : Nat), (l.foldl (fun m e => if Region.binds .any e then m ||| (1 <<< e.on) ||| acc.getD e.on 0 else m) m).testBit q = true →
    m.testBit q = true ∨ ∃ e ∈ l, Region.binds .any e = true ∧ (q = e.on ∨ (acc.getD e.on 0).testBit q = true)
  | [], m, h => .inl h
  | e :: l, m, h => by
    rw [List.foldl_cons] at h
    rcases fold_bits acc q l _ h with h1 | ⟨e', he, h2⟩
    · split at h1
      · rename_i hb
        rw [Nat.testBit_or, Nat.testBit_or, Bool.or_eq_true, Bool.or_eq_true] at h1
        rcases h1 with (h1 | h1) | h1
        · exact .inl h1
        · refine .inr ⟨e, by simp, hb, .inl ?_⟩
          rw [Nat.one_shiftLeft, Nat.testBit_two_pow] at h1
          simpa using (of_decide_eq_true h1).symm
        · exact .inr ⟨e, by simp, hb, .inr h1⟩
      · exact .inl h1
    · exact .inr ⟨e', by simp [he], h2⟩

theorem beforeA_ok : ∀ (os : List Oper) (i : Nat) (acc : List Nat), acc.length = i → (∀ j, j < i → (beforeA os i acc)[j]? = acc[j]?) ∧ ∀ (k : Nat) (o : Oper), os[k]? = some o → ∀ q, ((beforeA os i acc).getD (i + k) 0).testBit q = true →
    ∃ e ∈ o.after.toList, Region.binds .any e = true ∧ (q = e.on ∨ ((beforeA os i acc).getD e.on 0).testBit q = true)
  | [], i, acc, hl => by
    unfold beforeA
    exact ⟨fun _ _ => rfl, fun k o h => by simp at h⟩
  | o :: os, i, acc, hl => by
    unfold beforeA
    generalize hm : o.after.toList.foldl (fun m e => if Region.binds .any e then m ||| (1 <<< e.on) ||| acc.getD e.on 0 else m) 0 = m
    obtain ⟨h1, h2⟩ := beforeA_ok os (i + 1) (acc ++ [m]) (by simp [hl])
    have hpre : ∀ j, j < i → (beforeA os (i + 1) (acc ++ [m]))[j]? = acc[j]? := fun j hj => by rw [h1 j (by omega), List.getElem?_append_left (by omega)]
    refine ⟨hpre, fun k o' hk q hq => ?_⟩
    cases k with
    | zero =>
      simp at hk; subst hk
      change ((beforeA os (i + 1) (acc ++ [m])).getD i 0).testBit q = true at hq
      rw [List.getD_eq_getElem?_getD, h1 i (by omega), List.getElem?_append_right (by omega)] at hq
      simp [hl] at hq
      rw [← hm] at hq
      rcases fold_bits acc q _ _ hq with h | ⟨e, he, hb, h⟩
      · simp at h
      · refine ⟨e, he, hb, h.imp id fun h => ?_⟩
        rcases Nat.lt_or_ge e.on i with hlt | hge
        · rw [List.getD_eq_getElem?_getD, hpre _ hlt, ← List.getD_eq_getElem?_getD]; exact h
        · rw [List.getD_eq_getElem?_getD, List.getElem?_eq_none (by omega)] at h; simp at h
    | succ k =>
      rw [show i + (k + 1) = i + 1 + k from by omega] at hq
      exact h2 k o' (by simpa using hk) q hq

/-- A drawn region, in any order. -/
theorem any_ok {H : Hints} {call : FuncId → List A → Store → Option (A × Store)} (hc : CallOK P call) {f rid : Nat} {ops : Array Oper} {base : Nat} {bef : List Nat}
    (hbef : ∀ (k : Nat) (o : Oper), ops[k]? = some o → ∀ q, (bef.getD k 0).testBit q = true → ∃ e ∈ o.after.toList, Region.binds .any e = true ∧ (q = e.on ∨ (bef.getD e.on 0).testBit q = true)) {Q : Exit → Act → World → Prop} {s' : St} :
    ∀ (fuel : Nat) (recs : List Rec) (listed : Array Bool) {C : Cx} {s : St} {a : Act} {w : World}, recs.length = fuel → listed.size = ops.size → (∀ j, listed.getD j true = false ↔ ∃ r ∈ recs, r.i = j) → (∀ r ∈ recs, ops[r.i]? = some r.o) →
      recs.Pairwise (Pair ops.toList bef base) → recs.Pairwise (fun q r => q.i < r.i) → (∀ r ∈ recs, H.fresh f rid r.i = [] ∧ ∀ e ∈ r.o.after.toList, Region.binds .any e = true → e.on < r.i) →
      (∀ j, j < ops.size → listed.getD j true = true → ∀ q, (bef.getD j 0).testBit q = true → listed.getD q true = true) →
      Chain P H call ops.toList base recs s s' → s.Rel C a w → (∀ C' a' w', Adv C s.objs w C' s'.objs w' → s'.Rel C' a' w' → Q .normal a' w') → wpAny P .any ops Q fuel listed a w := by
  intro fuel
  induction fuel with
  | zero =>
    intro recs listed C s a w hl hsz hun ho hp hs hfr hcl hch hr hK
    have hnil : recs = [] := List.length_eq_zero_iff.1 hl
    subst hnil
    cases hch
    refine ⟨?_, hK C a w (.refl _ _ _) hr⟩
    cases hx : Region.ready .any ops listed with
    | nil => rfl
    | cons j js =>
      have hj : j ∈ Region.ready .any ops listed := by rw [hx]; simp
      obtain ⟨r, hr', _⟩ := (hun j).1 (mem_ready.1 hj).1
      cases hr'
  | succ fuel ih =>
    intro recs listed C s a w hl hsz hun ho hp hs hfr hcl hch hr hK
    refine ⟨fun hnone => ?_, fun i hi => ?_⟩
    · exfalso
      cases recs with
      | nil => simp at hl
      | cons r rs =>
        have hri : r.i ∈ Region.ready .any ops listed := by
          refine mem_ready.2 ⟨(hun r.i).2 ⟨r, by simp, rfl⟩, r.o, ho r (by simp), fun e he hb => ?_⟩
          have hlt := (hfr r (by simp)).2 e (by simpa using he) hb
          have hro := (Array.getElem?_eq_some_iff.1 (ho r (by simp))).1
          cases hx : listed.getD e.on false with
          | true => rfl
          | false =>
            have hb' : e.on < listed.size := by omega
            have hx2 : listed.getD e.on true = false := by
              rw [Array.getD_eq_getD_getElem?, Array.getElem?_eq_getElem hb'] at hx ⊢
              exact hx
            obtain ⟨q, hq, hqi⟩ := (hun e.on).1 hx2
            rcases List.mem_cons.1 hq with rfl | hq
            · omega
            · have := (List.pairwise_cons.1 hs).1 q hq
              omega
        rw [hnone] at hri
        cases hri
    · obtain ⟨hun0, oi, hoi, hall⟩ := mem_ready.1 hi
      obtain ⟨r, hrm, hri⟩ := (hun i).1 hun0
      obtain ⟨pre, post, rfl⟩ := List.append_of_mem hrm
      have hro := ho r hrm
      rw [hri, hoi] at hro
      cases hro
      have hfree : ∀ q ∈ pre, Free ops.toList base q r := by
        intro q hq
        rcases (List.pairwise_append.1 hp).2.2 q hq r (by simp) with hb | hf
        · exfalso
          have hqu : listed.getD q.i true = false := (hun q.i).2 ⟨q, by simp [hq], rfl⟩
          have hqs : q.i < listed.size := by
            rcases Nat.lt_or_ge q.i listed.size with h | h
            · exact h
            · rw [Array.getD_eq_getD_getElem?, Array.getElem?_eq_none h] at hqu; cases hqu
          rw [hri] at hb
          obtain ⟨e, he, hbe, hor⟩ := hbef i _ hoi q.i hb
          have hel := hall e (by simpa using he) hbe
          have hes : e.on < listed.size := by
            rcases Nat.lt_or_ge e.on listed.size with h | h
            · exact h
            · rw [Array.getD_eq_getD_getElem?, Array.getElem?_eq_none h] at hel; cases hel
          have hel' : listed.getD e.on true = true := by
            rw [Array.getD_eq_getD_getElem?, Array.getElem?_eq_getElem hes] at hel ⊢
            exact hel
          rcases hor with heq | hbit
          · rw [heq] at hqu; rw [hel'] at hqu; cases hqu
          · have := hcl e.on (by omega) hel' q.i hbit
            rw [this] at hqu; cases hqu
        · exact hf
      obtain ⟨s1, hat, hch'⟩ := bubble pre hch hfree
      have hstep : stepA P H call f rid ops.toList (some (base + i)) i r.o s = some s1 := by
        have hfresh := (hfr r hrm).1
        rw [hri] at hfresh
        obtain ⟨st, so⟩ := s1
        have htm := hat.tmps
        have hrun := hat.run
        simp only at htm hrun
        unfold stepA
        rw [hat.want]
        unfold stepF at hrun
        rw [hri] at hrun
        cases hw : r.w with
        | true =>
          rw [hw] at hrun
          simp only [if_true] at hrun
          simp only [hrun, hfresh, htm]
        | false =>
          rw [hw] at hrun
          simp only [Bool.false_eq_true, if_false, Option.some.injEq, Prod.mk.injEq] at hrun
          simp only [htm, ← hrun.1, ← hrun.2]
      have hplace : Place s.objs (some (base + i)) := by have := hat.gone; rw [hri] at this; exact this
      refine stepA_ok hc hr hplace hoi hstep fun C' a' w' adv hr' => ?_
      have his : i < listed.size := by
        have := (Array.getElem?_eq_some_iff.1 hoi).1; omega
      have hset : ∀ j, (listed.setIfInBounds i true).getD j true = if j = i then true else listed.getD j true := by
        intro j
        by_cases hj : j = i
        · subst hj; simp [Array.getD_eq_getD_getElem?, his]
        · rw [if_neg hj]; exact getD_set_ne true (Ne.symm hj)
      have hirr : ∀ q ∈ pre ++ post, q.i ≠ i := by
        intro q hq e
        rcases List.mem_append.1 hq with h | h
        · have := (List.pairwise_append.1 hs).2.2 q h r (by simp); omega
        · have := (List.pairwise_cons.1 (List.pairwise_append.1 hs).2.1).1 q h; omega
      have hsubl : (pre ++ post).Sublist (pre ++ r :: post) := List.Sublist.append_left (List.sublist_cons_self _ _) _
      refine ih (pre ++ post) _ (by simp at hl ⊢; omega) (by simpa using hsz) (fun j => ?_) (fun q hq => ho q (hsubl.subset hq)) (hp.sublist hsubl) (hs.sublist hsubl) (fun q hq => hfr q (hsubl.subset hq)) (fun j hj hjl q hq => ?_) hch' hr' fun C2 a2 w2 adv2 hr2 => hK C2 a2 w2 (adv.trans adv2) hr2
      · rw [hset]
        by_cases hj : j = i
        · rw [if_pos hj]
          refine ⟨(fun h => by cases h), fun ⟨q, hq, hqi⟩ => absurd (hqi.trans hj) (hirr q hq)⟩
        · rw [if_neg hj, hun j]
          refine ⟨fun ⟨q, hq, hqi⟩ => ⟨q, ?_, hqi⟩, fun ⟨q, hq, hqi⟩ => ⟨q, hsubl.subset hq, hqi⟩⟩
          rcases List.mem_append.1 hq with h | h
          · simp [h]
          · rcases List.mem_cons.1 h with rfl | h
            · exact absurd (hqi.symm.trans hri) hj
            · simp [h]
      · rw [hset]
        by_cases hqi : q = i
        · rw [if_pos hqi]
        · rw [if_neg hqi]
          rw [hset] at hjl
          by_cases hji : j = i
          · subst hji
            obtain ⟨e, he, hbe, hor⟩ := hbef j _ hoi q hq
            have hel := hall e (by simpa using he) hbe
            have hes : e.on < listed.size := by
              rcases Nat.lt_or_ge e.on listed.size with h | h
              · exact h
              · rw [Array.getD_eq_getD_getElem?, Array.getElem?_eq_none h] at hel; cases hel
            have hel' : listed.getD e.on true = true := by
              rw [Array.getD_eq_getD_getElem?, Array.getElem?_eq_getElem hes] at hel ⊢
              exact hel
            rcases hor with rfl | hbit
            · exact hel'
            · exact hcl e.on (by omega) hel' q hbit
          · rw [if_neg hji] at hjl
            exact hcl j hj hjl q hq

end Ab
