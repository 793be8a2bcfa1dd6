/- A part of the proof of a row by an interpreter that is proved sound; no conditions of its own. -/
import Derived.Test.YtipfkflogjfbjaaAbDrawn
namespace Ab
open Go

variable {P : Program}

/-- A pair of operations: the later one follows the earlier one, or they are free. -/
def Pair (ops : List Oper) (bef : List Nat) (base : Nat) (q r : Rec) : Prop := (bef.getD r.i 0).testBit q.i = true ∨ Free ops base q r

theorem disj_ok {a b : List Nat} (h : disj a b = true) : ∀ i ∈ a, i ∉ b := fun i hi hb => by
  have := List.all_eq_true.mp h i hi
  simp at this
  exact this hb

theorem freeA_ok {ops : List Oper} {bef : List Nat} {base : Nat} {r : Rec} : ∀ (D : List Rec) (j : Nat), (∀ k q, D[k]? = some q → q.i = j + k) → freeA ops (bef.getD r.i 0) r.o (r.R, r.WW base) j (D.map fun q => (q.o, (q.R, q.WW base))) = true → ∀ q ∈ D, Pair ops bef base q r
  | [], _, _, _ => by simp
  | d :: D, j, hi, h => by
    simp only [List.map_cons, freeA, Bool.and_eq_true, Bool.or_eq_true] at h
    obtain ⟨h1, h2⟩ := h
    have hd : d.i = j := by simpa using hi 0 d rfl
    intro q hq
    rcases List.mem_cons.1 hq with rfl | hq
    · rcases h1 with h1 | ⟨⟨h1, h3⟩, h4⟩
      · exact .inl (by rw [hd]; exact h1)
      · exact .inr ⟨h1, disj_ok h3, disj_ok h4⟩
    · exact freeA_ok D (j + 1) (fun k q hk => by rw [hi (k + 1) q (by simpa using hk)]; omega) h2 q hq

theorem runDrawn_ok {H : Hints} {call : FuncId → List A → Store → Option (A × Store)} {f rid : Nat} {ops : List Oper} {bef : List Nat} {base : Nat} : ∀ (os : List Oper) (i : Nat) (D : List Rec) (s s' : St), (∀ (k : Nat) (q : Rec), D[k]? = some q → q.i = k) → D.length = i →
    runDrawn P H call f rid ops bef base i os (D.map fun q => (q.o, (q.R, q.WW base))) s = some s' →
    ∃ recs : List Rec, Chain P H call ops base recs s s' ∧ recs.map (·.i) = List.range' i os.length ∧ recs.map (·.o) = os ∧ (∀ q ∈ D, ∀ r ∈ recs, Pair ops bef base q r) ∧ recs.Pairwise (Pair ops bef base) ∧
      ∀ r ∈ recs, H.fresh f rid r.i = [] ∧ ∀ e ∈ r.o.after.toList, Region.binds .any e = true → e.on < r.i
  | [], i, D, s, s', hD, hl, h => by
    unfold runDrawn at h; cases h
    exact ⟨[], .nil _, rfl, rfl, by simp, .nil, by simp⟩
  | o :: os, i, D, s, s', hD, hl, h => by
    unfold runDrawn at h
    split at h
    · cases h
    rename_i w hw
    simp only at h
    generalize hft : (if w = true then footA P H s.tmps s.objs o.op else ([], [])) = ft at h
    split at h
    case isFalse => cases h
    rename_i hok
    simp only [Bool.and_eq_true] at hok
    obtain ⟨⟨⟨h1, h2⟩, h3⟩, h4⟩ := hok
    have hgone : s.objs[base + i]? = some .gone := by
      unfold isGone at h4
      split at h4
      · rename_i hg; exact hg
      · cases h4
    have hfr : H.fresh f rid i = [] := by simpa using h3
    split at h
    case h_2 => cases h
    rename_i s1 hs1
    have hat : ∃ v, At P H call ops base ⟨i, o, w, v, ft.1, ft.2⟩ s s1 := by
      unfold stepA at hs1
      rw [hw] at hs1
      cases w with
      | true =>
        simp only at hs1
        split at hs1
        case h_2 => cases hs1
        rename_i v objs hop
        rw [hfr] at hs1
        simp only [Option.some.injEq] at hs1
        subst hs1
        simp only [if_true] at hft
        refine ⟨v, hw, hgone, by simp only [stepF, if_true]; exact hop, ?_, rfl⟩
        have := opA_frame hgone hop (R := ft.1) (W := ft.2) (by rw [hft])
        have e : stepF P H call base ⟨i, o, true, v, ft.1, ft.2⟩ s.tmps = fun o2 => opA P H call s.tmps o2 (some (base + i)) o.type o.op := by funext o2; simp [stepF]
        rw [e]; exact this
      | false =>
        simp only [Option.some.injEq] at hs1
        subst hs1
        simp only [Bool.false_eq_true, if_false] at hft
        subst hft
        refine ⟨.un, hw, hgone, by simp [stepF], ?_, rfl⟩
        have := Loc.read (F := fun o2 => some (.un, o2)) (R := []) (v := .un) hgone (fun o2 _ => rfl)
        have e : stepF P H call base ⟨i, o, false, .un, [], []⟩ s.tmps = fun o2 => some (.un, o2) := by funext o2; simp [stepF]
        rw [e]; exact this
    obtain ⟨v, hat⟩ := hat
    have hpair := freeA_ok (ops := ops) (bef := bef) (base := base) (r := ⟨i, o, w, v, ft.1, ft.2⟩) D 0 (fun k q hk => by rw [hD k q hk]; omega) h1
    obtain ⟨recs, c1, c2, c3, c4, c5, c6⟩ := runDrawn_ok os (i + 1) (D ++ [⟨i, o, w, v, ft.1, ft.2⟩]) s1 s' (fun k q hk => by
      rcases Nat.lt_or_ge k D.length with hlt | hge
      · rw [List.getElem?_append_left hlt] at hk; exact hD k q hk
      · rw [List.getElem?_append_right hge] at hk
        have : k - D.length = 0 := by
          have := (List.getElem?_eq_some_iff.1 hk).1
          simp at this; omega
        rw [this] at hk
        simp at hk
        subst hk
        show i = k
        omega) (by simp [hl]) (by simpa [Rec.WW] using h)
    refine ⟨⟨i, o, w, v, ft.1, ft.2⟩ :: recs, .cons hat c1, ?_, by simp [c3], fun q hq r hr => ?_, ?_, fun r hr => ?_⟩
    · simp [c2, List.range'_succ]
    · rcases List.mem_cons.1 hr with rfl | hr
      · exact hpair q hq
      · exact c4 q (by simp [hq]) r hr
    · exact List.pairwise_cons.2 ⟨fun r hr => c4 _ (by simp) r hr, c5⟩
    · rcases List.mem_cons.1 hr with rfl | hr
      · refine ⟨hfr, fun e he hb => ?_⟩
        have := List.all_eq_true.mp h2 e he
        simpa [hb] using this
      · exact c6 r hr

end Ab
