/- A part of the proof of a row by an interpreter that is proved sound; no conditions of its own. -/
import Derived.Test.YtpoheolnnbgebaaAbCall
namespace Ab
open Go

variable {P : Program}

def subCx (C : Cx) (ρ : List Nat) : Cx := ⟨C.M, fun j => (ρ[j]?).bind C.φ⟩

/-- The objects that are reached, by themselves. -/
theorem sub_ok {C : Cx} {objs : Store} {w : World} (g : Good C objs w) {ρ : List Nat} (hn : ρ.Nodup) (hlt : ∀ i ∈ ρ, i < objs.length) {sub : Store} (hsub : renOs (idx ρ) (ρ.map (getO objs)) = some sub) :
    Good (subCx C ρ) sub w ∧ Ren (idx ρ) C objs (subCx C ρ) sub ∧ sub.length = ρ.length := by
  obtain ⟨hl, hget⟩ := renOs_get _ hsub
  have hl' : sub.length = ρ.length := by rw [← hl]; simp
  have hat : ∀ {id j : Nat} {x : O}, idx ρ id = some j → objs[id]? = some x → ∃ y, sub[j]? = some y ∧ renO (idx ρ) x = some y := by
    intro id j x h1 h2
    have h3 := idx_some h1
    have hj : j < sub.length := by rw [hl']; exact (List.getElem?_eq_some_iff.1 h3).1
    obtain ⟨o, q1, q2⟩ := hget j sub[j] (List.getElem?_eq_getElem hj)
    rw [List.getElem?_map, h3] at q1
    simp only [Option.map_some, Option.some.injEq] at q1
    rw [getO_some h2] at q1
    subst q1
    exact ⟨_, List.getElem?_eq_getElem hj, q2⟩
  have rn : Ren (idx ρ) C objs (subCx C ρ) sub := by
    refine ⟨rfl, fun id j h x _ => by simp [subCx, idx_some h], fun id j h cs ho => ?_, fun id j h sz es fr ho => ?_, fun id j h es ho => ?_⟩
    · obtain ⟨y, h1, h2⟩ := hat h ho
      obtain ⟨cs', rfl⟩ := (renO_kind h2).1 cs rfl
      exact ⟨cs', h1⟩
    · obtain ⟨y, h1, h2⟩ := hat h ho
      rw [(renO_kind h2).2.1 sz es fr rfl] at h1
      exact h1
    · obtain ⟨y, h1, h2⟩ := hat h ho
      obtain ⟨cs', rfl⟩ := (renO_kind h2).2.2 es rfl
      exact ⟨cs', h1⟩
  refine ⟨⟨g.seal_, fun j y hy => ?_, fun i j b n m hi hj h1 h2 => ?_⟩, rn, hl'⟩
  · obtain ⟨o, q1, q2⟩ := hget j y hy
    rw [List.getElem?_map, Option.map_eq_some_iff] at q1
    obtain ⟨id, h3, rfl⟩ := q1
    have hid := hlt id (List.mem_of_getElem? h3)
    have ho := List.getElem?_eq_getElem hid
    rw [getO_some ho] at q2
    exact renO_good rn q2 (by simp [subCx, h3]) (g.obj id _ ho)
  · simp only [subCx, Option.bind_eq_some_iff] at h1 h2
    obtain ⟨a, a1, a2⟩ := h1
    obtain ⟨c, c1, c2⟩ := h2
    have := g.inj a c b n m (hlt a (List.mem_of_getElem? a1)) (hlt c (List.mem_of_getElem? c1)) a2 c2
    subst this
    have e1 := idx_of_get hn a1
    have e2 := idx_of_get hn c1
    rw [e1] at e2; cases e2; rfl

theorem setAll_length : ∀ (ρ : List Nat) (os : List O) (objs : Store), (setAll objs ρ os).length = objs.length
  | [], _, _ => by simp [setAll]
  | _ :: _, [], _ => by simp [setAll]
  | i :: ρ, o :: os, objs => by simp [setAll, setAll_length ρ os]

theorem setAll_out : ∀ (ρ : List Nat) (os : List O) (objs : Store) {i : Nat}, i ∉ ρ → (setAll objs ρ os)[i]? = objs[i]?
  | [], _, _, _, _ => by simp [setAll]
  | _ :: _, [], _, _, _ => by simp [setAll]
  | j :: ρ, o :: os, objs, i, h => by
    simp only [List.mem_cons, not_or] at h
    simp only [setAll]
    rw [setAll_out ρ os _ h.2, List.getElem?_set_ne (Ne.symm h.1)]

theorem setAll_in : ∀ (ρ : List Nat) (os : List O) (objs : Store) {i j : Nat}, ρ.Nodup → ρ.length ≤ os.length → i < objs.length → ρ[j]? = some i → (setAll objs ρ os)[i]? = os[j]?
  | [], _, _, _, _, _, _, _, h => by simp at h
  | _ :: _, [], _, _, _, _, hl, _, _ => by simp at hl
  | k :: ρ, o :: os, objs, i, j, hn, hl, hi, h => by
    simp only [setAll]
    have hn' := List.nodup_cons.1 hn
    cases j with
    | zero =>
      simp at h; subst h
      rw [setAll_out ρ os _ hn'.1]
      simp [hi]
    | succ j =>
      simp at h
      rw [setAll_in ρ os _ hn'.2 (by simpa using hl) (by simpa using hi) h]
      simp

/-- Where the callee's objects lie in the caller's store. -/
structure Laid (ρ : List Nat) (base : Nat) (objs sub3 objs' : Store) : Prop where
  len : objs.length ≤ objs'.length
  le : ρ.length ≤ sub3.length
  old : ∀ (i j : Nat), ρ[j]? = some i → objs'[i]? = sub3[j]?
  new : ∀ (k : Nat), k < sub3.length - ρ.length → objs'[base + k]? = sub3[ρ.length + k]?
  out : ∀ (i : Nat), i ∉ ρ → ¬ (base ≤ i ∧ i < base + (sub3.length - ρ.length)) → objs'[i]? = objs[i]?
  free : ∀ (k : Nat), k < sub3.length - ρ.length → base + k ∉ ρ ∧ (objs[base + k]? = none ∨ objs[base + k]? = some .gone)

theorem backA_split {ρ : List Nat} (hn : ρ.Nodup) {objs : Store} (hlt : ∀ i ∈ ρ, i < objs.length) {dr : Option Nat} (hp : Place objs dr) {r r2 : A} {sub2 objs' : Store} (h : backA ρ objs dr r sub2 = some (r2, objs')) :
    ∃ base sub3, renA (fun j => if j < ρ.length then ρ[j]? else some (base + (j - ρ.length))) r = some r2 ∧ renOs (fun j => if j < ρ.length then ρ[j]? else some (base + (j - ρ.length))) sub2 = some sub3 ∧ Laid ρ base objs sub3 objs' := by
  unfold backA at h
  simp only at h
  split at h
  case h_2 => cases h
  rename_i r3 sub3 h1 h2
  split at h
  case isFalse => cases h
  rename_i hle
  cases dr with
  | none =>
    simp only [Option.some.injEq, Prod.mk.injEq] at h
    obtain ⟨rfl, rfl⟩ := h
    refine ⟨objs.length, sub3, h1, h2, ?_, hle, fun i j hj => ?_, fun k hk => ?_, fun i hi hb => ?_, fun k hk => ?_⟩
    · simp [setAll_length]
    · have hi := hlt i (List.mem_of_getElem? hj)
      rw [List.getElem?_append_left (by rw [setAll_length]; exact hi), setAll_in ρ sub3 objs hn hle hi hj]
    · rw [List.getElem?_append_right (by rw [setAll_length]; omega), setAll_length, List.getElem?_drop]
      congr 1; omega
    · rcases Nat.lt_or_ge i objs.length with hl | hl
      · rw [List.getElem?_append_left (by rw [setAll_length]; exact hl), setAll_out ρ sub3 objs hi]
      · rw [List.getElem?_append_right (by rw [setAll_length]; omega), List.getElem?_eq_none (by simp [setAll_length]; omega), List.getElem?_eq_none hl]
    · exact ⟨fun hm => by have := hlt _ hm; omega, .inl (List.getElem?_eq_none (by omega))⟩
  | some p =>
    simp only at h
    have hp' : objs[p]? = some .gone := hp
    have hpl : p < objs.length := (List.getElem?_eq_some_iff.1 hp').1
    split at h
    · cases h
    rename_i hpr
    have hpr' : p ∉ ρ := by simpa using hpr
    split at h
    · rename_i hd
      simp only [Option.some.injEq, Prod.mk.injEq] at h
      obtain ⟨rfl, rfl⟩ := h
      have hl : sub3.length - ρ.length = 0 := by
        have := congrArg List.length hd
        simpa using this
      refine ⟨p, sub3, h1, h2, by simp [setAll_length], hle, fun i j hj => setAll_in ρ sub3 objs hn hle (hlt i (List.mem_of_getElem? hj)) hj, fun k hk => by omega, fun i hi _ => setAll_out ρ sub3 objs hi, fun k hk => by omega⟩
    · rename_i o hd
      simp only [Option.some.injEq, Prod.mk.injEq] at h
      obtain ⟨rfl, rfl⟩ := h
      have hl : sub3.length - ρ.length = 1 := by
        have := congrArg List.length hd
        simpa using this
      refine ⟨p, sub3, h1, h2, by simp [setAll_length], hle, fun i j hj => ?_, fun k hk => ?_, fun i hi hb => ?_, fun k hk => ?_⟩
      · have hm := List.mem_of_getElem? hj
        rw [List.getElem?_set_ne (fun e => hpr' (by rw [e]; exact hm)), setAll_in ρ sub3 objs hn hle (hlt i hm) hj]
      · have hk0 : k = 0 := by omega
        subst hk0
        have : sub3[ρ.length + 0]? = some o := by
          have := congrArg (·[0]?) hd
          simp only [List.getElem?_drop] at this
          simpa using this
        rw [this]
        simp [setAll_length, hpl]
      · rw [List.getElem?_set_ne (by omega), setAll_out ρ sub3 objs hi]
      · have hk0 : k = 0 := by omega
        subst hk0
        exact ⟨hpr', .inr hp'⟩
    · cases h

/-- Back from a call. -/
theorem back_ok {C : Cx} {objs : Store} {w w' : World} (g : Good C objs w) {ρ : List Nat} (hn : ρ.Nodup) (hlt : ∀ i ∈ ρ, i < objs.length) {sub : Store} (hsub : renOs (idx ρ) (ρ.map (getO objs)) = some sub) {dr : Option Nat} (hp : Place objs dr)
    {C' : Cx} {sub2 : Store} (adv : Adv (subCx C ρ) sub w C' sub2 w') (g' : Good C' sub2 w') {r r2 : A} {v : Value} (rr : RelA C' sub2 r v) {objs' : Store} (h : backA ρ objs dr r sub2 = some (r2, objs')) :
    ∃ C'', Adv C objs w C'' objs' w' ∧ Good C'' objs' w' ∧ RelA C'' objs' r2 v := by
  obtain ⟨gs, rns, hsl⟩ := sub_ok g hn hlt hsub
  obtain ⟨base, sub3, hr, hs3, L⟩ := backA_split hn hlt hp h
  obtain ⟨hl23, h23⟩ := renOs_get _ hs3
  let gf : Nat → Option Nat := fun j => if j < ρ.length then ρ[j]? else some (base + (j - ρ.length))
  let G : Nat → Option Nat := fun i => match idx ρ i with | some j => some j | none => if base ≤ i ∧ i < base + (sub3.length - ρ.length) then some (ρ.length + (i - base)) else none
  have F1 : ∀ i j, G i = some j → gf j = some i ∧ j < sub3.length := by
    intro i j hG
    simp only [G] at hG
    split at hG
    · rename_i j' hj
      cases hG
      have := idx_some hj
      have hjl := (List.getElem?_eq_some_iff.1 this).1
      exact ⟨by simp only [gf]; rw [if_pos hjl]; exact this, by have := L.le; omega⟩
    · split at hG
      · rename_i hb
        cases hG
        have := L.le
        exact ⟨by simp only [gf]; rw [if_neg (by omega)]; congr 1; omega, by omega⟩
      · cases hG
  have F2 : ∀ i j, j < sub3.length → gf j = some i → G i = some j := by
    intro i j hj hg
    simp only [gf] at hg
    split at hg
    · rename_i hjl
      simp only [G, idx_of_get hn hg]
    · rename_i hjl
      cases hg
      have hf := (L.free (j - ρ.length) (by omega)).1
      have hi : idx ρ (base + (j - ρ.length)) = none := by
        cases hx : idx ρ (base + (j - ρ.length)) with
        | none => rfl
        | some x => exact absurd (List.mem_of_getElem? (idx_some hx)) hf
      simp only [G, hi]
      rw [if_pos (by omega)]
      congr 1; omega
  have F3 : ∀ i j, G i = some j → objs'[i]? = sub3[j]? := by
    intro i j hG
    simp only [G] at hG
    split at hG
    · rename_i j' hj
      cases hG
      exact L.old i _ (idx_some hj)
    · split at hG
      · rename_i hb
        cases hG
        have := L.new (i - base) (by omega)
        rwa [show base + (i - base) = i from by omega] at this
      · cases hG
  have F4 : ∀ i, G i = none → objs'[i]? = objs[i]? ∧ i ∉ ρ := by
    intro i hG
    simp only [G] at hG
    split at hG
    · cases hG
    · rename_i hj
      split at hG
      · cases hG
      · rename_i hb
        exact ⟨L.out i (idx_none hj) hb, idx_none hj⟩
  let C2 : Cx := ⟨C'.M, fun i => match G i with | some j => C'.φ j | none => C.φ i⟩
  have hφs : ∀ i j, G i = some j → C2.φ i = C'.φ j := fun i j h => by simp only [C2, h]
  have hφn : ∀ i, G i = none → C2.φ i = C.φ i := fun i h => by simp only [C2, h]
  have hsubφ : ∀ {j : Nat} {x}, (subCx C ρ).φ j = some x → ∃ i, ρ[j]? = some i ∧ i < objs.length ∧ C.φ i = some x := by
    intro j x hx
    simp only [subCx, Option.bind_eq_some_iff] at hx
    obtain ⟨i, h1, h2⟩ := hx
    exact ⟨i, h1, hlt i (List.mem_of_getElem? h1), h2⟩
  have hat3 : ∀ {j : Nat} {x : O}, sub2[j]? = some x → ∃ y, sub3[j]? = some y ∧ renO gf x = some y := by
    intro j x hx
    have hj : j < sub3.length := by have := (List.getElem?_eq_some_iff.1 hx).1; omega
    obtain ⟨o, q1, q2⟩ := h23 j sub3[j] (List.getElem?_eq_getElem hj)
    rw [hx] at q1; cases q1
    exact ⟨_, List.getElem?_eq_getElem hj, q2⟩
  have rn : Ren gf C' sub2 C2 objs' := by
    have key : ∀ {j i : Nat} {x : O}, gf j = some i → sub2[j]? = some x → G i = some j := fun hg hx => F2 _ _ (by have := (List.getElem?_eq_some_iff.1 hx).1; omega) hg
    refine ⟨rfl, fun j i hg x hx => hφs i j (key hg hx), fun j i hg cs hx => ?_, fun j i hg sz es fr hx => ?_, fun j i hg es hx => ?_⟩
    · obtain ⟨y, h1, h2⟩ := hat3 hx
      obtain ⟨cs', rfl⟩ := (renO_kind h2).1 cs rfl
      exact ⟨cs', by rw [F3 i j (key hg hx)]; exact h1⟩
    · obtain ⟨y, h1, h2⟩ := hat3 hx
      rw [(renO_kind h2).2.1 sz es fr rfl] at h1
      rw [F3 i j (key hg hx)]; exact h1
    · obtain ⟨y, h1, h2⟩ := hat3 hx
      obtain ⟨cs', rfl⟩ := (renO_kind h2).2.2 es rfl
      exact ⟨cs', by rw [F3 i j (key hg hx)]; exact h1⟩
  have advF : Adv C objs w C2 objs' w' := by
    refine ⟨fun a v h => adv.M a v h, L.len, fun i x hx => ?_, adv.os, adv.tape, adv.output, adv.size, fun b hb hno => ?_, fun a v h => ?_, fun i b n hi hb => ?_⟩
    · have hil := (List.getElem?_eq_some_iff.1 hx).1
      cases hG : G i with
      | none =>
        rw [(F4 i hG).1, hx]
        have e := hφn i hG
        cases x with
        | box cs => exact ⟨e, cs, rfl⟩
        | arr sz es fr => exact ⟨es, fr, rfl, .inl ⟨rfl, e⟩⟩
        | mp es => exact ⟨e, es, rfl⟩
        | gone => trivial
      | some j =>
        have hidx : idx ρ i = some j ∨ objs[i]? = none ∨ objs[i]? = some .gone := by
          simp only [G] at hG
          split at hG
          · rename_i j' hj; cases hG; exact .inl hj
          · split at hG
            · rename_i hb
              have := (L.free (i - base) (by omega)).2
              rw [show base + (i - base) = i from by omega] at this
              exact .inr this
            · cases hG
        rcases hidx with hidx | h0 | h0
        · have hφ1 : (subCx C ρ).φ j = C.φ i := by simp [subCx, idx_some hidx]
          have e0 := hφs i j hG
          have e1 := F3 i j hG
          cases x with
          | box cs =>
            obtain ⟨cs1, q1⟩ := rns.box i j hidx cs hx
            obtain ⟨q2, cs2, q3⟩ := adv.bec j _ q1
            obtain ⟨y, q4, q5⟩ := hat3 q3
            obtain ⟨cs3, rfl⟩ := (renO_kind q5).1 cs2 rfl
            exact ⟨by rw [e0, q2, hφ1], cs3, by rw [e1, q4]⟩
          | arr sz es fr =>
            have q1 := rns.arr i j hidx sz es fr hx
            obtain ⟨es2, fr2, q3, q6⟩ := adv.bec j _ q1
            obtain ⟨y, q4, q5⟩ := hat3 q3
            rw [(renO_kind q5).2.1 _ _ _ rfl] at q4
            exact ⟨es2, fr2, by rw [e1, q4], q6.imp (fun q => ⟨q.1, by rw [e0, q.2, hφ1]⟩) id⟩
          | mp es =>
            obtain ⟨cs1, q1⟩ := rns.mp i j hidx es hx
            obtain ⟨q2, cs2, q3⟩ := adv.bec j _ q1
            obtain ⟨y, q4, q5⟩ := hat3 q3
            obtain ⟨cs3, rfl⟩ := (renO_kind q5).2.2 cs2 rfl
            exact ⟨by rw [e0, q2, hφ1], cs3, by rw [e1, q4]⟩
          | gone => trivial
        · rw [hx] at h0; cases h0
        · rw [hx] at h0; cases h0; trivial
    · refine adv.blk b hb fun j n hj hc => ?_
      obtain ⟨i, h1, h2, h3⟩ := hsubφ hc
      exact hno i n h2 h3
    · rcases adv.new a v h with h1 | h1 | ⟨j, n, h1, h2⟩
      · exact .inl h1
      · exact .inr (.inl h1)
      · obtain ⟨i, q1, q2, q3⟩ := hsubφ h2
        exact .inr (.inr ⟨i, n, q2, q3⟩)
    · cases hG : G i with
      | none =>
        rw [hφn i hG] at hb
        have : i < objs.length := by
          have := (F4 i hG).1
          rcases Nat.lt_or_ge i objs.length with h | h
          · exact h
          · rw [List.getElem?_eq_none h, List.getElem?_eq_none_iff] at this; omega
        exact .inr ⟨i, n, this, hb⟩
      | some j =>
        rw [hφs i j hG] at hb
        have hj : j < sub2.length := by have := (F1 i j hG).2; omega
        rcases adv.own j b n hj hb with h1 | ⟨j', n', h1, h2⟩
        · exact .inl h1
        · obtain ⟨i', q1, q2, q3⟩ := hsubφ h2
          exact .inr ⟨i', n', q2, q3⟩
  have hin : ∀ {i : Nat} {x : O}, G i = none → objs'[i]? = some x → objs[i]? = some x := fun hG hx => by rw [← (F4 _ hG).1]; exact hx
  have hinl : ∀ {i : Nat}, G i = none → i < objs'.length → i < objs.length := fun hG hi => (List.getElem?_eq_some_iff.1 (hin hG (List.getElem?_eq_getElem hi))).1
  have cross : ∀ {i j1 b n m : Nat}, G i = none → i < objs.length → C.φ i = some (b, n) → j1 < sub2.length → C'.φ j1 = some (b, m) → False := by
    intro i j1 b n m hG hi hb hj hc
    have hbl := g.lt hi hb
    rcases adv.own j1 b m hj hc with h1 | ⟨j', n', h1, h2⟩
    · omega
    · obtain ⟨i', q1, q2, q3⟩ := hsubφ h2
      have := g.inj i i' b n n' hi q2 hb q3
      subst this
      exact (F4 i hG).2 (List.mem_of_getElem? q1)
  refine ⟨C2, advF, ⟨fun a v h => g'.seal_ a v h, fun i x hx => ?_, fun i1 i2 b n m hi1 hi2 h1 h2 => ?_⟩, ren_ok rn rr hr⟩
  · cases hG : G i with
    | none =>
      have ho := hin hG hx
      have hil := (List.getElem?_eq_some_iff.1 ho).1
      refine good_keep advF (hφn i hG) (fun b n hb => ?_) (g.obj i x ho)
      have hbl := g.lt hil hb
      have hno : ∀ j n', (subCx C ρ).φ j ≠ some (b, n') := by
        intro j n' hc
        obtain ⟨i', q1, q2, q3⟩ := hsubφ hc
        have := g.inj i i' b n n' hil q2 hb q3
        subst this
        exact (F4 i hG).2 (List.mem_of_getElem? q1)
      refine ⟨adv.blk b hbl fun j n' _ => hno j n', fun k => ?_⟩
      cases hM : C'.M ⟨b, k, none⟩ with
      | none =>
        cases hM2 : C.M ⟨b, k, none⟩ with
        | none => rfl
        | some u => have := adv.M _ _ hM2; rw [hM] at this; cases this
      | some u =>
        rcases adv.new _ _ hM with q | q | ⟨j, n', _, q⟩
        · exact q.symm
        · exact absurd q (by simp; omega)
        · exact absurd q (hno j n')
    | some j =>
      rw [F3 i j hG] at hx
      obtain ⟨o, q1, q2⟩ := h23 j x hx
      exact renO_good rn q2 (hφs i j hG) (g'.obj j o q1)
  · cases hG1 : G i1 with
    | none =>
      rw [hφn i1 hG1] at h1
      cases hG2 : G i2 with
      | none =>
        rw [hφn i2 hG2] at h2
        exact g.inj i1 i2 b n m (hinl hG1 hi1) (hinl hG2 hi2) h1 h2
      | some j2 =>
        rw [hφs i2 j2 hG2] at h2
        exact (cross hG1 (hinl hG1 hi1) h1 (by have := (F1 _ _ hG2).2; omega) h2).elim
    | some j1 =>
      rw [hφs i1 j1 hG1] at h1
      have hj1 : j1 < sub2.length := by have := (F1 _ _ hG1).2; omega
      cases hG2 : G i2 with
      | none =>
        rw [hφn i2 hG2] at h2
        exact (cross hG2 (hinl hG2 hi2) h2 hj1 h1).elim
      | some j2 =>
        rw [hφs i2 j2 hG2] at h2
        have hj2 : j2 < sub2.length := by have := (F1 _ _ hG2).2; omega
        have := g'.inj j1 j2 b n m hj1 hj2 h1 h2
        subst this
        have e1 := (F1 _ _ hG1).1
        have e2 := (F1 _ _ hG2).1
        rw [e1] at e2; cases e2; rfl

/-! ### Calls -/

/-- What a call of f on these arguments and objects does. -/
def CallOK (P : Program) (call : FuncId → List A → Store → Option (A × Store)) : Prop :=
  ∀ f args inc r out, call f args inc = some (r, out) → (∃ fn c, P.funcs[f]? = some fn ∧ fn.body = some c ∧ fn.name ≠ "runtime.NumGoroutine") ∧
    ∀ (C : Cx) (w : World) (vs : Array Value), Good C inc w → RelL C inc args vs.toList →
      Calls P f vs w (fun e w' => ∃ v C', e = .returned v ∧ Adv C inc w C' out w' ∧ Good C' out w' ∧ RelA C' out r v)

theorem Sealed.place {C C' : Cx} {objs : Store} {w : World} {args : List A} {dr : Option Nat} (_h : Sealed C objs w C' (shutAs objs args)) (hp : Place objs dr) : Place (shutAs objs args) dr := by
  cases dr with
  | none => trivial
  | some p => exact shutAs_gone args hp

theorem callR_ok {call : FuncId → List A → Store → Option (A × Store)} (hc : CallOK P call) {C : Cx} {objs : Store} {w : World} (g : Good C objs w) {dr : Option Nat} (hp : Place objs dr) {f : FuncId} {args : List A} {vs : Array Value} (ra : RelL C objs args vs.toList)
    {r : A} {objs' : Store} (h : callR call f args objs dr = some (r, objs')) :
    (∃ fn c, P.funcs[f]? = some fn ∧ fn.body = some c ∧ fn.name ≠ "runtime.NumGoroutine") ∧ Calls P f vs w (fun e w' => ∃ v C', e = .returned v ∧ Adv C objs w C' objs' w' ∧ Good C' objs' w' ∧ RelA C' objs' r v) := by
  unfold callR at h
  simp only at h
  have hn := reach_nodup objs (4 * objs.length + 40) (refsAs args) [] List.nodup_nil
  generalize reach objs (4 * objs.length + 40) (refsAs args) [] = ρ at h hn
  split at h
  case isFalse => cases h
  rename_i hall
  have hlt : ∀ i ∈ ρ, i < objs.length := fun i hi => by simpa using List.all_eq_true.mp hall i hi
  split at h
  case h_2 => cases h
  rename_i args2 sub h1 h2
  split at h
  case h_2 => cases h
  rename_i r1 sub2 hcall
  obtain ⟨gs, rn, hl⟩ := sub_ok g hn hlt h2
  obtain ⟨hbody, hcalls⟩ := hc _ _ _ _ _ hcall
  refine ⟨hbody, (hcalls (subCx C ρ) w vs gs (renL_ok rn ra h1)).mono fun e w' he => ?_⟩
  obtain ⟨v, C', rfl, adv, g', rr⟩ := he
  obtain ⟨C2, q1, q2, q3⟩ := back_ok g hn hlt h2 hp adv g' rr h
  exact ⟨v, C2, rfl, q1, q2, q3⟩

theorem callA_ok {H : Hints} {call : FuncId → List A → Store → Option (A × Store)} (hc : CallOK P call) {C : Cx} {objs : Store} {w : World} (g : Good C objs w) {dr : Option Nat} (hp : Place objs dr) {f : FuncId} {args : List A} {vs : Array Value} (ra : RelL C objs args vs.toList)
    {r : A} {objs' : Store} (h : callA H call f args objs dr = some (r, objs')) :
    (∃ fn c, P.funcs[f]? = some fn ∧ fn.body = some c ∧ fn.name ≠ "runtime.NumGoroutine") ∧ Calls P f vs w (fun e w' => ∃ v C', e = .returned v ∧ Adv C objs w C' objs' w' ∧ Good C' objs' w' ∧ RelA C' objs' r v) := by
  unfold callA at h
  split at h
  · exact callR_ok hc g hp ra h
  · split at h
    case isFalse => cases h
    rename_i hflat
    split at h
    case h_2 => cases h
    rename_i args1 hex
    obtain ⟨C1, s1, r1⟩ := exAs_ok args hflat g ra hex
    obtain ⟨hb, hcalls⟩ := callR_ok hc s1.good (s1.place hp) r1 h
    refine ⟨hb, hcalls.mono fun e w' he => ?_⟩
    obtain ⟨v, C', h1, adv, g', rr⟩ := he
    exact ⟨v, C', h1, s1.adv.trans adv, g', rr⟩

end Ab
