/- A part of the proof of a row by an interpreter that is proved sound; no conditions of its own. -/
import Derived.Test.YtpoheolnnbgebaaAbMap
namespace Ab
open Go

variable {P : Program}

/-! ### Renaming -/

theorem idx_some : ∀ {l : List Nat} {i j : Nat}, idx l i = some j → l[j]? = some i
  | [], _, _, h => by simp [idx] at h
  | k :: l, i, j, h => by
    unfold idx at h
    split at h
    · rename_i e; cases h; simp [e]
    · simp only [Option.map_eq_some_iff] at h
      obtain ⟨j', h1, rfl⟩ := h
      simpa using idx_some h1

theorem idx_none : ∀ {l : List Nat} {i : Nat}, idx l i = none → i ∉ l
  | [], _, _ => by simp
  | k :: l, i, h => by
    unfold idx at h
    split at h
    · cases h
    · rename_i e
      simp only [Option.map_eq_none_iff] at h
      simp only [List.mem_cons, not_or]
      exact ⟨e, idx_none h⟩

theorem idx_of_get : ∀ {l : List Nat} (_ : l.Nodup) {i j : Nat}, l[j]? = some i → idx l i = some j
  | [], _, _, _, h => by simp at h
  | k :: l, hn, i, j, h => by
    unfold idx
    cases j with
    | zero => simp at h; simp [h]
    | succ j =>
      simp at h
      have hne : i ≠ k := fun e => (List.nodup_cons.1 hn).1 (e ▸ List.mem_of_getElem? h)
      rw [if_neg hne, idx_of_get (List.nodup_cons.1 hn).2 h]; rfl

structure Ren (h : Nat → Option Nat) (C : Cx) (o : Store) (C2 : Cx) (o2 : Store) : Prop where
  M : C2.M = C.M
  phi : ∀ id id', h id = some id' → ∀ x, o[id]? = some x → C2.φ id' = C.φ id
  box : ∀ id id', h id = some id' → ∀ cs, o[id]? = some (.box cs) → ∃ cs', o2[id']? = some (.box cs')
  arr : ∀ id id', h id = some id' → ∀ sz es fr, o[id]? = some (.arr sz es fr) → o2[id']? = some (.arr sz es fr)
  mp : ∀ id id', h id = some id' → ∀ es, o[id]? = some (.mp es) → ∃ es', o2[id']? = some (.mp es')

theorem renAs_get {g : Nat → Option Nat} : ∀ (cs : List A) {ds : List A}, renAs g cs = some ds → cs.length = ds.length ∧ ∀ (i : Nat) (d : A), ds[i]? = some d → ∃ c, cs[i]? = some c ∧ renA g c = some d
  | [], ds, h => by unfold renAs at h; cases h; exact ⟨rfl, fun i d hd => by simp at hd⟩
  | c :: cs, ds, h => by
    unfold renAs at h
    split at h
    · rename_i x hx
      split at h
      · rename_i y hy
        cases h
        obtain ⟨h1, h2⟩ := renAs_get cs hy
        refine ⟨by simp [h1], fun i d hd => ?_⟩
        cases i with
        | zero => simp at hd; subst hd; exact ⟨c, rfl, hx⟩
        | succ i => simp at hd; obtain ⟨c', q1, q2⟩ := h2 i d hd; exact ⟨c', by simpa using q1, q2⟩
      · cases h
    · cases h

theorem ren_ok {h : Nat → Option Nat} {C C2 : Cx} {o o2 : Store} (rn : Ren h C o C2 o2) {x : A} {v : Value} (r : RelA C o x v) : ∀ {y : A}, renA h x = some y → RelA C2 o2 y v := by
  induction r with
  | d hd => intro y hy; simp [renA] at hy; subst hy; exact .d (by rw [rn.M]; exact hd)
  | nilsl g a => intro y hy; simp [renA] at hy; subst hy; exact .nilsl g a
  | nilm => intro y hy; simp [renA] at hy; subst hy; exact .nilm
  | agg cs vs hl hc ih =>
    intro y hy
    simp only [renA, Option.map_eq_some_iff] at hy
    obtain ⟨ds, h1, rfl⟩ := hy
    obtain ⟨h2, h3⟩ := renAs_get cs h1
    exact .agg ds vs (by omega) fun i d hd => by obtain ⟨c, q1, q2⟩ := h3 i d hd; exact ih i c q1 q2
  | tup cs vs hl hc ih =>
    intro y hy
    simp only [renA, Option.map_eq_some_iff] at hy
    obtain ⟨ds, h1, rfl⟩ := hy
    obtain ⟨h2, h3⟩ := renAs_get cs h1
    exact .tup ds vs (by omega) fun i d hd => by obtain ⟨c, q1, q2⟩ := h3 i d hd; exact ih i c q1 q2
  | bp id off b n cs ho hb =>
    intro y hy
    simp only [renA, Option.map_eq_some_iff] at hy
    obtain ⟨id', h1, rfl⟩ := hy
    obtain ⟨cs', h2⟩ := rn.box id id' h1 cs ho
    exact .bp id' off b n cs' h2 (by rw [rn.phi id id' h1 _ ho]; exact hb)
  | ep id i off n p sz es fr ho hn hc =>
    intro y hy
    simp only [renA, Option.map_eq_some_iff] at hy
    obtain ⟨id', h1, rfl⟩ := hy
    exact .ep id' i off n p sz es fr (rn.arr id id' h1 _ _ _ ho) hn (by rw [rn.phi id id' h1 _ ho]; exact hc)
  | cp cs ad u hr hm => intro y hy; simp [renA] at hy; subst hy; exact .cp cs ad u (by rw [rn.M]; exact hr) (by rw [rn.M]; exact hm)
  | arr id off len n a cap sz es fr ho hn hc hcur =>
    intro y hy
    simp only [renA, Option.map_eq_some_iff] at hy
    obtain ⟨id', h1, rfl⟩ := hy
    exact .arr id' off len n a cap sz es fr (rn.arr id id' h1 _ _ _ ho) hn hc (by unfold CurArr at *; rw [rn.phi id id' h1 _ ho]; exact hcur)
  | fn f a b vs us hv hu h1 h2 ih1 ih2 =>
    intro y hy
    unfold renA at hy
    split at hy
    · rename_i x1 x2 q1 q2
      cases hy
      obtain ⟨l1, g1⟩ := renAs_get a q1
      obtain ⟨l2, g2⟩ := renAs_get b q2
      exact .fn f x1 x2 vs us (by omega) (by omega) (fun i d hd => by obtain ⟨c, q1, q2⟩ := g1 i d hd; exact ih1 i c q1 q2) (fun i d hd => by obtain ⟨c, q1, q2⟩ := g2 i d hd; exact ih2 i c q1 q2)
    · cases hy
  | mp id b n es ho hb =>
    intro y hy
    simp only [renA, Option.map_eq_some_iff] at hy
    obtain ⟨id', h1, rfl⟩ := hy
    obtain ⟨es', h2⟩ := rn.mp id id' h1 es ho
    exact .mp id' b n es' h2 (by rw [rn.phi id id' h1 _ ho]; exact hb)
  | un => intro y hy; simp [renA] at hy; subst hy; exact .un
  | top v => intro y hy; simp [renA] at hy; subst hy; exact .top v

theorem ren_leaf {h : Nat → Option Nat} {x y : A} (hy : renA h x = some y) : y.leaf = x.leaf := by
  cases x <;> unfold renA at hy <;> first
    | (simp only [Option.map_eq_some_iff] at hy; obtain ⟨z, _, rfl⟩ := hy; rfl)
    | (cases hy; rfl)
    | (split at hy <;> cases hy; rfl)

theorem renL_ok {h : Nat → Option Nat} {C C2 : Cx} {o o2 : Store} (rn : Ren h C o C2 o2) {cs ds : List A} {vs : List Value} (r : RelL C o cs vs) (hd : renAs h cs = some ds) : RelL C2 o2 ds vs := by
  obtain ⟨h1, h2⟩ := renAs_get cs hd
  exact ⟨by have := r.1; omega, fun i d hd => by obtain ⟨c, q1, q2⟩ := h2 i d hd; exact ren_ok rn (r.2 i c q1) q2⟩

theorem renMp_get {g : Nat → Option Nat} : ∀ (cs : List (D × A)) {ds : List (D × A)}, renMp g cs = some ds → cs.length = ds.length ∧ ∀ (i : Nat) (k : D) (d : A), ds[i]? = some (k, d) → ∃ c, cs[i]? = some (k, c) ∧ renA g c = some d
  | [], ds, h => by unfold renMp at h; cases h; exact ⟨rfl, fun i k d hd => by simp at hd⟩
  | (k0, c) :: cs, ds, h => by
    unfold renMp at h
    split at h
    · rename_i x hx
      split at h
      · rename_i y hy
        cases h
        obtain ⟨h1, h2⟩ := renMp_get cs hy
        refine ⟨by simp [h1], fun i k d hd => ?_⟩
        cases i with
        | zero => simp at hd; obtain ⟨rfl, rfl⟩ := hd; exact ⟨c, rfl, hx⟩
        | succ i => simp at hd; obtain ⟨c', q1, q2⟩ := h2 i k d hd; exact ⟨c', by simpa using q1, q2⟩
      · cases h
    · cases h

theorem renO_good {h : Nat → Option Nat} {C C2 : Cx} {o o2 : Store} {w : World} (rn : Ren h C o C2 o2) {id id' : Nat} {x y : O} (hy : renO h x = some y) (hφ : C2.φ id' = C.φ id) (g : GoodO C o w id x) : GoodO C2 o2 w id' y := by
  cases x with
  | box cs =>
    simp only [renO, Option.map_eq_some_iff] at hy
    obtain ⟨ds, h1, rfl⟩ := hy
    obtain ⟨b, vs, t, g1, g2, g3, g4, g5⟩ := g
    obtain ⟨l1, l2⟩ := renAs_get cs h1
    exact ⟨b, vs, t, by rw [hφ, g1, l1], g2, by omega, fun i d hd => by
      obtain ⟨c, q1, q2⟩ := l2 i d hd
      obtain ⟨q3, q4⟩ := g4 i c q1
      exact ⟨by rw [ren_leaf q2]; exact q3, ren_ok rn q4 q2⟩, by rw [rn.M]; exact g5⟩
  | arr sz es fr =>
    simp [renO] at hy; subst hy
    unfold GoodO GoodArr at *
    rw [hφ, rn.M]; exact g
  | mp es =>
    simp only [renO, Option.map_eq_some_iff] at hy
    obtain ⟨ds, h1, rfl⟩ := hy
    obtain ⟨b, n, ents, clock, g1, g2, g3, g4⟩ := g
    obtain ⟨l1, l2⟩ := renMp_get es h1
    exact ⟨b, n, ents, clock, by rw [hφ, g1], g2, by omega, fun i k d hd => by
      obtain ⟨c, q1, q2⟩ := l2 i k d hd
      obtain ⟨q3, q4⟩ := g4 i k c q1
      exact ⟨by rw [rn.M]; exact q3, ren_ok rn q4 q2⟩⟩
  | gone =>
    simp [renO] at hy; subst hy
    show C2.φ id' = none
    rw [hφ]; exact g

theorem renOs_get {g : Nat → Option Nat} : ∀ (os : List O) {qs : List O}, renOs g os = some qs → os.length = qs.length ∧ ∀ (i : Nat) (q : O), qs[i]? = some q → ∃ o, os[i]? = some o ∧ renO g o = some q
  | [], qs, h => by unfold renOs at h; cases h; exact ⟨rfl, fun i q hq => by simp at hq⟩
  | o :: os, qs, h => by
    unfold renOs at h
    split at h
    · rename_i x hx
      split at h
      · rename_i y hy
        cases h
        obtain ⟨h1, h2⟩ := renOs_get os hy
        refine ⟨by simp [h1], fun i q hq => ?_⟩
        cases i with
        | zero => simp at hq; subst hq; exact ⟨o, rfl, hx⟩
        | succ i => simp at hq; obtain ⟨c', q1, q2⟩ := h2 i q hq; exact ⟨c', by simpa using q1, q2⟩
      · cases h
    · cases h

theorem renO_kind {g : Nat → Option Nat} {x y : O} (h : renO g x = some y) :
    (∀ cs, x = .box cs → ∃ cs', y = .box cs') ∧ (∀ sz es fr, x = .arr sz es fr → y = .arr sz es fr) ∧ (∀ es, x = .mp es → ∃ es', y = .mp es') := by
  cases x <;> simp only [renO, Option.map_eq_some_iff, Option.some.injEq] at h
  · obtain ⟨ds, _, rfl⟩ := h; simp
  · subst h; simp
  · obtain ⟨ds, _, rfl⟩ := h; simp
  · subst h; simp

/-! ### What is reached -/

theorem reach_nodup (objs : Store) : ∀ (k : Nat) (todo seen : List Nat), seen.Nodup → (reach objs k todo seen).Nodup
  | 0, _, _, h => by unfold reach; exact h
  | _ + 1, [], _, h => by unfold reach; exact h
  | k + 1, i :: todo, seen, h => by
    unfold reach
    split
    · exact reach_nodup objs k _ _ h
    · rename_i hc
      refine reach_nodup objs k _ _ ?_
      rw [List.nodup_append]
      refine ⟨h, by simp, fun a ha b hb => ?_⟩
      simp at hb
      subst hb
      intro e
      subst e
      simp at hc
      exact hc ha

end Ab
