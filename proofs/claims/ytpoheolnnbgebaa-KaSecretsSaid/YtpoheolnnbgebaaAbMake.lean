/- A part of the proof of a row by an interpreter that is proved sound; no conditions of its own. -/
import Derived.Test.YtpoheolnnbgebaaAbFill
namespace Ab
open Go

variable {P : Program}

theorem toD0 {C : Cx} {objs : Store} {c : A} {v : Value} (r : RelA C objs c v) (hl : c.leaf = true) {x : List D} (h : toD [] c = some x) : RelDL C.M x [v] := by
  cases c with
  | d y => unfold toD at h; cases h; cases r with | d hd => exact .one hd
  | nilsl g =>
    unfold toD at h; cases h
    cases r with
    | nilsl _ a => exact .one (.sl g [] a 0 (fun _ _ => undef) (by simp) (by simp) (by simp) (by simp))
  | arr id off len n => unfold toD at h; simp [viewA, getO] at h
  | _ => first | (simp [A.leaf] at hl; done) | (unfold toD at h; cases h)

theorem toDs0 {C : Cx} {objs : Store} : ∀ (cs : List A) {vs : List Value} (_ : RelL C objs cs vs) {ds : List D} (_ : toDs [] cs = some ds), RelDL C.M ds vs ∧ cs.all A.leaf = true
  | [], vs, r, ds, h => by
    unfold toDs at h; cases h
    rw [r.unnil]
    exact ⟨⟨rfl, fun i c hc => by simp at hc⟩, rfl⟩
  | c :: cs, vs, r, ds, h => by
    unfold toDs at h
    split at h
    · rename_i hleaf
      split at h
      · rename_i x hx
        split at h
        · rename_i y hy
          cases h
          obtain ⟨v, us, rfl, h1, h2⟩ := r.uncons
          obtain ⟨q1, q2⟩ := toDs0 cs h2 hy
          exact ⟨(toD0 h1 hleaf hx).append q1, by simp [hleaf]; simpa using q2⟩
        · cases h
      · cases h
    · cases h

mutual
theorem shutA_gone {p : Nat} : ∀ (x : A) {objs : Store}, objs[p]? = some .gone → (shutA objs x)[p]? = some .gone
  | .arr id off len n, objs, h => by
    unfold shutA
    split
    · rename_i sz es fr hg
      have := getO_arr hg
      by_cases hp : id = p
      · subst hp; rw [h] at this; cases this
      · rw [List.getElem?_set_ne hp]; exact h
    · exact h
  | .agg cs, objs, h => by unfold shutA; exact shutAs_gone cs h
  | .d _, objs, h | .nilsl _, objs, h | .nilm, objs, h | .tup _, objs, h | .bp _ _, objs, h | .ep _ _ _ _, objs, h | .cp _, objs, h | .fn _ _ _, objs, h | .mp _, objs, h | .un, objs, h | .top, objs, h => by unfold shutA; exact h
theorem shutAs_gone {p : Nat} : ∀ (xs : List A) {objs : Store}, objs[p]? = some .gone → (shutAs objs xs)[p]? = some .gone
  | [], objs, h => by unfold shutAs; exact h
  | c :: cs, objs, h => by unfold shutAs; exact shutAs_gone cs (shutA_gone c h)
end

theorem Place.shut {objs : Store} {dr : Option Nat} (h : Place objs dr) (x : A) : Place (shutA objs x) dr := by
  cases dr with
  | none => trivial
  | some p => exact shutA_gone x h

/-- Cells of a row of elements. -/
def RelE (M : Mem) (n : Nat) (es : List (List D)) (vs : Array Value) : Prop :=
  (∀ e ∈ es, e.length = n) ∧ vs.size = es.length * n ∧ ∀ i e j c, es[i]? = some e → e[j]? = some c → RelD M c (vs.getD (i * n + j) undef)

theorem RelE.mono {M M' : Mem} (h : ∀ a v, M a = some v → M' a = some v) {n : Nat} {es : List (List D)} {vs : Array Value} (r : RelE M n es vs) : RelE M' n es vs :=
  ⟨r.1, r.2.1, fun i e j c he hc => (r.2.2 i e j c he hc).mono h⟩

theorem RelE.zeros {M : Mem} {n len : Nat} {zd : List D} {z : Array Value} (h : RelDL M zd z.toList) (hn : zd.length = n) : RelE M n (List.replicate len zd) ((Array.range (len * n)).map (z[· % z.size]!)) := by
  have hz : z.size = n := by have := h.1; simp at this; omega
  refine ⟨fun e he => by rw [List.eq_of_mem_replicate he]; exact hn, by simp, fun i e j c he hc => ?_⟩
  have hi : i < len := by have := (List.getElem?_eq_some_iff.1 he).1; simpa using this
  have hez : e = zd := by rw [List.getElem?_replicate, if_pos hi] at he; simpa using he.symm
  subst hez
  have hj := (List.getElem?_eq_some_iff.1 hc).1
  have hk : i * n + j < len * n := by
    have := Nat.mul_le_mul_right n (show i + 1 ≤ len from hi)
    rw [Nat.add_mul, Nat.one_mul] at this; omega
  have hmod : (i * n + j) % z.size = j := by rw [hz, Nat.add_comm, Nat.add_mul_mod_self_right, Nat.mod_eq_of_lt (by omega)]
  have := h.2 j c hc
  rw [Array.getD_eq_getD_getElem?, Array.getElem?_map, Array.getElem?_range, if_pos hk]
  simp only [Option.map_some, Option.getD_some, hmod]
  rw [List.getD_eq_getElem?_getD, Array.getElem?_toList, Array.getElem?_eq_getElem (by omega)] at this
  rw [getElem!_pos z j (by omega)]
  simpa using this

theorem elemsA_ok {w : World} {ts : List A} {a : Act} {e : TypeId} {n : Nat} : ∀ (ps : List (Nat × Operand)) {C : Cx} {objs : Store} (_ : Good C objs w) (_ : RelT C objs ts a.tmps) {es : List (List D)} {vs : Array Value} (_ : RelE C.M n es vs) {out : List (List D)} {objs' : Store}
    (_ : elemsA P ts objs e n es ps = some (out, objs')),
    ∃ C' us, Adv C objs w C' objs' w ∧ Good C' objs' w ∧ (∀ dr, Place objs dr → Place objs' dr) ∧ Instr.fill (fun i => some (i * n, n)) vs (ps.map fun p => (p.1, a.eval p.2)) = some us ∧ RelE C'.M n out us ∧ out.length = es.length
  | [], C, objs, g, rt, es, vs, hr, out, objs', h => by
    unfold elemsA at h; cases h
    exact ⟨C, vs, .refl _ _ _, g, fun _ h => h, rfl, hr, rfl⟩
  | (i, x) :: ps, C, objs, g, rt, es, vs, hr, out, objs', h => by
    unfold elemsA at h
    simp only at h
    split at h
    case h_2 => cases h
    rename_i ds hds
    split at h
    case isFalse => cases h
    rename_i hok
    obtain ⟨h1, h2, h3, h4⟩ := hok
    have rx := evT_rel (P := P) rt e x
    obtain ⟨C1, s1, rd⟩ := toD_ok _ g rx hds
    obtain ⟨hc, _⟩ := cells_rel rx h3
    have hsz : (a.eval x).cells.size = n := by have := hc.1; simp at this; omega
    have hin : i * n + n ≤ vs.size := by
      rw [hr.2.1]
      have := Nat.mul_le_mul_right n (show i + 1 ≤ es.length from h4)
      rw [Nat.add_mul, Nat.one_mul] at this; omega
    have hset := setCells (a.eval x).cells (i * n) vs (by omega)
    have hr1 := hr.mono s1.adv.M
    have hr2 : RelE C1.M n (es.set i ds) ((a.eval x).cells.zipIdx.foldl (fun cs (x : Value × Nat) => cs.setIfInBounds (i * n + x.2) x.1) vs) := by
      have hlen : ((a.eval x).cells.zipIdx.foldl (fun cs (x : Value × Nat) => cs.setIfInBounds (i * n + x.2) x.1) vs).size = vs.size := by
        rw [← Array.length_toList, hset]; simp; omega
      refine ⟨fun e' he' => ?_, by rw [hlen, hr.2.1]; simp, fun k e' j c he' hc' => ?_⟩
      · rcases List.mem_or_eq_of_mem_set he' with h | h
        · exact hr.1 _ h
        · rw [h]; exact h1
      · rw [Array.getD_eq_getD_getElem?, ← Array.getElem?_toList, hset, ← List.getD_eq_getElem?_getD, getD_patch _ _ _ _ _ (by simp; omega)]
        have hj := (List.getElem?_eq_some_iff.1 hc').1
        by_cases hik : i = k
        · subst hik
          rw [List.getElem?_set_self h4] at he'
          cases he'
          rw [if_pos (by simp; omega), show i * n + j - i * n = j from by omega]
          exact rd.2 j c hc'
        · rw [List.getElem?_set_ne hik] at he'
          have hel := hr.1 e' (List.mem_of_getElem? he')
          rw [if_neg (fun hcon => by
            simp only [Array.length_toList, hsz] at hcon
            obtain ⟨q1, q2⟩ := hcon
            have := cell_apart (sz := n) (i := i) (j := i * n + n - 1 - i * n) (i' := k) (j' := j)
            rcases Nat.lt_or_gt_of_ne hik with hlt | hlt
            · have := Nat.mul_le_mul_right n (show i + 1 ≤ k from hlt)
              rw [Nat.add_mul, Nat.one_mul] at this; omega
            · have := Nat.mul_le_mul_right n (show k + 1 ≤ i from hlt)
              rw [Nat.add_mul, Nat.one_mul] at this; omega)]
          have := hr1.2.2 k e' j c he' hc'
          rwa [Array.getD_eq_getD_getElem?, ← Array.getElem?_toList, ← List.getD_eq_getElem?_getD] at this
    obtain ⟨C', us, adv, g', hpl, hf, hre, hl⟩ := elemsA_ok ps s1.good (rt.adv s1.adv) hr2 h
    refine ⟨C', us, s1.adv.trans adv, g', fun dr hd => hpl dr (hd.shut _), ?_, hre, by simpa using hl⟩
    simp only [List.map_cons]
    unfold Instr.fill
    simp only
    rw [if_neg (by simp; omega)]
    exact hf

/-- A new local array from its cells. -/
theorem newRow_ok {C : Cx} {objs : Store} {w : World} (g : Good C objs w) {dr : Option Nat} (hp : Place objs dr) (e : TypeId) {n len : Nat} {es : List (List D)} {vs : Array Value} (hr : RelE C.M n es vs) (hl : es.length = len) :
    ∃ C', Adv C objs w C' (newO objs dr (.arr n es false)).2 (w.alloc (.cells vs e)) ∧ Good C' (newO objs dr (.arr n es false)).2 (w.alloc (.cells vs e)) ∧
      RelA C' (newO objs dr (.arr n es false)).2 (.arr (newO objs dr (.arr n es false)).1 0 len len) (.slice (some ⟨w.heap.size, 0, none⟩) len len) := by
  obtain ⟨adv, g'⟩ := newArr_ok g hp e hr.1 hr.2.1 (Nat.le_refl _) hr.2.2
  refine ⟨_, adv, g', ?_⟩
  subst hl
  refine .arr _ _ _ _ _ _ n es false (newO_at hp _).1 (Nat.le_refl _) (Nat.le_refl _) fun _ => ⟨by omega, by omega, .inr ⟨w.heap.size, es.length * n, by simp [Cx.put], fun _ => by simp, by simp⟩⟩

theorem buildSlice_ok {C : Cx} {objs : Store} {w : World} (g : Good C objs w) {ts : List A} {a : Act} (rt : RelT C objs ts a.tmps) {dr : Option Nat} (hp : Place objs dr) {t e : TypeId} (hu : P.underlying t = some (.slice e)) {n len by_ : Nat} (he : elemT P t = some (n, by_))
    {z : List A} (hz : zeroA P e = some z) {zd : List D} (hzd : toDs [] z = some zd) (h1 : zd.length = n) (hpos : 0 < n) (hsm : len * n ≤ 16777216) {ps : Array (Nat × Operand)} {es : List (List D)} {objs1 : Store} (h : elemsA P ts objs e n (List.replicate len zd) ps.toList = some (es, objs1)) :
    Yields P C objs w (Instr.buildSlice t len (ps.map fun p => (p.1, a.eval p.2))) (.arr (newO objs1 dr (.arr n es false)).1 0 len len) (newO objs1 dr (.arr n es false)).2 := by
  obtain ⟨e', i, hte, hie, rfl, rfl, hse⟩ := elemT_split he
  rw [hu] at hte; cases hte
  obtain ⟨i', zv, hi', hzv, hzr⟩ := zeroA_ok (C := C) (objs := objs) hz
  rw [hie] at hi'; cases hi'
  have hzd' := (toDs0 z hzr hzd).1
  have hr0 := RelE.zeros (len := len) hzd' h1
  obtain ⟨C1, us, adv, g1, hpl, hf, hre, hl⟩ := elemsA_ok ps.toList g rt hr0 h
  obtain ⟨C2, adv2, g2, r2⟩ := newRow_ok g1 (hpl dr hp) e hre (len := len) (by simpa using hl)
  refine ⟨_, C2, _, ?_, adv.trans adv2, g2, r2⟩
  have hsm' : ¬ (16777216 < len * i.size) := by omega
  by_cases hz0 : len = 0
  · subst hz0
    have hes : es = [] := List.length_eq_zero_iff.1 (by simpa using hl)
    have husz : us = #[] := by
      have := hre.2.1
      rw [hes] at this
      exact Array.eq_empty_of_size_eq_zero (by simpa using this)
    have hr0 : Array.range 0 = #[] := rfl
    have hf' : Instr.fill (fun x => some (x * i.size, i.size)) #[] (ps.toList.map fun x => (x.1, a.eval x.2)) = some us := by simpa [hr0] using hf
    simp [Instr.buildSlice, run_under hu, run_sizeOf' hse, newRow, hr0, hf']
  · have hne : len * i.size ≠ 0 := Nat.mul_ne_zero hz0 (by omega)
    have hf' : Instr.fill (fun x => some (x * i.size, i.size)) (Array.map (fun x => zv.cells[x % zv.cells.size]!) (Array.range (len * i.size))) (ps.toList.map fun x => (x.1, a.eval x.2)) = some us := by simpa using hf
    simp [Instr.buildSlice, run_under hu, run_sizeOf' hse, newRow, zeroValue, typeInfo, hie, hzv, hne, hsm', hf']

theorem wrap_i64 {n : Int} (h0 : 0 ≤ n) (h : n ≤ 9223372036854775807) : IntKind.i64.wrap n = n := by
  simp [IntKind.wrap, IntKind.bits, IntKind.signed]
  omega

theorem makeSlice_ok {C : Cx} {objs : Store} {w : World} (g : Good C objs w) {dr : Option Nat} (hp : Place objs dr) {t e : TypeId} (hu : P.underlying t = some (.slice e)) {n by_ : Nat} (he : elemT P t = some (n, by_)) {l c : A} {lv cv : Value} (rl : RelA C objs l lv) (rc : RelA C objs c cv)
    {len : Int} (hl : asInt l = some len) (hc : asInt c = some len) {z : List A} (hz : zeroA P e = some z) {zd : List D} (hzd : toDs [] z = some zd) (h0 : 0 ≤ len) (h1 : zd.length = n) (hpos : 0 < n) (hby : 0 < by_) (hsm : len * by_ ≤ 140737488355328) :
    Yields P C objs w (Instr.makeSlice t lv cv) (.arr (newO objs dr (.arr n (List.replicate len.toNat zd) false)).1 0 len.toNat len.toNat) (newO objs dr (.arr n (List.replicate len.toNat zd) false)).2 := by
  obtain ⟨e', i, hte, hie, rfl, rfl, hse⟩ := elemT_split he
  rw [hu] at hte; cases hte
  obtain ⟨i', zv, hi', hzv, hzr⟩ := zeroA_ok (C := C) (objs := objs) hz
  rw [hie] at hi'; cases hi'
  have hzd' := (toDs0 z hzr hzd).1
  obtain ⟨m, rfl⟩ : ∃ m : Nat, len = m := ⟨len.toNat, by omega⟩
  simp only [Int.toNat_natCast]
  have hr0 := RelE.zeros (len := m) hzd' h1
  obtain ⟨k1, _, rfl⟩ := rel_int rl hl
  obtain ⟨k2, _, rfl⟩ := rel_int rc hc
  have hmb : m * i.bytes ≤ 140737488355328 := by have : ((m * i.bytes : Nat) : Int) ≤ 140737488355328 := by simpa using hsm
                                                 omega
  have hml : m ≤ m * i.bytes := Nat.le_mul_of_pos_right m hby
  have hw : IntKind.i64.wrap (m : Int) = m := wrap_i64 (by omega) (by omega)
  obtain ⟨C2, adv2, g2, r2⟩ := newRow_ok g hp e hr0 (len := m) (by simp)
  refine ⟨_, C2, _, ?_, adv2, g2, r2⟩
  have hmb' : ¬ ((281474976710656 : Int) < (i.bytes : Int) * (m : Int)) := by
    have : (i.bytes : Int) * (m : Int) = ((m * i.bytes : Nat) : Int) := by rw [Nat.mul_comm]; simp
    omega
  have hneg : ¬ ((m : Int) < 0) := by omega
  by_cases hz0 : m = 0
  · subst hz0
    have hr0 : Array.range 0 = #[] := rfl
    have hw0 : IntKind.i64.wrap 0 = 0 := rfl
    simp [Instr.makeSlice, run_under hu, run_sizeOf' hse, newRow, typeInfo, hie, hw0, hr0, Go.asInt, asIntOf]
  · have hne : m * i.size ≠ 0 := Nat.mul_ne_zero hz0 (by omega)
    simp [Instr.makeSlice, run_under hu, run_sizeOf' hse, newRow, zeroValue, typeInfo, hie, hzv, hw, hmb', hne, hneg, Go.asInt, asIntOf]

end Ab
