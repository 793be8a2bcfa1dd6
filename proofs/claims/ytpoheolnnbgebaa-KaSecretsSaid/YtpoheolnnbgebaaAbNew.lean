/- A part of the proof of a row by an interpreter that is proved sound; no conditions of its own. -/
import Derived.Test.YtpoheolnnbgebaaAbVals4
import Derived.Lib.ConvBytes
namespace Ab
open Go

variable {P : Program}

/-! ### A draw; a sealed block; conversions -/

theorem cell_drew (w : World) (a : Addr) : w.drew.cell? a = w.cell? a := rfl

theorem drew_adv (C : Cx) (objs : Store) (w : World) : Adv C objs w C objs w.drew :=
  ⟨fun _ _ h => h, Nat.le_refl _, fun id o h => h ▸ Becomes.refl C id o, rfl, rfl, rfl, Nat.le_refl _, fun _ _ _ => rfl, fun _ _ h => .inl h, fun id _ n h1 h2 => .inr ⟨id, n, h1, h2⟩⟩

theorem Good.drew {C : Cx} {objs : Store} {w : World} (g : Good C objs w) : Good C objs w.drew :=
  ⟨fun a v h => g.seal_ a v h, fun id o ho => good_keep (drew_adv C objs w) rfl (fun _ _ _ => ⟨rfl, fun _ => rfl⟩) (g.obj id o ho), g.inj⟩

/-- A world with one block more, sealed up to n. -/
theorem sealed_new {C : Cx} {objs : Store} {w w' : World} (g : Good C objs w) (hos : w'.os = w.os) (ht : w'.tape = w.tape) (hou : w'.output = w.output) (hsz : w'.heap.size = w.heap.size + 1)
    (hold : ∀ k, k < w.heap.size → w'.heap[k]? = w.heap[k]?) (n : Nat) (f : Nat → Value) (hnew : ∀ k, k < n → w'.cell? ⟨w.heap.size, k, none⟩ = some (f k)) :
    ∃ C', Adv C objs w C' objs w' ∧ Good C' objs w' ∧ C'.φ = C.φ ∧ ∀ k, k < n → C'.M ⟨w.heap.size, k, none⟩ = some (f k) := by
  let M' : Mem := fun a => if a.block = w.heap.size ∧ a.spot = none ∧ a.off < n then some (f a.off) else C.M a
  have hM : ∀ a v, C.M a = some v → M' a = some v := by
    intro a v h
    have hl := World.block_lt_of_cell? w a (g.seal_ a v h)
    show (if _ then _ else _) = _
    rw [if_neg (fun e => by omega)]; exact h
  have hMo : ∀ b k, b < w.heap.size → M' ⟨b, k, none⟩ = C.M ⟨b, k, none⟩ := by
    intro b k hb
    show (if _ then _ else _) = _
    rw [if_neg]
    intro e; have := e.1; simp at this; omega
  have adv : Adv C objs w ⟨M', C.φ⟩ objs w' := by
    refine ⟨hM, Nat.le_refl _, fun id o h => h ▸ Becomes.refl C id o, hos, ht, hou, by omega, fun b hb _ => hold b hb, fun a v h => ?_, fun id _ n h1 h2 => .inr ⟨id, n, h1, h2⟩⟩
    change (if _ then _ else _) = _ at h
    split at h
    · rename_i e; exact .inr (.inl (by omega))
    · exact .inl h
  refine ⟨⟨M', C.φ⟩, adv, ⟨fun a v h => ?_, fun id o ho => ?_, g.inj⟩, rfl, fun k hk => ?_⟩
  · change (if _ then _ else _) = _ at h
    split at h
    · rename_i e
      obtain ⟨b, o, s⟩ := a
      obtain ⟨rfl, rfl, h3⟩ := e
      rw [hnew o h3]; exact h
    · have hl := World.block_lt_of_cell? w a (g.seal_ a v h)
      rw [cell_heap (hold _ hl)]; exact g.seal_ a v h
  · refine good_keep adv rfl (fun b n hb => ?_) (g.obj id o ho)
    have hl := g.lt (List.getElem?_eq_some_iff.1 ho).1 hb
    exact ⟨hold b hl, fun k => hMo b k hl⟩
  · show (if _ then _ else _) = _
    rw [if_pos ⟨rfl, rfl, hk⟩]

theorem bytesD_get (s : ByteArray) (i : Nat) (e : List D) (h : (bytesD s)[i]? = some e) : i < s.size ∧ e = [.int .u8 (s.data.toList.getD i 0).toNat] := by
  unfold bytesD at h
  rw [List.getElem?_map] at h
  cases hd : s.data.toList[i]? with
  | none => simp [hd] at h
  | some b =>
    simp only [hd, Option.map_some, Option.some.injEq] at h
    have := (List.getElem?_eq_some_iff.1 hd).1
    refine ⟨by simpa using this, ?_⟩
    rw [← h, List.getD_eq_getElem?_getD, hd]; rfl

theorem bytesD_length (s : ByteArray) : (bytesD s).length = s.size := by
  unfold bytesD; rw [List.length_map, Array.length_toList]; rfl

theorem strOf_nums : ∀ (es : List (List D)) (l : List UInt8), strOf es = some l → ∃ ns : List Int, es = ns.map (fun n => [.int .u8 n]) ∧ l = ns.map fun n => UInt8.ofNat n.toNat
  | [], l, h => by simp [strOf] at h; exact ⟨[], rfl, by simp [h]⟩
  | [.int .u8 n] :: es, l, h => by
    simp only [strOf, Option.map_eq_some_iff] at h
    obtain ⟨l', h1, rfl⟩ := h
    obtain ⟨ns, rfl, rfl⟩ := strOf_nums es l' h1
    exact ⟨n :: ns, rfl, rfl⟩
  | [] :: _, _, h | [.int .i8 _] :: _, _, h | [.int .i16 _] :: _, _, h | [.int .i32 _] :: _, _, h | [.int .i64 _] :: _, _, h | [.int .u16 _] :: _, _, h | [.int .u32 _] :: _, _, h | [.int .u64 _] :: _, _, h
  | [.bool _] :: _, _, h | [.str _] :: _, _, h | [.sl _ _] :: _, _, h | [.nilp] :: _, _, h | [.nilf] :: _, _, h | [.nili] :: _, _, h | (_ :: _ :: _) :: _, _, h => by simp [strOf] at h

theorem push_list (ns : List Int) : ns.foldl (fun r n => r.push (UInt8.ofNat n.toNat)) ByteArray.empty = ⟨(ns.map fun n => UInt8.ofNat n.toNat).toArray⟩ := by
  have key : ∀ (ns : List Int) (s : ByteArray), (ns.foldl (fun r n => r.push (UInt8.ofNat n.toNat)) s).data.toList = s.data.toList ++ ns.map fun n => UInt8.ofNat n.toNat := by
    intro ns
    induction ns with
    | nil => intro s; simp
    | cons n ns ih => intro s; rw [List.foldl_cons, ih]; simp [ByteArray.push]
  have h := key ns ByteArray.empty
  have h0 : ByteArray.empty.data.toList = [] := rfl
  rw [h0, List.nil_append] at h
  cases hx : ns.foldl (fun r n => r.push (UInt8.ofNat n.toNat)) ByteArray.empty with
  | mk d => rw [hx] at h; simp only at h; rw [← h]

/-- The cells of what is looked at as a row of elements. -/
theorem elems_cells {C : Cx} {objs : Store} {w : World} (g : Good C objs w) {x : A} {v : Value} (r : RelA C objs x v) {sz : Nat} {xs : List (List D)} (h : elemsOf objs x = some (sz, xs)) :
    (∃ a cap, v = .slice a xs.length cap ∧ xs.length ≤ cap ∧ (∀ e ∈ xs, e.length = sz) ∧ ∃ f : Nat → Value, (∀ i e j c, xs[i]? = some e → e[j]? = some c → RelD C.M c (f (i * sz + j))) ∧
      (xs ≠ [] → 0 < sz → ∃ ad, a = some ad ∧ ∀ k, k < xs.length * sz → w.cell? (ad.add k) = some (f k))) ∨ (∃ s, v = .string s ∧ x = .d (.str s) ∧ sz = 1 ∧ xs = bytesD s) := by
  cases r with
  | d hd =>
    cases hd with
    | sl sz' es a cap u hc hz hr hm =>
      simp only [elemsOf, Option.some.injEq, Prod.mk.injEq] at h
      obtain ⟨rfl, rfl⟩ := h
      refine .inl ⟨a, cap, rfl, hc, hz, fun k => u (k / sz') (k % sz'), fun i e j c he hc' => ?_, fun hne hpos => ?_⟩
      · have hj : j < sz' := by rw [← hz e (List.mem_of_getElem? he)]; exact (List.getElem?_eq_some_iff.1 hc').1
        have h1 : (i * sz' + j) / sz' = i := by rw [Nat.add_comm, Nat.add_mul_div_right _ _ (by omega), Nat.div_eq_of_lt hj, Nat.zero_add]
        have h2 : (i * sz' + j) % sz' = j := by rw [Nat.add_comm, Nat.add_mul_mod_self_right, Nat.mod_eq_of_lt hj]
        simp only [h1, h2]; exact hr i j e c he hc'
      · obtain ⟨e0, he0⟩ : ∃ e, es[0]? = some e := by cases es with | nil => exact absurd rfl hne | cons e _ => exact ⟨e, rfl⟩
        obtain ⟨ad, rfl, _⟩ := hm 0 e0 0 he0 (by rw [hz e0 (List.mem_of_getElem? he0)]; exact hpos)
        refine ⟨ad, rfl, fun k hk => ?_⟩
        have hi : k / sz' < es.length := Nat.div_lt_of_lt_mul (by rw [Nat.mul_comm]; exact hk)
        have hmod := Nat.mod_lt k hpos
        obtain ⟨ad', h1, h2⟩ := hm (k / sz') es[k / sz'] (k % sz') (List.getElem?_eq_getElem hi) (by rw [hz _ (List.getElem_mem hi)]; exact hmod)
        cases h1
        rw [show k / sz' * sz' + k % sz' = k from by rw [Nat.mul_comm]; exact Nat.div_add_mod k sz'] at h2
        exact g.seal_ _ _ h2
    | str s =>
      simp only [elemsOf, Option.some.injEq, Prod.mk.injEq] at h
      obtain ⟨rfl, rfl⟩ := h
      exact .inr ⟨s, rfl, rfl, rfl, rfl⟩
    | _ => simp [elemsOf] at h
  | nilsl tg a =>
    simp only [elemsOf, Option.some.injEq, Prod.mk.injEq] at h
    obtain ⟨rfl, rfl⟩ := h
    exact .inl ⟨a, 0, rfl, Nat.le_refl _, by simp, fun _ => undef, by simp, fun h => absurd rfl h⟩
  | arr id off len n a cap sz' es fr ho hn hc hcur =>
    simp only [elemsOf] at h
    unfold viewA at h
    rw [getO_some ho] at h
    simp only at h
    split at h
    · rename_i hok
      simp only [Option.some.injEq, Prod.mk.injEq] at h
      obtain ⟨rfl, rfl⟩ := h
      obtain ⟨k1, k2, k3⟩ := hcur hok.1
      obtain ⟨hz, hcase⟩ := g.obj id _ ho
      have hlen : ((es.drop off).take len).length = len := by simp; omega
      have hsub : ∀ i e, ((es.drop off).take len)[i]? = some e → es[off + i]? = some e ∧ i < len := by
        intro i e he
        rw [List.getElem?_take] at he
        split at he
        · rw [List.getElem?_drop] at he; exact ⟨he, by assumption⟩
        · cases he
      left
      rcases k3 with ⟨p1, p2, p3⟩ | ⟨b, N, p1, p2, p3⟩
      · have hl0 : len = 0 := by omega
        subst hl0
        exact ⟨a, cap, by simp, by simp, by simp, fun _ => undef, by simp, fun h => absurd (by simp) h⟩
      · rcases hcase with ⟨q1, q2⟩ | ⟨b', N', vs, t, q1, q2, q3, q4, q5, _⟩
        · rw [p1] at q1; cases q1
        · rw [p1] at q1; cases q1
          refine ⟨a, cap, by rw [hlen], by rw [hlen]; exact hc, fun e he => hz e (List.mem_of_mem_drop (List.mem_of_mem_take he)), fun k => vs.getD (off * sz' + k) undef, fun i e j c he hc' => ?_, fun hne hpos => ?_⟩
          · have := q5 _ e j c (hsub i e he).1 hc'
            rw [show (off + i) * sz' + j = off * sz' + (i * sz' + j) from by rw [Nat.add_mul]; omega] at this
            exact this
          · have hlp : 0 < len := by
              rcases Nat.eq_zero_or_pos len with h0 | h0
              · exact absurd (List.eq_nil_of_length_eq_zero (by rw [hlen, h0])) hne
              · exact h0
            refine ⟨_, p2 (by omega), fun k hk => ?_⟩
            rw [hlen] at hk
            have hb : off * sz' + k < vs.size := by
              have h2 : (off + len) * sz' ≤ es.length * sz' := Nat.mul_le_mul_right _ k1
              rw [Nat.add_mul] at h2; omega
            show w.cell? _ = some (vs.getD (off * sz' + k) undef)
            rw [add_plain', cell_plain q2, Array.getD_eq_getD_getElem?, Array.getElem?_eq_getElem hb]; rfl
    · cases h
  | _ => simp [elemsOf] at h

theorem convertA_ok {C : Cx} {objs : Store} {w : World} (g : Good C objs w) {src dst : TypeId} {x y : A} {objs' : Store} {v : Value} (r : RelA C objs x v) (h : convertA P objs src dst x = some (y, objs')) :
    Yields P C objs w (convert src dst v) y objs' := by
  unfold convertA at h
  split at h
  · rename_i k1 k2 k3 n hs hd
    cases h
    rw [rel_int' r]
    exact .same g (by simp [convert, run_under hs, run_under hd, Conv.intToInt]) (.d (.int _ _))
  · rename_i s hs hd
    cases h
    rw [rel_str r]
    exact .same g (by simp [convert, run_under hs, run_under hd]) (.d (.str _))
  · rename_i e s hs hd
    split at h
    · rename_i he hz
      cases h
      rw [rel_str r]
      have hrun := run_convert_bytes_run (P := P) w src dst e s hs hd he
      obtain ⟨C', h1, h2, h3, h4⟩ := sealed_new (w' := Lib.bytesWorld w e s) g rfl rfl rfl (Lib.bytesWorld_size w e s) (fun k hk => Lib.bytesWorld_at_old w e s k hk) s.size (fun k => .int .u8 (s.data.toList.getD k 0).toNat)
        (fun k hk => Lib.bytesWorld_cell w e s k hk)
      refine ⟨_, C', _, hrun, h1, h2, .d ?_⟩
      have key := RelD.sl (M := C'.M) 1 (bytesD s) (some ⟨w.heap.size, 0, none⟩) (grownCap w s.size 0 e) (fun i _ => .int .u8 (s.data.toList.getD i 0).toNat) (by rw [bytesD_length]; exact grownCap_ge w s.size 0 e)
        (fun e' he' => by obtain ⟨i, hi⟩ := List.getElem?_of_mem he'; rw [(bytesD_get s i e' hi).2]; rfl)
        (fun i j e' c he' hc => by
          rw [(bytesD_get s i e' he').2] at hc
          cases j with
          | zero => simp only [List.getElem?_cons_zero, Option.some.injEq] at hc; subst hc; exact .int _ _
          | succ j => simp at hc)
        (fun i e' j he' hj => by
          obtain ⟨h5, h6⟩ := bytesD_get s i e' he'
          rw [h6] at hj
          have hj0 : j = 0 := by simp at hj; exact hj
          subst hj0
          exact ⟨_, rfl, by rw [add_plain']; simpa using h4 i h5⟩)
      rw [bytesD_length] at key
      exact key
    · cases h
  · rename_i x' e hs hd
    split at h
    · rename_i sz es he hes
      split at h
      · cases h
      · rename_i hns
        split at h
        · rename_i l hl
          cases h
          obtain ⟨ns, hns2, rfl⟩ := strOf_nums _ _ hl
          rcases elems_cells g r hes with ⟨a, cap, rfl, hcap, hz, f, hf, hcells⟩ | ⟨s, _, hx, _⟩
          · have hout : (Conv.bytesToString (.slice a es.length cap)).run P w = .ok (.string ⟨(ns.map fun n => UInt8.ofNat n.toNat).toArray⟩) w := by
              by_cases hne : es = []
              · have hnil : ns = [] := by rw [hne] at hns2; simpa using hns2.symm
                subst hnil
                cases a with
                | none => simp [Conv.bytesToString]; rfl
                | some ad =>
                  have := run_bytesToString (P := P) w ad es.length cap [] (by rw [hne]; simp [loadCells, loadCellsFrom])
                  exact this
              · have hsz1 : sz = 1 := by
                  cases es with
                  | nil => exact absurd rfl hne
                  | cons e0 es0 =>
                    have h1 := hz e0 (by simp)
                    cases ns with
                    | nil => simp at hns2
                    | cons n ns => simp only [List.map_cons, List.cons.injEq] at hns2; rw [hns2.1] at h1; simpa using h1.symm
                subst hsz1
                obtain ⟨ad, rfl, hc2⟩ := hcells hne (by omega)
                have hlen : es.length = ns.length := by rw [hns2]; simp
                have hload := run_loadCells_list (P := P) (w := w) ad (ns.map (Value.int .u8)) (fun j u hu => by
                  rw [List.getElem?_map] at hu
                  cases hn : ns[j]? with
                  | none => simp [hn] at hu
                  | some n =>
                    simp only [hn, Option.map_some, Option.some.injEq] at hu
                    have hj : j < ns.length := (List.getElem?_eq_some_iff.1 hn).1
                    have h1 := hf j [.int .u8 n] 0 (.int .u8 n) (by rw [hns2, List.getElem?_map, hn]; rfl) rfl
                    have h2 := hc2 j (by omega)
                    simp only [Nat.mul_one, Nat.add_zero] at h1
                    rw [h2]
                    cases h3 : f j with
                    | int k m => rw [h3] at h1; cases h1; rw [← hu]
                    | _ => rw [h3] at h1; cases h1)
                rw [List.length_map, ← hlen] at hload
                have := run_bytesToString (P := P) w ad es.length cap ns hload
                rw [push_list] at this
                exact this
            exact .same g (by rw [run_convert_bytes_string w src dst e a es.length cap hs he hd]; exact hout) (.d (.str _))
          · exact absurd hx (hns s)
        · cases h
    · cases h
  · cases h
where
  run_convert_bytes_run {P : Program} (w : World) (src dst e : TypeId) (s : ByteArray) (hs : P.underlying src = some .string) (hd : P.underlying dst = some (.slice e)) (he : P.underlying e = some (.int .u8)) :=
    Lib.run_convert_string_bytes (P := P) w src dst e s hs hd he

end Ab
