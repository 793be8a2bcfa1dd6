/- A part of the proof of a row by an interpreter that is proved sound; no conditions of its own. -/
import Derived.Test.YtipfkflogjfbjaaAbVals2
import Derived.Laws.BytesString
import Derived.Laws.Strings
namespace Ab
open Go

variable {P : Program}

theorem add_add' (a : Addr) (i j : Nat) : (a.add i).add j = a.add (i + j) := by
  obtain ⟨b, o, s⟩ := a
  unfold Addr.add
  by_cases hi : i = 0
  · subst hi; simp
  · by_cases hj : j = 0
    · subst hj; simp [hi]
    · simp [hi, hj]; omega

theorem fieldAddr_ok {C : Cx} {objs : Store} {w : World} {s : TypeId} {f o n : Nat} {ag : Bool} (hf : fieldT P s f = some (o, n, ag)) (hn : 0 < n) {x : A} {v : Value} (r : RelA C objs x v) {y : A}
    (h : faA o x = some y) :
    Gives P C objs w (Instr.fieldAt s v f) y := by
  unfold fieldT at hf
  split at hf
  · rename_i fs hu
    split at hf
    · rename_i fl hfl
      split at hf
      · rename_i z b hz hb
        cases hf
        have run : ∀ ad, (Instr.fieldAt s (.pointer (some ad)) f).run P w = .ok (.pointer (some (ad.add fl.offset))) w := by
          intro ad
          have hz0 : n ≠ 0 := by omega
          simp [Instr.fieldAt, run_under hu, hfl, Instr.sureAddr, fieldPlace, run_sizeOf' hz, hz0]
        cases r with
        | bp id off b m cs ho hbb =>
          simp only [faA, Option.some.injEq] at h; subst h
          exact ⟨_, run _, by rw [add_plain']; exact .bp id _ b m cs ho hbb⟩
        | ep id i off m p sz es fr ho hle hcur =>
          simp only [faA, Option.some.injEq] at h; subst h
          refine ⟨_, run _, .ep id i _ m _ sz es fr ho hle fun hm => ?_⟩
          obtain ⟨b, N, h1, h2, h3⟩ := hcur hm
          exact ⟨b, N, h1, by rw [h2, add_plain', Nat.add_assoc], h3⟩
        | cp cs ad u hr hm =>
          simp only [faA, Option.some.injEq] at h; subst h
          refine ⟨_, run _, .cp _ _ (fun j => u (fl.offset + j)) (fun j c hc => ?_) (fun j hj => ?_)⟩
          · rw [List.getElem?_drop] at hc; exact hr _ c hc
          · rw [add_add']; exact hm _ (by simp at hj; omega)
        | _ => simp [faA] at h
      · cases hf
    · cases hf
  · cases hf

theorem cellsTo_len {ag : Bool} {cs : List A} {x : A} (h : cellsTo ag cs = some x) : ag = false → cs.length = 1 := by
  intro ha; subst ha
  unfold cellsTo at h
  simp at h
  split at h
  · rfl
  · cases h

theorem part_gives {C : Cx} {objs : Store} {w : World} {xs : Array Value} {cs : List A} (r : RelL C objs cs xs.toList) {t : TypeId} {o n : Nat} {ag : Bool} (hn : sizeT P t = some n) (hag : isAggT P t = some ag) (hl : o + n ≤ cs.length) {x : A}
    (h : cellsTo ag ((cs.drop o).take n) = some x) : Gives P C objs w (part t xs o) x := by
  have hp : partA P t cs o = some ((cs.drop o).take n) := by unfold partA; rw [hn]; simp [hl]
  obtain ⟨v, us, h1, h2, h3, h4⟩ := part_ok r hp hag (fun e => cellsTo_len h e) w
  obtain ⟨k1, k2⟩ := cellsTo_rel h2 h
  cases ag with
  | true => exact ⟨v, h1, by rw [h3 rfl]; exact k1 rfl⟩
  | false =>
    obtain ⟨u, hu, k3⟩ := k2 rfl
    rw [h4 rfl] at hu; cases hu
    exact ⟨v, h1, k3⟩

theorem field_ok {C : Cx} {objs : Store} {w : World} {s : TypeId} {f o n : Nat} {ag : Bool} (hf : fieldT P s f = some (o, n, ag)) {cs : List A} {v : Value} (r : RelA C objs (.agg cs) v) (hl : o + n ≤ cs.length) {x : A}
    (h : cellsTo ag ((cs.drop o).take n) = some x) : Gives P C objs w (Instr.field s v f) x := by
  unfold fieldT at hf
  split at hf
  · rename_i fs hu
    split at hf
    · rename_i fl hfl
      split at hf
      · rename_i z b hz hb
        cases hf
        obtain ⟨vs, rfl, hr⟩ := rel_agg r
        obtain ⟨u, h1, h2⟩ := part_gives (w := w) hr hz hb hl h
        exact ⟨u, by simp [Instr.field, run_under hu, hfl, asAgg, h1], h2⟩
      · cases hf
    · cases hf
  · cases hf

theorem indexAddr_ok {C : Cx} {objs : Store} {w : World} {t : TypeId} {x i y : A} {v vi : Value} (rx : RelA C objs x v) (ri : RelA C objs i vi) (h : indexAddrA P objs t x i = some y) :
    Gives P C objs w (Instr.indexAt t v vi) y := by
  unfold indexAddrA at h
  split at h
  · cases h
  rename_i n hi
  obtain ⟨k, rfl, rfl⟩ := rel_int ri hi
  split at h
  · rename_i h0
    cases rx with
    | d hd =>
      cases hd with
      | sl sz es a cap u hc hz hr hm =>
        simp only at h
        split at h
        · rename_i z by_ he
          split at h
          · rename_i hzz
            obtain ⟨rfl, hpos⟩ := hzz
            split at h
            · rename_i e hee
              cases h
              unfold elemT at he
              split at he
              · rename_i te hu
                simp only [Option.map_eq_some_iff, Prod.mk.injEq] at he
                obtain ⟨inf, hinf, hsz, hby⟩ := he
                have hlt : n.toNat < es.length := (List.getElem?_eq_some_iff.1 hee).1
                have hel : e.length = z := hz e (List.mem_of_getElem? hee)
                obtain ⟨ad, rfl, _⟩ := hm _ e 0 hee (by omega)
                refine ⟨.pointer (some (ad.add (n.toNat * z))), ?_, .cp e _ (u n.toNat) (fun j c hc => hr _ _ e c hee hc) (fun j hj => ?_)⟩
                · have hs : sizeT P te = some z := by unfold sizeT; rw [hinf]; simp [hsz]
                  have h1 : 0 ≤ n ∧ n < (es.length : Int) := by omega
                  simp [Instr.indexAt, asIntOf, run_under hu, h1, run_sizeOf' hs]
                · obtain ⟨ad', h1, h2⟩ := hm _ e j hee hj
                  cases h1
                  rw [add_add']; exact h2
              · cases he
            · cases h
          · cases h
        · cases h
      | _ => simp at h
    | arr id off len m a cap sz es fr ho hle hc hcur =>
      simp only at h
      rw [getO_some ho] at h
      split at h
      · rename_i z by_ sz' es' fr' he heq
        cases heq
        split at h
        · rename_i hcond
          obtain ⟨rfl, hlt, hm, hfit⟩ := hcond
          cases h
          unfold elemT at he
          split at he
          · rename_i te hu
            simp only [Option.map_eq_some_iff, Prod.mk.injEq] at he
            obtain ⟨inf, hinf, hsz, hby⟩ := he
            obtain ⟨k1, k2, k3⟩ := hcur hm
            rcases k3 with ⟨_, p2, _⟩ | ⟨b, N, p1, p2, p3⟩
            · omega
            · have ha := p2 (by omega)
              subst ha
              refine ⟨.pointer (some ((⟨b, off * z, none⟩ : Addr).add (n.toNat * z))), ?_, .ep id _ 0 m _ z es fr ho hle fun _ => ⟨b, N, p1, ?_, by omega⟩⟩
              · have hs : sizeT P te = some z := by unfold sizeT; rw [hinf]; simp [hsz]
                have h1 : 0 ≤ n ∧ n < (len : Int) := by omega
                simp [Instr.indexAt, asIntOf, run_under hu, h1, run_sizeOf' hs]
              · rw [add_plain', ← Nat.add_mul, Nat.add_zero]
          · cases he
        · cases h
      · cases h
    | bp id off b m cs ho hb =>
      simp only at h
      split at h
      · rename_i len te hu
        split at h
        · rename_i z hz
          split at h
          · rename_i hlt
            cases h
            refine ⟨.pointer (some ((⟨b, off, none⟩ : Addr).add (n.toNat * z))), ?_, by rw [add_plain']; exact .bp id _ b m cs ho hb⟩
            have h1 : 0 ≤ n ∧ n < (len : Int) := ⟨h0, hlt⟩
            simp [Instr.indexAt, asIntOf, run_under hu, Instr.sureAddr, h1, run_sizeOf' hz]
          · cases h
        · cases h
      · cases h
    | cp cs ad u hr hm =>
      simp only at h
      split at h
      · rename_i len te hu
        split at h
        · rename_i z hz
          split at h
          · rename_i hlt
            cases h
            refine ⟨.pointer (some (ad.add (n.toNat * z))), ?_, .cp _ _ (fun j => u (n.toNat * z + j)) (fun j c hc => ?_) (fun j hj => ?_)⟩
            · have h1 : 0 ≤ n ∧ n < (len : Int) := ⟨h0, hlt⟩
              simp [Instr.indexAt, asIntOf, run_under hu, Instr.sureAddr, h1, run_sizeOf' hz]
            · rw [List.getElem?_drop] at hc; exact hr _ c hc
            · rw [add_add']; exact hm _ (by simp at hj; omega)
          · cases h
        · cases h
      · cases h
    | _ => simp at h
  · cases h

theorem lenA_ok {C : Cx} {objs : Store} {x : A} {v : Value} {n : Int} (r : RelA C objs x v) (h : lenA x = some n) :
    (∃ a c m : Nat, ∃ b : Option Addr, v = .slice b m c ∧ n = m ∧ m ≤ c ∧ a = 0) ∨ (∃ s : ByteArray, v = .string s ∧ n = s.size) ∨ (v = .map none ∧ n = 0) := by
  cases r with
  | d hd =>
    cases hd with
    | sl sz es a cap u hc => simp [lenA] at h; exact .inl ⟨0, cap, es.length, a, rfl, h.symm, hc, rfl⟩
    | str s => simp [lenA] at h; exact .inr (.inl ⟨s, rfl, h.symm⟩)
    | _ => simp [lenA] at h
  | nilsl g a => simp [lenA] at h; exact .inl ⟨0, 0, 0, a, rfl, h.symm, Nat.le_refl _, rfl⟩
  | nilm => simp [lenA] at h; exact .inr (.inr ⟨rfl, h.symm⟩)
  | arr id off len n a cap sz es fr ho hn hc hcur => simp [lenA] at h; exact .inl ⟨0, cap, len, a, rfl, h.symm, hc, rfl⟩
  | _ => simp [lenA] at h

end Ab
