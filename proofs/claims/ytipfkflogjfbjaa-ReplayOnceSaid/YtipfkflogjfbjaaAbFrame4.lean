/- A part of the proof of a row by an interpreter that is proved sound; no conditions of its own. -/
import Derived.Test.YtipfkflogjfbjaaAbFrame3
namespace Ab
open Go

variable {P : Program}

theorem reach_seen (o : Store) : ∀ (k : Nat) (todo seen : List Nat), ∀ i ∈ seen, i ∈ reach o k todo seen
  | 0, _, _, i, h => by unfold reach; exact h
  | _ + 1, [], _, i, h => by unfold reach; exact h
  | k + 1, j :: todo, seen, i, h => by
    unfold reach
    split
    · exact reach_seen o k _ _ i h
    · exact reach_seen o k _ _ i (by simp [h])

theorem reach_agree {o o2 : Store} : ∀ (k : Nat) (todo seen : List Nat), (∀ i ∈ reach o k todo seen, getO o2 i = getO o i) → reach o2 k todo seen = reach o k todo seen
  | 0, _, _, _ => by simp [reach]
  | _ + 1, [], _, _ => by simp [reach]
  | k + 1, j :: todo, seen, h => by
    unfold reach at h ⊢
    split
    · rename_i hc
      rw [if_pos hc] at h
      exact reach_agree k _ _ h
    · rename_i hc
      rw [if_neg hc] at h
      have hj := h j (reach_seen o k _ _ j (by simp))
      rw [hj]
      exact reach_agree k _ _ h

theorem backA_loc {ρ : List Nat} (hn : ρ.Nodup) {o o' : Store} (hlt : ∀ i ∈ ρ, i < o.length) {p : Nat} (hp : o[p]? = some .gone) {r v : A} {sub2 : Store} (h : backA ρ o (some p) r sub2 = some (v, o')) :
    ∀ o2 : Store, o2.length = o.length → o2[p]? = some .gone → ∃ o2', backA ρ o2 (some p) r sub2 = some (v, o2') ∧ o2'.length = o2.length ∧ (∀ i, (i ∈ ρ ∨ i = p) → o2'[i]? = o'[i]?) ∧ (∀ i, i ∉ ρ → i ≠ p → o2'[i]? = o2[i]?) := by
  intro o2 hl hp2
  have hpl := (List.getElem?_eq_some_iff.1 hp).1
  have hpl2 := (List.getElem?_eq_some_iff.1 hp2).1
  have hlt2 : ∀ i ∈ ρ, i < o2.length := fun i hi => by rw [hl]; exact hlt i hi
  unfold backA at h ⊢
  simp only at h ⊢
  split at h
  case h_2 => cases h
  rename_i r3 sub3 e1 e2
  split at h
  case isFalse => cases h
  rename_i hle
  rw [if_pos hle]
  split at h
  · cases h
  rename_i hpr
  rw [if_neg hpr]
  have hpr' : p ∉ ρ := by simpa using hpr
  split at h
  · rename_i hd
    cases h
    refine ⟨_, rfl, setAll_length _ _ _, fun i hi => ?_, fun i hi _ => setAll_out _ _ _ hi⟩
    rcases hi with hi | rfl
    · obtain ⟨j, hj⟩ := List.getElem?_of_mem hi
      rw [setAll_in ρ sub3 o2 hn hle (hlt2 i hi) hj, setAll_in ρ sub3 o hn hle (hlt i hi) hj]
    · rw [setAll_out _ _ _ hpr', setAll_out _ _ _ hpr', hp, hp2]
  · rename_i x hd
    cases h
    refine ⟨_, rfl, by simp [setAll_length], fun i hi => ?_, fun i hi hip => by rw [List.getElem?_set_ne (Ne.symm hip)]; exact setAll_out _ _ _ hi⟩
    by_cases hip : i = p
    · subst hip
      rw [List.getElem?_set_self (by rw [setAll_length]; exact hpl2), List.getElem?_set_self (by rw [setAll_length]; exact hpl)]
    · rcases hi with hi | hi
      · obtain ⟨j, hj⟩ := List.getElem?_of_mem hi
        rw [List.getElem?_set_ne (Ne.symm hip), List.getElem?_set_ne (Ne.symm hip), setAll_in ρ sub3 o2 hn hle (hlt2 i hi) hj, setAll_in ρ sub3 o hn hle (hlt i hi) hj]
      · exact absurd hi hip
  · cases h

theorem callR_loc {call : FuncId → List A → Store → Option (A × Store)} {f : FuncId} {args : List A} {o o' : Store} {p : Nat} {v : A} (hp : o[p]? = some .gone) (h : callR call f args o (some p) = some (v, o')) {W : List Nat} (hW : ∀ i ∈ reach o (4 * o.length + 40) (refsAs args) [], i ∈ W) :
    Loc (fun o2 => callR call f args o2 (some p)) o p [] W v o' := by
  have hn := reach_nodup o (4 * o.length + 40) (refsAs args) [] List.nodup_nil
  unfold callR at h
  simp only at h
  generalize hρ : reach o (4 * o.length + 40) (refsAs args) [] = ρ at h hn hW
  split at h
  case isFalse => cases h
  rename_i hall
  have hlt : ∀ i ∈ ρ, i < o.length := fun i hi => by simpa using List.all_eq_true.mp hall i hi
  split at h
  case h_2 => cases h
  rename_i args2 sub h1 h2
  split at h
  case h_2 => cases h
  rename_i r1 sub2 hcall
  have hB := backA_loc hn hlt hp h
  have hself := hB o rfl hp
  have hout : ∀ i, i ∉ ρ → i ≠ p → o'[i]? = o[i]? := by
    obtain ⟨o1, q1, _, _, q4⟩ := hself
    rw [h] at q1; cases q1
    exact q4
  intro o2 ha hp2
  have hag : Agree W o o2 := ha.sub (by simp)
  have hρ2 : reach o2 (4 * o2.length + 40) (refsAs args) [] = ρ := by
    rw [hag.1, ← hρ]
    exact reach_agree _ _ _ fun i hi => hag.getO (hW i (hρ ▸ hi))
  have hmap : ρ.map (getO o2) = ρ.map (getO o) := List.map_congr_left fun i hi => hag.getO (hW i hi)
  obtain ⟨o2', hb2, hl2, hin, hou⟩ := hB o2 hag.1 hp2
  refine ⟨o2', ?_, hl2, fun i hi => ?_, fun i hi hip => hou i (fun hc => hi (hW i hc)) hip⟩
  · show callR call f args o2 (some p) = _
    unfold callR
    simp only [hρ2]
    rw [if_pos (by rw [hag.1]; exact hall), hmap]
    simp only [h1, h2, hcall, hb2]
  · by_cases hir : i ∈ ρ ∨ i = p
    · exact hin i hir
    · have hr : i ∉ ρ := fun h => hir (.inl h)
      have hq : i ≠ p := fun h => hir (.inr h)
      rcases hi with hi | hi
      · rw [hou i hr hq, hout i hr hq, hag.2 i hi]
      · exact absurd hi hq

theorem callA_loc {H : Hints} {call : FuncId → List A → Store → Option (A × Store)} {f : FuncId} {args : List A} {o o' : Store} {p : Nat} {v : A} (hp : o[p]? = some .gone) (h : callA H call f args o (some p) = some (v, o')) :
    Loc (fun o2 => callA H call f args o2 (some p)) o p [] (footCall H o f args) v o' := by
  unfold callA at h
  split at h
  · rename_i hin
    have hfoot : footCall H o f args = reach o (4 * o.length + 40) (refsAs args) [] := by unfold footCall; rw [if_pos hin]
    rw [hfoot]
    have := callR_loc hp h (fun i hi => hi)
    intro o2 ha hp2
    obtain ⟨o2', h1, h2⟩ := this o2 ha hp2
    exact ⟨o2', by simp only [callA]; rw [if_pos hin]; exact h1, h2⟩
  · rename_i hin
    split at h
    case isFalse => cases h
    rename_i hfl
    split at h
    case h_2 => cases h
    rename_i args1 hex
    have hfoot : footCall H o f args = refsAs args ++ reach (shutAs o args) (4 * (shutAs o args).length + 40) (refsAs args1) [] := by
      unfold footCall; rw [if_neg hin, hex]
    rw [hfoot]
    have hps : (shutAs o args)[p]? = some .gone := shutAs_gone args hp
    have L := callR_loc hps h (W := refsAs args ++ reach (shutAs o args) (4 * (shutAs o args).length + 40) (refsAs args1) []) (fun i hi => by simp [hi])
    intro o2 ha hp2
    have hag := ha.sub (M := refsAs args ++ reach (shutAs o args) (4 * (shutAs o args).length + 40) (refsAs args1) []) (by simp)
    have hsh := shutAs_agree args hag (fun i hi => by simp [hi])
    obtain ⟨o2', h1, h2, h3, h4⟩ := L (shutAs o2 args) (by simpa using hsh) (shutAs_gone args hp2)
    refine ⟨o2', ?_, by rw [h2, shutAs_length], h3, fun i hi hip => by rw [h4 i hi hip, shutAs_out _ _ (fun hc => hi (by simp [hc]))]⟩
    simp only [callA]
    rw [if_neg hin, if_pos hfl, exAs_agree hag args (fun i hi => by simp [hi]), hex]
    exact h1

end Ab
