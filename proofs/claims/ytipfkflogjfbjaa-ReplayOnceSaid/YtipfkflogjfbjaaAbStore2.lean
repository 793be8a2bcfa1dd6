/- A part of the proof of a row by an interpreter that is proved sound; no conditions of its own. -/
import Derived.Test.YtipfkflogjfbjaaAbStore
namespace Ab
open Go

variable {P : Program}

theorem getD_patch {α : Type} (l us : List α) (o k : Nat) (d : α) (h : o + us.length ≤ l.length) :
    (l.take o ++ us ++ l.drop (o + us.length)).getD k d = if o ≤ k ∧ k < o + us.length then us.getD (k - o) d else l.getD k d := by
  simp only [List.getD_eq_getElem?_getD, List.append_assoc]
  have ht : (l.take o).length = o := by simp; omega
  by_cases h1 : k < o
  · rw [if_neg (by omega), List.getElem?_append_left (by omega), List.getElem?_take, if_pos h1]
  · rw [List.getElem?_append_right (by omega), ht]
    by_cases h2 : k < o + us.length
    · rw [if_pos (by omega), List.getElem?_append_left (by omega)]
    · rw [if_neg (by omega), List.getElem?_append_right (by omega), List.getElem?_drop]
      congr 2; omega

theorem all_setRange {cs bs : List A} {off : Nat} (h1 : bs.all A.leaf = true) (h2 : cs.all A.leaf = true) : (setRange bs off cs).all A.leaf = true := by
  unfold setRange
  simp only [List.all_append, Bool.and_eq_true]
  refine ⟨⟨?_, h2⟩, ?_⟩
  · rw [List.all_eq_true] at h1 ⊢; exact fun x hx => h1 x (List.mem_of_mem_take hx)
  · rw [List.all_eq_true] at h1 ⊢; exact fun x hx => h1 x (List.mem_of_mem_drop hx)

theorem box_leaf {C : Cx} {objs : Store} {w : World} (g : Good C objs w) {id : Nat} {bs : List A} (ho : objs[id]? = some (.box bs)) : bs.all A.leaf = true := by
  obtain ⟨b', vs', t', h1, h2, h3, h4, h5⟩ := g.obj id _ ho
  rw [List.all_eq_true]
  intro x hx
  obtain ⟨i, hi⟩ := List.getElem?_of_mem hx
  exact (h4 i x hi).1

theorem run_storeAt {t : TypeId} {n : Nat} (hn : sizeT P t = some n) {w : World} {b off : Nat} {v : Value} {vs : Array Value} {te : TypeId} (hh : w.heap[b]? = some (.cells vs te (0, 0))) (hs : v.cells.toList.length = n)
    (hl : off + n ≤ vs.size) (h1 : ∀ u ∈ v.cells.toList, u.oneCell' = true) :
    (Instr.storeAt t (.pointer (some ⟨b, off, none⟩)) v).run P w = .ok () (w.setRow b (vs.toList.take off ++ v.cells.toList ++ vs.toList.drop (off + v.cells.toList.length)).toArray) := by
  have hst := run_storeCells_at P b off te v.cells.toList 0 vs w hh (by omega) h1
  simp only [Nat.add_zero] at hst
  have hsz : v.cells.size = n := by simpa using hs
  simp [Instr.storeAt, Instr.sureAddr, storeVar, run_sizeOf' hn, hsz]
  simpa [hsz] using hst

theorem arr_cell {es : List (List D)} {sz i j : Nat} {e : List D} (hz : ∀ e ∈ es, e.length = sz) (he : es[i]? = some e) (hj : j < e.length) : i * sz + j < es.length * sz := by
  have h1 : i + 1 ≤ es.length := (List.getElem?_eq_some_iff.1 he).1
  have h2 : (i + 1) * sz ≤ es.length * sz := Nat.mul_le_mul_right _ h1
  have h3 := hz e (List.mem_of_getElem? he)
  rw [Nat.add_mul, Nat.one_mul] at h2; omega

theorem cell_apart {sz i j i' j' : Nat} (hj : j < sz) (hj' : j' < sz) (h : i * sz + j = i' * sz + j') : i = i' ∧ j = j' := by
  have h1 : (i * sz + j) / sz = i := by rw [Nat.add_comm, Nat.add_mul_div_right _ _ (by omega), Nat.div_eq_of_lt hj, Nat.zero_add]
  have h2 : (i' * sz + j') / sz = i' := by rw [Nat.add_comm, Nat.add_mul_div_right _ _ (by omega), Nat.div_eq_of_lt hj', Nat.zero_add]
  have : i = i' := by rw [← h1, ← h2, h]
  subst this
  exact ⟨rfl, by omega⟩

theorem store_ok {C : Cx} {objs : Store} {w : World} (g : Good C objs w) {t : TypeId} {p x : A} {vp vx : Value} (rp : RelA C objs p vp) (rx : RelA C objs x vx) {objs' : Store} (h : storeA P objs t p x = some objs') :
    ∃ C' w', (Instr.storeAt t vp vx).run P w = .ok () w' ∧ Adv C objs w C' objs' w' ∧ Good C' objs' w' := by
  unfold storeA at h
  split at h
  · cases h
  rename_i n hn
  simp only at h
  split at h
  · rename_i hc
    obtain ⟨hcl, hleaf⟩ := hc
    obtain ⟨hr, hone⟩ := cells_rel rx hleaf
    have hul : vx.cells.toList.length = n := by rw [← hr.1, hcl]
    have hsz : vx.cells.size = n := by simpa using hul
    split at h
    · rename_i id off
      split at h
      · rename_i bs hbs
        split at h
        · rename_i hfit
          cases h
          have ho := getO_box hbs
          cases rp with
          | bp _ _ b m bs' ho' hb =>
            obtain ⟨b', vs, te, h1, h2, h3, h4, h5⟩ := g.obj id _ ho
            rw [hb] at h1; cases h1
            have hbr : RelL C objs bs vs.toList := relL_of_array h3.symm fun i c hc => (h4 i c hc).2
            have hrun := run_storeAt hn h2 hul (by rw [h3]; exact hfit) hone
            obtain ⟨k1, k2⟩ := setBox_ok g ho hb h2 (hbr.setRange hr off) (by simp; omega) (all_setRange (box_leaf g ho) hleaf)
            exact ⟨C, _, hrun, k1, k2⟩
        · cases h
      · cases h
    · rename_i id i off m
      split at h
      · rename_i ds hds
        split at h
        · rename_i sz es hes
          split at h
          · rename_i hm
            split at h
            · rename_i e he
              split at h
              · rename_i hfit
                cases h
                obtain ⟨C1, s1, r1⟩ := toDs_ok x.cells g hr hds
                have ho := getO_arr hes
                have rp1 := rp.adv s1.adv
                cases rp1 with
                | ep _ _ _ _ p sz' es' fr' ho' hle hcur =>
                  rw [ho] at ho'; cases ho'
                  obtain ⟨b, N, hb, rfl, hi⟩ := hcur hm
                  obtain ⟨hz, ⟨h1, _⟩ | ⟨b', N', vs, te, h1, h2, h3, h4, h5, h6⟩⟩ := s1.good.obj id _ ho
                  · rw [hb] at h1; cases h1
                  rw [hb] at h1; cases h1
                  have hel : e.length = sz := hz e (List.mem_of_getElem? he)
                  have hin : i * sz + off + n ≤ vs.size := by
                    have h7 : (i + 1) * sz ≤ es.length * sz := Nat.mul_le_mul_right _ hi
                    rw [Nat.add_mul, Nat.one_mul] at h7; omega
                  have hrun := run_storeAt hn h2 hul hin hone
                  have hlen : (vs.toList.take (i * sz + off) ++ vx.cells.toList ++ vs.toList.drop (i * sz + off + vx.cells.toList.length)).length = N := by
                    simp only [List.length_append, List.length_take, List.length_drop, Array.length_toList, hul]; omega
                  have hpatch := fun k => getD_patch vs.toList vx.cells.toList (i * sz + off) k undef (by rw [hul]; simpa using hin)
                  have hdl : ds.length = n := hfit.2
                  have hz' : ∀ e' ∈ es.set i (setRange e off ds), e'.length = sz := by
                    intro e' he'
                    rcases List.mem_or_eq_of_mem_set he' with h | h
                    · exact hz _ h
                    · subst h
                      simp [setRange]
                      omega
                  have hr' : ∀ i' e' j c, (es.set i (setRange e off ds))[i']? = some e' → e'[j]? = some c → RelD C1.M c ((vs.toList.take (i * sz + off) ++ vx.cells.toList ++ vs.toList.drop (i * sz + off + vx.cells.toList.length)).getD (i' * sz + j) undef) := by
                    intro i' e' j c he' hc
                    rw [hpatch, hul]
                    by_cases hii : i = i'
                    · subst hii
                      rw [List.getElem?_set_self hi] at he'
                      cases he'
                      have hj : j < sz := by
                        have := (List.getElem?_eq_some_iff.1 hc).1
                        simp [setRange] at this; omega
                      by_cases hjr : off ≤ j ∧ j < off + n
                      · rw [if_pos (by omega)]
                        have : c = ds[j - off]'(by omega) := by
                          have := getD_patch e ds off j D.nilp (by omega)
                          rw [if_pos (by omega)] at this
                          simp only [setRange] at hc
                          rw [List.getD_eq_getElem?_getD, hc, List.getD_eq_getElem?_getD, List.getElem?_eq_getElem (by omega)] at this
                          simpa using this
                        rw [this, show i * sz + j - (i * sz + off) = j - off from by omega]
                        exact r1.2 (j - off) _ (List.getElem?_eq_getElem (by omega))
                      · rw [if_neg (by omega)]
                        have : e[j]? = some c := by
                          have := getD_patch e ds off j c (by omega)
                          rw [if_neg (by omega)] at this
                          simp only [setRange] at hc
                          have hj2 : j < e.length := by omega
                          rw [List.getD_eq_getElem?_getD, hc, List.getD_eq_getElem?_getD, List.getElem?_eq_getElem hj2] at this
                          rw [List.getElem?_eq_getElem hj2]
                          simp at this; rw [← this]
                        have := h5 i e j c he this
                        rwa [Array.getD_eq_getD_getElem?, ← Array.getElem?_toList, ← List.getD_eq_getElem?_getD] at this
                    · rw [List.getElem?_set_ne hii] at he'
                      have hj : j < sz := by rw [← hz e' (List.mem_of_getElem? he')]; exact (List.getElem?_eq_some_iff.1 hc).1
                      rw [if_neg (fun hx => hii (cell_apart (i := i) (j := i' * sz + j - i * sz) (i' := i') (j' := j) (by omega) hj (by omega)).1)]
                      have := h5 i' e' j c he' hc
                      rwa [Array.getD_eq_getD_getElem?, ← Array.getElem?_toList, ← List.getD_eq_getElem?_getD] at this
                  obtain ⟨k1, k2⟩ := setArr_ok s1.good ho hb h2 hz' hlen (by simpa using h4) (by simp) hr' (fun hf => by cases hf) rfl
                  exact ⟨C1, _, hrun, s1.adv.trans k1, k2⟩
              · cases h
            · cases h
          · cases h
        · cases h
      · cases h
    · cases h
  · cases h

end Ab
