/- A part of the proof of a row by an interpreter that is proved sound; no conditions of its own. -/
import Derived.Test.YtpoheolnnbgebaaAbJoin
import Derived.DataReads
namespace Ab
open Go Go.ChangeShapes Go.WideShapes Go.ChangeAt Go.RowKit

/-! ### What is handed in, as data, for every type that is made of numbers, booleans, texts, slices and structs -/

inductive CS where
  | int (k : IntKind)
  | bool
  | str
  | sl (cs : List CS)

mutual
def Fits : CS → D → Prop
  | .int k, d => ∃ n, d = .int k n ∧ (Lit.int k n).wf = true
  | .bool, d => ∃ b, d = .bool b
  | .str, d => ∃ s, d = .str s ∧ s.size ≤ maxLen
  | .sl cs, d => ∃ es, d = .sl cs.length es ∧ es.length ≤ maxLen ∧ ∀ e ∈ es, FitsL cs e
def FitsL : List CS → List D → Prop
  | [], ds => ds = []
  | c :: cs, ds => ∃ d ds', ds = d :: ds' ∧ Fits c d ∧ FitsL cs ds'
end

theorem FitsL.length : ∀ {cs : List CS} {ds : List D}, FitsL cs ds → ds.length = cs.length
  | [], ds, h => by unfold FitsL at h; subst h; rfl
  | c :: cs, ds, h => by
    unfold FitsL at h
    obtain ⟨d, ds', rfl, _, h2⟩ := h
    simp [FitsL.length h2]

theorem FitsL.append : ∀ {cs cs' : List CS} {ds ds' : List D}, FitsL cs ds → FitsL cs' ds' → FitsL (cs ++ cs') (ds ++ ds')
  | [], cs', ds, ds', h, h' => by unfold FitsL at h; subst h; exact h'
  | c :: cs, cs', ds, ds', h, h' => by
    unfold FitsL at h
    obtain ⟨d, ds1, rfl, h1, h2⟩ := h
    show FitsL (c :: (cs ++ cs')) (d :: (ds1 ++ ds'))
    unfold FitsL
    exact ⟨d, ds1 ++ ds', rfl, h1, h2.append h'⟩

theorem FitsL.one {c : CS} {d : D} (h : Fits c d) : FitsL [c] [d] := by
  unfold FitsL
  exact ⟨d, [], rfl, h, by unfold FitsL; rfl⟩

variable {P : Program}

def shapeFs (P : Program) (rec : TypeId → Option (List CS)) : List Field → Nat → Option (List CS)
  | [], _ => some []
  | f :: fs, off => if f.offset = off then match rec f.type with
    | some cs => if cs.length = P.cellsOf f.type then match shapeFs P rec fs (off + cs.length) with
      | some r => some (cs ++ r)
      | none => none
      else none
    | none => none
    else none

/-- A type's cells. -/
def shape (P : Program) : Nat → TypeId → Option (List CS)
  | 0, _ => none
  | f + 1, t => match P.underlying t with
    | some (.int k) => some [.int k]
    | some .bool => some [.bool]
    | some .string => some [.str]
    | some (.slice e) => match shape P f e with
      | some cs => if cs.length = P.cellsOf e then some [.sl cs] else none
      | none => none
    | some (.struct fs) => match shapeFs P (shape P f) fs.toList 0 with
      | some cs => if cs.length = P.cellsOf t then some cs else none
      | none => none
    | _ => none

section
variable {H : Type} {enc : TypeId × Value → H} {w : World} {base : Nat} {held : Bool}

theorem open_fields {n : Nat} {rec : TypeId → Option (List CS)} {cs : List Value} (hrec : ∀ t css, rec t = some css → ∀ (cs : List Value) x, DataW.trod enc P w base (fun _ => true) held n t cs = some x → ∃ ds, RelDL w.cell? ds cs ∧ FitsL css ds) :
    ∀ (l : List Field) (off : Nat) (css : List CS), shapeFs P rec l off = some css → (∀ (i : Nat) f, l[i]? = some f → ∃ y, DataW.trod enc P w base (fun _ => true) held n f.type ((cs.drop f.offset).take (P.cellsOf f.type)) = some y) →
      ∃ ds, RelDL w.cell? ds ((cs.drop off).take css.length) ∧ FitsL css ds
  | [], off, css, hs, _ => by
    unfold shapeFs at hs; cases hs
    exact ⟨[], ⟨rfl, fun i c h => by simp at h⟩, by unfold FitsL; rfl⟩
  | f :: fs, off, css, hs, hf => by
    unfold shapeFs at hs
    split at hs
    case isFalse => cases hs
    rename_i ho
    split at hs
    case h_2 => cases hs
    rename_i c1 hc
    split at hs
    case isFalse => cases hs
    rename_i hlen
    split at hs
    case h_2 => cases hs
    rename_i r hr
    cases hs
    obtain ⟨y, hy⟩ := hf 0 f rfl
    obtain ⟨d1, r1, f1⟩ := hrec _ _ hc _ _ hy
    obtain ⟨d2, r2, f2⟩ := open_fields hrec fs (off + c1.length) r hr (fun i g hg => hf (i + 1) g (by simpa using hg))
    refine ⟨d1 ++ d2, ?_, f1.append f2⟩
    rw [List.length_append, List.take_add, ← hlen] at *
    rw [List.drop_drop]
    rw [ho] at r1
    exact r1.append r2

theorem open_shape : ∀ (f : Nat) (t : TypeId) (css : List CS), shape P f t = some css → ∀ (fuel : Nat) (cs : List Value) (x : DataW H × List MemPlace), DataW.trod enc P w base (fun _ => true) held fuel t cs = some x → ∃ ds, RelDL w.cell? ds cs ∧ FitsL css ds
  | 0, t, css, h, _, _, _, _ => by unfold shape at h; cases h
  | f + 1, t, css, h, fuel, cs, x, hx => by
    unfold shape at h
    split at h
    · rename_i k hu
      cases h
      obtain ⟨n, rfl, _, hw⟩ := DataW.trod_int hu hx
      exact ⟨[.int k n], .one (.int k n), .one (by unfold Fits; exact ⟨n, rfl, hw⟩)⟩
    · rename_i hu
      cases h
      obtain ⟨b, rfl, _⟩ := DataW.trod_bool hu hx
      exact ⟨[.bool b], .one (.bool b), .one (by unfold Fits; exact ⟨b, rfl⟩)⟩
    · rename_i hu
      cases h
      obtain ⟨s, rfl, _, hs⟩ := DataW.trod_string hu hx
      exact ⟨[.str s], .one (.str s), .one (by unfold Fits; exact ⟨s, rfl, hs⟩)⟩
    · rename_i e hu
      split at h
      case h_2 => cases h
      rename_i c1 hc
      split at h
      case isFalse => cases h
      rename_i hlen
      cases h
      rcases DataW.trod_slice hu hx with ⟨rfl, _⟩ | ⟨a, len, cap, elems, rest, n, rfl, rfl, _, hb, hl, hm, hel, he, _⟩
      · refine ⟨[.sl c1.length []], .one ?_, .one (by unfold Fits; exact ⟨[], rfl, by simp, by simp⟩)⟩
        exact RelD.sl c1.length [] none 0 (fun _ _ => undef) (Nat.le_refl _) (by simp) (by simp) (by simp)
      · have each : ∀ i, i < len → ∃ (row : List Value) (ds : List D), w.cells? base (a.add (i * c1.length)) c1.length = some row ∧ RelDL w.cell? ds row ∧ FitsL c1 ds := by
          intro i hi
          have h1 := he i hi
          rw [List.getElem?_eq_getElem (by omega), ← hlen, Option.bind_eq_some_iff] at h1
          obtain ⟨row, h2, h3⟩ := h1
          obtain ⟨ds, h4, h5⟩ := open_shape f e c1 hc n row _ h3
          exact ⟨row, ds, h2, h4, h5⟩
        have : ∃ (R : Nat → List Value) (G : Nat → List D), ∀ i, i < len → w.cells? base (a.add (i * c1.length)) c1.length = some (R i) ∧ RelDL w.cell? (G i) (R i) ∧ FitsL c1 (G i) := by
          refine ⟨fun i => if h : i < len then Classical.choose (each i h) else [], fun i => if h : i < len then Classical.choose (Classical.choose_spec (each i h)) else [], fun i hi => ?_⟩
          simp only [hi, dite_true]
          exact Classical.choose_spec (Classical.choose_spec (each i hi))
        obtain ⟨R, G, hRG⟩ := this
        have hget : ∀ i e, ((List.range len).map G)[i]? = some e → i < len ∧ e = G i := by
          intro i e h
          rw [List.getElem?_map, Option.map_eq_some_iff] at h
          obtain ⟨j, h1, rfl⟩ := h
          have h2 := List.getElem?_eq_some_iff.1 h1
          obtain ⟨h3, h4⟩ := h2
          simp at h3 h4
          exact ⟨h3, by rw [← h4]⟩
        have hcell : ∀ i, i < len → ∀ j, j < c1.length → w.cell? ((a.add (i * c1.length)).add j) = (R i)[j]? ∧ (R i).length = c1.length := by
          intro i hi j hj
          obtain ⟨h1, h2, h3⟩ := World.cells?_some (hRG i hi).1
          exact ⟨h3 j hj, h2⟩
        refine ⟨[.sl c1.length ((List.range len).map G)], .one ?_, .one ?_⟩
        · have key := RelD.sl (M := w.cell?) c1.length ((List.range len).map G) (some a) cap (fun i j => (R i).getD j undef) (by simp; exact hl) (fun e he => ?_) (fun i j e c h1 h2 => ?_) (fun i e j h1 h2 => ?_)
          · simpa using key
          · obtain ⟨i, hi, rfl⟩ := List.mem_map.1 he
            exact (hRG i (by simpa using hi)).2.2.length
          · obtain ⟨hi, rfl⟩ := hget i e h1
            exact (hRG i hi).2.1.2 j c h2
          · obtain ⟨hi, rfl⟩ := hget i e h1
            have hj : j < c1.length := by rw [← (hRG i hi).2.2.length]; exact h2
            obtain ⟨q1, q2⟩ := hcell i hi j hj
            refine ⟨a, rfl, ?_⟩
            rw [← add_add', q1, List.getElem?_eq_getElem (by omega), List.getD_eq_getElem?_getD, List.getElem?_eq_getElem (by omega)]; rfl
        · unfold Fits
          refine ⟨(List.range len).map G, rfl, by simp; omega, fun e he => ?_⟩
          obtain ⟨i, hi, rfl⟩ := List.mem_map.1 he
          exact (hRG i (by simpa using hi)).2.2
    · rename_i fs hu
      split at h
      case h_2 => cases h
      rename_i c1 hc
      split at h
      case isFalse => cases h
      rename_i hlen
      cases h
      obtain ⟨xs, n, rfl, _, hcl, hxl, hfs⟩ := DataW.trod_struct hu hx
      obtain ⟨ds, h1, h2⟩ := open_fields (cs := cs) (n := n) (fun t css ht cs x hx => open_shape f t css ht n cs x hx) fs.toList 0 css hc (fun i g hg => by
        have hg' : fs[i]? = some g := by simpa using hg
        have hi : i < fs.size := (Array.getElem?_eq_some_iff.1 hg').1
        rw [hfs i g hg', List.getElem?_eq_getElem (by omega)]
        exact ⟨_, rfl⟩)
      rw [List.drop_zero, List.take_of_length_le (by omega)] at h1
      exact ⟨ds, h1, h2⟩
    · cases h

/-- An argument of a struct type. -/
theorem open_agg {r : Reach} {b0 : Nat} {t : TypeId} {fs : Array Field} {v : Value} {d : DataW H} {ps : List MemPlace} {f : Nat} {css : List CS} (ht : P.underlying t = some (.struct fs)) (hs : shape P f t = some css) (hval : Value.okWide P w r b0 t v)
    (hd : DataW.Trod enc P w base (fun _ => true) held t v d ps) : ∃ ds, RelA ⟨w.cell?, fun _ => none⟩ [] (.agg (ds.map .d)) v ∧ FitsL css ds := by
  obtain ⟨cs, rfl, _⟩ := okWide_struct ht hval
  obtain ⟨fuel, hf⟩ := hd
  obtain ⟨ds, h1, h2⟩ := open_shape f t css hs fuel _ _ hf
  refine ⟨ds, .agg _ cs (by rw [List.length_map, h1.1]; simp [Value.cells]) fun i c hc => ?_, h2⟩
  rw [List.getElem?_map, Option.map_eq_some_iff] at hc
  obtain ⟨x, hx, rfl⟩ := hc
  have := h1.2 i x hx
  simp only [Value.cells] at this
  rw [List.getD_eq_getElem?_getD, Array.getElem?_toList, ← Array.getD_eq_getD_getElem?] at this
  exact .d this

/-- An argument of a slice type. -/
theorem open_slice {r : Reach} {b0 : Nat} {t e : TypeId} {v : Value} {d : DataW H} {ps : List MemPlace} {f : Nat} {css : List CS} (ht : P.underlying t = some (.slice e)) (hs : shape P f t = some [.sl css]) (hval : Value.okWide P w r b0 t v)
    (hd : DataW.Trod enc P w base (fun _ => true) held t v d ps) : ∃ es, RelD w.cell? (.sl css.length es) v ∧ es.length ≤ maxLen ∧ ∀ e ∈ es, FitsL css e := by
  obtain ⟨a, len, cap, rfl⟩ := okWide_slice ht hval
  obtain ⟨fuel, hf⟩ := hd
  obtain ⟨ds, h1, h2⟩ := open_shape f t _ hs fuel _ _ hf
  unfold FitsL at h2
  obtain ⟨d0, ds', rfl, h3, h4⟩ := h2
  unfold FitsL at h4
  subst h4
  unfold Fits at h3
  obtain ⟨es, rfl, h5, h6⟩ := h3
  have := h1.2 0 _ rfl
  exact ⟨es, by simpa [Value.cells] using this, h5, h6⟩
end

end Ab
