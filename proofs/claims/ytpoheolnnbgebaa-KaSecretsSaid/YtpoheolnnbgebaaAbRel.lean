/- A part of the proof of a row by an interpreter that is proved sound; no conditions of its own. -/
import Derived.Test.YtpoheolnnbgebaaAbDen
import Derived.Orders
import Derived.LoopN
namespace Ab
open Go

abbrev Mem := Addr → Option Value

/-- The ghost: sealed cells, and where the objects lie (their block, its cells). -/
structure Cx where
  M : Mem
  φ : Nat → Option (Nat × Nat)

inductive RelD (M : Mem) : D → Value → Prop
  | int (k : IntKind) (n : Int) : RelD M (.int k n) (.int k n)
  | bool (b : Bool) : RelD M (.bool b) (.bool b)
  | str (s : ByteArray) : RelD M (.str s) (.string s)
  | nilp : RelD M .nilp (.pointer none)
  | nilf : RelD M .nilf .nilFunc
  | nili : RelD M .nili .nilIface
  | sl (sz : Nat) (es : List (List D)) (a : Option Addr) (cap : Nat) (u : Nat → Nat → Value) (hc : es.length ≤ cap) (hz : ∀ e ∈ es, e.length = sz)
      (hr : ∀ i j e c, es[i]? = some e → e[j]? = some c → RelD M c (u i j))
      (hm : ∀ i e j, es[i]? = some e → j < e.length → ∃ ad, a = some ad ∧ M (ad.add (i * sz + j)) = some (u i j)) : RelD M (.sl sz es) (.slice a es.length cap)

theorem RelD.mono {M M' : Mem} (h : ∀ a v, M a = some v → M' a = some v) {x : D} {v : Value} (r : RelD M x v) : RelD M' x v := by
  induction r with
  | sl sz es a cap u hc hz hr hm ih => exact .sl sz es a cap u hc hz ih (fun i e j he hj => by obtain ⟨ad, h1, h2⟩ := hm i e j he hj; exact ⟨ad, h1, h _ _ h2⟩)
  | _ => constructor

/-- A reference to a local array that still holds points at the array. -/
def CurArr (C : Cx) (id off len sz L : Nat) (a : Option Addr) (cap : Nat) : Prop :=
  off + len ≤ L ∧ L ≤ off + cap ∧ ((C.φ id = none ∧ L = 0 ∧ cap = 0) ∨ ∃ b N, C.φ id = some (b, N) ∧ (cap ≠ 0 → a = some ⟨b, off * sz, none⟩) ∧ (off + cap) * sz ≤ N)

inductive RelA (C : Cx) (objs : Store) : A → Value → Prop
  | d {x : D} {v : Value} (h : RelD C.M x v) : RelA C objs (.d x) v
  | nilsl (g : Nat) (a : Option Addr) : RelA C objs (.nilsl g) (.slice a 0 0)
  | nilm : RelA C objs .nilm (.map none)
  | agg (cs : List A) (vs : Array Value) (hl : cs.length = vs.size) (h : ∀ i c, cs[i]? = some c → RelA C objs c (vs.getD i undef)) : RelA C objs (.agg cs) (.agg vs)
  | tup (cs : List A) (vs : Array Value) (hl : cs.length = vs.size) (h : ∀ i c, cs[i]? = some c → RelA C objs c (vs.getD i undef)) : RelA C objs (.tup cs) (.tuple vs)
  | bp (id off b n : Nat) (cs : List A) (ho : objs[id]? = some (.box cs)) (hb : C.φ id = some (b, n)) : RelA C objs (.bp id off) (.pointer (some ⟨b, off, none⟩))
  | ep (id i off n : Nat) (p : Addr) (sz : Nat) (es : List (List D)) (fr : Bool) (ho : objs[id]? = some (.arr sz es fr)) (hn : n ≤ es.length)
      (h : n = es.length → ∃ b N, C.φ id = some (b, N) ∧ p = ⟨b, i * sz + off, none⟩ ∧ i < es.length) : RelA C objs (.ep id i off n) (.pointer (some p))
  | cp (cs : List D) (ad : Addr) (u : Nat → Value) (hr : ∀ j c, cs[j]? = some c → RelD C.M c (u j)) (hm : ∀ j, j < cs.length → C.M (ad.add j) = some (u j)) : RelA C objs (.cp cs) (.pointer (some ad))
  | arr (id off len n : Nat) (a : Option Addr) (cap : Nat) (sz : Nat) (es : List (List D)) (fr : Bool) (ho : objs[id]? = some (.arr sz es fr)) (hn : n ≤ es.length)
      (hc : len ≤ cap) (h : n = es.length → CurArr C id off len sz es.length a cap) : RelA C objs (.arr id off len n) (.slice a len cap)
  | fn (f : FuncId) (a b : List A) (vs us : Array Value) (hv : a.length = vs.size) (hu : b.length = us.size) (h1 : ∀ i c, a[i]? = some c → RelA C objs c (vs.getD i undef))
      (h2 : ∀ i c, b[i]? = some c → RelA C objs c (us.getD i undef)) : RelA C objs (.fn f a b) (.func (.func f) vs us)
  | mp (id b n : Nat) (es : List (D × A)) (ho : objs[id]? = some (.mp es)) (hb : C.φ id = some (b, n)) : RelA C objs (.mp id) (.map (some b))
  | un : RelA C objs .un undef
  | top (v : Value) : RelA C objs .top v

def GoodBox (C : Cx) (objs : Store) (w : World) (id : Nat) (cs : List A) : Prop :=
  ∃ b vs t, C.φ id = some (b, cs.length) ∧ w.heap[b]? = some (.cells vs t (0, 0)) ∧ vs.size = cs.length ∧
    (∀ i c, cs[i]? = some c → c.leaf = true ∧ RelA C objs c (vs.getD i undef)) ∧ ∀ k, C.M ⟨b, k, none⟩ = none

def GoodArr (C : Cx) (w : World) (id sz : Nat) (es : List (List D)) (fr : Bool) : Prop :=
  (∀ e ∈ es, e.length = sz) ∧
  ((C.φ id = none ∧ es = []) ∨ ∃ b N vs t, C.φ id = some (b, N) ∧ w.heap[b]? = some (.cells vs t (0, 0)) ∧ vs.size = N ∧ es.length * sz ≤ N ∧
    (∀ i e j c, es[i]? = some e → e[j]? = some c → RelD C.M c (vs.getD (i * sz + j) undef)) ∧
    ∀ k u, C.M ⟨b, k, none⟩ = some u → fr = true ∧ k < es.length * sz)

def GoodMp (C : Cx) (objs : Store) (w : World) (id : Nat) (es : List (D × A)) : Prop :=
  ∃ b n ents clock, C.φ id = some (b, n) ∧ w.heap[b]? = some (.map ents clock) ∧ ents.size = es.length ∧
    ∀ i k v, es[i]? = some (k, v) → RelD C.M k (ents.getD i default).key ∧ RelA C objs v (ents.getD i default).val

def GoodO (C : Cx) (objs : Store) (w : World) (id : Nat) : O → Prop
  | .box cs => GoodBox C objs w id cs
  | .arr sz es fr => GoodArr C w id sz es fr
  | .mp es => GoodMp C objs w id es
  | .gone => C.φ id = none

structure Good (C : Cx) (objs : Store) (w : World) : Prop where
  seal_ : ∀ a v, C.M a = some v → w.cell? a = some v
  obj : ∀ id o, objs[id]? = some o → GoodO C objs w id o
  inj : ∀ i j b n m, i < objs.length → j < objs.length → C.φ i = some (b, n) → C.φ j = some (b, m) → i = j

theorem Good.spot {C : Cx} {objs : Store} {w : World} (g : Good C objs w) {a : Addr} {v : Value} (h : C.M a = some v) : a.spot = none := by
  have := g.seal_ a v h
  unfold World.cell? at this
  split at this
  · split at this
    · cases this
    · rename_i hs; cases hsp : a.spot with
      | none => rfl
      | some x => rw [hsp] at hs; simp at hs
  · cases this

/-- What an object may become: its kind stays; an array that grew may have moved. -/
def Becomes (C C' : Cx) (id : Nat) : O → Option O → Prop
  | .box _, o' => C'.φ id = C.φ id ∧ ∃ cs', o' = some (.box cs')
  | .mp _, o' => C'.φ id = C.φ id ∧ ∃ es', o' = some (.mp es')
  | .arr sz es _, o' => ∃ es' fr', o' = some (.arr sz es' fr') ∧ ((es'.length = es.length ∧ C'.φ id = C.φ id) ∨ es.length < es'.length)
  | .gone, _ => True

/-- From one moment to a later one: what is sealed stays, objects stay what they are, and of memory only the objects' own blocks and new ones have turned. -/
structure Adv (C : Cx) (objs : Store) (w : World) (C' : Cx) (objs' : Store) (w' : World) : Prop where
  M : ∀ a v, C.M a = some v → C'.M a = some v
  len : objs.length ≤ objs'.length
  bec : ∀ id o, objs[id]? = some o → Becomes C C' id o objs'[id]?
  os : w'.os = w.os
  tape : w'.tape = w.tape
  output : w'.output = w.output
  size : w.heap.size ≤ w'.heap.size
  blk : ∀ b, b < w.heap.size → (∀ id n, id < objs.length → C.φ id ≠ some (b, n)) → w'.heap[b]? = w.heap[b]?
  new : ∀ a v, C'.M a = some v → C.M a = some v ∨ w.heap.size ≤ a.block ∨ ∃ id n, id < objs.length ∧ C.φ id = some (a.block, n)
  own : ∀ id b n, id < objs'.length → C'.φ id = some (b, n) → w.heap.size ≤ b ∨ ∃ id' n', id' < objs.length ∧ C.φ id' = some (b, n')

theorem Becomes.refl (C : Cx) (id : Nat) (o : O) : Becomes C C id o (some o) := by
  cases o with
  | box cs => exact ⟨rfl, cs, rfl⟩
  | arr sz es fr => exact ⟨es, fr, rfl, .inl ⟨rfl, rfl⟩⟩
  | mp es => exact ⟨rfl, es, rfl⟩
  | gone => trivial

theorem Adv.refl (C : Cx) (objs : Store) (w : World) : Adv C objs w C objs w :=
  ⟨fun _ _ h => h, Nat.le_refl _, fun id o h => h ▸ Becomes.refl C id o, rfl, rfl, rfl, Nat.le_refl _, fun _ _ _ => rfl, fun _ _ h => .inl h, fun id _ n h1 h2 => .inr ⟨id, n, h1, h2⟩⟩

theorem Adv.trans {C C1 C2 : Cx} {o o1 o2 : Store} {w w1 w2 : World} (h : Adv C o w C1 o1 w1) (k : Adv C1 o1 w1 C2 o2 w2) : Adv C o w C2 o2 w2 where
  M a v h0 := k.M a v (h.M a v h0)
  len := Nat.le_trans h.len k.len
  bec id x hx := by
    have b1 := h.bec id x hx
    cases x with
    | box cs =>
      obtain ⟨e1, cs1, e2⟩ := b1
      obtain ⟨e3, cs2, e4⟩ := k.bec id _ e2
      exact ⟨e3.trans e1, cs2, e4⟩
    | mp es =>
      obtain ⟨e1, cs1, e2⟩ := b1
      obtain ⟨e3, cs2, e4⟩ := k.bec id _ e2
      exact ⟨e3.trans e1, cs2, e4⟩
    | arr sz es fr =>
      obtain ⟨es1, fr1, e2, h2⟩ := b1
      obtain ⟨es2, fr2, e4, h4⟩ := k.bec id _ e2
      refine ⟨es2, fr2, e4, ?_⟩
      rcases h2 with ⟨l1, f1⟩ | l1 <;> rcases h4 with ⟨l2, f2⟩ | l2
      · exact .inl ⟨l2.trans l1, f2.trans f1⟩
      · exact .inr (by omega)
      · exact .inr (by omega)
      · exact .inr (by omega)
    | gone => trivial
  os := k.os.trans h.os
  tape := k.tape.trans h.tape
  output := k.output.trans h.output
  size := Nat.le_trans h.size k.size
  blk b hb hn := by
    rw [k.blk b (Nat.lt_of_lt_of_le hb h.size) ?_, h.blk b hb hn]
    intro id n hid e
    rcases h.own id b n hid e with h1 | ⟨id', n', h1, h2⟩
    · omega
    · exact hn id' n' h1 h2
  new a v h0 := by
    rcases k.new a v h0 with h1 | h1 | ⟨id, n, h1, h2⟩
    · exact h.new a v h1
    · exact .inr (.inl (Nat.le_trans h.size h1))
    · rcases h.own id _ n h1 h2 with h3 | h3
      · exact .inr (.inl h3)
      · exact .inr (.inr h3)
  own id b n hid e := by
    rcases k.own id b n hid e with h1 | ⟨id', n', h1, h2⟩
    · exact .inl (Nat.le_trans h.size h1)
    · exact h.own id' b n' h1 h2

theorem RelA.mono {C C' : Cx} {o o' : Store} (hM : ∀ a v, C.M a = some v → C'.M a = some v) (hb : ∀ id x, o[id]? = some x → Becomes C C' id x o'[id]?) {a : A} {v : Value} (r : RelA C o a v) : RelA C' o' a v := by
  induction r with
  | d h => exact .d (h.mono hM)
  | nilsl g a => exact .nilsl g a
  | nilm => exact .nilm
  | agg cs vs hl h ih => exact .agg cs vs hl ih
  | tup cs vs hl h ih => exact .tup cs vs hl ih
  | bp id off b n cs ho hb' =>
    obtain ⟨e, cs', e'⟩ := hb id _ ho
    exact .bp id off b n cs' e' (e.trans hb')
  | ep id i off n p sz es fr ho hn h =>
    obtain ⟨es', fr', e', h'⟩ := hb id _ ho
    refine .ep id i off n p sz es' fr' e' (by rcases h' with ⟨h1, _⟩ | h1 <;> omega) fun hn' => ?_
    rcases h' with ⟨h1, h2⟩ | h1
    · rw [h2, h1]; exact h (by omega)
    · omega
  | cp cs ad u hr hm => exact .cp cs ad u (fun j c h => (hr j c h).mono hM) (fun j hj => hM _ _ (hm j hj))
  | arr id off len n a cap sz es fr ho hn hc h =>
    obtain ⟨es', fr', e', h'⟩ := hb id _ ho
    refine .arr id off len n a cap sz es' fr' e' (by rcases h' with ⟨h1, _⟩ | h1 <;> omega) hc fun hn' => ?_
    rcases h' with ⟨h1, h2⟩ | h1
    · have := h (by omega)
      unfold CurArr at *
      rw [h1, h2]; exact this
    · omega
  | fn f a b vs us hv hu h1 h2 ih1 ih2 => exact .fn f a b vs us hv hu ih1 ih2
  | mp id b n es ho hb' =>
    obtain ⟨e, cs', e'⟩ := hb id _ ho
    exact .mp id b n cs' e' (e.trans hb')
  | un => exact .un
  | top v => exact .top v

theorem RelA.adv {C C' : Cx} {o o' : Store} {w w' : World} (h : Adv C o w C' o' w') {a : A} {v : Value} (r : RelA C o a v) : RelA C' o' a v := r.mono h.M h.bec

/-- The temporaries. -/
def RelT (C : Cx) (objs : Store) (ts : List A) (vs : Array Value) : Prop :=
  ts.length = vs.size ∧ ∀ i a, ts[i]? = some a → RelA C objs a (vs.getD i undef)

theorem RelT.adv {C C' : Cx} {o o' : Store} {w w' : World} (h : Adv C o w C' o' w') {ts : List A} {vs : Array Value} (r : RelT C o ts vs) : RelT C' o' ts vs :=
  ⟨r.1, fun i a ha => (r.2 i a ha).adv h⟩

theorem getD_setIf (vs : Array Value) (i j : Nat) (v : Value) : (vs.setIfInBounds i v).getD j undef = if i = j ∧ j < vs.size then v else vs.getD j undef := by
  simp only [Array.getD_eq_getD_getElem?]
  by_cases h : i = j
  · subst h
    by_cases hi : i < vs.size
    · simp [hi]
    · simp [hi]
  · simp [h]

theorem RelT.put {C : Cx} {objs : Store} {ts : List A} {a : Act} (r : RelT C objs ts a.tmps) {x : A} {v : Value} (h : RelA C objs x v) (dst : Option Tmp) : RelT C objs (putA ts dst x) (a.put dst v).tmps := by
  cases dst with
  | none => exact r
  | some d =>
    refine ⟨by simp [putA, Act.put, r.1], fun i y hy => ?_⟩
    simp only [putA, Act.put] at hy ⊢
    rw [getD_setIf]
    rw [List.getElem?_set] at hy
    by_cases hd : d = i
    · subst hd
      by_cases hl : d < ts.length
      · simp only [hl, if_true] at hy
        cases hy
        rw [if_pos ⟨rfl, r.1 ▸ hl⟩]; exact h
      · simp [hl] at hy
    · rw [if_neg hd] at hy
      rw [if_neg (fun h => hd h.1)]
      exact r.2 i y hy

theorem RelT.get {C : Cx} {objs : Store} {ts : List A} {vs : Array Value} (r : RelT C objs ts vs) (t : Nat) : RelA C objs (ts.getD t .top) (vs.getD t undef) := by
  rw [List.getD_eq_getElem?_getD]
  cases h : ts[t]? with
  | none => exact .top _
  | some a => exact r.2 t a h

end Ab
