/- A part of the proof of a row by an interpreter that is proved sound; no conditions of its own. -/
import Derived.Test.YtpoheolnnbgebaaAbKbA
namespace Ab
open Go Go.Proofs Go.IntWalk
set_option maxRecDepth 10000
set_option linter.unusedSimpArgs false
set_option linter.unusedVariables false
namespace Fi
open Pr Key

/-! ### Bytes and texts -/
def bOf (s : ByteArray) : List Int := s.data.toList.map fun b => (b.toNat : Int)
def sOf (l : List Int) : ByteArray := ⟨(l.map fun n => UInt8.ofNat n.toNat).toArray⟩
def okL (l : List Int) : Prop := ∀ n ∈ l, 0 ≤ n ∧ n ≤ 255

theorem okL_nil : okL [] := fun _ h => by cases h
theorem okL_cons {n : Int} {l : List Int} : okL (n :: l) ↔ (0 ≤ n ∧ n ≤ 255) ∧ okL l := by simp [okL]
theorem okL_app {a b : List Int} : okL (a ++ b) ↔ okL a ∧ okL b := by
  simp only [okL, List.mem_append]
  exact ⟨fun h => ⟨fun n hn => h n (.inl hn), fun n hn => h n (.inr hn)⟩, fun h n hn => hn.elim (h.1 n) (h.2 n)⟩
theorem okL_take {l : List Int} {i : Nat} (h : okL l) : okL (l.take i) := fun n hn => h n (List.mem_of_mem_take hn)
theorem okL_drop {l : List Int} {i : Nat} (h : okL l) : okL (l.drop i) := fun n hn => h n (List.mem_of_mem_drop hn)

theorem bOf_len (s : ByteArray) : (bOf s).length = s.size := by rw [bOf, List.length_map]; exact size_list s
theorem bOf_ok (s : ByteArray) : okL (bOf s) := by
  intro n hn
  simp only [bOf, List.mem_map] at hn
  obtain ⟨b, _, rfl⟩ := hn
  have := b.toNat_lt
  omega

theorem sOf_bOf (s : ByteArray) : sOf (bOf s) = s := by
  obtain ⟨⟨l⟩⟩ := s
  simp only [sOf, bOf, List.map_map]
  congr 2
  have : (fun n : Int => UInt8.ofNat n.toNat) ∘ (fun b : UInt8 => (b.toNat : Int)) = id := by
    funext b; simp
  rw [this, List.map_id]

theorem bOf_sOf {l : List Int} (h : okL l) : bOf (sOf l) = l := by
  simp only [sOf, bOf, List.map_map]
  conv => rhs; rw [← List.map_id l]
  apply List.map_congr_left
  intro n hn
  obtain ⟨h1, h2⟩ := h n hn
  simp only [Function.comp, id, UInt8.toNat_ofNat']
  omega

theorem bOf_inj {s t : ByteArray} (h : bOf s = bOf t) : s = t := by rw [← sOf_bOf s, ← sOf_bOf t, h]
theorem bytesD_eq (s : ByteArray) : bytesD s = ints .u8 (bOf s) := by simp [bytesD, ints, bOf]
theorem sOf_len (l : List Int) : (sOf l).size = l.length := by rw [← size_list, sOf]; simp
theorem sOf_nil : sOf [] = ByteArray.empty := rfl
theorem sOf_inj {a b : List Int} (ha : okL a) (hb : okL b) (h : sOf a = sOf b) : a = b := by rw [← bOf_sOf ha, ← bOf_sOf hb, h]

/-! ### Numbers -/
def wb1 (n : Int) : List Int := [n % 256]
def wb2 (n : Int) : List Int := [n / 256 % 256, n % 256]
def wb4 (n : Int) : List Int := [n / 16777216 % 256, n / 65536 % 256, n / 256 % 256, n % 256]

/-- The number that bytes spell. -/
def num (a : Int) : List Int → Int
  | [] => a
  | c :: cs => num (a * 256 + c) cs

theorem wb1_ok (n : Int) : okL (wb1 n) := by simp [wb1, okL]; omega
theorem wb2_ok (n : Int) : okL (wb2 n) := by simp [wb2, okL]; omega
theorem wb4_ok (n : Int) : okL (wb4 n) := by simp [wb4, okL]; omega
theorem num1 {n : Int} (h : 0 ≤ n ∧ n ≤ 255) : num 0 (wb1 n) = n := by simp only [num, wb1]; omega
theorem num2 {n : Int} (h : 0 ≤ n ∧ n ≤ 65535) : num 0 (wb2 n) = n := by simp only [num, wb2]; omega
theorem num4 {n : Int} (h : 0 ≤ n ∧ n ≤ 4294967295) : num 0 (wb4 n) = n := by simp only [num, wb4]; omega

/-! ### What is read at an index: the value, the index behind it, the error -/
def tkV (b : List Int) (p n : Int) : List Int × Int × Int :=
  if p < 0 ∨ b.length < p ∨ n < 0 then ([], 0, 104) else if b.length - p < n then ([], 0, 101) else ((b.drop p.toNat).take n.toNat, p + n, 0)

def rdV (b : List Int) (p n : Int) : Int × Int × Int := if (tkV b p n).2.2 = 0 then (num 0 (tkV b p n).1, (tkV b p n).2.1, 0) else (0, 0, (tkV b p n).2.2)

/-- The index of the first byte c. -/
def ix (c : Int) : List Int → Int
  | [] => -1
  | n :: l => if n = c then 0 else if ix c l = -1 then -1 else ix c l + 1

def txV (b : List Int) (p : Int) : ByteArray × Int × Int :=
  if p < 0 ∨ b.length < p then (ByteArray.empty, 0, 104)
  else if 0 ≤ ix 0 ((b.drop p.toNat).take 40) then (sOf ((b.drop p.toNat).take (ix 0 ((b.drop p.toNat).take 40)).toNat), p + ix 0 ((b.drop p.toNat).take 40) + 1, 0)
  else if 39 < ((b.drop p.toNat).length : Int) then (ByteArray.empty, 0, 105) else (ByteArray.empty, 0, 101)

instance : DecidableEq Prin := fun a b => decidable_of_iff (a.name = b.name ∧ a.inst = b.inst ∧ a.realm = b.realm) (by cases a; cases b; simp)

def zP : Prin := ⟨ByteArray.empty, ByteArray.empty, ByteArray.empty⟩

def prV (b : List Int) (p : Int) : Prin × Int × Int :=
  if (txV b p).2.2 = 0 then
    if (txV b (txV b p).2.1).2.2 = 0 then
      if (txV b (txV b (txV b p).2.1).2.1).2.2 = 0 then
        if validB ⟨(txV b p).1, (txV b (txV b p).2.1).1, (txV b (txV b (txV b p).2.1).2.1).1⟩ then
          (⟨(txV b p).1, (txV b (txV b p).2.1).1, (txV b (txV b (txV b p).2.1).2.1).1⟩, (txV b (txV b (txV b p).2.1).2.1).2.1, 0)
        else (zP, 0, 103)
      else (zP, 0, (txV b (txV b (txV b p).2.1).2.1).2.2)
    else (zP, 0, (txV b (txV b p).2.1).2.2)
  else (zP, 0, (txV b p).2.2)

/-- A place in a message. -/
structure Cu where
  p : Int
  bad : Bool

/-- One reading of a cursor. -/
def nx {α : Type} (z : α) (f : Int → α × Int × Int) (c : Cu) : α × Cu := if c.bad then (z, c) else if (f c.p).2.2 = 0 then ((f c.p).1, ⟨(f c.p).2.1, false⟩) else (z, ⟨c.p, true⟩)

def nxN (b : List Int) (k : Int) (c : Cu) : Int × Cu := nx 0 (fun p => rdV b p k) c
def nxB (b : List Int) (n : Int) (c : Cu) : List Int × Cu := nx [] (fun p => tkV b p n) c
def nxT (b : List Int) (c : Cu) : ByteArray × Cu := nx ByteArray.empty (fun p => txV b p) c
def nxP (b : List Int) (c : Cu) : Prin × Cu := nx zP (fun p => prV b p) c

theorem tk_at (a l r : List Int) : tkV (a ++ (l ++ r)) a.length l.length = (l, ((a ++ l).length : Int), 0) := by
  unfold tkV
  rw [if_neg (by simp; omega), if_neg (by simp; omega)]
  rw [Int.toNat_natCast, Int.toNat_natCast, List.drop_left, List.take_left]
  simp

theorem rd_at (a l r : List Int) : rdV (a ++ (l ++ r)) a.length l.length = (num 0 l, ((a ++ l).length : Int), 0) := by
  unfold rdV
  rw [tk_at]
  simp

theorem ix_at {l r : List Int} (h : ∀ n ∈ l, n ≠ 0) : ix 0 (l ++ 0 :: r) = l.length := by
  induction l with
  | nil => simp [ix]
  | cons n l ih =>
    have hn : ¬ n = 0 := h n (by simp)
    have := ih fun x hx => h x (by simp [hx])
    simp only [List.cons_append, ix, hn, if_false, this, List.length_cons]
    rw [if_neg (by omega)]
    simp

theorem tx_at (a : List Int) (s : ByteArray) (r : List Int) (h0 : ∀ n ∈ bOf s, n ≠ 0) (hs : s.size ≤ 39) : txV (a ++ (bOf s ++ 0 :: r)) a.length = (s, ((a ++ (bOf s ++ [0])).length : Int), 0) := by
  have hl := bOf_len s
  unfold txV
  rw [if_neg (by simp; omega), Int.toNat_natCast, List.drop_left]
  have e : (bOf s ++ 0 :: r).take 40 = bOf s ++ 0 :: r.take (39 - (bOf s).length) := by
    rw [List.take_append, List.take_of_length_le (by omega)]
    congr 1
    have : 40 - (bOf s).length = (39 - (bOf s).length) + 1 := by omega
    rw [this, List.take_succ_cons]
  rw [e, ix_at h0, if_pos (by omega), Int.toNat_natCast, List.take_left, sOf_bOf]
  simp
  omega

theorem text_ne {bad : List UInt8} {s : ByteArray} (h : textB bad s = true) : (∀ n ∈ bOf s, n ≠ 0) ∧ s.size ≤ 39 := by
  unfold textB at h
  rw [Bool.and_eq_true, List.all_eq_true, decide_eq_true_eq] at h
  refine ⟨fun n hn => ?_, by omega⟩
  simp only [bOf, List.mem_map] at hn
  obtain ⟨b, hb, rfl⟩ := hn
  have := h.1 b hb
  simp only [okB, Bool.and_eq_true, decide_eq_true_eq] at this
  omega

theorem valid_text {p : Prin} (h : validB p = true) : ((∀ n ∈ bOf p.name, n ≠ 0) ∧ p.name.size ≤ 39) ∧ ((∀ n ∈ bOf p.inst, n ≠ 0) ∧ p.inst.size ≤ 39) ∧ ((∀ n ∈ bOf p.realm, n ≠ 0) ∧ p.realm.size ≤ 39) := by
  unfold validB nameB instB realmB at h
  simp only [Bool.and_eq_true] at h
  exact ⟨text_ne h.1.1.2, text_ne h.1.2, text_ne h.2.2⟩

def tB (s : ByteArray) : List Int := bOf s ++ [0]
def pB (p : Prin) : List Int := tB p.name ++ (tB p.inst ++ tB p.realm)

theorem tx_at' (a : List Int) (s : ByteArray) (r : List Int) (h : (∀ n ∈ bOf s, n ≠ 0) ∧ s.size ≤ 39) : txV (a ++ (tB s ++ r)) a.length = (s, ((a ++ tB s).length : Int), 0) := by
  have := tx_at a s r h.1 h.2
  simpa [tB] using this

theorem pr_at (a : List Int) (p : Prin) (r : List Int) (h : validB p = true) : prV (a ++ (pB p ++ r)) a.length = (p, ((a ++ pB p).length : Int), 0) := by
  obtain ⟨h1, h2, h3⟩ := valid_text h
  have e1 := tx_at' a p.name (tB p.inst ++ (tB p.realm ++ r)) h1
  have e2 := tx_at' (a ++ tB p.name) p.inst (tB p.realm ++ r) h2
  have e3 := tx_at' (a ++ tB p.name ++ tB p.inst) p.realm r h3
  simp only [pB, List.append_assoc] at e1 e2 e3 ⊢
  unfold prV
  simp only [e1, e2, e3, if_true, h]

theorem nx_good {α : Type} {z : α} {f : Int → α × Int × Int} {p q : Int} {v : α} (h : f p = (v, q, 0)) : nx z f ⟨p, false⟩ = (v, ⟨q, false⟩) := by
  simp [nx, h]

theorem n_at {a l b r : List Int} (hb : b = a ++ (l ++ r)) : nxN b l.length ⟨a.length, false⟩ = (num 0 l, ⟨((a ++ l).length : Int), false⟩) := nx_good (by rw [hb]; exact rd_at a l r)
theorem b_at {a l b r : List Int} (hb : b = a ++ (l ++ r)) : nxB b l.length ⟨a.length, false⟩ = (l, ⟨((a ++ l).length : Int), false⟩) := nx_good (by rw [hb]; exact tk_at a l r)
theorem t_at {a b r : List Int} {s : ByteArray} (hb : b = a ++ (tB s ++ r)) (h : (∀ n ∈ bOf s, n ≠ 0) ∧ s.size ≤ 39) : nxT b ⟨a.length, false⟩ = (s, ⟨((a ++ tB s).length : Int), false⟩) := nx_good (by rw [hb]; exact tx_at' a s r h)
theorem p_at {a b r : List Int} {p : Prin} (hb : b = a ++ (pB p ++ r)) (h : validB p = true) : nxP b ⟨a.length, false⟩ = (p, ⟨((a ++ pB p).length : Int), false⟩) := nx_good (by rw [hb]; exact pr_at a p r h)
end Fi
end Ab
namespace Ab
open Go Go.Proofs Go.IntWalk
set_option maxRecDepth 10000
set_option linter.unusedSimpArgs false
set_option linter.unusedVariables false
namespace Ka
open Pr Key Fi

theorem valid_range {k : Int} (h : validV k) : 0 ≤ k ∧ k ≤ 18446744073709551615 := by
  have := make_range (hiV k) (loV k)
  rwa [h.2] at this

/-! ### Requests -/
structure Req where
  op : Int
  user : Prin
  kvno : Int
  realm : ByteArray
  tick : List Int
  serv : ByteArray
  inst : ByteArray
  box : List Int

def zR : Req := ⟨0, zP, 0, ByteArray.empty, [], ByteArray.empty, ByteArray.empty, []⟩

def reqE (r : Req) : Int :=
  if ¬ (1 ≤ r.op ∧ r.op ≤ 3) then 40
  else if (r.op ≠ 2 ∧ validB r.user = false) ∨ (r.op = 2 ∧ ¬ (realmB r.realm = true ∧ nameB r.serv = true ∧ instB r.inst = true)) then 103
  else if r.op = 2 ∧ ¬ (0 ≤ r.kvno ∧ r.kvno ≤ 255) then 104
  else if (r.op = 2 ∧ 255 < (r.tick.length : Int)) ∨ 1012 < (r.box.length : Int) then 105
  else if (r.op ≠ 2 ∧ ¬ (r.kvno = 0 ∧ r.realm = ByteArray.empty ∧ r.tick = [] ∧ r.serv = ByteArray.empty ∧ r.inst = ByteArray.empty)) ∨ (r.op = 2 ∧ r.user ≠ zP) then 108
  else 0

def reqM (r : Req) : List Int := if r.op = 2 then wb1 r.kvno ++ (tB r.realm ++ (wb1 r.tick.length ++ (r.tick ++ (tB r.serv ++ tB r.inst)))) else pB r.user
def reqB (r : Req) : List Int := [4, 18] ++ (wb1 r.op ++ (reqM r ++ (wb2 r.box.length ++ r.box)))
def encReq (r : Req) : List Int × Int := if reqE r = 0 then (reqB r, 0) else ([], reqE r)

/-- The error of a header that is not that of the kaserver's messages. -/
def hdE (b : List Int) : Int := match b with
  | a :: c :: _ => if a ≠ 4 then 39 else if c / 2 = 9 then 0 else 40
  | _ => 101

def rawReq (b : List Int) : Req × Cu :=
  let o := nxN b 1 ⟨2, false⟩
  if o.1 = 2 then
    let k := nxN b 1 o.2
    let r := nxT b k.2
    let n := nxN b 1 r.2
    let t := nxB b n.1 n.2
    let s := nxT b t.2
    let i := nxT b s.2
    let m := nxN b 2 i.2
    let x := nxB b m.1 m.2
    (⟨o.1, zP, k.1, r.1, t.1, s.1, i.1, x.1⟩, x.2)
  else
    let u := nxP b o.2
    let m := nxN b 2 u.2
    let x := nxB b m.1 m.2
    (⟨o.1, u.1, 0, ByteArray.empty, [], ByteArray.empty, ByteArray.empty, x.1⟩, x.2)

def isV (b own : List Int) (c : Cu) (e : Int) : Bool := !c.bad && decide (e = 0) && decide (own = b)

def decReq (b : List Int) : Req × Int :=
  if hdE b = 0 then
    if isV b (encReq (rawReq b).1).1 (rawReq b).2 (encReq (rawReq b).1).2 then ((rawReq b).1, 0) else (zR, 100)
  else (zR, hdE b)

theorem wb1_len (n : Int) : ((wb1 n).length : Int) = 1 := rfl
theorem wb2_len (n : Int) : ((wb2 n).length : Int) = 2 := rfl
theorem wb4_len (n : Int) : ((wb4 n).length : Int) = 4 := rfl

theorem reqE_zero {r : Req} (h : reqE r = 0) : (1 ≤ r.op ∧ r.op ≤ 3) ∧ (r.box.length : Int) ≤ 1012 ∧
    ((r.op ≠ 2 ∧ validB r.user = true ∧ r.kvno = 0 ∧ r.realm = ByteArray.empty ∧ r.tick = [] ∧ r.serv = ByteArray.empty ∧ r.inst = ByteArray.empty) ∨
     (r.op = 2 ∧ realmB r.realm = true ∧ nameB r.serv = true ∧ instB r.inst = true ∧ (0 ≤ r.kvno ∧ r.kvno ≤ 255) ∧ (r.tick.length : Int) ≤ 255 ∧ r.user = zP)) := by
  unfold reqE at h
  split at h
  · omega
  rename_i h1
  split at h
  · omega
  rename_i h2
  split at h
  · omega
  rename_i h3
  split at h
  · omega
  rename_i h4
  split at h
  · omega
  rename_i h5
  refine ⟨by omega, by omega, ?_⟩
  by_cases q : r.op = 2
  · refine .inr ⟨q, ?_⟩
    simp only [q, ne_eq, not_true_eq_false, false_and, true_and, false_or] at h2 h3 h4 h5
    simp only [Decidable.not_not] at h2 h3 h5
    exact ⟨h2.1, h2.2.1, h2.2.2, h3, by omega, h5⟩
  · refine .inl ⟨q, ?_⟩
    simp only [q, ne_eq, not_false_eq_true, false_and, true_and, or_false, Decidable.not_not] at h2 h5
    exact ⟨by simpa using h2, h5⟩

theorem dec_enc_req {r : Req} (h : reqE r = 0) : rawReq (reqB r) = (r, ⟨((reqB r).length : Int), false⟩) := by
  obtain ⟨h1, h2, h3⟩ := reqE_zero h
  obtain ⟨op, user, kvno, realm, tick, serv, inst, box⟩ := r
  simp only at h1 h2 h3
  have e1 : nxN (reqB ⟨op, user, kvno, realm, tick, serv, inst, box⟩) 1 ⟨2, false⟩ = (op, ⟨(([4, 18] ++ wb1 op).length : Int), false⟩) := by
    have := n_at (b := reqB ⟨op, user, kvno, realm, tick, serv, inst, box⟩) (a := [4, 18]) (l := wb1 op) (r := _) rfl
    rw [num1 (by omega)] at this
    exact this
  unfold rawReq
  simp only [e1]
  rcases h3 with ⟨q, hv, rfl, rfl, rfl, rfl, rfl⟩ | ⟨rfl, hr, hs, hi, hk, ht, rfl⟩
  · simp only [q, if_false]
    have e2 := p_at (b := reqB ⟨op, user, 0, ByteArray.empty, [], ByteArray.empty, ByteArray.empty, box⟩) (a := [4, 18] ++ wb1 op) (p := user) (r := wb2 box.length ++ box) (by simp [reqB, reqM, q]) hv
    have e3 := n_at (b := reqB ⟨op, user, 0, ByteArray.empty, [], ByteArray.empty, ByteArray.empty, box⟩) (a := ([4, 18] ++ wb1 op) ++ pB user) (l := wb2 box.length) (r := box) (by simp [reqB, reqM, q])
    rw [num2 (by omega)] at e3
    have e4 := b_at (b := reqB ⟨op, user, 0, ByteArray.empty, [], ByteArray.empty, ByteArray.empty, box⟩) (a := (([4, 18] ++ wb1 op) ++ pB user) ++ wb2 box.length) (l := box) (r := []) (by simp [reqB, reqM, q])
    simp only [wb2_len] at e3
    simp only [e2, e3, e4]
    simp [reqB, reqM, q]
  · simp only [if_true]
    generalize hB : reqB ⟨2, zP, kvno, realm, tick, serv, inst, box⟩ = B
    have hB' : B = [4, 18] ++ (wb1 2 ++ (wb1 kvno ++ (tB realm ++ (wb1 tick.length ++ (tick ++ (tB serv ++ (tB inst ++ (wb2 box.length ++ box)))))))) := by rw [← hB]; simp [reqB, reqM]
    have x1 : (∀ n ∈ bOf realm, n ≠ 0) ∧ realm.size ≤ 39 := by unfold realmB at hr; simp only [Bool.and_eq_true] at hr; exact text_ne hr.2
    have x2 : (∀ n ∈ bOf serv, n ≠ 0) ∧ serv.size ≤ 39 := by unfold nameB at hs; simp only [Bool.and_eq_true] at hs; exact text_ne hs.2
    have x3 : (∀ n ∈ bOf inst, n ≠ 0) ∧ inst.size ≤ 39 := text_ne hi
    have e2 := n_at (b := B) (a := [4, 18] ++ wb1 2) (l := wb1 kvno) (r := _) (by rw [hB']; simp only [List.append_assoc]; rfl)
    have e3 := t_at (b := B) (a := [4, 18] ++ wb1 2 ++ wb1 kvno) (s := realm) (r := _) (by rw [hB']; simp only [List.append_assoc]; rfl) x1
    have e4 := n_at (b := B) (a := [4, 18] ++ wb1 2 ++ wb1 kvno ++ tB realm) (l := wb1 tick.length) (r := _) (by rw [hB']; simp only [List.append_assoc]; rfl)
    have e5 := b_at (b := B) (a := [4, 18] ++ wb1 2 ++ wb1 kvno ++ tB realm ++ wb1 tick.length) (l := tick) (r := _) (by rw [hB']; simp only [List.append_assoc]; rfl)
    have e6 := t_at (b := B) (a := [4, 18] ++ wb1 2 ++ wb1 kvno ++ tB realm ++ wb1 tick.length ++ tick) (s := serv) (r := _) (by rw [hB']; simp only [List.append_assoc]; rfl) x2
    have e7 := t_at (b := B) (a := [4, 18] ++ wb1 2 ++ wb1 kvno ++ tB realm ++ wb1 tick.length ++ tick ++ tB serv) (s := inst) (r := _) (by rw [hB']; simp only [List.append_assoc]; rfl) x3
    have e8 := n_at (b := B) (a := [4, 18] ++ wb1 2 ++ wb1 kvno ++ tB realm ++ wb1 tick.length ++ tick ++ tB serv ++ tB inst) (l := wb2 box.length) (r := _) (by rw [hB']; simp only [List.append_assoc]; rfl)
    have e9 := b_at (b := B) (a := [4, 18] ++ wb1 2 ++ wb1 kvno ++ tB realm ++ wb1 tick.length ++ tick ++ tB serv ++ tB inst ++ wb2 box.length) (l := box) (r := []) (by rw [hB']; simp only [List.append_assoc, List.append_nil])
    rw [num1 (by omega)] at e2 e4
    rw [num2 (by omega)] at e8
    simp only [wb1_len, wb2_len] at e2 e4 e8
    simp only [e2, e3, e4, e5, e6, e7, e8, e9]
    rw [hB']
    simp only [List.append_assoc]

theorem hd_req (r : Req) : hdE (reqB r) = 0 := by simp [hdE, reqB]

theorem req_round {r : Req} (h : reqE r = 0) : decReq (reqB r) = (r, 0) := by
  unfold decReq
  rw [if_pos (hd_req r), dec_enc_req h]
  simp [isV, encReq, h]

/-- What is decoded is what was encoded. -/
theorem dec_req {b : List Int} (h : (decReq b).2 = 0) : encReq (decReq b).1 = (b, 0) := by
  unfold decReq at h ⊢
  split at h
  · rename_i h1
    rw [if_pos h1]
    split at h
    · rename_i h2
      rw [if_pos h2]
      simp only [isV, Bool.and_eq_true, decide_eq_true_eq] at h2
      simp only
      rw [Prod.ext_iff]
      exact ⟨h2.2, h2.1.2⟩
    · simp at h
  · simp only at h; contradiction

/-! ### Replies -/
structure Rep where
  op : Int
  code : Int
  box : List Int

def zQ : Rep := ⟨0, 0, []⟩

def repE (r : Rep) : Int :=
  if ¬ (1 ≤ r.op ∧ r.op ≤ 3) then 40
  else if ¬ (0 ≤ r.code ∧ r.code ≤ 99) then 104
  else if 1012 < (r.box.length : Int) then 105
  else if r.code ≠ 0 ∧ r.box ≠ [] then 108
  else 0

def repB (r : Rep) : List Int := [4, 18] ++ (wb1 (r.op + 128) ++ (wb1 r.code ++ (wb2 r.box.length ++ r.box)))
def encRep (r : Rep) : List Int × Int := if repE r = 0 then (repB r, 0) else ([], repE r)

def rawRep (b : List Int) : Rep × Cu :=
  let o := nxN b 1 ⟨2, false⟩
  let c := nxN b 1 o.2
  let m := nxN b 2 c.2
  let x := nxB b m.1 m.2
  (⟨o.1 - 128, c.1, x.1⟩, x.2)

def decRep (b : List Int) : Rep × Int :=
  if hdE b = 0 then
    if isV b (encRep (rawRep b).1).1 (rawRep b).2 (encRep (rawRep b).1).2 then ((rawRep b).1, 0) else (zQ, 100)
  else (zQ, hdE b)

theorem repE_zero {r : Rep} (h : repE r = 0) : (1 ≤ r.op ∧ r.op ≤ 3) ∧ (0 ≤ r.code ∧ r.code ≤ 99) ∧ (r.box.length : Int) ≤ 1012 := by
  unfold repE at h
  split at h
  · omega
  split at h
  · omega
  split at h
  · omega
  exact ⟨by omega, by omega, by omega⟩

theorem hd_rep (r : Rep) : hdE (repB r) = 0 := by simp [hdE, repB]

theorem dec_enc_rep {r : Rep} (h : repE r = 0) : rawRep (repB r) = (r, ⟨((repB r).length : Int), false⟩) := by
  obtain ⟨h1, h2, h3⟩ := repE_zero h
  obtain ⟨op, code, box⟩ := r
  simp only at h1 h2 h3
  have hB' : repB ⟨op, code, box⟩ = [4, 18] ++ (wb1 (op + 128) ++ (wb1 code ++ (wb2 box.length ++ box))) := rfl
  generalize repB ⟨op, code, box⟩ = B at hB'
  have e1 := n_at (b := B) (a := [4, 18]) (l := wb1 (op + 128)) (r := _) hB'
  have e2 := n_at (b := B) (a := [4, 18] ++ wb1 (op + 128)) (l := wb1 code) (r := _) (by rw [hB']; simp only [List.append_assoc]; rfl)
  have e3 := n_at (b := B) (a := [4, 18] ++ wb1 (op + 128) ++ wb1 code) (l := wb2 box.length) (r := _) (by rw [hB']; simp only [List.append_assoc]; rfl)
  have e4 := b_at (b := B) (a := [4, 18] ++ wb1 (op + 128) ++ wb1 code ++ wb2 box.length) (l := box) (r := []) (by rw [hB']; simp only [List.append_assoc, List.append_nil])
  rw [num1 (by omega)] at e1 e2
  rw [num2 (by omega)] at e3
  simp only [wb1_len, wb2_len] at e1 e2 e3
  have e1' : nxN B 1 ⟨2, false⟩ = _ := e1
  unfold rawRep
  simp only [e1', e2, e3, e4]
  rw [hB']
  simp

theorem rep_round {r : Rep} (h : repE r = 0) : decRep (repB r) = (r, 0) := by
  unfold decRep
  rw [if_pos (hd_rep r), dec_enc_rep h]
  simp [isV, encRep, h]

theorem dec_rep {b : List Int} (h : (decRep b).2 = 0) : encRep (decRep b).1 = (b, 0) := by
  unfold decRep at h ⊢
  split at h
  · rename_i h1
    rw [if_pos h1]
    split at h
    · rename_i h2
      rw [if_pos h2]
      simp only [isV, Bool.and_eq_true, decide_eq_true_eq] at h2
      simp only
      rw [Prod.ext_iff]
      exact ⟨h2.2, h2.1.2⟩
    · simp at h
  · simp only at h; contradiction

theorem enc_rep {r : Rep} {b : List Int} (h : encRep r = (b, 0)) : repE r = 0 ∧ repB r = b := by
  unfold encRep at h
  split at h
  · rename_i q; exact ⟨q, (Prod.ext_iff.1 h).1⟩
  · rename_i q; exact absurd (Prod.ext_iff.1 h).2 q

theorem enc_req {r : Req} {b : List Int} (h : encReq r = (b, 0)) : reqE r = 0 ∧ reqB r = b := by
  unfold encReq at h
  split at h
  · rename_i q; exact ⟨q, (Prod.ext_iff.1 h).1⟩
  · rename_i q; exact absurd (Prod.ext_iff.1 h).2 q

/-- No message is a request and a reply. -/
theorem not_both {r : Req} {q : Rep} (h : reqE r = 0) (h' : repE q = 0) : reqB r ≠ repB q := by
  intro e
  have h1 := (reqE_zero h).1
  have h2 := (repE_zero h').1
  simp only [reqB, repB, wb1, List.cons_append, List.nil_append, List.cons.injEq, true_and] at e
  omega

theorem req_not_rep {r : Req} (h : reqE r = 0) : (decRep (reqB r)).2 ≠ 0 := fun h' => by
  obtain ⟨h1, h2⟩ := enc_rep (dec_rep h')
  exact not_both h h1 h2.symm

theorem rep_not_req {r : Rep} (h : repE r = 0) : (decReq (repB r)).2 ≠ 0 := fun h' => by
  obtain ⟨h1, h2⟩ := enc_req (dec_req h')
  exact not_both h1 h h2

/-! ### Secrets -/
def lGet : ByteArray := ⟨#[103, 84, 71, 83]⟩
def lGot : ByteArray := ⟨#[116, 103, 115, 84]⟩
def lTicket : ByteArray := ⟨#[103, 84, 75, 84]⟩
def lGiven : ByteArray := ⟨#[116, 107, 116, 71]⟩
def lChange : ByteArray := ⟨#[67, 80, 87, 108]⟩
def lDone : ByteArray := ⟨#[67, 80, 87, 100]⟩

structure Sec where
  label : ByteArray
  time : Int
  start : Int
  fin : Int
  key : Int

def zS : Sec := ⟨ByteArray.empty, 0, 0, 0, 0⟩
def tm (n : Int) : Prop := 0 ≤ n ∧ n ≤ 4294967295
instance (n : Int) : Decidable (tm n) := by unfold tm; exact inferInstance

def secE (s : Sec) : Int :=
  if ¬ (s.label = lGet ∨ s.label = lTicket) ∧ s.label ≠ lChange then 80
  else if ¬ tm s.time ∨ (s.label ≠ lChange ∧ ¬ (tm s.start ∧ tm s.fin)) then 104
  else if s.label = lChange ∧ ¬ validV s.key then 10
  else if (s.label = lChange ∧ ¬ (s.start = 0 ∧ s.fin = 0)) ∨ (s.label ≠ lChange ∧ s.key ≠ 0) then 108
  else 0

def padV (l : List Int) : List Int := l ++ List.replicate ((8 - l.length % 8) % 8) 0
def secB (s : Sec) : List Int := padV (bOf s.label ++ (wb4 s.time ++ (if s.label = lChange then bytesV s.key else wb4 s.start ++ wb4 s.fin)))
def encSec (s : Sec) : List Int × Int := if secE s = 0 then (secB s, 0) else ([], secE s)

def rawSec (b : List Int) : Sec × Cu :=
  let l := nxB b 4 ⟨0, false⟩
  let t := nxN b 4 l.2
  if sOf l.1 = lChange then
    let k := nxB b 8 t.2
    (⟨sOf l.1, t.1, 0, 0, (readK k.1).1⟩, k.2)
  else
    let s := nxN b 4 t.2
    let e := nxN b 4 s.2
    (⟨sOf l.1, t.1, s.1, e.1, 0⟩, e.2)

def decSec (b : List Int) : Sec × Int :=
  if isV b (encSec (rawSec b).1).1 (rawSec b).2 (encSec (rawSec b).1).2 then ((rawSec b).1, 0) else (zS, 100)

theorem lab_len {s : ByteArray} (h : s = lGet ∨ s = lTicket ∨ s = lChange ∨ s = lGot ∨ s = lGiven ∨ s = lDone) : (bOf s).length = 4 := by
  rcases h with rfl | rfl | rfl | rfl | rfl | rfl <;> rfl

theorem bytesV_len (k : Int) : ((bytesV k).length : Int) = 8 := rfl

theorem dec_enc_sec {s : Sec} (h : secE s = 0) : (rawSec (secB s)).1 = s ∧ (rawSec (secB s)).2.bad = false := by
  obtain ⟨label, time, start, fin, key⟩ := s
  unfold secE at h
  split at h
  · omega
  rename_i h1
  split at h
  · omega
  rename_i h2
  split at h
  · omega
  rename_i h3
  split at h
  · omega
  rename_i h4
  simp only at h1 h2 h3 h4
  have hl : label = lGet ∨ label = lTicket ∨ label = lChange := by
    by_cases q1 : label = lGet
    · exact .inl q1
    · by_cases q2 : label = lTicket
      · exact .inr (.inl q2)
      · by_cases q3 : label = lChange
        · exact .inr (.inr q3)
        · exact absurd ⟨fun h => h.elim q1 q2, q3⟩ h1
  have hlen := lab_len (s := label) (by rcases hl with h | h | h <;> simp [h])
  have ht : tm time := by
    apply Decidable.byContradiction; intro q; exact h2 (.inl q)
  by_cases q : label = lChange
  · simp only [q, ne_eq, not_true_eq_false, false_and, or_false, true_and] at h3 h4
    have hv : validV key := Decidable.not_not.1 h3
    have h4' : start = 0 ∧ fin = 0 := Decidable.not_not.1 h4
    obtain ⟨rfl, rfl⟩ := h4'
    subst q
    have hB' : secB ⟨lChange, time, 0, 0, key⟩ = [] ++ (bOf lChange ++ (wb4 time ++ (bytesV key ++ List.replicate ((8 - (bOf lChange ++ (wb4 time ++ bytesV key)).length % 8) % 8) 0))) := by
      simp only [secB, padV, if_true, List.append_assoc, List.nil_append]
    generalize secB ⟨lChange, time, 0, 0, key⟩ = B at hB'
    have e1 := b_at (b := B) (a := []) (l := bOf lChange) (r := _) hB'
    have e2 := n_at (b := B) (a := [] ++ bOf lChange) (l := wb4 time) (r := _) (by rw [hB']; simp only [List.append_assoc]; rfl)
    have e3 := b_at (b := B) (a := [] ++ bOf lChange ++ wb4 time) (l := bytesV key) (r := _) (by rw [hB']; simp only [List.append_assoc]; rfl)
    rw [num4 ht] at e2
    simp only [hlen, wb4_len, bytesV_len] at e1 e2 e3
    have e1' : nxB B 4 ⟨0, false⟩ = _ := e1
    have hk := valid_range hv
    unfold rawSec
    simp only [e1', e2, sOf_bOf, if_true]
    simp only [e3]
    rw [read_bytes hk]
    simp [hv]
  · simp only [q, ne_eq, not_false_eq_true, true_and, false_and, false_or, not_or] at h2 h4
    have h4' : key = 0 := Decidable.not_not.1 h4
    subst h4'
    have h2' : tm start ∧ tm fin := Decidable.not_not.1 h2.2
    have hB' : secB ⟨label, time, start, fin, 0⟩ = [] ++ (bOf label ++ (wb4 time ++ (wb4 start ++ (wb4 fin ++ List.replicate ((8 - (bOf label ++ (wb4 time ++ (wb4 start ++ wb4 fin))).length % 8) % 8) 0)))) := by
      simp [secB, padV, q]
    generalize secB ⟨label, time, start, fin, 0⟩ = B at hB'
    have e1 := b_at (b := B) (a := []) (l := bOf label) (r := _) hB'
    have e2 := n_at (b := B) (a := [] ++ bOf label) (l := wb4 time) (r := _) (by rw [hB']; simp only [List.append_assoc]; rfl)
    have e3 := n_at (b := B) (a := [] ++ bOf label ++ wb4 time) (l := wb4 start) (r := _) (by rw [hB']; simp only [List.append_assoc]; rfl)
    have e4 := n_at (b := B) (a := [] ++ bOf label ++ wb4 time ++ wb4 start) (l := wb4 fin) (r := _) (by rw [hB']; simp only [List.append_assoc]; rfl)
    rw [num4 ht] at e2
    rw [num4 h2'.1] at e3
    rw [num4 h2'.2] at e4
    simp only [hlen, wb4_len] at e1 e2 e3 e4
    have e1' : nxB B 4 ⟨0, false⟩ = _ := e1
    unfold rawSec
    simp only [e1', e2, sOf_bOf, q, if_false, e3, e4]
    exact ⟨trivial, trivial⟩

theorem sec_round {s : Sec} (h : secE s = 0) : decSec (secB s) = (s, 0) := by
  obtain ⟨h1, h2⟩ := dec_enc_sec h
  unfold decSec
  rw [h1]
  simp [isV, encSec, h, h2]

theorem enc_sec {r : Sec} {b : List Int} (h : encSec r = (b, 0)) : secE r = 0 ∧ secB r = b := by
  unfold encSec at h
  split at h
  · rename_i q; exact ⟨q, (Prod.ext_iff.1 h).1⟩
  · rename_i q; exact absurd (Prod.ext_iff.1 h).2 q

theorem dec_sec {b : List Int} (h : (decSec b).2 = 0) : encSec (decSec b).1 = (b, 0) := by
  unfold decSec at h ⊢
  split at h
  · rename_i h2
    rw [if_pos h2]
    simp only [isV, Bool.and_eq_true, decide_eq_true_eq] at h2
    simp only
    rw [Prod.ext_iff]
    exact ⟨h2.2, h2.1.2⟩
  · simp at h

/-! ### Answers -/
structure Ans where
  label : ByteArray
  time : Int
  key : Int
  start : Int
  fin : Int
  kvno : Int
  serv : Prin
  tick : List Int

def zA : Ans := ⟨ByteArray.empty, 0, 0, 0, 0, 0, zP, []⟩

def ansE (a : Ans) : Int :=
  if ¬ (a.label = lGot ∨ a.label = lGiven) ∧ a.label ≠ lDone then 80
  else if ¬ tm a.time then 104
  else if a.label = lDone then (if a.key = 0 ∧ a.start = 0 ∧ a.fin = 0 ∧ a.kvno = 0 ∧ a.serv = zP ∧ a.tick = [] then 0 else 108)
  else if ¬ validV a.key then 10
  else if ¬ (tm a.start ∧ tm a.fin ∧ (0 ≤ a.kvno ∧ a.kvno ≤ 255)) then 104
  else if validB a.serv = false then 103
  else if 255 < (a.tick.length : Int) then 105
  else 0

def ansB (a : Ans) : List Int := padV (bOf a.label ++ (wb4 a.time ++ (if a.label = lDone then [] else bytesV a.key ++ (wb4 a.start ++ (wb4 a.fin ++ (wb1 a.kvno ++ (pB a.serv ++ (wb1 a.tick.length ++ a.tick))))))))
def encAns (a : Ans) : List Int × Int := if ansE a = 0 then (ansB a, 0) else ([], ansE a)

def rawAns (b : List Int) : Ans × Cu :=
  let l := nxB b 4 ⟨0, false⟩
  let t := nxN b 4 l.2
  if sOf l.1 = lDone then (⟨sOf l.1, t.1, 0, 0, 0, 0, zP, []⟩, t.2)
  else
    let k := nxB b 8 t.2
    let s := nxN b 4 k.2
    let e := nxN b 4 s.2
    let v := nxN b 1 e.2
    let p := nxP b v.2
    let m := nxN b 1 p.2
    let x := nxB b m.1 m.2
    (⟨sOf l.1, t.1, (readK k.1).1, s.1, e.1, v.1, p.1, x.1⟩, x.2)

def decAns (b : List Int) : Ans × Int :=
  if isV b (encAns (rawAns b).1).1 (rawAns b).2 (encAns (rawAns b).1).2 then ((rawAns b).1, 0) else (zA, 100)

theorem dec_enc_ans {a : Ans} (h : ansE a = 0) : (rawAns (ansB a)).1 = a ∧ (rawAns (ansB a)).2.bad = false := by
  obtain ⟨label, time, key, start, fin, kvno, serv, tick⟩ := a
  unfold ansE at h
  split at h
  · omega
  rename_i h1
  split at h
  · omega
  rename_i h2
  simp only at h h1 h2
  have ht : tm time := Decidable.not_not.1 h2
  have hl : label = lGot ∨ label = lGiven ∨ label = lDone := by
    by_cases q1 : label = lGot
    · exact .inl q1
    · by_cases q2 : label = lGiven
      · exact .inr (.inl q2)
      · by_cases q3 : label = lDone
        · exact .inr (.inr q3)
        · exact absurd ⟨fun h => h.elim q1 q2, q3⟩ h1
  have hlen := lab_len (s := label) (by rcases hl with h | h | h <;> simp [h])
  by_cases q : label = lDone
  · simp only [q, if_true] at h
    split at h
    case isFalse => omega
    rename_i h3
    obtain ⟨rfl, rfl, rfl, rfl, rfl, rfl⟩ := h3
    subst q
    have hB' : ansB ⟨lDone, time, 0, 0, 0, 0, zP, []⟩ = [] ++ (bOf lDone ++ (wb4 time ++ List.replicate ((8 - (bOf lDone ++ wb4 time).length % 8) % 8) 0)) := by
      simp only [ansB, padV, if_true, List.append_assoc, List.nil_append, List.append_nil]
    generalize ansB ⟨lDone, time, 0, 0, 0, 0, zP, []⟩ = B at hB'
    have e1 := b_at (b := B) (a := []) (l := bOf lDone) (r := _) hB'
    have e2 := n_at (b := B) (a := [] ++ bOf lDone) (l := wb4 time) (r := _) (by rw [hB']; simp only [List.append_assoc]; rfl)
    rw [num4 ht] at e2
    simp only [hlen, wb4_len] at e1 e2
    have e1' : nxB B 4 ⟨0, false⟩ = _ := e1
    unfold rawAns
    simp only [e1', e2, sOf_bOf, if_true]
    exact ⟨trivial, trivial⟩
  · simp only [q, if_false] at h
    split at h
    · omega
    rename_i h3
    split at h
    · omega
    rename_i h4
    split at h
    · omega
    rename_i h5
    split at h
    · omega
    rename_i h6
    have hv : validV key := Decidable.not_not.1 h3
    have hr : tm start ∧ tm fin ∧ (0 ≤ kvno ∧ kvno ≤ 255) := Decidable.not_not.1 h4
    have hs : validB serv = true := by simpa using h5
    have hk := valid_range hv
    have hB' : ansB ⟨label, time, key, start, fin, kvno, serv, tick⟩ = [] ++ (bOf label ++ (wb4 time ++ (bytesV key ++ (wb4 start ++ (wb4 fin ++ (wb1 kvno ++ (pB serv ++ (wb1 tick.length ++ (tick ++ List.replicate ((8 - (bOf label ++ (wb4 time ++ (bytesV key ++ (wb4 start ++ (wb4 fin ++ (wb1 kvno ++ (pB serv ++ (wb1 tick.length ++ tick)))))))).length % 8) % 8) 0))))))))) := by
      simp only [ansB, padV, q, if_false, List.append_assoc, List.nil_append]
    generalize ansB ⟨label, time, key, start, fin, kvno, serv, tick⟩ = B at hB'
    have e1 := b_at (b := B) (a := []) (l := bOf label) (r := _) hB'
    have e2 := n_at (b := B) (a := [] ++ bOf label) (l := wb4 time) (r := _) (by rw [hB']; simp only [List.append_assoc]; rfl)
    have e3 := b_at (b := B) (a := [] ++ bOf label ++ wb4 time) (l := bytesV key) (r := _) (by rw [hB']; simp only [List.append_assoc]; rfl)
    have e4 := n_at (b := B) (a := [] ++ bOf label ++ wb4 time ++ bytesV key) (l := wb4 start) (r := _) (by rw [hB']; simp only [List.append_assoc]; rfl)
    have e5 := n_at (b := B) (a := [] ++ bOf label ++ wb4 time ++ bytesV key ++ wb4 start) (l := wb4 fin) (r := _) (by rw [hB']; simp only [List.append_assoc]; rfl)
    have e6 := n_at (b := B) (a := [] ++ bOf label ++ wb4 time ++ bytesV key ++ wb4 start ++ wb4 fin) (l := wb1 kvno) (r := _) (by rw [hB']; simp only [List.append_assoc]; rfl)
    have e7 := p_at (b := B) (a := [] ++ bOf label ++ wb4 time ++ bytesV key ++ wb4 start ++ wb4 fin ++ wb1 kvno) (p := serv) (r := _) (by rw [hB']; simp only [List.append_assoc]; rfl) hs
    have e8 := n_at (b := B) (a := [] ++ bOf label ++ wb4 time ++ bytesV key ++ wb4 start ++ wb4 fin ++ wb1 kvno ++ pB serv) (l := wb1 tick.length) (r := _) (by rw [hB']; simp only [List.append_assoc]; rfl)
    have e9 := b_at (b := B) (a := [] ++ bOf label ++ wb4 time ++ bytesV key ++ wb4 start ++ wb4 fin ++ wb1 kvno ++ pB serv ++ wb1 tick.length) (l := tick) (r := _) (by rw [hB']; simp only [List.append_assoc]; rfl)
    rw [num4 ht] at e2
    rw [num4 hr.1] at e4
    rw [num4 hr.2.1] at e5
    rw [num1 hr.2.2] at e6
    rw [num1 (by omega)] at e8
    simp only [hlen, wb4_len, wb1_len, bytesV_len] at e1 e2 e3 e4 e5 e6 e8
    have e1' : nxB B 4 ⟨0, false⟩ = _ := e1
    unfold rawAns
    simp only [e1', e2, sOf_bOf, q, if_false, e3, e4, e5, e6, e7, e8, e9]
    rw [read_bytes hk]
    simp [hv]

theorem ans_round {a : Ans} (h : ansE a = 0) : decAns (ansB a) = (a, 0) := by
  obtain ⟨h1, h2⟩ := dec_enc_ans h
  unfold decAns
  rw [h1]
  simp [isV, encAns, h, h2]

theorem enc_ans {r : Ans} {b : List Int} (h : encAns r = (b, 0)) : ansE r = 0 ∧ ansB r = b := by
  unfold encAns at h
  split at h
  · rename_i q; exact ⟨q, (Prod.ext_iff.1 h).1⟩
  · rename_i q; exact absurd (Prod.ext_iff.1 h).2 q

theorem dec_ans {b : List Int} (h : (decAns b).2 = 0) : encAns (decAns b).1 = (b, 0) := by
  unfold decAns at h ⊢
  split at h
  · rename_i h2
    rw [if_pos h2]
    simp only [isV, Bool.and_eq_true, decide_eq_true_eq] at h2
    simp only
    rw [Prod.ext_iff]
    exact ⟨h2.2, h2.1.2⟩
  · simp at h

theorem padV_len (l : List Int) : (padV l).length ≤ l.length + 7 := by
  simp only [padV, List.length_append, List.length_replicate]
  omega

theorem pB_len {p : Prin} (h : validB p = true) : (pB p).length ≤ 120 := by
  obtain ⟨h1, h2, h3⟩ := valid_text h
  simp only [pB, tB, List.length_append, bOf_len, List.length_cons, List.length_nil]
  omega

theorem ans_len {a : Ans} (h : ansE a = 0) : (ansB a).length ≤ 408 := by
  obtain ⟨label, time, key, start, fin, kvno, serv, tick⟩ := a
  unfold ansE at h
  split at h
  · omega
  rename_i h1
  split at h
  · omega
  simp only at h h1
  have hl : label = lGot ∨ label = lGiven ∨ label = lDone := by
    by_cases q1 : label = lGot
    · exact .inl q1
    · by_cases q2 : label = lGiven
      · exact .inr (.inl q2)
      · by_cases q3 : label = lDone
        · exact .inr (.inr q3)
        · exact absurd ⟨fun h => h.elim q1 q2, q3⟩ h1
  have hlen := lab_len (s := label) (by rcases hl with h | h | h <;> simp [h])
  have hp := padV_len (bOf label ++ (wb4 time ++ (if label = lDone then [] else bytesV key ++ (wb4 start ++ (wb4 fin ++ (wb1 kvno ++ (pB serv ++ (wb1 tick.length ++ tick))))))))
  refine Nat.le_trans hp ?_
  have b8 : (bytesV key).length = 8 := rfl
  by_cases q : label = lDone
  · simp only [q, if_true, List.length_append, List.length_nil] at hlen ⊢
    have : (wb4 time).length = 4 := rfl
    omega
  · simp only [q, if_false] at h ⊢
    split at h
    · omega
    split at h
    · omega
    split at h
    · omega
    rename_i h5
    split at h
    · omega
    rename_i h6
    have hs := pB_len (p := serv) (by simpa using h5)
    simp only [List.length_append, hlen, b8]
    have e1 : (wb4 time).length = 4 := rfl
    have e2 : (wb4 start).length = 4 := rfl
    have e3 : (wb4 fin).length = 4 := rfl
    have e4 : (wb1 kvno).length = 1 := rfl
    have e5 : (wb1 (tick.length : Int)).length = 1 := rfl
    omega
end Ka
end Ab
namespace Ab
open Go Go.Proofs Go.IntWalk
set_option maxRecDepth 10000
set_option linter.unusedSimpArgs false
set_option linter.unusedVariables false
namespace Fi
open Pr Key

/-- A local array of bytes. -/
def own (l : List Int) : A × Store := (.arr 0 0 l.length l.length, [.arr 1 (ints .u8 l) false])

theorem Clone_ev (k : Nat) (hk : 1 ≤ k) (l : List Int) (hl : l.length ≤ 1000000) : callF Try.prog Hs E1 k 105 [.d (.sl 1 (ints .u8 l))] [] = some (.arr 0 0 l.length l.length, [.arr 1 (ints .u8 l) false]) := by
  obtain ⟨k, rfl⟩ : ∃ j, k = j + 1 := ⟨k - 1, by omega⟩
  unfold callF
  have h : l.length ≤ 140737488355328 := by omega
  have e : E1 105 = some gClone := rfl
  rw [e]
  simp only [gClone, ints_len, h, if_true]

theorem put_ev (k : Nat) (hk : 2 ≤ k) (a b : List Int) (hl : a.length + b.length ≤ 1000000) : callF Try.prog Hs E1 k 74 [.d (.sl 1 (ints .u8 a)), .d (.sl 1 (ints .u8 b))] [] = some (.arr 0 0 (a ++ b).length (a ++ b).length, [.arr 1 (ints .u8 (a ++ b)) false]) := by
  obtain ⟨k, rfl⟩ : ∃ j, k = j + 1 := ⟨k - 1, by omega⟩
  refine evalE rfl Try.func74 l74 ?_ (Nat.le_of_ble_eq_true rfl)
  have f1 := Clone_ev k (by omega) a (by omega)
  have hb : a.length + b.length ≤ 140737488355328 := by omega
  simp only [s74, n74, ↓evPre, ev0, ev1, ev2, ev3, ev4, ev5, Nat.reduceLT, entE, getE, putE, ↓reduceIte, Nat.reduceEqDiff, argsE, Int.reduceEq, convertA, lenA, foldI, A.cells, A.leaf, List.replicate, viewA, getO, Nat.reduceLeDiff, loadA, cellsAt, cellsTo, faA, indexAddrA, asInt, Int.reduceLE, Int.reduceLT, Int.reduceToNat, eq_self, Nat.reducePow, Int.reducePow, Int.reduceAdd, Int.reduceMul, Int.reduceSub, Int.reduceNeg, keyOk, mapPutA, lookupA, mapOf, sliceA, boundI, elemsOf, appendA, storeA, setRange, indexA, Nat.reduceBEq, Int.cast_ofNat_Int, reduceCtorEq, Nat.reduceAdd, Nat.reduceMul, Nat.reduceSub, evTy0, evTy1, evTy2, evTy3, evTy4, evTy5, evTy6, evTy7, evTy8, callR_new f1 rfl, hb, List.length_append]

theorem Rev4_ev (k : Nat) (hk : 6 ≤ k) (a b c d : Int) : callF Try.prog Hs E1 k 106 [.arr 0 0 4 4] [.arr 1 (ints .u8 [a, b, c, d]) false] = some (.tup [], [.arr 1 (ints .u8 [d, c, b, a]) false]) := by
  obtain ⟨k, rfl⟩ : ∃ j, k = j + 6 := ⟨k - 6, by omega⟩
  refine evalE rfl Try.func106 l106 ?_ (Nat.le_of_ble_eq_true rfl)
  simp only [s106, n106, s106_0, ↓l_succ, ↓evPre, ev0, ev1, ev2, ev3, ev4, ev5, Nat.reduceLT, entE, getE, putE, ↓reduceIte, Nat.reduceEqDiff, argsE, Int.reduceEq, convertA, lenA, foldI, A.cells, A.leaf, List.replicate, viewA, getO, Nat.reduceLeDiff, loadA, cellsAt, cellsTo, faA, indexAddrA, asInt, Int.reduceLE, Int.reduceLT, Int.reduceToNat, eq_self, Nat.reducePow, Int.reducePow, Int.reduceAdd, Int.reduceMul, Int.reduceSub, Int.reduceNeg, keyOk, mapPutA, lookupA, mapOf, sliceA, boundI, elemsOf, appendA, storeA, setRange, indexA, Nat.reduceBEq, Int.cast_ofNat_Int, reduceCtorEq, Nat.reduceAdd, Nat.reduceMul, Nat.reduceSub, evTy0, evTy1, evTy2, evTy3, evTy4, evTy5, evTy6, evTy7, evTy8]

theorem Rev2_ev (k : Nat) (hk : 6 ≤ k) (a b : Int) : callF Try.prog Hs E1 k 106 [.arr 0 0 2 2] [.arr 1 (ints .u8 [a, b]) false] = some (.tup [], [.arr 1 (ints .u8 [b, a]) false]) := by
  obtain ⟨k, rfl⟩ : ∃ j, k = j + 6 := ⟨k - 6, by omega⟩
  refine evalE rfl Try.func106 l106 ?_ (Nat.le_of_ble_eq_true rfl)
  simp only [s106, n106, s106_0, ↓l_succ, ↓evPre, ev0, ev1, ev2, ev3, ev4, ev5, Nat.reduceLT, entE, getE, putE, ↓reduceIte, Nat.reduceEqDiff, argsE, Int.reduceEq, convertA, lenA, foldI, A.cells, A.leaf, List.replicate, viewA, getO, Nat.reduceLeDiff, loadA, cellsAt, cellsTo, faA, indexAddrA, asInt, Int.reduceLE, Int.reduceLT, Int.reduceToNat, eq_self, Nat.reducePow, Int.reducePow, Int.reduceAdd, Int.reduceMul, Int.reduceSub, Int.reduceNeg, keyOk, mapPutA, lookupA, mapOf, sliceA, boundI, elemsOf, appendA, storeA, setRange, indexA, Nat.reduceBEq, Int.cast_ofNat_Int, reduceCtorEq, Nat.reduceAdd, Nat.reduceMul, Nat.reduceSub, evTy0, evTy1, evTy2, evTy3, evTy4, evTy5, evTy6, evTy7, evTy8]

theorem fd1 {k : Int} : k.fdiv 1 = k := by rw [fd (by omega)]; omega

theorem number4_ev (k : Nat) (hk : 10 ≤ k) (n : Int) : callF Try.prog Hs E1 k 76 [.d (.int .i64 n), .d (.int .i64 4), .d (.bool false)] [] = some (.d (.sl 1 (ints .u8 (wb4 n))), []) := by
  obtain ⟨k, rfl⟩ : ∃ j, k = j + 8 := ⟨k - 8, by omega⟩
  refine evalE rfl Try.func76 l76 ?_ (Nat.le_of_ble_eq_true rfl)
  unfold wb4
  have f1 := Rev4_ev (k + 7) (by omega) (n % 256) (n / 256 % 256) (n / 65536 % 256) (n / 16777216 % 256)
  simp only [s76, n76, s76_0, ↓l_succ, ↓evPre, ev0, ev1, ev2, ev3, ev4, ev5, Nat.reduceLT, entE, getE, putE, ↓reduceIte, Nat.reduceEqDiff, argsE, Int.reduceEq, convertA, lenA, foldI, A.cells, A.leaf, List.replicate, viewA, getO, Nat.reduceLeDiff, loadA, cellsAt, cellsTo, faA, indexAddrA, asInt, Int.reduceLE, Int.reduceLT, Int.reduceToNat, eq_self, Nat.reducePow, Int.reducePow, Int.reduceAdd, Int.reduceMul, Int.reduceSub, Int.reduceNeg, keyOk, mapPutA, lookupA, mapOf, sliceA, boundI, elemsOf, appendA, storeA, setRange, indexA, Nat.reduceBEq, Int.cast_ofNat_Int, reduceCtorEq, Nat.reduceAdd, Nat.reduceMul, Nat.reduceSub, evTy0, evTy1, evTy2, evTy3, evTy4, evTy5, evTy6, evTy7, evTy8, u8_mod, fd1, fd (k := n) (m := 16777216) (by omega), fd (k := n) (m := 65536) (by omega), fd (k := n) (m := 256) (by omega), f1]

theorem number2_ev (k : Nat) (hk : 10 ≤ k) (n : Int) : callF Try.prog Hs E1 k 76 [.d (.int .i64 n), .d (.int .i64 2), .d (.bool false)] [] = some (.d (.sl 1 (ints .u8 (wb2 n))), []) := by
  obtain ⟨k, rfl⟩ : ∃ j, k = j + 8 := ⟨k - 8, by omega⟩
  refine evalE rfl Try.func76 l76 ?_ (Nat.le_of_ble_eq_true rfl)
  unfold wb2
  have f1 := Rev2_ev (k + 7) (by omega) (n % 256) (n / 256 % 256)
  simp only [s76, n76, s76_0, ↓l_succ, ↓evPre, ev0, ev1, ev2, ev3, ev4, ev5, Nat.reduceLT, entE, getE, putE, ↓reduceIte, Nat.reduceEqDiff, argsE, Int.reduceEq, convertA, lenA, foldI, A.cells, A.leaf, List.replicate, viewA, getO, Nat.reduceLeDiff, loadA, cellsAt, cellsTo, faA, indexAddrA, asInt, Int.reduceLE, Int.reduceLT, Int.reduceToNat, eq_self, Nat.reducePow, Int.reducePow, Int.reduceAdd, Int.reduceMul, Int.reduceSub, Int.reduceNeg, keyOk, mapPutA, lookupA, mapOf, sliceA, boundI, elemsOf, appendA, storeA, setRange, indexA, Nat.reduceBEq, Int.cast_ofNat_Int, reduceCtorEq, Nat.reduceAdd, Nat.reduceMul, Nat.reduceSub, evTy0, evTy1, evTy2, evTy3, evTy4, evTy5, evTy6, evTy7, evTy8, u8_mod, fd1, fd (k := n) (m := 256) (by omega), f1]

theorem PutOctet_ev (k : Nat) (hk : 4 ≤ k) (b : List Int) (n : Int) (hl : b.length ≤ 900000) : callF Try.prog Hs E1 k 30 [.d (.sl 1 (ints .u8 b)), .d (.int .i64 n)] [] = some (.arr 0 0 (b ++ wb1 n).length (b ++ wb1 n).length, [.arr 1 (ints .u8 (b ++ wb1 n)) false]) := by
  obtain ⟨k, rfl⟩ : ∃ j, k = j + 1 := ⟨k - 1, by omega⟩
  refine evalE rfl Try.func30 l30 ?_ (Nat.le_of_ble_eq_true rfl)
  have f1 := put_ev k (by omega) b [n % 256] (by simp; omega)
  unfold wb1
  simp only [s30, n30, ↓evPre, ev0, ev1, ev2, ev3, ev4, ev5, Nat.reduceLT, entE, getE, putE, ↓reduceIte, Nat.reduceEqDiff, argsE, Int.reduceEq, convertA, lenA, foldI, A.cells, A.leaf, List.replicate, viewA, getO, Nat.reduceLeDiff, loadA, cellsAt, cellsTo, faA, indexAddrA, asInt, Int.reduceLE, Int.reduceLT, Int.reduceToNat, eq_self, Nat.reducePow, Int.reducePow, Int.reduceAdd, Int.reduceMul, Int.reduceSub, Int.reduceNeg, keyOk, mapPutA, lookupA, mapOf, sliceA, boundI, elemsOf, appendA, storeA, setRange, indexA, Nat.reduceBEq, Int.cast_ofNat_Int, reduceCtorEq, Nat.reduceAdd, Nat.reduceMul, Nat.reduceSub, evTy0, evTy1, evTy2, evTy3, evTy4, evTy5, evTy6, evTy7, evTy8, u8_mod, callR_new f1 rfl]

theorem PutShort_ev (k : Nat) (hk : 12 ≤ k) (b : List Int) (n : Int) (hl : b.length ≤ 900000) : callF Try.prog Hs E1 k 34 [.d (.sl 1 (ints .u8 b)), .d (.int .i64 n), .d (.bool false)] [] = some (.arr 0 0 (b ++ wb2 n).length (b ++ wb2 n).length, [.arr 1 (ints .u8 (b ++ wb2 n)) false]) := by
  obtain ⟨k, rfl⟩ : ∃ j, k = j + 1 := ⟨k - 1, by omega⟩
  refine evalE rfl Try.func34 l34 ?_ (Nat.le_of_ble_eq_true rfl)
  have f1 := number2_ev k (by omega) n
  have f2 := put_ev k (by omega) b (wb2 n) (by simp [wb2]; omega)
  simp only [s34, n34, ↓evPre, ev0, ev1, ev2, ev3, ev4, ev5, Nat.reduceLT, entE, getE, putE, ↓reduceIte, Nat.reduceEqDiff, argsE, Int.reduceEq, convertA, lenA, foldI, A.cells, A.leaf, List.replicate, viewA, getO, Nat.reduceLeDiff, loadA, cellsAt, cellsTo, faA, indexAddrA, asInt, Int.reduceLE, Int.reduceLT, Int.reduceToNat, eq_self, Nat.reducePow, Int.reducePow, Int.reduceAdd, Int.reduceMul, Int.reduceSub, Int.reduceNeg, keyOk, mapPutA, lookupA, mapOf, sliceA, boundI, elemsOf, appendA, storeA, setRange, indexA, Nat.reduceBEq, Int.cast_ofNat_Int, reduceCtorEq, Nat.reduceAdd, Nat.reduceMul, Nat.reduceSub, evTy0, evTy1, evTy2, evTy3, evTy4, evTy5, evTy6, evTy7, evTy8, callR_data f1 rfl rfl, callR_new f2 rfl]

theorem PutNumber_ev (k : Nat) (hk : 12 ≤ k) (b : List Int) (n : Int) (hl : b.length ≤ 900000) : callF Try.prog Hs E1 k 58 [.d (.sl 1 (ints .u8 b)), .d (.int .i64 n), .d (.bool false)] [] = some (.arr 0 0 (b ++ wb4 n).length (b ++ wb4 n).length, [.arr 1 (ints .u8 (b ++ wb4 n)) false]) := by
  obtain ⟨k, rfl⟩ : ∃ j, k = j + 1 := ⟨k - 1, by omega⟩
  refine evalE rfl Try.func58 l58 ?_ (Nat.le_of_ble_eq_true rfl)
  have f1 := number4_ev k (by omega) n
  have f2 := put_ev k (by omega) b (wb4 n) (by simp [wb4]; omega)
  simp only [s58, n58, ↓evPre, ev0, ev1, ev2, ev3, ev4, ev5, Nat.reduceLT, entE, getE, putE, ↓reduceIte, Nat.reduceEqDiff, argsE, Int.reduceEq, convertA, lenA, foldI, A.cells, A.leaf, List.replicate, viewA, getO, Nat.reduceLeDiff, loadA, cellsAt, cellsTo, faA, indexAddrA, asInt, Int.reduceLE, Int.reduceLT, Int.reduceToNat, eq_self, Nat.reducePow, Int.reducePow, Int.reduceAdd, Int.reduceMul, Int.reduceSub, Int.reduceNeg, keyOk, mapPutA, lookupA, mapOf, sliceA, boundI, elemsOf, appendA, storeA, setRange, indexA, Nat.reduceBEq, Int.cast_ofNat_Int, reduceCtorEq, Nat.reduceAdd, Nat.reduceMul, Nat.reduceSub, evTy0, evTy1, evTy2, evTy3, evTy4, evTy5, evTy6, evTy7, evTy8, callR_data f1 rfl rfl, callR_new f2 rfl]

theorem PutText_ev (k : Nat) (hk : 4 ≤ k) (b : List Int) (s : ByteArray) (hl : b.length ≤ 900000) (hs : s.size ≤ 2000) : callF Try.prog Hs E1 k 32 [.d (.sl 1 (ints .u8 b)), .d (.str s)] [] = some (.arr 0 0 (b ++ tB s).length (b ++ tB s).length, [.arr 1 (ints .u8 (b ++ tB s)) false]) := by
  obtain ⟨k, rfl⟩ : ∃ j, k = j + 1 := ⟨k - 1, by omega⟩
  refine evalE rfl Try.func32 l32 ?_ (Nat.le_of_ble_eq_true rfl)
  have hb := bOf_len s
  have f1 := put_ev k (by omega) b (bOf s) (by omega)
  have h1 : (b ++ bOf s).length + 1 ≤ 140737488355328 := by simp; omega
  unfold tB
  simp only [s32, n32, ↓evPre, ev0, ev1, ev2, ev3, ev4, ev5, Nat.reduceLT, entE, getE, putE, ↓reduceIte, Nat.reduceEqDiff, argsE, Int.reduceEq, convertA, lenA, foldI, A.cells, A.leaf, List.replicate, viewA, getO, Nat.reduceLeDiff, loadA, cellsAt, cellsTo, faA, indexAddrA, asInt, Int.reduceLE, Int.reduceLT, Int.reduceToNat, eq_self, Nat.reducePow, Int.reducePow, Int.reduceAdd, Int.reduceMul, Int.reduceSub, Int.reduceNeg, keyOk, mapPutA, lookupA, mapOf, sliceA, boundI, elemsOf, appendA, storeA, setRange, indexA, Nat.reduceBEq, Int.cast_ofNat_Int, reduceCtorEq, Nat.reduceAdd, Nat.reduceMul, Nat.reduceSub, evTy0, evTy1, evTy2, evTy3, evTy4, evTy5, evTy6, evTy7, evTy8, bytesD_eq, callR_new f1 rfl, h1]
  simp only [List.append_assoc, List.length_append, List.length_cons, List.length_nil, Nat.add_assoc, Nat.zero_add]

theorem PutPrincipal_ev (k : Nat) (hk : 6 ≤ k) (b : List Int) (p : Prin) (hl : b.length ≤ 800000) (hp : p.ok 1000) : callF Try.prog Hs E1 k 33 [.d (.sl 1 (ints .u8 b)), .agg [.d (.str p.name), .d (.str p.inst), .d (.str p.realm)]] [] = some (.d (.sl 1 (ints .u8 (b ++ pB p))), []) := by
  obtain ⟨k, rfl⟩ : ∃ j, k = j + 1 := ⟨k - 1, by omega⟩
  refine evalE rfl Try.func33 l33 ?_ (Nat.le_of_ble_eq_true rfl)
  obtain ⟨h1, h2, h3⟩ := hp
  have l1 := bOf_len p.name
  have l2 := bOf_len p.inst
  have f1 := PutText_ev k (by omega) b p.name (by omega) (by omega)
  have f2 := PutText_ev k (by omega) (b ++ tB p.name) p.inst (by simp [tB]; omega) (by omega)
  have f3 := PutText_ev k (by omega) (b ++ tB p.name ++ tB p.inst) p.realm (by simp [tB]; omega) (by omega)
  simp only [s33, n33, ↓evPre, ev0, ev1, ev2, ev3, ev4, ev5, Nat.reduceLT, entE, getE, putE, ↓reduceIte, Nat.reduceEqDiff, argsE, Int.reduceEq, convertA, lenA, foldI, A.cells, A.leaf, List.replicate, viewA, getO, Nat.reduceLeDiff, loadA, cellsAt, cellsTo, faA, indexAddrA, asInt, Int.reduceLE, Int.reduceLT, Int.reduceToNat, eq_self, Nat.reducePow, Int.reducePow, Int.reduceAdd, Int.reduceMul, Int.reduceSub, Int.reduceNeg, keyOk, mapPutA, lookupA, mapOf, sliceA, boundI, elemsOf, appendA, storeA, setRange, indexA, Nat.reduceBEq, Int.cast_ofNat_Int, reduceCtorEq, Nat.reduceAdd, Nat.reduceMul, Nat.reduceSub, evTy0, evTy1, evTy2, evTy3, evTy4, evTy5, evTy6, evTy7, evTy8, callR_new f1 rfl, callR_new f2 rfl, callR_new f3 rfl, pB]
  simp only [List.append_assoc]

theorem Pad_ev (k : Nat) (hk : 4 ≤ k) (b : List Int) (hl : b.length ≤ 900000) : callF Try.prog Hs E1 k 60 [.d (.sl 1 (ints .u8 b))] [] = some (.d (.sl 1 (ints .u8 (Ka.padV b))), []) := by
  obtain ⟨k, rfl⟩ : ∃ j, k = j + 1 := ⟨k - 1, by omega⟩
  refine evalE rfl Try.func60 l60 ?_ (Nat.le_of_ble_eq_true rfl)
  obtain ⟨t1, t2, t3⟩ := tmodB (a := (b.length : Int)) (m := 8) (by omega) (by omega)
  have w1 := i64_in (8 - (b.length : Int) % 8) (by omega)
  obtain ⟨u1, u2, u3⟩ := tmodB (a := 8 - (b.length : Int) % 8) (m := 8) (by omega) (by omega)
  have hn : ((8 - (b.length : Int) % 8) % 8).toNat = (8 - b.length % 8) % 8 := by omega
  have hb2 : (8 - (b.length : Int) % 8) % 8 * 1 ≤ 140737488355328 := by omega
  have hr : (List.replicate ((8 - b.length % 8) % 8) [D.int .u8 0]) = ints .u8 (List.replicate ((8 - b.length % 8) % 8) 0) := by simp [ints]
  have f1 := put_ev k (by omega) b (List.replicate ((8 - b.length % 8) % 8) 0) (by simp; omega)
  have ht : (List.replicate ((8 - b.length % 8) % 8) (0 : Int)).take ((8 - b.length % 8) % 8) = List.replicate ((8 - b.length % 8) % 8) 0 := by simp
  simp only [s60, n60, ↓evPre, ev0, ev1, ev2, ev3, ev4, ev5, Nat.reduceLT, entE, getE, putE, ↓reduceIte, Nat.reduceEqDiff, argsE, Int.reduceEq, convertA, lenA, foldI, A.cells, A.leaf, List.replicate, viewA, getO, Nat.reduceLeDiff, loadA, cellsAt, cellsTo, faA, indexAddrA, asInt, Int.reduceLE, Int.reduceLT, Int.reduceToNat, eq_self, Nat.reducePow, Int.reducePow, Int.reduceAdd, Int.reduceMul, Int.reduceSub, Int.reduceNeg, keyOk, mapPutA, lookupA, mapOf, sliceA, boundI, elemsOf, appendA, storeA, setRange, indexA, Nat.reduceBEq, Int.cast_ofNat_Int, reduceCtorEq, Nat.reduceAdd, Nat.reduceMul, Nat.reduceSub, evTy0, evTy1, evTy2, evTy3, evTy4, evTy5, evTy6, evTy7, evTy8, t1, w1, u1, u2, hn, hb2, hr, ht, callR_new f1 rfl, Ka.padV]
end Fi
end Ab
namespace Ab
open Go Go.Proofs Go.IntWalk
set_option maxRecDepth 10000
set_option linter.unusedSimpArgs false
set_option linter.unusedVariables false
namespace Fi
open Pr Key

/-- What is read, as a tuple. -/
def tkT (v : List Int × Int × Int) : A := .tup [.d (.sl 1 (ints .u8 v.1)), .d (.int .i64 v.2.1), .d (.int .i64 v.2.2)]
def rdT (v : Int × Int × Int) : A := .tup [.d (.int .i64 v.1), .d (.int .i64 v.2.1), .d (.int .i64 v.2.2)]
def txT (v : ByteArray × Int × Int) : A := .tup [.d (.str v.1), .d (.int .i64 v.2.1), .d (.int .i64 v.2.2)]
def prT (v : Prin × Int × Int) : A := .tup [.agg [.d (.str v.1.name), .d (.str v.1.inst), .d (.str v.1.realm)], .d (.int .i64 v.2.1), .d (.int .i64 v.2.2)]

theorem ints_tk (l : List Int) (i : Nat) : (ints .u8 l).take i = ints .u8 (l.take i) := by simp [ints]
theorem ints_dr (l : List Int) (i : Nat) : (ints .u8 l).drop i = ints .u8 (l.drop i) := by simp [ints]

theorem take_ev (k : Nat) (hk : 2 ≤ k) (b : List Int) (hb : b.length ≤ 1000000) (p n : Int) (hp : p ≤ 2000000 ∧ -9223372036854775808 ≤ p) (hn : n ≤ 2000000) : callF Try.prog Hs E1 k 111 [.d (.sl 1 (ints .u8 b)), .d (.int .i64 p), .d (.int .i64 n)] [] = some (tkT (tkV b p n), []) := by
  obtain ⟨k, rfl⟩ : ∃ j, k = j + 1 := ⟨k - 1, by omega⟩
  refine evalE rfl Try.func111 l111 ?_ (Nat.le_of_ble_eq_true rfl)
  unfold tkV
  by_cases h1 : p < 0
  · rw [if_pos (.inl h1)]
    simp only [s111, n111, ↓evPre, ev0, ev1, ev2, ev3, ev4, ev5, Nat.reduceLT, entE, getE, putE, ↓reduceIte, Nat.reduceEqDiff, argsE, Int.reduceEq, convertA, lenA, foldI, A.cells, A.leaf, List.replicate, viewA, getO, Nat.reduceLeDiff, loadA, cellsAt, cellsTo, faA, indexAddrA, asInt, Int.reduceLE, Int.reduceLT, Int.reduceToNat, eq_self, Nat.reducePow, Int.reducePow, Int.reduceAdd, Int.reduceMul, Int.reduceSub, Int.reduceNeg, keyOk, mapPutA, lookupA, mapOf, sliceA, boundI, elemsOf, appendA, storeA, setRange, indexA, Nat.reduceBEq, Int.cast_ofNat_Int, reduceCtorEq, Nat.reduceAdd, Nat.reduceMul, Nat.reduceSub, evTy0, evTy1, evTy2, evTy3, evTy4, evTy5, evTy6, evTy7, evTy8, h1, tkT]
  by_cases h2 : (b.length : Int) < p
  · rw [if_pos (.inr (.inl h2))]
    simp only [s111, n111, ↓evPre, ev0, ev1, ev2, ev3, ev4, ev5, Nat.reduceLT, entE, getE, putE, ↓reduceIte, Nat.reduceEqDiff, argsE, Int.reduceEq, convertA, lenA, foldI, A.cells, A.leaf, List.replicate, viewA, getO, Nat.reduceLeDiff, loadA, cellsAt, cellsTo, faA, indexAddrA, asInt, Int.reduceLE, Int.reduceLT, Int.reduceToNat, eq_self, Nat.reducePow, Int.reducePow, Int.reduceAdd, Int.reduceMul, Int.reduceSub, Int.reduceNeg, keyOk, mapPutA, lookupA, mapOf, sliceA, boundI, elemsOf, appendA, storeA, setRange, indexA, Nat.reduceBEq, Int.cast_ofNat_Int, reduceCtorEq, Nat.reduceAdd, Nat.reduceMul, Nat.reduceSub, evTy0, evTy1, evTy2, evTy3, evTy4, evTy5, evTy6, evTy7, evTy8, h1, h2, tkT]
  by_cases h3 : n < 0
  · rw [if_pos (.inr (.inr h3))]
    simp only [s111, n111, ↓evPre, ev0, ev1, ev2, ev3, ev4, ev5, Nat.reduceLT, entE, getE, putE, ↓reduceIte, Nat.reduceEqDiff, argsE, Int.reduceEq, convertA, lenA, foldI, A.cells, A.leaf, List.replicate, viewA, getO, Nat.reduceLeDiff, loadA, cellsAt, cellsTo, faA, indexAddrA, asInt, Int.reduceLE, Int.reduceLT, Int.reduceToNat, eq_self, Nat.reducePow, Int.reducePow, Int.reduceAdd, Int.reduceMul, Int.reduceSub, Int.reduceNeg, keyOk, mapPutA, lookupA, mapOf, sliceA, boundI, elemsOf, appendA, storeA, setRange, indexA, Nat.reduceBEq, Int.cast_ofNat_Int, reduceCtorEq, Nat.reduceAdd, Nat.reduceMul, Nat.reduceSub, evTy0, evTy1, evTy2, evTy3, evTy4, evTy5, evTy6, evTy7, evTy8, h1, h2, h3, tkT]
  rw [if_neg (by omega)]
  have w1 := i64_in ((b.length : Int) - p) (by omega)
  by_cases h4 : (b.length : Int) - p < n
  · rw [if_pos h4]
    simp only [s111, n111, ↓evPre, ev0, ev1, ev2, ev3, ev4, ev5, Nat.reduceLT, entE, getE, putE, ↓reduceIte, Nat.reduceEqDiff, argsE, Int.reduceEq, convertA, lenA, foldI, A.cells, A.leaf, List.replicate, viewA, getO, Nat.reduceLeDiff, loadA, cellsAt, cellsTo, faA, indexAddrA, asInt, Int.reduceLE, Int.reduceLT, Int.reduceToNat, eq_self, Nat.reducePow, Int.reducePow, Int.reduceAdd, Int.reduceMul, Int.reduceSub, Int.reduceNeg, keyOk, mapPutA, lookupA, mapOf, sliceA, boundI, elemsOf, appendA, storeA, setRange, indexA, Nat.reduceBEq, Int.cast_ofNat_Int, reduceCtorEq, Nat.reduceAdd, Nat.reduceMul, Nat.reduceSub, evTy0, evTy1, evTy2, evTy3, evTy4, evTy5, evTy6, evTy7, evTy8, h1, h2, h3, w1, h4, tkT]
  rw [if_neg h4]
  have w2 := i64_in (p + n) (by omega)
  have g1 : 0 ≤ p := by omega
  have g2 : p ≤ p + n := by omega
  have g3 : p + n ≤ (b.length : Int) := by omega
  have e : (b.drop p.toNat).take n.toNat = (b.take (p + n).toNat).drop p.toNat := by
    rw [List.drop_take]
    congr 1
    omega
  rw [e]
  simp only [s111, n111, ↓evPre, ev0, ev1, ev2, ev3, ev4, ev5, Nat.reduceLT, entE, getE, putE, ↓reduceIte, Nat.reduceEqDiff, argsE, Int.reduceEq, convertA, lenA, foldI, A.cells, A.leaf, List.replicate, viewA, getO, Nat.reduceLeDiff, loadA, cellsAt, cellsTo, faA, indexAddrA, asInt, Int.reduceLE, Int.reduceLT, Int.reduceToNat, eq_self, Nat.reducePow, Int.reducePow, Int.reduceAdd, Int.reduceMul, Int.reduceSub, Int.reduceNeg, keyOk, mapPutA, lookupA, mapOf, sliceA, boundI, elemsOf, appendA, storeA, setRange, indexA, Nat.reduceBEq, Int.cast_ofNat_Int, reduceCtorEq, Nat.reduceAdd, Nat.reduceMul, Nat.reduceSub, evTy0, evTy1, evTy2, evTy3, evTy4, evTy5, evTy6, evTy7, evTy8, h1, h2, h3, w1, h4, w2, g1, g2, g3, tkT, ints_tk, ints_dr]

theorem or8i {a c : Int} (ha : 0 ≤ a ∧ a < 1099511627776) (hc : 0 ≤ c ∧ c ≤ 255) : bitOr .i64 (IntKind.i64.wrap (a * 256)) (IntKind.i64.wrap c) = a * 256 + c := by
  rw [i64_in (a * 256) (by omega), i64_in c (by omega)]
  have h := or_add a c 8 (by omega) ha.1 (by omega) (by omega) (by omega)
  have e : a * 2 ^ 8 = a * 256 := by omega
  rw [e] at h
  unfold bitOr at h ⊢
  generalize hN : (BitVec.ofInt IntKind.u64.bits (a * 256) ||| BitVec.ofInt IntKind.u64.bits c).toNat = N at h
  have hN2 : N < 2 ^ 64 := by rw [← hN]; exact BitVec.isLt _
  rw [u64_in _ (by omega)] at h
  show IntKind.i64.wrap ((BitVec.ofInt 64 (a * 256) ||| BitVec.ofInt 64 c).toNat : Int) = _
  have hN' : (BitVec.ofInt 64 (a * 256) ||| BitVec.ofInt 64 c).toNat = N := hN
  rw [hN', h, i64_in _ (by omega)]

theorem tk_good {b : List Int} {p n : Int} (h : (tkV b p n).2.2 = 0) : (tkV b p n).1.length = n.toNat ∧ 0 ≤ p ∧ 0 ≤ n ∧ p + n ≤ b.length ∧ (tkV b p n).2.1 = p + n ∧ (okL b → okL (tkV b p n).1) := by
  unfold tkV at h ⊢
  split at h
  · simp at h
  · split at h
    · simp at h
    · rename_i h1 h2
      rw [if_neg h1, if_neg h2]
      refine ⟨?_, by omega, by omega, by omega, rfl, fun hb => okL_take (okL_drop hb)⟩
      simp only [List.length_take, List.length_drop]
      omega

theorem read1_ev (k : Nat) (hk : 8 ≤ k) (b : List Int) (hb : b.length ≤ 1000000) (ho : okL b) (p : Int) (hp : p ≤ 2000000 ∧ -9223372036854775808 ≤ p) : callF Try.prog Hs E1 k 109 [.d (.sl 1 (ints .u8 b)), .d (.int .i64 p), .d (.int .i64 1), .d (.bool false)] [] = some (rdT (rdV b p 1), []) := by
  obtain ⟨k, rfl⟩ : ∃ j, k = j + 6 := ⟨k - 6, by omega⟩
  refine evalE rfl Try.func109 l109 ?_ (Nat.le_of_ble_eq_true rfl)
  have f1 := take_ev (k + 5) (by omega) b hb p 1 hp (by omega)
  have hg := tk_good (b := b) (p := p) (n := 1)
  unfold rdV
  generalize tkV b p 1 = v at f1 hg
  obtain ⟨l, q, e⟩ := v
  simp only [tkT] at f1
  simp only at hg
  by_cases he : e = 0
  · subst he
    obtain ⟨g1, _, _, _, _, g6⟩ := hg rfl
    have g7 := g6 ho
    obtain ⟨c0, rfl⟩ := List.length_eq_one_iff.1 g1
    simp only [okL_cons] at g7
    have o0 := or8i (a := 0) (c := c0) (by omega) g7.1
    have z0 : IntKind.i64.wrap (0 * 256) = 0 := by decide
    rw [z0, Int.zero_mul, Int.zero_add] at o0
    simp only [s109, n109, s109_0, ↓l_succ, ↓evPre, ev0, ev1, ev2, ev3, ev4, ev5, Nat.reduceLT, entE, getE, putE, ↓reduceIte, Nat.reduceEqDiff, argsE, Int.reduceEq, convertA, lenA, foldI, A.cells, A.leaf, List.replicate, viewA, getO, Nat.reduceLeDiff, loadA, cellsAt, cellsTo, faA, indexAddrA, asInt, Int.reduceLE, Int.reduceLT, Int.reduceToNat, eq_self, Nat.reducePow, Int.reducePow, Int.reduceAdd, Int.reduceMul, Int.reduceSub, Int.reduceNeg, keyOk, mapPutA, lookupA, mapOf, sliceA, boundI, elemsOf, appendA, storeA, setRange, indexA, Nat.reduceBEq, Int.cast_ofNat_Int, reduceCtorEq, Nat.reduceAdd, Nat.reduceMul, Nat.reduceSub, evTy0, evTy1, evTy2, evTy3, evTy4, evTy5, evTy6, evTy7, evTy8, callR_data f1 rfl rfl, o0, rdT, num, Int.zero_mul, Int.zero_add]
  · simp only [s109, n109, ↓evPre, ev0, ev1, ev2, ev3, ev4, ev5, Nat.reduceLT, entE, getE, putE, ↓reduceIte, Nat.reduceEqDiff, argsE, Int.reduceEq, convertA, lenA, foldI, A.cells, A.leaf, List.replicate, viewA, getO, Nat.reduceLeDiff, loadA, cellsAt, cellsTo, faA, indexAddrA, asInt, Int.reduceLE, Int.reduceLT, Int.reduceToNat, eq_self, Nat.reducePow, Int.reducePow, Int.reduceAdd, Int.reduceMul, Int.reduceSub, Int.reduceNeg, keyOk, mapPutA, lookupA, mapOf, sliceA, boundI, elemsOf, appendA, storeA, setRange, indexA, Nat.reduceBEq, Int.cast_ofNat_Int, reduceCtorEq, Nat.reduceAdd, Nat.reduceMul, Nat.reduceSub, evTy0, evTy1, evTy2, evTy3, evTy4, evTy5, evTy6, evTy7, evTy8, callR_data f1 rfl rfl, he, rdT]

theorem read2_ev (k : Nat) (hk : 8 ≤ k) (b : List Int) (hb : b.length ≤ 1000000) (ho : okL b) (p : Int) (hp : p ≤ 2000000 ∧ -9223372036854775808 ≤ p) : callF Try.prog Hs E1 k 109 [.d (.sl 1 (ints .u8 b)), .d (.int .i64 p), .d (.int .i64 2), .d (.bool false)] [] = some (rdT (rdV b p 2), []) := by
  obtain ⟨k, rfl⟩ : ∃ j, k = j + 6 := ⟨k - 6, by omega⟩
  refine evalE rfl Try.func109 l109 ?_ (Nat.le_of_ble_eq_true rfl)
  have f1 := take_ev (k + 5) (by omega) b hb p 2 hp (by omega)
  have hg := tk_good (b := b) (p := p) (n := 2)
  unfold rdV
  generalize tkV b p 2 = v at f1 hg
  obtain ⟨l, q, e⟩ := v
  simp only [tkT] at f1
  simp only at hg
  by_cases he : e = 0
  · subst he
    obtain ⟨g1, _, _, _, _, g6⟩ := hg rfl
    have g7 := g6 ho
    obtain ⟨c0, c1, rfl⟩ : ∃ c0 c1, l = [c0, c1] := by
      rcases l with _ | ⟨c0, _ | ⟨c1, _ | ⟨c2, l⟩⟩⟩ <;> simp at g1
      · exact ⟨_, _, rfl⟩
    simp only [okL_cons] at g7
    have o0 := or8i (a := 0) (c := c0) (by omega) g7.1
    have o1 := or8i (a := c0) (c := c1) (by omega) g7.2.1
    have z0 : IntKind.i64.wrap (0 * 256) = 0 := by decide
    rw [z0, Int.zero_mul, Int.zero_add] at o0
    simp only [s109, n109, s109_0, ↓l_succ, ↓evPre, ev0, ev1, ev2, ev3, ev4, ev5, Nat.reduceLT, entE, getE, putE, ↓reduceIte, Nat.reduceEqDiff, argsE, Int.reduceEq, convertA, lenA, foldI, A.cells, A.leaf, List.replicate, viewA, getO, Nat.reduceLeDiff, loadA, cellsAt, cellsTo, faA, indexAddrA, asInt, Int.reduceLE, Int.reduceLT, Int.reduceToNat, eq_self, Nat.reducePow, Int.reducePow, Int.reduceAdd, Int.reduceMul, Int.reduceSub, Int.reduceNeg, keyOk, mapPutA, lookupA, mapOf, sliceA, boundI, elemsOf, appendA, storeA, setRange, indexA, Nat.reduceBEq, Int.cast_ofNat_Int, reduceCtorEq, Nat.reduceAdd, Nat.reduceMul, Nat.reduceSub, evTy0, evTy1, evTy2, evTy3, evTy4, evTy5, evTy6, evTy7, evTy8, callR_data f1 rfl rfl, o0, o1, rdT, num, Int.zero_mul, Int.zero_add]
  · simp only [s109, n109, ↓evPre, ev0, ev1, ev2, ev3, ev4, ev5, Nat.reduceLT, entE, getE, putE, ↓reduceIte, Nat.reduceEqDiff, argsE, Int.reduceEq, convertA, lenA, foldI, A.cells, A.leaf, List.replicate, viewA, getO, Nat.reduceLeDiff, loadA, cellsAt, cellsTo, faA, indexAddrA, asInt, Int.reduceLE, Int.reduceLT, Int.reduceToNat, eq_self, Nat.reducePow, Int.reducePow, Int.reduceAdd, Int.reduceMul, Int.reduceSub, Int.reduceNeg, keyOk, mapPutA, lookupA, mapOf, sliceA, boundI, elemsOf, appendA, storeA, setRange, indexA, Nat.reduceBEq, Int.cast_ofNat_Int, reduceCtorEq, Nat.reduceAdd, Nat.reduceMul, Nat.reduceSub, evTy0, evTy1, evTy2, evTy3, evTy4, evTy5, evTy6, evTy7, evTy8, callR_data f1 rfl rfl, he, rdT]

theorem read4_ev (k : Nat) (hk : 8 ≤ k) (b : List Int) (hb : b.length ≤ 1000000) (ho : okL b) (p : Int) (hp : p ≤ 2000000 ∧ -9223372036854775808 ≤ p) : callF Try.prog Hs E1 k 109 [.d (.sl 1 (ints .u8 b)), .d (.int .i64 p), .d (.int .i64 4), .d (.bool false)] [] = some (rdT (rdV b p 4), []) := by
  obtain ⟨k, rfl⟩ : ∃ j, k = j + 6 := ⟨k - 6, by omega⟩
  refine evalE rfl Try.func109 l109 ?_ (Nat.le_of_ble_eq_true rfl)
  have f1 := take_ev (k + 5) (by omega) b hb p 4 hp (by omega)
  have hg := tk_good (b := b) (p := p) (n := 4)
  unfold rdV
  generalize tkV b p 4 = v at f1 hg
  obtain ⟨l, q, e⟩ := v
  simp only [tkT] at f1
  simp only at hg
  by_cases he : e = 0
  · subst he
    obtain ⟨g1, _, _, _, _, g6⟩ := hg rfl
    have g7 := g6 ho
    obtain ⟨c0, c1, c2, c3, rfl⟩ : ∃ c0 c1 c2 c3, l = [c0, c1, c2, c3] := by
      rcases l with _ | ⟨c0, _ | ⟨c1, _ | ⟨c2, _ | ⟨c3, _ | ⟨c4, l⟩⟩⟩⟩⟩ <;> simp at g1
      · exact ⟨_, _, _, _, rfl⟩
    simp only [okL_cons] at g7
    have o0 := or8i (a := 0) (c := c0) (by omega) g7.1
    have o1 := or8i (a := c0) (c := c1) (by omega) g7.2.1
    have o2 := or8i (a := c0 * 256 + c1) (c := c2) (by omega) g7.2.2.1
    have o3 := or8i (a := (c0 * 256 + c1) * 256 + c2) (c := c3) (by omega) g7.2.2.2.1
    have z0 : IntKind.i64.wrap (0 * 256) = 0 := by decide
    rw [z0, Int.zero_mul, Int.zero_add] at o0
    simp only [s109, n109, s109_0, ↓l_succ, ↓evPre, ev0, ev1, ev2, ev3, ev4, ev5, Nat.reduceLT, entE, getE, putE, ↓reduceIte, Nat.reduceEqDiff, argsE, Int.reduceEq, convertA, lenA, foldI, A.cells, A.leaf, List.replicate, viewA, getO, Nat.reduceLeDiff, loadA, cellsAt, cellsTo, faA, indexAddrA, asInt, Int.reduceLE, Int.reduceLT, Int.reduceToNat, eq_self, Nat.reducePow, Int.reducePow, Int.reduceAdd, Int.reduceMul, Int.reduceSub, Int.reduceNeg, keyOk, mapPutA, lookupA, mapOf, sliceA, boundI, elemsOf, appendA, storeA, setRange, indexA, Nat.reduceBEq, Int.cast_ofNat_Int, reduceCtorEq, Nat.reduceAdd, Nat.reduceMul, Nat.reduceSub, evTy0, evTy1, evTy2, evTy3, evTy4, evTy5, evTy6, evTy7, evTy8, callR_data f1 rfl rfl, o0, o1, o2, o3, rdT, num, Int.zero_mul, Int.zero_add]
  · simp only [s109, n109, ↓evPre, ev0, ev1, ev2, ev3, ev4, ev5, Nat.reduceLT, entE, getE, putE, ↓reduceIte, Nat.reduceEqDiff, argsE, Int.reduceEq, convertA, lenA, foldI, A.cells, A.leaf, List.replicate, viewA, getO, Nat.reduceLeDiff, loadA, cellsAt, cellsTo, faA, indexAddrA, asInt, Int.reduceLE, Int.reduceLT, Int.reduceToNat, eq_self, Nat.reducePow, Int.reducePow, Int.reduceAdd, Int.reduceMul, Int.reduceSub, Int.reduceNeg, keyOk, mapPutA, lookupA, mapOf, sliceA, boundI, elemsOf, appendA, storeA, setRange, indexA, Nat.reduceBEq, Int.cast_ofNat_Int, reduceCtorEq, Nat.reduceAdd, Nat.reduceMul, Nat.reduceSub, evTy0, evTy1, evTy2, evTy3, evTy4, evTy5, evTy6, evTy7, evTy8, callR_data f1 rfl rfl, he, rdT]

theorem Octet_ev (k : Nat) (hk : 9 ≤ k) (b : List Int) (hb : b.length ≤ 1000000) (ho : okL b) (p : Int) (hp : p ≤ 2000000 ∧ -9223372036854775808 ≤ p) : callF Try.prog Hs E1 k 82 [.d (.sl 1 (ints .u8 b)), .d (.int .i64 p)] [] = some (rdT (rdV b p 1), []) := by
  obtain ⟨k, rfl⟩ : ∃ j, k = j + 1 := ⟨k - 1, by omega⟩
  refine evalE rfl Try.func82 l82 ?_ (Nat.le_of_ble_eq_true rfl)
  have f1 := read1_ev k (by omega) b hb ho p hp
  simp only [rdT] at f1
  simp only [s82, n82, ↓evPre, ev0, ev1, ev2, ev3, ev4, ev5, Nat.reduceLT, entE, getE, putE, ↓reduceIte, Nat.reduceEqDiff, argsE, Int.reduceEq, convertA, lenA, foldI, A.cells, A.leaf, List.replicate, viewA, getO, Nat.reduceLeDiff, loadA, cellsAt, cellsTo, faA, indexAddrA, asInt, Int.reduceLE, Int.reduceLT, Int.reduceToNat, eq_self, Nat.reducePow, Int.reducePow, Int.reduceAdd, Int.reduceMul, Int.reduceSub, Int.reduceNeg, keyOk, mapPutA, lookupA, mapOf, sliceA, boundI, elemsOf, appendA, storeA, setRange, indexA, Nat.reduceBEq, Int.cast_ofNat_Int, reduceCtorEq, Nat.reduceAdd, Nat.reduceMul, Nat.reduceSub, evTy0, evTy1, evTy2, evTy3, evTy4, evTy5, evTy6, evTy7, evTy8, callR_data f1 rfl rfl, rdT]

theorem Short_ev (k : Nat) (hk : 9 ≤ k) (b : List Int) (hb : b.length ≤ 1000000) (ho : okL b) (p : Int) (hp : p ≤ 2000000 ∧ -9223372036854775808 ≤ p) : callF Try.prog Hs E1 k 93 [.d (.sl 1 (ints .u8 b)), .d (.int .i64 p), .d (.bool false)] [] = some (rdT (rdV b p 2), []) := by
  obtain ⟨k, rfl⟩ : ∃ j, k = j + 1 := ⟨k - 1, by omega⟩
  refine evalE rfl Try.func93 l93 ?_ (Nat.le_of_ble_eq_true rfl)
  have f1 := read2_ev k (by omega) b hb ho p hp
  simp only [rdT] at f1
  simp only [s93, n93, ↓evPre, ev0, ev1, ev2, ev3, ev4, ev5, Nat.reduceLT, entE, getE, putE, ↓reduceIte, Nat.reduceEqDiff, argsE, Int.reduceEq, convertA, lenA, foldI, A.cells, A.leaf, List.replicate, viewA, getO, Nat.reduceLeDiff, loadA, cellsAt, cellsTo, faA, indexAddrA, asInt, Int.reduceLE, Int.reduceLT, Int.reduceToNat, eq_self, Nat.reducePow, Int.reducePow, Int.reduceAdd, Int.reduceMul, Int.reduceSub, Int.reduceNeg, keyOk, mapPutA, lookupA, mapOf, sliceA, boundI, elemsOf, appendA, storeA, setRange, indexA, Nat.reduceBEq, Int.cast_ofNat_Int, reduceCtorEq, Nat.reduceAdd, Nat.reduceMul, Nat.reduceSub, evTy0, evTy1, evTy2, evTy3, evTy4, evTy5, evTy6, evTy7, evTy8, callR_data f1 rfl rfl, rdT]

theorem Number_ev (k : Nat) (hk : 9 ≤ k) (b : List Int) (hb : b.length ≤ 1000000) (ho : okL b) (p : Int) (hp : p ≤ 2000000 ∧ -9223372036854775808 ≤ p) : callF Try.prog Hs E1 k 101 [.d (.sl 1 (ints .u8 b)), .d (.int .i64 p), .d (.bool false)] [] = some (rdT (rdV b p 4), []) := by
  obtain ⟨k, rfl⟩ : ∃ j, k = j + 1 := ⟨k - 1, by omega⟩
  refine evalE rfl Try.func101 l101 ?_ (Nat.le_of_ble_eq_true rfl)
  have f1 := read4_ev k (by omega) b hb ho p hp
  simp only [rdT] at f1
  simp only [s101, n101, ↓evPre, ev0, ev1, ev2, ev3, ev4, ev5, Nat.reduceLT, entE, getE, putE, ↓reduceIte, Nat.reduceEqDiff, argsE, Int.reduceEq, convertA, lenA, foldI, A.cells, A.leaf, List.replicate, viewA, getO, Nat.reduceLeDiff, loadA, cellsAt, cellsTo, faA, indexAddrA, asInt, Int.reduceLE, Int.reduceLT, Int.reduceToNat, eq_self, Nat.reducePow, Int.reducePow, Int.reduceAdd, Int.reduceMul, Int.reduceSub, Int.reduceNeg, keyOk, mapPutA, lookupA, mapOf, sliceA, boundI, elemsOf, appendA, storeA, setRange, indexA, Nat.reduceBEq, Int.cast_ofNat_Int, reduceCtorEq, Nat.reduceAdd, Nat.reduceMul, Nat.reduceSub, evTy0, evTy1, evTy2, evTy3, evTy4, evTy5, evTy6, evTy7, evTy8, callR_data f1 rfl rfl, rdT]

theorem Bytes_ev (k : Nat) (hk : 5 ≤ k) (b : List Int) (hb : b.length ≤ 1000000) (p n : Int) (hp : p ≤ 2000000 ∧ -9223372036854775808 ≤ p) (hn : n ≤ 2000000) : callF Try.prog Hs E1 k 88 [.d (.sl 1 (ints .u8 b)), .d (.int .i64 p), .d (.int .i64 n)] [] = some (tkT (tkV b p n), []) := by
  obtain ⟨k, rfl⟩ : ∃ j, k = j + 1 := ⟨k - 1, by omega⟩
  refine evalE rfl Try.func88 l88 ?_ (Nat.le_of_ble_eq_true rfl)
  have f1 := take_ev k (by omega) b hb p n hp hn
  have hl : (tkV b p n).1.length ≤ 1000000 := by
    unfold tkV
    split
    · simp
    · split
      · simp
      · simp only [List.length_take, List.length_drop]; omega
  have f2 := Clone_ev k (by omega) (tkV b p n).1 hl
  generalize tkV b p n = v at f1 f2 hl
  obtain ⟨l, q, e⟩ := v
  simp only [tkT] at f1
  simp only at f2 hl
  simp only [s88, n88, ↓evPre, ev0, ev1, ev2, ev3, ev4, ev5, Nat.reduceLT, entE, getE, putE, ↓reduceIte, Nat.reduceEqDiff, argsE, Int.reduceEq, convertA, lenA, foldI, A.cells, A.leaf, List.replicate, viewA, getO, Nat.reduceLeDiff, loadA, cellsAt, cellsTo, faA, indexAddrA, asInt, Int.reduceLE, Int.reduceLT, Int.reduceToNat, eq_self, Nat.reducePow, Int.reducePow, Int.reduceAdd, Int.reduceMul, Int.reduceSub, Int.reduceNeg, keyOk, mapPutA, lookupA, mapOf, sliceA, boundI, elemsOf, appendA, storeA, setRange, indexA, Nat.reduceBEq, Int.cast_ofNat_Int, reduceCtorEq, Nat.reduceAdd, Nat.reduceMul, Nat.reduceSub, evTy0, evTy1, evTy2, evTy3, evTy4, evTy5, evTy6, evTy7, evTy8, callR_data f1 rfl rfl, callR_new f2 rfl, tkT]
end Fi
end Ab
namespace Ab
open Go Go.Proofs Go.IntWalk
set_option maxRecDepth 10000
set_option linter.unusedSimpArgs false
set_option linter.unusedVariables false
namespace Fi
open Pr Key

theorem ix_ge (c : Int) (l : List Int) : -1 ≤ ix c l ∧ ix c l < l.length := by
  induction l with
  | nil => simp [ix]
  | cons n l ih =>
    simp only [ix, List.length_cons]
    split
    · omega
    · split <;> omega

theorem ix_lib {l : List Int} (h : okL l) : Lib.indexByte (l.map fun n => UInt8.ofNat n.toNat) ((0 : Int).toNat.toUInt8) = ix 0 l := by
  induction l with
  | nil => rfl
  | cons n l ih =>
    rw [okL_cons] at h
    have ih := ih h.2
    simp only [List.map_cons, Lib.indexByte, ix, ih]
    have e : (UInt8.ofNat n.toNat == (0 : Int).toNat.toUInt8) = decide (n = 0) := by
      by_cases q : n = 0
      · subst q; rfl
      · have : ¬ UInt8.ofNat n.toNat = 0 := by
          intro e
          have := congrArg UInt8.toNat e
          simp at this
          omega
        have e0 : (0 : Int).toNat.toUInt8 = 0 := rfl
        rw [e0, decide_eq_false q]
        exact beq_eq_false_iff_ne.2 this
    rw [e]
    by_cases q : n = 0
    · simp [q]
    · simp only [q, decide_false, Bool.false_eq_true, if_false, beq_iff_eq]

theorem IndexB_ev (k : Nat) (hk : 1 ≤ k) (l : List Int) (h : okL l) : callF Try.prog Hs E1 k 110 [.d (.sl 1 (ints .u8 l)), .d (.int .u8 0)] [] = some (.d (.int .i64 (ix 0 l)), []) := by
  obtain ⟨k, rfl⟩ : ∃ j, k = j + 1 := ⟨k - 1, by omega⟩
  unfold callF
  have e : E1 110 = some gIndexB := rfl
  rw [e]
  simp only [gIndexB, strOf_ints, ix_lib h]

theorem Text_ev (k : Nat) (hk : 3 ≤ k) (b : List Int) (hb : b.length ≤ 1000000) (ho : okL b) (p : Int) (hp : p ≤ 2000000 ∧ -9223372036854775808 ≤ p) : callF Try.prog Hs E1 k 85 [.d (.sl 1 (ints .u8 b)), .d (.int .i64 p)] [] = some (txT (txV b p), []) := by
  obtain ⟨k, rfl⟩ : ∃ j, k = j + 1 := ⟨k - 1, by omega⟩
  refine evalE rfl Try.func85 l85 ?_ (Nat.le_of_ble_eq_true rfl)
  unfold txV
  by_cases h1 : p < 0
  · rw [if_pos (.inl h1)]
    simp only [s85, n85, ↓evPre, ev0, ev1, ev2, ev3, ev4, ev5, Nat.reduceLT, entE, getE, putE, ↓reduceIte, Nat.reduceEqDiff, argsE, Int.reduceEq, convertA, lenA, foldI, A.cells, A.leaf, List.replicate, viewA, getO, Nat.reduceLeDiff, loadA, cellsAt, cellsTo, faA, indexAddrA, asInt, Int.reduceLE, Int.reduceLT, Int.reduceToNat, eq_self, Nat.reducePow, Int.reducePow, Int.reduceAdd, Int.reduceMul, Int.reduceSub, Int.reduceNeg, keyOk, mapPutA, lookupA, mapOf, sliceA, boundI, elemsOf, appendA, storeA, setRange, indexA, Nat.reduceBEq, Int.cast_ofNat_Int, reduceCtorEq, Nat.reduceAdd, Nat.reduceMul, Nat.reduceSub, evTy0, evTy1, evTy2, evTy3, evTy4, evTy5, evTy6, evTy7, evTy8, h1, txT]
    rfl
  by_cases h2 : (b.length : Int) < p
  · rw [if_pos (.inr h2)]
    simp only [s85, n85, ↓evPre, ev0, ev1, ev2, ev3, ev4, ev5, Nat.reduceLT, entE, getE, putE, ↓reduceIte, Nat.reduceEqDiff, argsE, Int.reduceEq, convertA, lenA, foldI, A.cells, A.leaf, List.replicate, viewA, getO, Nat.reduceLeDiff, loadA, cellsAt, cellsTo, faA, indexAddrA, asInt, Int.reduceLE, Int.reduceLT, Int.reduceToNat, eq_self, Nat.reducePow, Int.reducePow, Int.reduceAdd, Int.reduceMul, Int.reduceSub, Int.reduceNeg, keyOk, mapPutA, lookupA, mapOf, sliceA, boundI, elemsOf, appendA, storeA, setRange, indexA, Nat.reduceBEq, Int.cast_ofNat_Int, reduceCtorEq, Nat.reduceAdd, Nat.reduceMul, Nat.reduceSub, evTy0, evTy1, evTy2, evTy3, evTy4, evTy5, evTy6, evTy7, evTy8, h1, h2, txT]
    rfl
  rw [if_neg (by omega)]
  have g1 : 0 ≤ p := by omega
  have g2 : p ≤ (b.length : Int) := by omega
  have hr : okL (b.drop p.toNat) := okL_drop ho
  have hrl : (b.drop p.toNat).length ≤ 1000000 := by simp; omega
  have htk : List.drop p.toNat (List.take b.length b) = b.drop p.toNat := by rw [List.take_length]
  generalize hr0 : b.drop p.toNat = r at hr hrl htk
  have hi := IndexB_ev k (by omega) (r.take 40) (okL_take hr)
  obtain ⟨x1, x2⟩ := ix_ge 0 (r.take 40)
  have hx : (ix 0 (r.take 40)) ≤ 40 ∧ (ix 0 (r.take 40)) ≤ r.length := by simp at x2; omega
  generalize ix 0 (r.take 40) = i at hi x1 x2 hx
  have w1 := i64_in (p + i) (by omega)
  have w2 := i64_in (p + i + 1) (by omega)
  by_cases h40 : 40 < (r.length : Int)
  · have h39 : 39 < (r.length : Int) := by omega
    have l40 : (40 : Int) ≤ r.length := by omega
    by_cases hn : 0 ≤ i
    · rw [if_pos hn]
      have hx2 := hx.2
      simp only [s85, n85, ↓evPre, ev0, ev1, ev2, ev3, ev4, ev5, Nat.reduceLT, entE, getE, putE, ↓reduceIte, Nat.reduceEqDiff, argsE, Int.reduceEq, convertA, lenA, foldI, A.cells, A.leaf, List.replicate, viewA, getO, Nat.reduceLeDiff, loadA, cellsAt, cellsTo, faA, indexAddrA, asInt, Int.reduceLE, Int.reduceLT, Int.reduceToNat, eq_self, Nat.reducePow, Int.reducePow, Int.reduceAdd, Int.reduceMul, Int.reduceSub, Int.reduceNeg, keyOk, mapPutA, lookupA, mapOf, sliceA, boundI, elemsOf, appendA, storeA, setRange, indexA, Nat.reduceBEq, Int.cast_ofNat_Int, reduceCtorEq, Nat.reduceAdd, Nat.reduceMul, Nat.reduceSub, evTy0, evTy1, evTy2, evTy3, evTy4, evTy5, evTy6, evTy7, evTy8, h1, h2, g1, g2, ints_tk, ints_dr, htk, hr0, h40, l40, callR_data hi rfl rfl, hn, hx2, w1, w2, strOf_ints, txT, sOf]
    · rw [if_neg hn, if_pos h39]
      simp only [s85, n85, ↓evPre, ev0, ev1, ev2, ev3, ev4, ev5, Nat.reduceLT, entE, getE, putE, ↓reduceIte, Nat.reduceEqDiff, argsE, Int.reduceEq, convertA, lenA, foldI, A.cells, A.leaf, List.replicate, viewA, getO, Nat.reduceLeDiff, loadA, cellsAt, cellsTo, faA, indexAddrA, asInt, Int.reduceLE, Int.reduceLT, Int.reduceToNat, eq_self, Nat.reducePow, Int.reducePow, Int.reduceAdd, Int.reduceMul, Int.reduceSub, Int.reduceNeg, keyOk, mapPutA, lookupA, mapOf, sliceA, boundI, elemsOf, appendA, storeA, setRange, indexA, Nat.reduceBEq, Int.cast_ofNat_Int, reduceCtorEq, Nat.reduceAdd, Nat.reduceMul, Nat.reduceSub, evTy0, evTy1, evTy2, evTy3, evTy4, evTy5, evTy6, evTy7, evTy8, h1, h2, g1, g2, ints_tk, ints_dr, htk, hr0, h40, l40, callR_data hi rfl rfl, hn, h39, txT]
      rfl
  · have e : r.take 40 = r := List.take_of_length_le (by omega)
    rw [e] at hi
    have l0 : (0 : Int) ≤ r.length := by omega
    by_cases hn : 0 ≤ i
    · rw [if_pos hn]
      have hx2 := hx.2
      simp only [s85, n85, ↓evPre, ev0, ev1, ev2, ev3, ev4, ev5, Nat.reduceLT, entE, getE, putE, ↓reduceIte, Nat.reduceEqDiff, argsE, Int.reduceEq, convertA, lenA, foldI, A.cells, A.leaf, List.replicate, viewA, getO, Nat.reduceLeDiff, loadA, cellsAt, cellsTo, faA, indexAddrA, asInt, Int.reduceLE, Int.reduceLT, Int.reduceToNat, eq_self, Nat.reducePow, Int.reducePow, Int.reduceAdd, Int.reduceMul, Int.reduceSub, Int.reduceNeg, keyOk, mapPutA, lookupA, mapOf, sliceA, boundI, elemsOf, appendA, storeA, setRange, indexA, Nat.reduceBEq, Int.cast_ofNat_Int, reduceCtorEq, Nat.reduceAdd, Nat.reduceMul, Nat.reduceSub, evTy0, evTy1, evTy2, evTy3, evTy4, evTy5, evTy6, evTy7, evTy8, h1, h2, g1, g2, ints_tk, ints_dr, htk, hr0, h40, l0, callR_data hi rfl rfl, hn, hx2, w1, w2, strOf_ints, txT, sOf]
    · rw [if_neg hn]
      by_cases h39 : 39 < (r.length : Int)
      · rw [if_pos h39]
        simp only [s85, n85, ↓evPre, ev0, ev1, ev2, ev3, ev4, ev5, Nat.reduceLT, entE, getE, putE, ↓reduceIte, Nat.reduceEqDiff, argsE, Int.reduceEq, convertA, lenA, foldI, A.cells, A.leaf, List.replicate, viewA, getO, Nat.reduceLeDiff, loadA, cellsAt, cellsTo, faA, indexAddrA, asInt, Int.reduceLE, Int.reduceLT, Int.reduceToNat, eq_self, Nat.reducePow, Int.reducePow, Int.reduceAdd, Int.reduceMul, Int.reduceSub, Int.reduceNeg, keyOk, mapPutA, lookupA, mapOf, sliceA, boundI, elemsOf, appendA, storeA, setRange, indexA, Nat.reduceBEq, Int.cast_ofNat_Int, reduceCtorEq, Nat.reduceAdd, Nat.reduceMul, Nat.reduceSub, evTy0, evTy1, evTy2, evTy3, evTy4, evTy5, evTy6, evTy7, evTy8, h1, h2, g1, g2, ints_tk, ints_dr, htk, hr0, h40, l0, callR_data hi rfl rfl, hn, h39, txT]
        rfl
      · rw [if_neg h39]
        simp only [s85, n85, ↓evPre, ev0, ev1, ev2, ev3, ev4, ev5, Nat.reduceLT, entE, getE, putE, ↓reduceIte, Nat.reduceEqDiff, argsE, Int.reduceEq, convertA, lenA, foldI, A.cells, A.leaf, List.replicate, viewA, getO, Nat.reduceLeDiff, loadA, cellsAt, cellsTo, faA, indexAddrA, asInt, Int.reduceLE, Int.reduceLT, Int.reduceToNat, eq_self, Nat.reducePow, Int.reducePow, Int.reduceAdd, Int.reduceMul, Int.reduceSub, Int.reduceNeg, keyOk, mapPutA, lookupA, mapOf, sliceA, boundI, elemsOf, appendA, storeA, setRange, indexA, Nat.reduceBEq, Int.cast_ofNat_Int, reduceCtorEq, Nat.reduceAdd, Nat.reduceMul, Nat.reduceSub, evTy0, evTy1, evTy2, evTy3, evTy4, evTy5, evTy6, evTy7, evTy8, h1, h2, g1, g2, ints_tk, ints_dr, htk, hr0, h40, l0, callR_data hi rfl rfl, hn, h39, txT]
        rfl

theorem tx_good {b : List Int} {p : Int} (h : (txV b p).2.2 = 0) : 0 ≤ p ∧ p ≤ b.length ∧ 0 ≤ (txV b p).2.1 ∧ (txV b p).2.1 ≤ b.length + 40 := by
  unfold txV at h ⊢
  split at h
  · simp at h
  · rename_i h1
    split at h
    · rename_i h2
      rw [if_neg h1, if_pos h2]
      have := (ix_ge 0 ((b.drop p.toNat).take 40)).2
      simp only [List.length_take, List.length_drop] at this
      simp only
      omega
    · split at h <;> simp at h

theorem tx_len (b : List Int) (p : Int) : (txV b p).1.size ≤ 40 := by
  unfold txV
  split
  · exact Nat.zero_le _
  · split
    · have := (ix_ge 0 ((b.drop p.toNat).take 40)).2
      simp only [sOf_len, List.length_take, List.length_drop] at this ⊢
      omega
    · split <;> exact Nat.zero_le _

theorem Principal_ev (k : Nat) (hk : 60 ≤ k) (b : List Int) (hb : b.length ≤ 1000000) (ho : okL b) (p : Int) (hp : p ≤ 2000000 ∧ -9223372036854775808 ≤ p) : callF Try.prog Hs E1 k 91 [.d (.sl 1 (ints .u8 b)), .d (.int .i64 p)] [] = some (prT (prV b p), []) := by
  obtain ⟨k, rfl⟩ : ∃ j, k = j + 6 := ⟨k - 6, by omega⟩
  refine evalE rfl Try.func91 l91 ?_ (Nat.le_of_ble_eq_true rfl)
  unfold prV
  have f1 := Text_ev (k + 5) (by omega) b hb ho p hp
  have g1 := tx_good (b := b) (p := p)
  have s1 := tx_len b p
  generalize txV b p = v1 at *
  obtain ⟨x1, p1, e1⟩ := v1
  simp only [txT] at f1
  simp only at g1 s1
  by_cases h1 : e1 = 0
  · have := g1 h1
    subst h1
    have f2 := Text_ev (k + 5) (by omega) b hb ho p1 (by omega)
    have g2 := tx_good (b := b) (p := p1)
    have s2 := tx_len b p1
    simp only [if_true]
    generalize txV b p1 = v2 at *
    obtain ⟨x2, p2, e2⟩ := v2
    simp only [txT] at f2
    simp only at g2 s2
    by_cases h2 : e2 = 0
    · have := g2 h2
      subst h2
      have f3 := Text_ev (k + 5) (by omega) b hb ho p2 (by omega)
      have s3 := tx_len b p2
      simp only [if_true]
      generalize txV b p2 = v3 at *
      obtain ⟨x3, p3, e3⟩ := v3
      simp only [txT] at f3
      simp only at s3
      by_cases h3 : e3 = 0
      · subst h3
        have f4 := Valid_ev (k + 5) 40 ⟨x1, x2, x3⟩ (by omega) ⟨by simpa using s1, by simpa using s2, by simpa using s3⟩ (by omega)
        simp only at f4
        cases hv : validB ⟨x1, x2, x3⟩ <;> rw [hv] at f4
        · simp only [s91, n91, s91_0, ↓l_succ, ↓evPre, ev0, ev1, ev2, ev3, ev4, ev5, Nat.reduceLT, entE, getE, putE, ↓reduceIte, Nat.reduceEqDiff, argsE, Int.reduceEq, convertA, lenA, foldI, A.cells, A.leaf, List.replicate, viewA, getO, Nat.reduceLeDiff, loadA, cellsAt, cellsTo, faA, indexAddrA, asInt, Int.reduceLE, Int.reduceLT, Int.reduceToNat, eq_self, Nat.reducePow, Int.reducePow, Int.reduceAdd, Int.reduceMul, Int.reduceSub, Int.reduceNeg, keyOk, mapPutA, lookupA, mapOf, sliceA, boundI, elemsOf, appendA, storeA, setRange, indexA, Nat.reduceBEq, Int.cast_ofNat_Int, reduceCtorEq, Nat.reduceAdd, Nat.reduceMul, Nat.reduceSub, evTy0, evTy1, evTy2, evTy3, evTy4, evTy5, evTy6, evTy7, evTy8, callR_data f1 rfl rfl, callR_data f2 rfl rfl, callR_data f3 rfl rfl, callR_data f4 rfl rfl, prT]
          rfl
        · simp only [s91, n91, s91_0, ↓l_succ, ↓evPre, ev0, ev1, ev2, ev3, ev4, ev5, Nat.reduceLT, entE, getE, putE, ↓reduceIte, Nat.reduceEqDiff, argsE, Int.reduceEq, convertA, lenA, foldI, A.cells, A.leaf, List.replicate, viewA, getO, Nat.reduceLeDiff, loadA, cellsAt, cellsTo, faA, indexAddrA, asInt, Int.reduceLE, Int.reduceLT, Int.reduceToNat, eq_self, Nat.reducePow, Int.reducePow, Int.reduceAdd, Int.reduceMul, Int.reduceSub, Int.reduceNeg, keyOk, mapPutA, lookupA, mapOf, sliceA, boundI, elemsOf, appendA, storeA, setRange, indexA, Nat.reduceBEq, Int.cast_ofNat_Int, reduceCtorEq, Nat.reduceAdd, Nat.reduceMul, Nat.reduceSub, evTy0, evTy1, evTy2, evTy3, evTy4, evTy5, evTy6, evTy7, evTy8, callR_data f1 rfl rfl, callR_data f2 rfl rfl, callR_data f3 rfl rfl, callR_data f4 rfl rfl, prT]
      · simp only [s91, n91, s91_0, ↓l_succ, ↓evPre, ev0, ev1, ev2, ev3, ev4, ev5, Nat.reduceLT, entE, getE, putE, ↓reduceIte, Nat.reduceEqDiff, argsE, Int.reduceEq, convertA, lenA, foldI, A.cells, A.leaf, List.replicate, viewA, getO, Nat.reduceLeDiff, loadA, cellsAt, cellsTo, faA, indexAddrA, asInt, Int.reduceLE, Int.reduceLT, Int.reduceToNat, eq_self, Nat.reducePow, Int.reducePow, Int.reduceAdd, Int.reduceMul, Int.reduceSub, Int.reduceNeg, keyOk, mapPutA, lookupA, mapOf, sliceA, boundI, elemsOf, appendA, storeA, setRange, indexA, Nat.reduceBEq, Int.cast_ofNat_Int, reduceCtorEq, Nat.reduceAdd, Nat.reduceMul, Nat.reduceSub, evTy0, evTy1, evTy2, evTy3, evTy4, evTy5, evTy6, evTy7, evTy8, callR_data f1 rfl rfl, callR_data f2 rfl rfl, callR_data f3 rfl rfl, h3, prT]
        rfl
    · simp only [s91, n91, s91_0, ↓l_succ, ↓evPre, ev0, ev1, ev2, ev3, ev4, ev5, Nat.reduceLT, entE, getE, putE, ↓reduceIte, Nat.reduceEqDiff, argsE, Int.reduceEq, convertA, lenA, foldI, A.cells, A.leaf, List.replicate, viewA, getO, Nat.reduceLeDiff, loadA, cellsAt, cellsTo, faA, indexAddrA, asInt, Int.reduceLE, Int.reduceLT, Int.reduceToNat, eq_self, Nat.reducePow, Int.reducePow, Int.reduceAdd, Int.reduceMul, Int.reduceSub, Int.reduceNeg, keyOk, mapPutA, lookupA, mapOf, sliceA, boundI, elemsOf, appendA, storeA, setRange, indexA, Nat.reduceBEq, Int.cast_ofNat_Int, reduceCtorEq, Nat.reduceAdd, Nat.reduceMul, Nat.reduceSub, evTy0, evTy1, evTy2, evTy3, evTy4, evTy5, evTy6, evTy7, evTy8, callR_data f1 rfl rfl, callR_data f2 rfl rfl, h2, prT]
      rfl
  · simp only [s91, n91, s91_0, ↓l_succ, ↓evPre, ev0, ev1, ev2, ev3, ev4, ev5, Nat.reduceLT, entE, getE, putE, ↓reduceIte, Nat.reduceEqDiff, argsE, Int.reduceEq, convertA, lenA, foldI, A.cells, A.leaf, List.replicate, viewA, getO, Nat.reduceLeDiff, loadA, cellsAt, cellsTo, faA, indexAddrA, asInt, Int.reduceLE, Int.reduceLT, Int.reduceToNat, eq_self, Nat.reducePow, Int.reducePow, Int.reduceAdd, Int.reduceMul, Int.reduceSub, Int.reduceNeg, keyOk, mapPutA, lookupA, mapOf, sliceA, boundI, elemsOf, appendA, storeA, setRange, indexA, Nat.reduceBEq, Int.cast_ofNat_Int, reduceCtorEq, Nat.reduceAdd, Nat.reduceMul, Nat.reduceSub, evTy0, evTy1, evTy2, evTy3, evTy4, evTy5, evTy6, evTy7, evTy8, callR_data f1 rfl rfl, h1, prT]
    rfl
end Fi
end Ab
