/- A part of the proof of a row by an interpreter that is proved sound; no conditions of its own. -/
import Derived.Test.YtipfkflogjfbjaaAbRpD
import Derived.Test.YtipfkflogjfbjaaAbOpen
namespace Ab
open Go Go.Proofs Go.IntWalk
namespace Rp
open Pr Key

def mkSh : List CS := [.str, .str, .str, .int .i64, .int .i64]
def caSh : List CS := [.int .i64, .int .i64, .sl mkSh]
def usSh : List CS := [.int .u8, .int .u8, .int .u8, .int .u8]

theorem mk_fit {ds : List D} (h : FitsL mkSh ds) : ∃ m : Mk, ds = m.d ∧ (-9223372036854775808 ≤ m.t ∧ m.t ≤ 9223372036854775807) ∧ (-9223372036854775808 ≤ m.k ∧ m.k ≤ 9223372036854775807) := by
  simp only [mkSh, FitsL, Fits] at h
  obtain ⟨_, _, rfl, ⟨s1, rfl, _⟩, _, _, rfl, ⟨s2, rfl, _⟩, _, _, rfl, ⟨s3, rfl, _⟩, _, _, rfl, ⟨n1, rfl, w1⟩, _, _, rfl, ⟨n2, rfl, w2⟩, rfl⟩ := h
  exact ⟨⟨s1, s2, s3, n1, n2⟩, rfl, wf_i64 w1, wf_i64 w2⟩

theorem mk_list : ∀ {es : List (List D)}, (∀ e ∈ es, FitsL mkSh e) → ∃ l : List Mk, es = l.map Mk.d := by
  intro es
  induction es with
  | nil => intro _; exact ⟨[], rfl⟩
  | cons e es ih =>
    intro h
    obtain ⟨m, rfl, _⟩ := mk_fit (h e (by simp))
    obtain ⟨l, rfl⟩ := ih fun x hx => h x (by simp [hx])
    exact ⟨m :: l, rfl⟩

theorem mk_of {ds : List D} (h : FitsL mkSh ds) : ∃ m : Mk, A.agg (ds.map .d) = .agg [.d (.str m.n), .d (.str m.i), .d (.str m.r), .d (.int .i64 m.t), .d (.int .i64 m.k)] ∧ (-9223372036854775808 ≤ m.t ∧ m.t ≤ 9223372036854775807) ∧ (-9223372036854775808 ≤ m.k ∧ m.k ≤ 9223372036854775807) := by
  obtain ⟨m, rfl, hm⟩ := mk_fit h
  exact ⟨m, rfl, hm⟩

theorem ca_of {ds : List D} (h : FitsL caSh ds) : ∃ c : Ca, A.agg (ds.map .d) = .agg [.d (.int .i64 c.s), .d (.int .i64 c.f), .d (.sl 5 (c.ms.map Mk.d))] ∧ (-9223372036854775808 ≤ c.f ∧ c.f ≤ 9223372036854775807) := by
  simp only [caSh, FitsL, Fits] at h
  obtain ⟨_, _, rfl, ⟨n1, rfl, w1⟩, _, _, rfl, ⟨n2, rfl, w2⟩, _, _, rfl, ⟨es, rfl, _, he⟩, rfl⟩ := h
  obtain ⟨l, rfl⟩ := mk_list he
  exact ⟨⟨n1, n2, l⟩, rfl, wf_i64 w2⟩

theorem us_fit {ds : List D} (h : FitsL usSh ds) : ∃ u : Us, ds = u.d ∧ u.ok := by
  simp only [usSh, FitsL, Fits] at h
  obtain ⟨_, _, rfl, ⟨n1, rfl, w1⟩, _, _, rfl, ⟨n2, rfl, w2⟩, _, _, rfl, ⟨n3, rfl, w3⟩, _, _, rfl, ⟨n4, rfl, w4⟩, rfl⟩ := h
  exact ⟨⟨n1, n2, n3, n4⟩, rfl, wf_u8 w1, wf_u8 w2, wf_u8 w3, wf_u8 w4⟩

theorem us_agg {ds : List D} (h : FitsL usSh ds) : ∃ u : Us, A.agg (ds.map .d) = .agg [.d (.int .u8 u.w), .d (.int .u8 u.t), .d (.int .u8 u.k), .d (.int .u8 u.n)] ∧ u.ok := by
  obtain ⟨u, rfl, hu⟩ := us_fit h
  exact ⟨u, rfl, hu⟩

theorem us_of : ∀ {es : List (List D)}, (∀ e ∈ es, FitsL usSh e) → ∃ l : List Us, es = l.map Us.d ∧ ∀ u ∈ l, u.ok := by
  intro es
  induction es with
  | nil => intro _; exact ⟨[], rfl, by simp⟩
  | cons e es ih =>
    intro h
    obtain ⟨u, rfl, hu⟩ := us_fit (h e (by simp))
    obtain ⟨l, rfl, hl⟩ := ih fun x hx => h x (by simp [hx])
    refine ⟨u :: l, rfl, ?_⟩
    intro x hx
    rcases List.mem_cons.1 hx with rfl | hx
    · exact hu
    · exact hl x hx
end Rp
end Ab
