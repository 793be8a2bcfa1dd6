/- A part of the proof of a row by an interpreter that is proved sound; no conditions of its own. -/
import Derived.Test.YtpoheolnnbgebaaAbFdC
import Derived.Test.YtpoheolnnbgebaaAbOpen
namespace Ab
open Go Go.Proofs Go.IntWalk
namespace Ka
open Pr Key Fi

def byteSh : CS := .sl [.int .u8]
def repSh : List CS := [.int .i64, .int .i64, byteSh]

theorem bytes_fit : ∀ {es : List (List D)}, (∀ e ∈ es, FitsL [.int .u8] e) → ∃ l : List Int, es = ints .u8 l ∧ okL l := by
  intro es
  induction es with
  | nil => intro _; exact ⟨[], rfl, okL_nil⟩
  | cons e es ih =>
    intro h
    have h1 := h e (by simp)
    simp only [FitsL, Fits] at h1
    obtain ⟨_, _, rfl, ⟨n, rfl, w⟩, rfl⟩ := h1
    obtain ⟨l, rfl, hl⟩ := ih fun x hx => h x (by simp [hx])
    exact ⟨n :: l, rfl, okL_cons.2 ⟨wf_u8 w, hl⟩⟩

theorem rep_of {ds : List D} (h : FitsL repSh ds) : ∃ r : Rep, A.agg (ds.map .d) = .agg [.d (.int .i64 r.op), .d (.int .i64 r.code), .d (.sl 1 (ints .u8 r.box))] ∧ okL r.box := by
  simp only [repSh, byteSh, FitsL, Fits] at h
  obtain ⟨_, _, rfl, ⟨n1, rfl, w1⟩, _, _, rfl, ⟨n2, rfl, w2⟩, _, _, rfl, ⟨es, rfl, _, he⟩, rfl⟩ := h
  obtain ⟨l, rfl, hl⟩ := bytes_fit (fun e he' => by have := he e he'; simpa only [FitsL, Fits] using this)
  exact ⟨⟨n1, n2, l⟩, rfl, hl⟩
end Ka
end Ab
