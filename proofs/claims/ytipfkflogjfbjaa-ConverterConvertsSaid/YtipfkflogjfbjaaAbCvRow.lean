/- A part of the proof of a row by an interpreter that is proved sound; no conditions of its own. -/
import Derived.Test.YtipfkflogjfbjaaAbCvB
import Derived.Test.YtipfkflogjfbjaaAbOpen
namespace Ab
open Go Go.Proofs Go.IntWalk
namespace Cv
open Pr Key

def recSh : List CS := [.str, .str, .str, .str, .str, .str, .int .u64, .int .i64, .int .i64, .int .i64]

theorem rec_of {ds : List D} (h : FitsL recSh ds) : ∃ r : Rec, A.agg (ds.map .d) = r.a ∧ (0 ≤ r.key ∧ r.key ≤ 18446744073709551615) ∧ (-9223372036854775808 ≤ r.start ∧ r.start ≤ 9223372036854775807) ∧ (-9223372036854775808 ≤ r.fin ∧ r.fin ≤ 9223372036854775807) := by
  simp only [recSh, FitsL, Fits] at h
  obtain ⟨_, _, rfl, ⟨s1, rfl, _⟩, _, _, rfl, ⟨s2, rfl, _⟩, _, _, rfl, ⟨s3, rfl, _⟩, _, _, rfl, ⟨s4, rfl, _⟩, _, _, rfl, ⟨s5, rfl, _⟩, _, _, rfl, ⟨s6, rfl, _⟩, _, _, rfl, ⟨n1, rfl, w1⟩, _, _, rfl, ⟨n2, rfl, w2⟩, _, _, rfl, ⟨n3, rfl, w3⟩, _, _, rfl, ⟨n4, rfl, w4⟩, rfl⟩ := h
  exact ⟨⟨⟨s1, s2, s3⟩, ⟨s4, s5, s6⟩, n1, n2, n3, n4⟩, rfl, wf_u64 w1, wf_i64 w2, wf_i64 w3⟩
end Cv
end Ab
