/- A part of the proof of a row by an interpreter that is proved sound; no conditions of its own. -/
import Derived.Test.YtpoheolnnbgebaaAbFdC
import Derived.Test.YtpoheolnnbgebaaAbOpen
import Derived.Test.YtpoheolnnbgebaaAbKaSec
namespace Ab
open Go Go.Proofs Go.IntWalk
namespace Ka
open Pr Key Fi

def byteSh : CS := .sl [.int .u8]
def repSh : List CS := [.int .i64, .int .i64, byteSh]

theorem bytes_fit : ∀ {es : List (List D)}, (∀ e ∈ es, FitsL [.int .u8] e) → ∃ l : List Int, es = ints .u8 l ∧ okL l := by
  intro es
  induction es with
  | nil => intro _; exact ⟨[], rfl, okL_nil⟩
  | cons e es ih =>
    intro h
    have h1 := h e (by simp)
    simp only [FitsL, Fits] at h1
    obtain ⟨_, _, rfl, ⟨n, rfl, w⟩, rfl⟩ := h1
    obtain ⟨l, rfl, hl⟩ := ih fun x hx => h x (by simp [hx])
    exact ⟨n :: l, rfl, okL_cons.2 ⟨wf_u8 w, hl⟩⟩

theorem rep_of {ds : List D} (h : FitsL repSh ds) : ∃ r : Rep, A.agg (ds.map .d) = .agg [.d (.int .i64 r.op), .d (.int .i64 r.code), .d (.sl 1 (ints .u8 r.box))] ∧ okL r.box := by
  simp only [repSh, byteSh, FitsL, Fits] at h
  obtain ⟨_, _, rfl, ⟨n1, rfl, w1⟩, _, _, rfl, ⟨n2, rfl, w2⟩, _, _, rfl, ⟨es, rfl, _, he⟩, rfl⟩ := h
  obtain ⟨l, rfl, hl⟩ := bytes_fit (fun e he' => by have := he e he'; simpa only [FitsL, Fits] using this)
  exact ⟨⟨n1, n2, l⟩, rfl, hl⟩
end Ka
end Ab
namespace Ab
open Go Go.Proofs Go.IntWalk
namespace Ka
open Pr Key Fi

def secSh : List CS := [.str, .int .i64, .int .i64, .int .i64, .int .u64]
def askSh : List CS := [.int .u8, .int .u8, .int .u8, .int .u8, .int .u8, .int .u32, .int .u32, .int .u32, .int .u8, byteSh, byteSh, .int .u8]

theorem sec_of {ds : List D} (h : FitsL secSh ds) : ∃ s : Sec, A.agg (ds.map .d) = .agg [.d (.str s.label), .d (.int .i64 s.time), .d (.int .i64 s.start), .d (.int .i64 s.fin), .d (.int .u64 s.key)] ∧ (0 ≤ s.key ∧ s.key ≤ 18446744073709551615) := by
  simp only [secSh, FitsL, Fits] at h
  obtain ⟨_, _, rfl, ⟨s1, rfl, _⟩, _, _, rfl, ⟨n1, rfl, w1⟩, _, _, rfl, ⟨n2, rfl, w2⟩, _, _, rfl, ⟨n3, rfl, w3⟩, _, _, rfl, ⟨n4, rfl, w4⟩, rfl⟩ := h
  exact ⟨⟨s1, n1, n2, n3, n4⟩, rfl, wf_u64 w4⟩

theorem ask_of {ds : List D} (h : FitsL askSh ds) : ∃ a : Ask, A.agg (ds.map .d) = .agg [.d (.int .u8 a.op), .d (.int .u8 a.user), .d (.int .u8 a.kvno), .d (.int .u8 a.serv), .d (.int .u8 a.label), .d (.int .u32 a.time), .d (.int .u32 a.start), .d (.int .u32 a.fin), .d (.int .u8 a.key), .d (.sl 1 (ints .u8 a.tick)), .d (.sl 1 (ints .u8 a.box)), .d (.int .u8 a.extra)] ∧ a.ok := by
  simp only [askSh, byteSh, FitsL, Fits] at h
  obtain ⟨_, _, rfl, ⟨n1, rfl, w1⟩, _, _, rfl, ⟨n2, rfl, w2⟩, _, _, rfl, ⟨n3, rfl, w3⟩, _, _, rfl, ⟨n4, rfl, w4⟩, _, _, rfl, ⟨n5, rfl, w5⟩, _, _, rfl, ⟨n6, rfl, w6⟩, _, _, rfl, ⟨n7, rfl, w7⟩, _, _, rfl, ⟨n8, rfl, w8⟩, _, _, rfl, ⟨n9, rfl, w9⟩, _, _, rfl, ⟨e1, rfl, _, k1⟩, _, _, rfl, ⟨e2, rfl, _, k2⟩, _, _, rfl, ⟨n10, rfl, w10⟩, rfl⟩ := h
  obtain ⟨l1, rfl, o1⟩ := bytes_fit (fun e he' => by have := k1 e he'; simpa only [FitsL, Fits] using this)
  obtain ⟨l2, rfl, o2⟩ := bytes_fit (fun e he' => by have := k2 e he'; simpa only [FitsL, Fits] using this)
  exact ⟨⟨n1, n2, n3, n4, n5, n6, n7, n8, n9, l1, l2, n10⟩, rfl, ⟨wf_u8 w1, wf_u8 w2, wf_u8 w3, wf_u8 w4, wf_u8 w5⟩, ⟨wf_u32 w6, wf_u32 w7, wf_u32 w8⟩, wf_u8 w9, ⟨o1, o2⟩, wf_u8 w10⟩
end Ka
end Ab
