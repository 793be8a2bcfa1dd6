/-
  No cell of these rows narrows 'for every input' (looked for: loops, veiled, ifaces, maps, wideKeys, modest, calm, conditions, laid).
  DERIVED. THE GIVEN ROWS OF THIS SEAT. 12 by the template 'for every input the law returns true; each argument reads behind the call as it read before'; 0 by the template 'total and deterministic' (their statements: YtdpelehbgnnpoaaTotals.lean).
  GIVEN WITH THE SEED: the statements are not yours to turn. If you find one false, say at which input.
  Laid BY PROGRAM, IN A SANDBOX (cutbox-rows.mjs): the forced cells as the released guide's own fill.sh prints them over the translation fe82f7efc3bc89f9… (all of the seat's roots in one cut). By AI agents, Wed Nov 11 2026. No macro, syntax, notation, axiom, sorry.
-/
import Derived.Test.YtdpelehbgnnpoaaChecked
import GoSem.Claim
import GoSem.ClaimJoined
import GoSem.ClaimMapViews
import Derived.JoinedTies
import Derived.KernelRfl
namespace Go.Proofs.Ytdpelehbgnnpoaa
/- THE CELL 'sum', in the pinned program and in every row, IS THE sha256 OF THE DUMP (.gsa) THAT YtdpelehbgnnpoaaProg.lean LOADS. Nothing in Lean hashes anything: it is a label: what it is worth is what the hold of that sum in a sandbox is worth. -/
noncomputable def Try.pinned : Pinned := { name := "ytdpelehbgnnpoaa", sum := "fe82f7efc3bc89f9145b33acf71955167af053a6065359c73162b8d8a4d17e32", checked := Try.checked }
namespace Rows
def none {H : Type} : Left H := { results := [], args := [] }

/-- 'kerbsuitelaw8.HeaderPuts': WHATEVER THE INPUT: true; the input reads as it did. -/
def headerPutsSpec : ChangeSpec := { name := "headerPuts", fn := fun _ => fun
  | [d1, d2, d3, d4] => { results := [.lit (.bool true)], args := [d1, d2, d3, d4] }
  | _ => none }
def headerPutsRow : OpenClaim := { program := "ytdpelehbgnnpoaa", sum := "fe82f7efc3bc89f9145b33acf71955167af053a6065359c73162b8d8a4d17e32", func := "kerbsuite/kerbsuitelaw8.HeaderPuts", spec := "headerPuts", apart := false }
def HeaderPutsSaid : Prop := headerPutsRow.holds Try.pinned (OpenSpec.ofChange headerPutsSpec)

/-- ITS FALSE NEIGHBOUR: 'it returns false'. Refute it at one input. -/
def headerPutsWrong : ChangeSpec := { name := "headerPuts", fn := fun _ => fun
  | [d1, d2, d3, d4] => { results := [.lit (.bool false)], args := [d1, d2, d3, d4] }
  | _ => none }
def HeaderPutsWrongFalsely : Prop := headerPutsRow.holds Try.pinned (OpenSpec.ofChange headerPutsWrong)

/-- 'kerbsuitelaw8.HeaderReads': WHATEVER THE INPUT: true; the input reads as it did. -/
def headerReadsSpec : ChangeSpec := { name := "headerReads", fn := fun _ => fun
  | [d1, d2, d3] => { results := [.lit (.bool true)], args := [d1, d2, d3] }
  | _ => none }
def headerReadsRow : OpenClaim := { program := "ytdpelehbgnnpoaa", sum := "fe82f7efc3bc89f9145b33acf71955167af053a6065359c73162b8d8a4d17e32", func := "kerbsuite/kerbsuitelaw8.HeaderReads", spec := "headerReads", apart := false }
def HeaderReadsSaid : Prop := headerReadsRow.holds Try.pinned (OpenSpec.ofChange headerReadsSpec)

/-- ITS FALSE NEIGHBOUR: 'it returns false'. Refute it at one input. -/
def headerReadsWrong : ChangeSpec := { name := "headerReads", fn := fun _ => fun
  | [d1, d2, d3] => { results := [.lit (.bool false)], args := [d1, d2, d3] }
  | _ => none }
def HeaderReadsWrongFalsely : Prop := headerReadsRow.holds Try.pinned (OpenSpec.ofChange headerReadsWrong)

/-- 'kerbsuitelaw2.LifetimeEnds': WHATEVER THE INPUT: true; the input reads as it did. -/
def lifetimeEndsSpec : ChangeSpec := { name := "lifetimeEnds", fn := fun _ => fun
  | [d1, d2, d3, d4] => { results := [.lit (.bool true)], args := [d1, d2, d3, d4] }
  | _ => none }
def lifetimeEndsRow : OpenClaim := { program := "ytdpelehbgnnpoaa", sum := "fe82f7efc3bc89f9145b33acf71955167af053a6065359c73162b8d8a4d17e32", func := "kerbsuite/kerbsuitelaw2.LifetimeEnds", spec := "lifetimeEnds", apart := false }
def LifetimeEndsSaid : Prop := lifetimeEndsRow.holds Try.pinned (OpenSpec.ofChange lifetimeEndsSpec)

/-- ITS FALSE NEIGHBOUR: 'it returns false'. Refute it at one input. -/
def lifetimeEndsWrong : ChangeSpec := { name := "lifetimeEnds", fn := fun _ => fun
  | [d1, d2, d3, d4] => { results := [.lit (.bool false)], args := [d1, d2, d3, d4] }
  | _ => none }
def LifetimeEndsWrongFalsely : Prop := lifetimeEndsRow.holds Try.pinned (OpenSpec.ofChange lifetimeEndsWrong)

/-- 'kerbsuitelaw2.LifetimeSeconds': WHATEVER THE INPUT: true; the input reads as it did. -/
def lifetimeSecondsSpec : ChangeSpec := { name := "lifetimeSeconds", fn := fun _ => fun
  | [d] => { results := [.lit (.bool true)], args := [d] }
  | _ => none }
def lifetimeSecondsRow : OpenClaim := { program := "ytdpelehbgnnpoaa", sum := "fe82f7efc3bc89f9145b33acf71955167af053a6065359c73162b8d8a4d17e32", func := "kerbsuite/kerbsuitelaw2.LifetimeSeconds", spec := "lifetimeSeconds", apart := false }
def LifetimeSecondsSaid : Prop := lifetimeSecondsRow.holds Try.pinned (OpenSpec.ofChange lifetimeSecondsSpec)

/-- ITS FALSE NEIGHBOUR: 'it returns false'. Refute it at one input. -/
def lifetimeSecondsWrong : ChangeSpec := { name := "lifetimeSeconds", fn := fun _ => fun
  | [d] => { results := [.lit (.bool false)], args := [d] }
  | _ => none }
def LifetimeSecondsWrongFalsely : Prop := lifetimeSecondsRow.holds Try.pinned (OpenSpec.ofChange lifetimeSecondsWrong)

/-- 'kerbsuitelaw2.LifetimeGrants': WHATEVER THE INPUT: true; the input reads as it did. -/
def lifetimeGrantsSpec : ChangeSpec := { name := "lifetimeGrants", fn := fun _ => fun
  | [d1, d2, d3, d4, d5, d6] => { results := [.lit (.bool true)], args := [d1, d2, d3, d4, d5, d6] }
  | _ => none }
def lifetimeGrantsRow : OpenClaim := { program := "ytdpelehbgnnpoaa", sum := "fe82f7efc3bc89f9145b33acf71955167af053a6065359c73162b8d8a4d17e32", func := "kerbsuite/kerbsuitelaw2.LifetimeGrants", spec := "lifetimeGrants", apart := false }
def LifetimeGrantsSaid : Prop := lifetimeGrantsRow.holds Try.pinned (OpenSpec.ofChange lifetimeGrantsSpec)

/-- ITS FALSE NEIGHBOUR: 'it returns false'. Refute it at one input. -/
def lifetimeGrantsWrong : ChangeSpec := { name := "lifetimeGrants", fn := fun _ => fun
  | [d1, d2, d3, d4, d5, d6] => { results := [.lit (.bool false)], args := [d1, d2, d3, d4, d5, d6] }
  | _ => none }
def LifetimeGrantsWrongFalsely : Prop := lifetimeGrantsRow.holds Try.pinned (OpenSpec.ofChange lifetimeGrantsWrong)

/-- 'kerbsuitelaw2.LifetimeMonotone': WHATEVER THE INPUT: true; the input reads as it did. -/
def lifetimeMonotoneSpec : ChangeSpec := { name := "lifetimeMonotone", fn := fun _ => fun
  | [d1, d2, d3, d4] => { results := [.lit (.bool true)], args := [d1, d2, d3, d4] }
  | _ => none }
def lifetimeMonotoneRow : OpenClaim := { program := "ytdpelehbgnnpoaa", sum := "fe82f7efc3bc89f9145b33acf71955167af053a6065359c73162b8d8a4d17e32", func := "kerbsuite/kerbsuitelaw2.LifetimeMonotone", spec := "lifetimeMonotone", apart := false }
def LifetimeMonotoneSaid : Prop := lifetimeMonotoneRow.holds Try.pinned (OpenSpec.ofChange lifetimeMonotoneSpec)

/-- ITS FALSE NEIGHBOUR: 'it returns false'. Refute it at one input. -/
def lifetimeMonotoneWrong : ChangeSpec := { name := "lifetimeMonotone", fn := fun _ => fun
  | [d1, d2, d3, d4] => { results := [.lit (.bool false)], args := [d1, d2, d3, d4] }
  | _ => none }
def LifetimeMonotoneWrongFalsely : Prop := lifetimeMonotoneRow.holds Try.pinned (OpenSpec.ofChange lifetimeMonotoneWrong)

/-- 'kerbsuitelaw8.HeaderIs': WHATEVER THE INPUT: true; the input reads as it did. -/
def headerIsSpec : ChangeSpec := { name := "headerIs", fn := fun _ => fun
  | [d1, d2, d3, d4] => { results := [.lit (.bool true)], args := [d1, d2, d3, d4] }
  | _ => none }
def headerIsRow : OpenClaim := { program := "ytdpelehbgnnpoaa", sum := "fe82f7efc3bc89f9145b33acf71955167af053a6065359c73162b8d8a4d17e32", func := "kerbsuite/kerbsuitelaw8.HeaderIs", spec := "headerIs", apart := false }
def HeaderIsSaid : Prop := headerIsRow.holds Try.pinned (OpenSpec.ofChange headerIsSpec)

/-- ITS FALSE NEIGHBOUR: 'it returns false'. Refute it at one input. -/
def headerIsWrong : ChangeSpec := { name := "headerIs", fn := fun _ => fun
  | [d1, d2, d3, d4] => { results := [.lit (.bool false)], args := [d1, d2, d3, d4] }
  | _ => none }
def HeaderIsWrongFalsely : Prop := headerIsRow.holds Try.pinned (OpenSpec.ofChange headerIsWrong)

/-- 'kerbsuitelaw3.KeyMakes': WHATEVER THE INPUT: true; the input reads as it did. -/
def keyMakesSpec : ChangeSpec := { name := "keyMakes", fn := fun _ => fun
  | [d1, d2, d3, d4] => { results := [.lit (.bool true)], args := [d1, d2, d3, d4] }
  | _ => none }
def keyMakesRow : OpenClaim := { program := "ytdpelehbgnnpoaa", sum := "fe82f7efc3bc89f9145b33acf71955167af053a6065359c73162b8d8a4d17e32", func := "kerbsuite/kerbsuitelaw3.KeyMakes", spec := "keyMakes", apart := false }
def KeyMakesSaid : Prop := keyMakesRow.holds Try.pinned (OpenSpec.ofChange keyMakesSpec)

/-- ITS FALSE NEIGHBOUR: 'it returns false'. Refute it at one input. -/
def keyMakesWrong : ChangeSpec := { name := "keyMakes", fn := fun _ => fun
  | [d1, d2, d3, d4] => { results := [.lit (.bool false)], args := [d1, d2, d3, d4] }
  | _ => none }
def KeyMakesWrongFalsely : Prop := keyMakesRow.holds Try.pinned (OpenSpec.ofChange keyMakesWrong)

/-- 'kerbsuitelaw3.KeyDraws': WHATEVER THE INPUT: true; the input reads as it did. -/
def keyDrawsSpec : ChangeSpec := { name := "keyDraws", fn := fun _ => fun
  | [d1, d2, d3, d4, d5, d6] => { results := [.lit (.bool true)], args := [d1, d2, d3, d4, d5, d6] }
  | _ => none }
def keyDrawsRow : OpenClaim := { program := "ytdpelehbgnnpoaa", sum := "fe82f7efc3bc89f9145b33acf71955167af053a6065359c73162b8d8a4d17e32", func := "kerbsuite/kerbsuitelaw3.KeyDraws", spec := "keyDraws", apart := false }
def KeyDrawsSaid : Prop := keyDrawsRow.holds Try.pinned (OpenSpec.ofChange keyDrawsSpec)

/-- ITS FALSE NEIGHBOUR: 'it returns false'. Refute it at one input. -/
def keyDrawsWrong : ChangeSpec := { name := "keyDraws", fn := fun _ => fun
  | [d1, d2, d3, d4, d5, d6] => { results := [.lit (.bool false)], args := [d1, d2, d3, d4, d5, d6] }
  | _ => none }
def KeyDrawsWrongFalsely : Prop := keyDrawsRow.holds Try.pinned (OpenSpec.ofChange keyDrawsWrong)

/-- 'kerbsuitelaw3.KeyFresh': WHATEVER THE INPUT: true; the input reads as it did. -/
def keyFreshSpec : ChangeSpec := { name := "keyFresh", fn := fun _ => fun
  | [d1, d2, d3] => { results := [.lit (.bool true)], args := [d1, d2, d3] }
  | _ => none }
def keyFreshRow : OpenClaim := { program := "ytdpelehbgnnpoaa", sum := "fe82f7efc3bc89f9145b33acf71955167af053a6065359c73162b8d8a4d17e32", func := "kerbsuite/kerbsuitelaw3.KeyFresh", spec := "keyFresh", apart := false }
def KeyFreshSaid : Prop := keyFreshRow.holds Try.pinned (OpenSpec.ofChange keyFreshSpec)

/-- ITS FALSE NEIGHBOUR: 'it returns false'. Refute it at one input. -/
def keyFreshWrong : ChangeSpec := { name := "keyFresh", fn := fun _ => fun
  | [d1, d2, d3] => { results := [.lit (.bool false)], args := [d1, d2, d3] }
  | _ => none }
def KeyFreshWrongFalsely : Prop := keyFreshRow.holds Try.pinned (OpenSpec.ofChange keyFreshWrong)

/-- 'kerbsuitelaw2.LifetimeNear': WHATEVER THE INPUT: true; the input reads as it did. -/
def lifetimeNearSpec : ChangeSpec := { name := "lifetimeNear", fn := fun _ => fun
  | [d1, d2, d3, d4, d5, d6] => { results := [.lit (.bool true)], args := [d1, d2, d3, d4, d5, d6] }
  | _ => none }
def lifetimeNearRow : OpenClaim := { program := "ytdpelehbgnnpoaa", sum := "fe82f7efc3bc89f9145b33acf71955167af053a6065359c73162b8d8a4d17e32", func := "kerbsuite/kerbsuitelaw2.LifetimeNear", spec := "lifetimeNear", apart := false }
def LifetimeNearSaid : Prop := lifetimeNearRow.holds Try.pinned (OpenSpec.ofChange lifetimeNearSpec)

/-- ITS FALSE NEIGHBOUR: 'it returns false'. Refute it at one input. -/
def lifetimeNearWrong : ChangeSpec := { name := "lifetimeNear", fn := fun _ => fun
  | [d1, d2, d3, d4, d5, d6] => { results := [.lit (.bool false)], args := [d1, d2, d3, d4, d5, d6] }
  | _ => none }
def LifetimeNearWrongFalsely : Prop := lifetimeNearRow.holds Try.pinned (OpenSpec.ofChange lifetimeNearWrong)

/-- 'kerbsuitelaw2.LifetimeStates': WHATEVER THE INPUT: true; the input reads as it did. -/
def lifetimeStatesSpec : ChangeSpec := { name := "lifetimeStates", fn := fun _ => fun
  | [d1, d2, d3, d4, d5, d6, d7, d8] => { results := [.lit (.bool true)], args := [d1, d2, d3, d4, d5, d6, d7, d8] }
  | _ => none }
def lifetimeStatesRow : OpenClaim := { program := "ytdpelehbgnnpoaa", sum := "fe82f7efc3bc89f9145b33acf71955167af053a6065359c73162b8d8a4d17e32", func := "kerbsuite/kerbsuitelaw2.LifetimeStates", spec := "lifetimeStates", apart := false }
def LifetimeStatesSaid : Prop := lifetimeStatesRow.holds Try.pinned (OpenSpec.ofChange lifetimeStatesSpec)

/-- ITS FALSE NEIGHBOUR: 'it returns false'. Refute it at one input. -/
def lifetimeStatesWrong : ChangeSpec := { name := "lifetimeStates", fn := fun _ => fun
  | [d1, d2, d3, d4, d5, d6, d7, d8] => { results := [.lit (.bool false)], args := [d1, d2, d3, d4, d5, d6, d7, d8] }
  | _ => none }
def LifetimeStatesWrongFalsely : Prop := lifetimeStatesRow.holds Try.pinned (OpenSpec.ofChange lifetimeStatesWrong)

/- THE SECOND FORM. 'bulk': how many values and letters a reading holds, each counted each time it is reached (what is shared counts as often as it is met; a slice's spare places count too). A statement '..UptoSaid' is the law's where the arguments, and the package variables that the reading takes, are together of bulk at most 1048576: NARROWER than '..Said'. Prove '..Said' where nothing that the law and all that it calls make is longer than what came in: it says more and counts as full. Else prove '..UptoSaid'. A law counts once. -/
mutual
def uptoBulk {H : Type} : DataW H → Nat
  | .lit (.string bytes) => bytes.length + 1
  | .lit _ => 1
  | .nil => 1
  | .ptr d => uptoBulk d + 1
  | .slice elems spare => uptoBulkAll elems + uptoBulkAll spare + 1
  | .agg parts => uptoBulkAll parts + 1
  | .iface _ d => uptoBulk d + 1
  | .map entries => uptoBulkEntries entries + 1
  | .held _ => 1
def uptoBulkAll {H : Type} : List (DataW H) → Nat
  | [] => 0
  | d :: r => uptoBulk d + uptoBulkAll r
def uptoBulkEntries {H : Type} : List (Lit × DataW H) → Nat
  | [] => 0
  | x :: r => uptoBulkEntry x + uptoBulkEntries r
def uptoBulkEntry {H : Type} : Lit × DataW H → Nat
  | (.string bytes, d) => bytes.length + uptoBulk d + 1
  | (_, d) => uptoBulk d + 1
 end
def uptoSmall : (H : Type) → List (DataW H) → Bool := fun _ ds => decide (uptoBulkAll ds ≤ 1048576)
def OpenSpec.upto (s : _root_.Go.ChangeSpec) : _root_.Go.OpenSpec := { _root_.Go.OpenSpec.ofChange s with cond := some uptoSmall }

/-- 'kerbsuitelaw8.HeaderPuts', WHERE WHAT IT READS IS OF BULK AT MOST 1048576: true; the input reads as it did. -/
def headerPutsUptoRow : OpenClaim := { program := "ytdpelehbgnnpoaa", sum := "fe82f7efc3bc89f9145b33acf71955167af053a6065359c73162b8d8a4d17e32", func := "kerbsuite/kerbsuitelaw8.HeaderPuts", spec := "headerPuts", apart := false, narrowed := true }
def HeaderPutsUptoSaid : Prop := headerPutsUptoRow.holds Try.pinned (OpenSpec.upto headerPutsSpec)

/-- 'kerbsuitelaw8.HeaderReads', WHERE WHAT IT READS IS OF BULK AT MOST 1048576: true; the input reads as it did. -/
def headerReadsUptoRow : OpenClaim := { program := "ytdpelehbgnnpoaa", sum := "fe82f7efc3bc89f9145b33acf71955167af053a6065359c73162b8d8a4d17e32", func := "kerbsuite/kerbsuitelaw8.HeaderReads", spec := "headerReads", apart := false, narrowed := true }
def HeaderReadsUptoSaid : Prop := headerReadsUptoRow.holds Try.pinned (OpenSpec.upto headerReadsSpec)

/-- 'kerbsuitelaw2.LifetimeEnds', WHERE WHAT IT READS IS OF BULK AT MOST 1048576: true; the input reads as it did. -/
def lifetimeEndsUptoRow : OpenClaim := { program := "ytdpelehbgnnpoaa", sum := "fe82f7efc3bc89f9145b33acf71955167af053a6065359c73162b8d8a4d17e32", func := "kerbsuite/kerbsuitelaw2.LifetimeEnds", spec := "lifetimeEnds", apart := false, narrowed := true }
def LifetimeEndsUptoSaid : Prop := lifetimeEndsUptoRow.holds Try.pinned (OpenSpec.upto lifetimeEndsSpec)

/-- 'kerbsuitelaw2.LifetimeSeconds', WHERE WHAT IT READS IS OF BULK AT MOST 1048576: true; the input reads as it did. -/
def lifetimeSecondsUptoRow : OpenClaim := { program := "ytdpelehbgnnpoaa", sum := "fe82f7efc3bc89f9145b33acf71955167af053a6065359c73162b8d8a4d17e32", func := "kerbsuite/kerbsuitelaw2.LifetimeSeconds", spec := "lifetimeSeconds", apart := false, narrowed := true }
def LifetimeSecondsUptoSaid : Prop := lifetimeSecondsUptoRow.holds Try.pinned (OpenSpec.upto lifetimeSecondsSpec)

/-- 'kerbsuitelaw2.LifetimeGrants', WHERE WHAT IT READS IS OF BULK AT MOST 1048576: true; the input reads as it did. -/
def lifetimeGrantsUptoRow : OpenClaim := { program := "ytdpelehbgnnpoaa", sum := "fe82f7efc3bc89f9145b33acf71955167af053a6065359c73162b8d8a4d17e32", func := "kerbsuite/kerbsuitelaw2.LifetimeGrants", spec := "lifetimeGrants", apart := false, narrowed := true }
def LifetimeGrantsUptoSaid : Prop := lifetimeGrantsUptoRow.holds Try.pinned (OpenSpec.upto lifetimeGrantsSpec)

/-- 'kerbsuitelaw2.LifetimeMonotone', WHERE WHAT IT READS IS OF BULK AT MOST 1048576: true; the input reads as it did. -/
def lifetimeMonotoneUptoRow : OpenClaim := { program := "ytdpelehbgnnpoaa", sum := "fe82f7efc3bc89f9145b33acf71955167af053a6065359c73162b8d8a4d17e32", func := "kerbsuite/kerbsuitelaw2.LifetimeMonotone", spec := "lifetimeMonotone", apart := false, narrowed := true }
def LifetimeMonotoneUptoSaid : Prop := lifetimeMonotoneUptoRow.holds Try.pinned (OpenSpec.upto lifetimeMonotoneSpec)

/-- 'kerbsuitelaw8.HeaderIs', WHERE WHAT IT READS IS OF BULK AT MOST 1048576: true; the input reads as it did. -/
def headerIsUptoRow : OpenClaim := { program := "ytdpelehbgnnpoaa", sum := "fe82f7efc3bc89f9145b33acf71955167af053a6065359c73162b8d8a4d17e32", func := "kerbsuite/kerbsuitelaw8.HeaderIs", spec := "headerIs", apart := false, narrowed := true }
def HeaderIsUptoSaid : Prop := headerIsUptoRow.holds Try.pinned (OpenSpec.upto headerIsSpec)

/-- 'kerbsuitelaw3.KeyMakes', WHERE WHAT IT READS IS OF BULK AT MOST 1048576: true; the input reads as it did. -/
def keyMakesUptoRow : OpenClaim := { program := "ytdpelehbgnnpoaa", sum := "fe82f7efc3bc89f9145b33acf71955167af053a6065359c73162b8d8a4d17e32", func := "kerbsuite/kerbsuitelaw3.KeyMakes", spec := "keyMakes", apart := false, narrowed := true }
def KeyMakesUptoSaid : Prop := keyMakesUptoRow.holds Try.pinned (OpenSpec.upto keyMakesSpec)

/-- 'kerbsuitelaw3.KeyDraws', WHERE WHAT IT READS IS OF BULK AT MOST 1048576: true; the input reads as it did. -/
def keyDrawsUptoRow : OpenClaim := { program := "ytdpelehbgnnpoaa", sum := "fe82f7efc3bc89f9145b33acf71955167af053a6065359c73162b8d8a4d17e32", func := "kerbsuite/kerbsuitelaw3.KeyDraws", spec := "keyDraws", apart := false, narrowed := true }
def KeyDrawsUptoSaid : Prop := keyDrawsUptoRow.holds Try.pinned (OpenSpec.upto keyDrawsSpec)

/-- 'kerbsuitelaw3.KeyFresh', WHERE WHAT IT READS IS OF BULK AT MOST 1048576: true; the input reads as it did. -/
def keyFreshUptoRow : OpenClaim := { program := "ytdpelehbgnnpoaa", sum := "fe82f7efc3bc89f9145b33acf71955167af053a6065359c73162b8d8a4d17e32", func := "kerbsuite/kerbsuitelaw3.KeyFresh", spec := "keyFresh", apart := false, narrowed := true }
def KeyFreshUptoSaid : Prop := keyFreshUptoRow.holds Try.pinned (OpenSpec.upto keyFreshSpec)

/-- 'kerbsuitelaw2.LifetimeNear', WHERE WHAT IT READS IS OF BULK AT MOST 1048576: true; the input reads as it did. -/
def lifetimeNearUptoRow : OpenClaim := { program := "ytdpelehbgnnpoaa", sum := "fe82f7efc3bc89f9145b33acf71955167af053a6065359c73162b8d8a4d17e32", func := "kerbsuite/kerbsuitelaw2.LifetimeNear", spec := "lifetimeNear", apart := false, narrowed := true }
def LifetimeNearUptoSaid : Prop := lifetimeNearUptoRow.holds Try.pinned (OpenSpec.upto lifetimeNearSpec)

/-- 'kerbsuitelaw2.LifetimeStates', WHERE WHAT IT READS IS OF BULK AT MOST 1048576: true; the input reads as it did. -/
def lifetimeStatesUptoRow : OpenClaim := { program := "ytdpelehbgnnpoaa", sum := "fe82f7efc3bc89f9145b33acf71955167af053a6065359c73162b8d8a4d17e32", func := "kerbsuite/kerbsuitelaw2.LifetimeStates", spec := "lifetimeStates", apart := false, narrowed := true }
def LifetimeStatesUptoSaid : Prop := lifetimeStatesUptoRow.holds Try.pinned (OpenSpec.upto lifetimeStatesSpec)

end Rows
end Go.Proofs.Ytdpelehbgnnpoaa
