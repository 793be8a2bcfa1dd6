/-
  No cell of these rows narrows 'for every input' (looked for: loops, veiled, ifaces, maps, wideKeys, modest, calm, conditions, laid).
  DERIVED. THE GIVEN ROWS OF THIS SEAT. 11 by the template 'for every input the law returns true; each argument reads behind the call as it read before'; 0 by the template 'total and deterministic' (their statements: YtipfkflogjfbjaaTotals.lean).
  GIVEN WITH THE SEED: the statements are not yours to turn. If you find one false, say at which input.
  Laid BY PROGRAM, IN A SANDBOX (cutbox-rows.mjs): the forced cells as the released guide's own fill.sh prints them over the translation 8943414afbeb40e2… (all of the seat's roots in one cut). By AI agents, Wed Nov 11 2026. No macro, syntax, notation, axiom, sorry.
-/
import Derived.Test.YtipfkflogjfbjaaChecked
import GoSem.Claim
import GoSem.ClaimJoined
import GoSem.ClaimMapViews
import Derived.JoinedTies
import Derived.KernelRfl
namespace Go.Proofs.Ytipfkflogjfbjaa
/- THE CELL 'sum', in the pinned program and in every row, IS THE sha256 OF THE DUMP (.gsa) THAT YtipfkflogjfbjaaProg.lean LOADS. Nothing in Lean hashes anything: it is a label: what it is worth is what the hold of that sum in a sandbox is worth. -/
noncomputable def Try.pinned : Pinned := { name := "ytipfkflogjfbjaa", sum := "8943414afbeb40e216e7147b70ce09acdfb40df02eeeab872ee83648c3e67747", checked := Try.checked }
namespace Rows
def none {H : Type} : Left H := { results := [], args := [] }

/-- 'kerbsuitelaw26.ConverterConverts': WHATEVER THE INPUT: true; the input reads as it did. -/
def converterConvertsSpec : ChangeSpec := { name := "converterConverts", fn := fun _ => fun
  | [d1, d2, d3, d4, d5, d6, d7] => { results := [.lit (.bool true)], args := [d1, d2, d3, d4, d5, d6, d7] }
  | _ => none }
def converterConvertsRow : OpenClaim := { program := "ytipfkflogjfbjaa", sum := "8943414afbeb40e216e7147b70ce09acdfb40df02eeeab872ee83648c3e67747", func := "kerbsuite/kerbsuitelaw26.ConverterConverts", spec := "converterConverts", inPlace := ["internal/bytealg.IndexByteString"], apart := false }
def ConverterConvertsSaid : Prop := converterConvertsRow.holds Try.pinned (OpenSpec.ofChange converterConvertsSpec)

/-- ITS FALSE NEIGHBOUR: 'it returns false'. Refute it at one input. -/
def converterConvertsWrong : ChangeSpec := { name := "converterConverts", fn := fun _ => fun
  | [d1, d2, d3, d4, d5, d6, d7] => { results := [.lit (.bool false)], args := [d1, d2, d3, d4, d5, d6, d7] }
  | _ => none }
def ConverterConvertsWrongFalsely : Prop := converterConvertsRow.holds Try.pinned (OpenSpec.ofChange converterConvertsWrong)

/-- 'kerbsuitelaw26.ConverterBounds': WHATEVER THE INPUT: true; the input reads as it did. -/
def converterBoundsSpec : ChangeSpec := { name := "converterBounds", fn := fun _ => fun
  | [d1, d2, d3, d4, d5, d6] => { results := [.lit (.bool true)], args := [d1, d2, d3, d4, d5, d6] }
  | _ => none }
def converterBoundsRow : OpenClaim := { program := "ytipfkflogjfbjaa", sum := "8943414afbeb40e216e7147b70ce09acdfb40df02eeeab872ee83648c3e67747", func := "kerbsuite/kerbsuitelaw26.ConverterBounds", spec := "converterBounds", inPlace := ["internal/bytealg.IndexByteString"], apart := false }
def ConverterBoundsSaid : Prop := converterBoundsRow.holds Try.pinned (OpenSpec.ofChange converterBoundsSpec)

/-- ITS FALSE NEIGHBOUR: 'it returns false'. Refute it at one input. -/
def converterBoundsWrong : ChangeSpec := { name := "converterBounds", fn := fun _ => fun
  | [d1, d2, d3, d4, d5, d6] => { results := [.lit (.bool false)], args := [d1, d2, d3, d4, d5, d6] }
  | _ => none }
def ConverterBoundsWrongFalsely : Prop := converterBoundsRow.holds Try.pinned (OpenSpec.ofChange converterBoundsWrong)

/-- 'kerbsuitelaw3.KeyBytes': WHATEVER THE INPUT: true; the input reads as it did. -/
def keyBytesSpec : ChangeSpec := { name := "keyBytes", fn := fun _ => fun
  | [d1, d2, d3, d4, d5] => { results := [.lit (.bool true)], args := [d1, d2, d3, d4, d5] }
  | _ => none }
def keyBytesRow : OpenClaim := { program := "ytipfkflogjfbjaa", sum := "8943414afbeb40e216e7147b70ce09acdfb40df02eeeab872ee83648c3e67747", func := "kerbsuite/kerbsuitelaw3.KeyBytes", spec := "keyBytes", apart := false }
def KeyBytesSaid : Prop := keyBytesRow.holds Try.pinned (OpenSpec.ofChange keyBytesSpec)

/-- ITS FALSE NEIGHBOUR: 'it returns false'. Refute it at one input. -/
def keyBytesWrong : ChangeSpec := { name := "keyBytes", fn := fun _ => fun
  | [d1, d2, d3, d4, d5] => { results := [.lit (.bool false)], args := [d1, d2, d3, d4, d5] }
  | _ => none }
def KeyBytesWrongFalsely : Prop := keyBytesRow.holds Try.pinned (OpenSpec.ofChange keyBytesWrong)

/-- 'kerbsuitelaw16.ReplayChecks': WHATEVER THE INPUT: true; the input reads as it did. -/
def replayChecksSpec : ChangeSpec := { name := "replayChecks", fn := fun _ => fun
  | [d1, d2, d3, d4, d5, d6, d7] => { results := [.lit (.bool true)], args := [d1, d2, d3, d4, d5, d6, d7] }
  | _ => none }
def replayChecksRow : OpenClaim := { program := "ytipfkflogjfbjaa", sum := "8943414afbeb40e216e7147b70ce09acdfb40df02eeeab872ee83648c3e67747", func := "kerbsuite/kerbsuitelaw16.ReplayChecks", spec := "replayChecks", inPlace := ["internal/bytealg.IndexByteString"], apart := false }
def ReplayChecksSaid : Prop := replayChecksRow.holds Try.pinned (OpenSpec.ofChange replayChecksSpec)

/-- ITS FALSE NEIGHBOUR: 'it returns false'. Refute it at one input. -/
def replayChecksWrong : ChangeSpec := { name := "replayChecks", fn := fun _ => fun
  | [d1, d2, d3, d4, d5, d6, d7] => { results := [.lit (.bool false)], args := [d1, d2, d3, d4, d5, d6, d7] }
  | _ => none }
def ReplayChecksWrongFalsely : Prop := replayChecksRow.holds Try.pinned (OpenSpec.ofChange replayChecksWrong)

/-- 'kerbsuitelaw16.ReplayAdds': WHATEVER THE INPUT: true; the input reads as it did. -/
def replayAddsSpec : ChangeSpec := { name := "replayAdds", fn := fun _ => fun
  | [d1, d2, d3, d4, d5, d6] => { results := [.lit (.bool true)], args := [d1, d2, d3, d4, d5, d6] }
  | _ => none }
def replayAddsRow : OpenClaim := { program := "ytipfkflogjfbjaa", sum := "8943414afbeb40e216e7147b70ce09acdfb40df02eeeab872ee83648c3e67747", func := "kerbsuite/kerbsuitelaw16.ReplayAdds", spec := "replayAdds", inPlace := ["internal/bytealg.IndexByteString"], apart := false }
def ReplayAddsSaid : Prop := replayAddsRow.holds Try.pinned (OpenSpec.ofChange replayAddsSpec)

/-- ITS FALSE NEIGHBOUR: 'it returns false'. Refute it at one input. -/
def replayAddsWrong : ChangeSpec := { name := "replayAdds", fn := fun _ => fun
  | [d1, d2, d3, d4, d5, d6] => { results := [.lit (.bool false)], args := [d1, d2, d3, d4, d5, d6] }
  | _ => none }
def ReplayAddsWrongFalsely : Prop := replayAddsRow.holds Try.pinned (OpenSpec.ofChange replayAddsWrong)

/-- 'kerbsuitelaw16.ReplayAny': WHATEVER THE INPUT: true; the input reads as it did. -/
def replayAnySpec : ChangeSpec := { name := "replayAny", fn := fun _ => fun
  | [d1, d2, d3, d4, d5] => { results := [.lit (.bool true)], args := [d1, d2, d3, d4, d5] }
  | _ => none }
def replayAnyRow : OpenClaim := { program := "ytipfkflogjfbjaa", sum := "8943414afbeb40e216e7147b70ce09acdfb40df02eeeab872ee83648c3e67747", func := "kerbsuite/kerbsuitelaw16.ReplayAny", spec := "replayAny", inPlace := ["internal/bytealg.IndexByteString"], apart := false }
def ReplayAnySaid : Prop := replayAnyRow.holds Try.pinned (OpenSpec.ofChange replayAnySpec)

/-- ITS FALSE NEIGHBOUR: 'it returns false'. Refute it at one input. -/
def replayAnyWrong : ChangeSpec := { name := "replayAny", fn := fun _ => fun
  | [d1, d2, d3, d4, d5] => { results := [.lit (.bool false)], args := [d1, d2, d3, d4, d5] }
  | _ => none }
def ReplayAnyWrongFalsely : Prop := replayAnyRow.holds Try.pinned (OpenSpec.ofChange replayAnyWrong)

/-- 'kerbsuitelaw16.ReplayOnce': WHATEVER THE INPUT: true; the input reads as it did. -/
def replayOnceSpec : ChangeSpec := { name := "replayOnce", fn := fun _ => fun
  | [d1, d2, d3] => { results := [.lit (.bool true)], args := [d1, d2, d3] }
  | _ => none }
def replayOnceRow : OpenClaim := { program := "ytipfkflogjfbjaa", sum := "8943414afbeb40e216e7147b70ce09acdfb40df02eeeab872ee83648c3e67747", func := "kerbsuite/kerbsuitelaw16.ReplayOnce", spec := "replayOnce", inPlace := ["internal/bytealg.IndexByteString"], apart := false }
def ReplayOnceSaid : Prop := replayOnceRow.holds Try.pinned (OpenSpec.ofChange replayOnceSpec)

/-- ITS FALSE NEIGHBOUR: 'it returns false'. Refute it at one input. -/
def replayOnceWrong : ChangeSpec := { name := "replayOnce", fn := fun _ => fun
  | [d1, d2, d3] => { results := [.lit (.bool false)], args := [d1, d2, d3] }
  | _ => none }
def ReplayOnceWrongFalsely : Prop := replayOnceRow.holds Try.pinned (OpenSpec.ofChange replayOnceWrong)

/-- 'kerbsuitelaw3.KeyLists': WHATEVER THE INPUT: true; the input reads as it did. -/
def keyListsSpec : ChangeSpec := { name := "keyLists", fn := fun _ => fun
  | [d1, d2, d3, d4] => { results := [.lit (.bool true)], args := [d1, d2, d3, d4] }
  | _ => none }
def keyListsRow : OpenClaim := { program := "ytipfkflogjfbjaa", sum := "8943414afbeb40e216e7147b70ce09acdfb40df02eeeab872ee83648c3e67747", func := "kerbsuite/kerbsuitelaw3.KeyLists", spec := "keyLists", recurses := true, apart := false }
def KeyListsSaid : Prop := keyListsRow.holds Try.pinned (OpenSpec.ofChange keyListsSpec)

/-- ITS FALSE NEIGHBOUR: 'it returns false'. Refute it at one input. -/
def keyListsWrong : ChangeSpec := { name := "keyLists", fn := fun _ => fun
  | [d1, d2, d3, d4] => { results := [.lit (.bool false)], args := [d1, d2, d3, d4] }
  | _ => none }
def KeyListsWrongFalsely : Prop := keyListsRow.holds Try.pinned (OpenSpec.ofChange keyListsWrong)

/-- 'kerbsuitelaw14.CrossrealmChecks': WHATEVER THE INPUT: true; the input reads as it did. -/
def crossrealmChecksSpec : ChangeSpec := { name := "crossrealmChecks", fn := fun _ => fun
  | [d1, d2, d3, d4, d5, d6, d7, d8] => { results := [.lit (.bool true)], args := [d1, d2, d3, d4, d5, d6, d7, d8] }
  | _ => none }
def crossrealmChecksRow : OpenClaim := { program := "ytipfkflogjfbjaa", sum := "8943414afbeb40e216e7147b70ce09acdfb40df02eeeab872ee83648c3e67747", func := "kerbsuite/kerbsuitelaw14.CrossrealmChecks", spec := "crossrealmChecks", inPlace := ["internal/bytealg.IndexByteString"], unfollowed := true, recurses := true, apart := false }
def CrossrealmChecksSaid : Prop := crossrealmChecksRow.holds Try.pinned (OpenSpec.ofChange crossrealmChecksSpec)

/-- ITS FALSE NEIGHBOUR: 'it returns false'. Refute it at one input. -/
def crossrealmChecksWrong : ChangeSpec := { name := "crossrealmChecks", fn := fun _ => fun
  | [d1, d2, d3, d4, d5, d6, d7, d8] => { results := [.lit (.bool false)], args := [d1, d2, d3, d4, d5, d6, d7, d8] }
  | _ => none }
def CrossrealmChecksWrongFalsely : Prop := crossrealmChecksRow.holds Try.pinned (OpenSpec.ofChange crossrealmChecksWrong)

/-- 'kerbsuitelaw14.CrossrealmPeers': WHATEVER THE INPUT: true; the input reads as it did. -/
def crossrealmPeersSpec : ChangeSpec := { name := "crossrealmPeers", fn := fun _ => fun
  | [d1, d2, d3] => { results := [.lit (.bool true)], args := [d1, d2, d3] }
  | _ => none }
def crossrealmPeersRow : OpenClaim := { program := "ytipfkflogjfbjaa", sum := "8943414afbeb40e216e7147b70ce09acdfb40df02eeeab872ee83648c3e67747", func := "kerbsuite/kerbsuitelaw14.CrossrealmPeers", spec := "crossrealmPeers", inPlace := ["internal/bytealg.IndexByteString"], unfollowed := true, recurses := true, apart := false }
def CrossrealmPeersSaid : Prop := crossrealmPeersRow.holds Try.pinned (OpenSpec.ofChange crossrealmPeersSpec)

/-- ITS FALSE NEIGHBOUR: 'it returns false'. Refute it at one input. -/
def crossrealmPeersWrong : ChangeSpec := { name := "crossrealmPeers", fn := fun _ => fun
  | [d1, d2, d3] => { results := [.lit (.bool false)], args := [d1, d2, d3] }
  | _ => none }
def CrossrealmPeersWrongFalsely : Prop := crossrealmPeersRow.holds Try.pinned (OpenSpec.ofChange crossrealmPeersWrong)

/-- 'kerbsuitelaw14.CrossrealmFinds': WHATEVER THE INPUT: true; the input reads as it did. -/
def crossrealmFindsSpec : ChangeSpec := { name := "crossrealmFinds", fn := fun _ => fun
  | [d1, d2, d3, d4, d5, d6, d7, d8] => { results := [.lit (.bool true)], args := [d1, d2, d3, d4, d5, d6, d7, d8] }
  | _ => none }
def crossrealmFindsRow : OpenClaim := { program := "ytipfkflogjfbjaa", sum := "8943414afbeb40e216e7147b70ce09acdfb40df02eeeab872ee83648c3e67747", func := "kerbsuite/kerbsuitelaw14.CrossrealmFinds", spec := "crossrealmFinds", inPlace := ["internal/bytealg.IndexByteString"], unfollowed := true, recurses := true, apart := false }
def CrossrealmFindsSaid : Prop := crossrealmFindsRow.holds Try.pinned (OpenSpec.ofChange crossrealmFindsSpec)

/-- ITS FALSE NEIGHBOUR: 'it returns false'. Refute it at one input. -/
def crossrealmFindsWrong : ChangeSpec := { name := "crossrealmFinds", fn := fun _ => fun
  | [d1, d2, d3, d4, d5, d6, d7, d8] => { results := [.lit (.bool false)], args := [d1, d2, d3, d4, d5, d6, d7, d8] }
  | _ => none }
def CrossrealmFindsWrongFalsely : Prop := crossrealmFindsRow.holds Try.pinned (OpenSpec.ofChange crossrealmFindsWrong)

/- THE SECOND FORM. 'bulk': how many values and letters a reading holds, each counted each time it is reached (what is shared counts as often as it is met; a slice's spare places count too). A statement '..UptoSaid' is the law's where the arguments, and the package variables that the reading takes, are together of bulk at most 1048576: NARROWER than '..Said'. Prove '..Said' where nothing that the law and all that it calls make is longer than what came in: it says more and counts as full. Else prove '..UptoSaid'. A law counts once. -/
mutual
def uptoBulk {H : Type} : DataW H → Nat
  | .lit (.string bytes) => bytes.length + 1
  | .lit _ => 1
  | .nil => 1
  | .ptr d => uptoBulk d + 1
  | .slice elems spare => uptoBulkAll elems + uptoBulkAll spare + 1
  | .agg parts => uptoBulkAll parts + 1
  | .iface _ d => uptoBulk d + 1
  | .map entries => uptoBulkEntries entries + 1
  | .held _ => 1
def uptoBulkAll {H : Type} : List (DataW H) → Nat
  | [] => 0
  | d :: r => uptoBulk d + uptoBulkAll r
def uptoBulkEntries {H : Type} : List (Lit × DataW H) → Nat
  | [] => 0
  | x :: r => uptoBulkEntry x + uptoBulkEntries r
def uptoBulkEntry {H : Type} : Lit × DataW H → Nat
  | (.string bytes, d) => bytes.length + uptoBulk d + 1
  | (_, d) => uptoBulk d + 1
 end
def uptoSmall : (H : Type) → List (DataW H) → Bool := fun _ ds => decide (uptoBulkAll ds ≤ 1048576)
def OpenSpec.upto (s : _root_.Go.ChangeSpec) : _root_.Go.OpenSpec := { _root_.Go.OpenSpec.ofChange s with cond := some uptoSmall }

/-- 'kerbsuitelaw26.ConverterConverts', WHERE WHAT IT READS IS OF BULK AT MOST 1048576: true; the input reads as it did. -/
def converterConvertsUptoRow : OpenClaim := { program := "ytipfkflogjfbjaa", sum := "8943414afbeb40e216e7147b70ce09acdfb40df02eeeab872ee83648c3e67747", func := "kerbsuite/kerbsuitelaw26.ConverterConverts", spec := "converterConverts", inPlace := ["internal/bytealg.IndexByteString"], apart := false, narrowed := true }
def ConverterConvertsUptoSaid : Prop := converterConvertsUptoRow.holds Try.pinned (OpenSpec.upto converterConvertsSpec)

/-- 'kerbsuitelaw26.ConverterBounds', WHERE WHAT IT READS IS OF BULK AT MOST 1048576: true; the input reads as it did. -/
def converterBoundsUptoRow : OpenClaim := { program := "ytipfkflogjfbjaa", sum := "8943414afbeb40e216e7147b70ce09acdfb40df02eeeab872ee83648c3e67747", func := "kerbsuite/kerbsuitelaw26.ConverterBounds", spec := "converterBounds", inPlace := ["internal/bytealg.IndexByteString"], apart := false, narrowed := true }
def ConverterBoundsUptoSaid : Prop := converterBoundsUptoRow.holds Try.pinned (OpenSpec.upto converterBoundsSpec)

/-- 'kerbsuitelaw3.KeyBytes', WHERE WHAT IT READS IS OF BULK AT MOST 1048576: true; the input reads as it did. -/
def keyBytesUptoRow : OpenClaim := { program := "ytipfkflogjfbjaa", sum := "8943414afbeb40e216e7147b70ce09acdfb40df02eeeab872ee83648c3e67747", func := "kerbsuite/kerbsuitelaw3.KeyBytes", spec := "keyBytes", apart := false, narrowed := true }
def KeyBytesUptoSaid : Prop := keyBytesUptoRow.holds Try.pinned (OpenSpec.upto keyBytesSpec)

/-- 'kerbsuitelaw16.ReplayChecks', WHERE WHAT IT READS IS OF BULK AT MOST 1048576: true; the input reads as it did. -/
def replayChecksUptoRow : OpenClaim := { program := "ytipfkflogjfbjaa", sum := "8943414afbeb40e216e7147b70ce09acdfb40df02eeeab872ee83648c3e67747", func := "kerbsuite/kerbsuitelaw16.ReplayChecks", spec := "replayChecks", inPlace := ["internal/bytealg.IndexByteString"], apart := false, narrowed := true }
def ReplayChecksUptoSaid : Prop := replayChecksUptoRow.holds Try.pinned (OpenSpec.upto replayChecksSpec)

/-- 'kerbsuitelaw16.ReplayAdds', WHERE WHAT IT READS IS OF BULK AT MOST 1048576: true; the input reads as it did. -/
def replayAddsUptoRow : OpenClaim := { program := "ytipfkflogjfbjaa", sum := "8943414afbeb40e216e7147b70ce09acdfb40df02eeeab872ee83648c3e67747", func := "kerbsuite/kerbsuitelaw16.ReplayAdds", spec := "replayAdds", inPlace := ["internal/bytealg.IndexByteString"], apart := false, narrowed := true }
def ReplayAddsUptoSaid : Prop := replayAddsUptoRow.holds Try.pinned (OpenSpec.upto replayAddsSpec)

/-- 'kerbsuitelaw16.ReplayAny', WHERE WHAT IT READS IS OF BULK AT MOST 1048576: true; the input reads as it did. -/
def replayAnyUptoRow : OpenClaim := { program := "ytipfkflogjfbjaa", sum := "8943414afbeb40e216e7147b70ce09acdfb40df02eeeab872ee83648c3e67747", func := "kerbsuite/kerbsuitelaw16.ReplayAny", spec := "replayAny", inPlace := ["internal/bytealg.IndexByteString"], apart := false, narrowed := true }
def ReplayAnyUptoSaid : Prop := replayAnyUptoRow.holds Try.pinned (OpenSpec.upto replayAnySpec)

/-- 'kerbsuitelaw16.ReplayOnce', WHERE WHAT IT READS IS OF BULK AT MOST 1048576: true; the input reads as it did. -/
def replayOnceUptoRow : OpenClaim := { program := "ytipfkflogjfbjaa", sum := "8943414afbeb40e216e7147b70ce09acdfb40df02eeeab872ee83648c3e67747", func := "kerbsuite/kerbsuitelaw16.ReplayOnce", spec := "replayOnce", inPlace := ["internal/bytealg.IndexByteString"], apart := false, narrowed := true }
def ReplayOnceUptoSaid : Prop := replayOnceUptoRow.holds Try.pinned (OpenSpec.upto replayOnceSpec)

/-- 'kerbsuitelaw3.KeyLists', WHERE WHAT IT READS IS OF BULK AT MOST 1048576: true; the input reads as it did. -/
def keyListsUptoRow : OpenClaim := { program := "ytipfkflogjfbjaa", sum := "8943414afbeb40e216e7147b70ce09acdfb40df02eeeab872ee83648c3e67747", func := "kerbsuite/kerbsuitelaw3.KeyLists", spec := "keyLists", recurses := true, apart := false, narrowed := true }
def KeyListsUptoSaid : Prop := keyListsUptoRow.holds Try.pinned (OpenSpec.upto keyListsSpec)

/-- 'kerbsuitelaw14.CrossrealmChecks', WHERE WHAT IT READS IS OF BULK AT MOST 1048576: true; the input reads as it did. -/
def crossrealmChecksUptoRow : OpenClaim := { program := "ytipfkflogjfbjaa", sum := "8943414afbeb40e216e7147b70ce09acdfb40df02eeeab872ee83648c3e67747", func := "kerbsuite/kerbsuitelaw14.CrossrealmChecks", spec := "crossrealmChecks", inPlace := ["internal/bytealg.IndexByteString"], unfollowed := true, recurses := true, apart := false, narrowed := true }
def CrossrealmChecksUptoSaid : Prop := crossrealmChecksUptoRow.holds Try.pinned (OpenSpec.upto crossrealmChecksSpec)

/-- 'kerbsuitelaw14.CrossrealmPeers', WHERE WHAT IT READS IS OF BULK AT MOST 1048576: true; the input reads as it did. -/
def crossrealmPeersUptoRow : OpenClaim := { program := "ytipfkflogjfbjaa", sum := "8943414afbeb40e216e7147b70ce09acdfb40df02eeeab872ee83648c3e67747", func := "kerbsuite/kerbsuitelaw14.CrossrealmPeers", spec := "crossrealmPeers", inPlace := ["internal/bytealg.IndexByteString"], unfollowed := true, recurses := true, apart := false, narrowed := true }
def CrossrealmPeersUptoSaid : Prop := crossrealmPeersUptoRow.holds Try.pinned (OpenSpec.upto crossrealmPeersSpec)

/-- 'kerbsuitelaw14.CrossrealmFinds', WHERE WHAT IT READS IS OF BULK AT MOST 1048576: true; the input reads as it did. -/
def crossrealmFindsUptoRow : OpenClaim := { program := "ytipfkflogjfbjaa", sum := "8943414afbeb40e216e7147b70ce09acdfb40df02eeeab872ee83648c3e67747", func := "kerbsuite/kerbsuitelaw14.CrossrealmFinds", spec := "crossrealmFinds", inPlace := ["internal/bytealg.IndexByteString"], unfollowed := true, recurses := true, apart := false, narrowed := true }
def CrossrealmFindsUptoSaid : Prop := crossrealmFindsUptoRow.holds Try.pinned (OpenSpec.upto crossrealmFindsSpec)

end Rows
end Go.Proofs.Ytipfkflogjfbjaa
