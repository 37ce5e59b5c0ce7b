/-
  No cell of these rows narrows 'for every input' (looked for: loops, veiled, ifaces, maps, wideKeys, modest, calm, conditions, laid).
  DERIVED. THE GIVEN ROWS OF THIS SEAT. 6 by the template 'for every input the law returns true; each argument reads behind the call as it read before'; 0 by the template 'total and deterministic' (their statements: YtkiijbbcfbkecaaTotals.lean).
  GIVEN WITH THE SEED: the statements are not yours to turn. If you find one false, say at which input.
  Laid BY PROGRAM, IN A SANDBOX (cutbox-rows.mjs): the forced cells as the released guide's own fill.sh prints them over the translation 3dc68704d7c96fa3… (all of the seat's roots in one cut). By AI agents, Wed Nov 11 2026. No macro, syntax, notation, axiom, sorry.
-/
import Derived.Test.YtkiijbbcfbkecaaChecked
import GoSem.Claim
import GoSem.ClaimJoined
import GoSem.ClaimMapViews
import Derived.JoinedTies
import Derived.KernelRfl
namespace Go.Proofs.Ytkiijbbcfbkecaa
/- THE CELL 'sum', in the pinned program and in every row, IS THE sha256 OF THE DUMP (.gsa) THAT YtkiijbbcfbkecaaProg.lean LOADS. Nothing in Lean hashes anything: it is a label: what it is worth is what the hold of that sum in a sandbox is worth. -/
noncomputable def Try.pinned : Pinned := { name := "ytkiijbbcfbkecaa", sum := "3dc68704d7c96fa3fd47aaf09cc6cebbb7990915e351fd87893365f26528cac6", checked := Try.checked }
namespace Rows
def none {H : Type} : Left H := { results := [], args := [] }

/-- 'yashmaklaw19.EpochNames': WHATEVER THE INPUT: true; the input reads as it did. -/
def epochNamesSpec : ChangeSpec := { name := "epochNames", fn := fun _ => fun
  | [] => { results := [.lit (.bool true)], args := [] }
  | _ => none }
def epochNamesRow : OpenClaim := { program := "ytkiijbbcfbkecaa", sum := "3dc68704d7c96fa3fd47aaf09cc6cebbb7990915e351fd87893365f26528cac6", func := "yashmak/yashmaklaw19.EpochNames", spec := "epochNames", unfollowed := true, recurses := true, apart := false }
def EpochNamesSaid : Prop := epochNamesRow.holds Try.pinned (OpenSpec.ofChange epochNamesSpec)

/-- ITS FALSE NEIGHBOUR: 'it returns false'. Refute it at one input. -/
def epochNamesWrong : ChangeSpec := { name := "epochNames", fn := fun _ => fun
  | [] => { results := [.lit (.bool false)], args := [] }
  | _ => none }
def EpochNamesWrongFalsely : Prop := epochNamesRow.holds Try.pinned (OpenSpec.ofChange epochNamesWrong)

/-- 'yashmaklaw19.EpochTells': WHATEVER THE INPUT: true; the input reads as it did. -/
def epochTellsSpec : ChangeSpec := { name := "epochTells", fn := fun _ => fun
  | [d1, d2, d3] => { results := [.lit (.bool true)], args := [d1, d2, d3] }
  | _ => none }
def epochTellsRow : OpenClaim := { program := "ytkiijbbcfbkecaa", sum := "3dc68704d7c96fa3fd47aaf09cc6cebbb7990915e351fd87893365f26528cac6", func := "yashmak/yashmaklaw19.EpochTells", spec := "epochTells", unfollowed := true, recurses := true, apart := false }
def EpochTellsSaid : Prop := epochTellsRow.holds Try.pinned (OpenSpec.ofChange epochTellsSpec)

/-- ITS FALSE NEIGHBOUR: 'it returns false'. Refute it at one input. -/
def epochTellsWrong : ChangeSpec := { name := "epochTells", fn := fun _ => fun
  | [d1, d2, d3] => { results := [.lit (.bool false)], args := [d1, d2, d3] }
  | _ => none }
def EpochTellsWrongFalsely : Prop := epochTellsRow.holds Try.pinned (OpenSpec.ofChange epochTellsWrong)

/-- 'yashmaklaw19.EpochDoes': WHATEVER THE INPUT: true; the input reads as it did. -/
def epochDoesSpec : ChangeSpec := { name := "epochDoes", fn := fun _ => fun
  | [d1, d2, d3, d4] => { results := [.lit (.bool true)], args := [d1, d2, d3, d4] }
  | _ => none }
def epochDoesRow : OpenClaim := { program := "ytkiijbbcfbkecaa", sum := "3dc68704d7c96fa3fd47aaf09cc6cebbb7990915e351fd87893365f26528cac6", func := "yashmak/yashmaklaw19.EpochDoes", spec := "epochDoes", unfollowed := true, recurses := true, apart := false }
def EpochDoesSaid : Prop := epochDoesRow.holds Try.pinned (OpenSpec.ofChange epochDoesSpec)

/-- ITS FALSE NEIGHBOUR: 'it returns false'. Refute it at one input. -/
def epochDoesWrong : ChangeSpec := { name := "epochDoes", fn := fun _ => fun
  | [d1, d2, d3, d4] => { results := [.lit (.bool false)], args := [d1, d2, d3, d4] }
  | _ => none }
def EpochDoesWrongFalsely : Prop := epochDoesRow.holds Try.pinned (OpenSpec.ofChange epochDoesWrong)

/-- 'yashmaklaw19.EpochMay': WHATEVER THE INPUT: true; the input reads as it did. -/
def epochMaySpec : ChangeSpec := { name := "epochMay", fn := fun _ => fun
  | [d] => { results := [.lit (.bool true)], args := [d] }
  | _ => none }
def epochMayRow : OpenClaim := { program := "ytkiijbbcfbkecaa", sum := "3dc68704d7c96fa3fd47aaf09cc6cebbb7990915e351fd87893365f26528cac6", func := "yashmak/yashmaklaw19.EpochMay", spec := "epochMay", unfollowed := true, recurses := true, apart := false }
def EpochMaySaid : Prop := epochMayRow.holds Try.pinned (OpenSpec.ofChange epochMaySpec)

/-- ITS FALSE NEIGHBOUR: 'it returns false'. Refute it at one input. -/
def epochMayWrong : ChangeSpec := { name := "epochMay", fn := fun _ => fun
  | [d] => { results := [.lit (.bool false)], args := [d] }
  | _ => none }
def EpochMayWrongFalsely : Prop := epochMayRow.holds Try.pinned (OpenSpec.ofChange epochMayWrong)

/-- 'yashmaklaw19.EpochGoes': WHATEVER THE INPUT: true; the input reads as it did. -/
def epochGoesSpec : ChangeSpec := { name := "epochGoes", fn := fun _ => fun
  | [d1, d2] => { results := [.lit (.bool true)], args := [d1, d2] }
  | _ => none }
def epochGoesRow : OpenClaim := { program := "ytkiijbbcfbkecaa", sum := "3dc68704d7c96fa3fd47aaf09cc6cebbb7990915e351fd87893365f26528cac6", func := "yashmak/yashmaklaw19.EpochGoes", spec := "epochGoes", unfollowed := true, recurses := true, apart := false }
def EpochGoesSaid : Prop := epochGoesRow.holds Try.pinned (OpenSpec.ofChange epochGoesSpec)

/-- ITS FALSE NEIGHBOUR: 'it returns false'. Refute it at one input. -/
def epochGoesWrong : ChangeSpec := { name := "epochGoes", fn := fun _ => fun
  | [d1, d2] => { results := [.lit (.bool false)], args := [d1, d2] }
  | _ => none }
def EpochGoesWrongFalsely : Prop := epochGoesRow.holds Try.pinned (OpenSpec.ofChange epochGoesWrong)

/-- 'yashmaklaw19.EpochApart': WHATEVER THE INPUT: true; the input reads as it did. -/
def epochApartSpec : ChangeSpec := { name := "epochApart", fn := fun _ => fun
  | [d1, d2] => { results := [.lit (.bool true)], args := [d1, d2] }
  | _ => none }
def epochApartRow : OpenClaim := { program := "ytkiijbbcfbkecaa", sum := "3dc68704d7c96fa3fd47aaf09cc6cebbb7990915e351fd87893365f26528cac6", func := "yashmak/yashmaklaw19.EpochApart", spec := "epochApart", unfollowed := true, recurses := true, apart := false }
def EpochApartSaid : Prop := epochApartRow.holds Try.pinned (OpenSpec.ofChange epochApartSpec)

/-- ITS FALSE NEIGHBOUR: 'it returns false'. Refute it at one input. -/
def epochApartWrong : ChangeSpec := { name := "epochApart", fn := fun _ => fun
  | [d1, d2] => { results := [.lit (.bool false)], args := [d1, d2] }
  | _ => none }
def EpochApartWrongFalsely : Prop := epochApartRow.holds Try.pinned (OpenSpec.ofChange epochApartWrong)

/- THE SECOND FORM. 'bulk': how many values and letters a reading holds, each counted each time it is reached (what is shared counts as often as it is met; a slice's spare places count too). A statement '..UptoSaid' is the law's where the arguments, and the package variables that the reading takes, are together of bulk at most 1048576: NARROWER than '..Said'. Prove '..Said' where nothing that the law and all that it calls make is longer than what came in: it says more and counts as full. Else prove '..UptoSaid'. A law counts once. -/
mutual
def uptoBulk {H : Type} : DataW H → Nat
  | .lit (.string bytes) => bytes.length + 1
  | .lit _ => 1
  | .nil => 1
  | .ptr d => uptoBulk d + 1
  | .slice elems spare => uptoBulkAll elems + uptoBulkAll spare + 1
  | .agg parts => uptoBulkAll parts + 1
  | .iface _ d => uptoBulk d + 1
  | .map entries => uptoBulkEntries entries + 1
  | .held _ => 1
def uptoBulkAll {H : Type} : List (DataW H) → Nat
  | [] => 0
  | d :: r => uptoBulk d + uptoBulkAll r
def uptoBulkEntries {H : Type} : List (Lit × DataW H) → Nat
  | [] => 0
  | x :: r => uptoBulkEntry x + uptoBulkEntries r
def uptoBulkEntry {H : Type} : Lit × DataW H → Nat
  | (.string bytes, d) => bytes.length + uptoBulk d + 1
  | (_, d) => uptoBulk d + 1
 end
def uptoSmall : (H : Type) → List (DataW H) → Bool := fun _ ds => decide (uptoBulkAll ds ≤ 1048576)
def OpenSpec.upto (s : _root_.Go.ChangeSpec) : _root_.Go.OpenSpec := { _root_.Go.OpenSpec.ofChange s with cond := some uptoSmall }

/-- 'yashmaklaw19.EpochNames', WHERE WHAT IT READS IS OF BULK AT MOST 1048576: true; the input reads as it did. -/
def epochNamesUptoRow : OpenClaim := { program := "ytkiijbbcfbkecaa", sum := "3dc68704d7c96fa3fd47aaf09cc6cebbb7990915e351fd87893365f26528cac6", func := "yashmak/yashmaklaw19.EpochNames", spec := "epochNames", unfollowed := true, recurses := true, apart := false, narrowed := true }
def EpochNamesUptoSaid : Prop := epochNamesUptoRow.holds Try.pinned (OpenSpec.upto epochNamesSpec)

/-- 'yashmaklaw19.EpochTells', WHERE WHAT IT READS IS OF BULK AT MOST 1048576: true; the input reads as it did. -/
def epochTellsUptoRow : OpenClaim := { program := "ytkiijbbcfbkecaa", sum := "3dc68704d7c96fa3fd47aaf09cc6cebbb7990915e351fd87893365f26528cac6", func := "yashmak/yashmaklaw19.EpochTells", spec := "epochTells", unfollowed := true, recurses := true, apart := false, narrowed := true }
def EpochTellsUptoSaid : Prop := epochTellsUptoRow.holds Try.pinned (OpenSpec.upto epochTellsSpec)

/-- 'yashmaklaw19.EpochDoes', WHERE WHAT IT READS IS OF BULK AT MOST 1048576: true; the input reads as it did. -/
def epochDoesUptoRow : OpenClaim := { program := "ytkiijbbcfbkecaa", sum := "3dc68704d7c96fa3fd47aaf09cc6cebbb7990915e351fd87893365f26528cac6", func := "yashmak/yashmaklaw19.EpochDoes", spec := "epochDoes", unfollowed := true, recurses := true, apart := false, narrowed := true }
def EpochDoesUptoSaid : Prop := epochDoesUptoRow.holds Try.pinned (OpenSpec.upto epochDoesSpec)

/-- 'yashmaklaw19.EpochMay', WHERE WHAT IT READS IS OF BULK AT MOST 1048576: true; the input reads as it did. -/
def epochMayUptoRow : OpenClaim := { program := "ytkiijbbcfbkecaa", sum := "3dc68704d7c96fa3fd47aaf09cc6cebbb7990915e351fd87893365f26528cac6", func := "yashmak/yashmaklaw19.EpochMay", spec := "epochMay", unfollowed := true, recurses := true, apart := false, narrowed := true }
def EpochMayUptoSaid : Prop := epochMayUptoRow.holds Try.pinned (OpenSpec.upto epochMaySpec)

/-- 'yashmaklaw19.EpochGoes', WHERE WHAT IT READS IS OF BULK AT MOST 1048576: true; the input reads as it did. -/
def epochGoesUptoRow : OpenClaim := { program := "ytkiijbbcfbkecaa", sum := "3dc68704d7c96fa3fd47aaf09cc6cebbb7990915e351fd87893365f26528cac6", func := "yashmak/yashmaklaw19.EpochGoes", spec := "epochGoes", unfollowed := true, recurses := true, apart := false, narrowed := true }
def EpochGoesUptoSaid : Prop := epochGoesUptoRow.holds Try.pinned (OpenSpec.upto epochGoesSpec)

/-- 'yashmaklaw19.EpochApart', WHERE WHAT IT READS IS OF BULK AT MOST 1048576: true; the input reads as it did. -/
def epochApartUptoRow : OpenClaim := { program := "ytkiijbbcfbkecaa", sum := "3dc68704d7c96fa3fd47aaf09cc6cebbb7990915e351fd87893365f26528cac6", func := "yashmak/yashmaklaw19.EpochApart", spec := "epochApart", unfollowed := true, recurses := true, apart := false, narrowed := true }
def EpochApartUptoSaid : Prop := epochApartUptoRow.holds Try.pinned (OpenSpec.upto epochApartSpec)

end Rows
end Go.Proofs.Ytkiijbbcfbkecaa
