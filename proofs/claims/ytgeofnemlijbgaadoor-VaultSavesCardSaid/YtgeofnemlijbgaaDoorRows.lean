/-
  NARROWER THAN 'FOR EVERY INPUT', by the rows' own cells (each row's printed sentence says how): VaultClean: laid · VaultGoes: laid · VaultTells: laid · VaultSaves: laid · VaultBack: laid · VaultCrashes: laid.
  DERIVED. THE GIVEN ROWS OF THIS SEAT. 6 by the template 'for every input the law returns true; each argument reads behind the call as it read before'; 0 by the template 'total and deterministic' (their statements: YtgeofnemlijbgaaDoorTotals.lean).
  GIVEN WITH THE SEED: the statements are not yours to turn. If you find one false, say at which input.
  Laid BY PROGRAM, IN A SANDBOX (cutbox-rows.mjs): the forced cells as the released guide's own fill.sh prints them over the translation e4d7f26289aa7acf… (all of the seat's roots in one cut). By AI agents, Wed Nov 11 2026. No macro, syntax, notation, axiom, sorry.
-/
import Derived.Test.YtgeofnemlijbgaaDoorChecked
import GoSem.PinnedTables
import GoSem.Claim
import GoSem.ClaimJoined
import GoSem.ClaimMapViews
import Derived.JoinedTies
import Derived.KernelRfl
namespace Go.Proofs.YtgeofnemlijbgaaDoor
/- THE CELL 'sum', in the pinned program and in every row, IS THE sha256 OF THE DUMP (.gsa) THAT YtgeofnemlijbgaaDoorProg.lean LOADS. Nothing in Lean hashes anything: it is a label: what it is worth is what the hold of that sum in a sandbox is worth. -/
noncomputable def Tryd.pinned : Pinned := { name := "ytgeofnemlijbgaadoor", sum := "e4d7f26289aa7acf2ade04520de3c3b0e97c1c1141e59d92321589583c88a5da", checked := Tryd.checked }
namespace Rows
def none {H : Type} : Left H := { results := [], args := [] }

/- WHAT THE LISTED PACKAGE-LEVEL VARIABLES READ AS WHEN THE CALL BEGINS. Each datum BY PROGRAM (the guide's laid-datum.mjs) off the statement by which the dump's own 'gosem.cut.vars' lays the variable. In a bare row this is a premise. The card (YtgeofnemlijbgaaDoorCards.lean) ties it to the program's text. -/
def laid_unicode_utf8_acceptRanges {H : Type} : DataW H := .agg [.agg [.lit (.int .u8 128), .lit (.int .u8 191)], .agg [.lit (.int .u8 160), .lit (.int .u8 191)], .agg [.lit (.int .u8 128), .lit (.int .u8 159)], .agg [.lit (.int .u8 144), .lit (.int .u8 191)], .agg [.lit (.int .u8 128), .lit (.int .u8 143)], .agg [.lit (.int .u8 0), .lit (.int .u8 0)], .agg [.lit (.int .u8 0), .lit (.int .u8 0)], .agg [.lit (.int .u8 0), .lit (.int .u8 0)], .agg [.lit (.int .u8 0), .lit (.int .u8 0)], .agg [.lit (.int .u8 0), .lit (.int .u8 0)], .agg [.lit (.int .u8 0), .lit (.int .u8 0)], .agg [.lit (.int .u8 0), .lit (.int .u8 0)], .agg [.lit (.int .u8 0), .lit (.int .u8 0)], .agg [.lit (.int .u8 0), .lit (.int .u8 0)], .agg [.lit (.int .u8 0), .lit (.int .u8 0)], .agg [.lit (.int .u8 0), .lit (.int .u8 0)]]
/-- One of Go's own tables, pinned by name: the form's constant. -/
def laid_unicode_utf8_first : DataW Unit := Go.Pinned.utf8First

/-- 'yashmaklaw18.VaultClean': WHATEVER THE INPUT: true; the input reads as it did. -/
def vaultCleanSpec : ChangeSpec := { name := "vaultClean", fn := fun _ => fun
  | [d1, d2] => { results := [.lit (.bool true)], args := [d1, d2] }
  | _ => none }
def vaultCleanRow : OpenClaim := { program := "ytgeofnemlijbgaadoor", sum := "e4d7f26289aa7acf2ade04520de3c3b0e97c1c1141e59d92321589583c88a5da", func := "yashmak/yashmaklaw18.VaultClean", spec := "vaultClean", unfollowed := true, recurses := true, named := ["unicode/utf8.first", "unicode/utf8.acceptRanges"], apart := false, laid := [("unicode/utf8.acceptRanges", laid_unicode_utf8_acceptRanges), ("unicode/utf8.first", laid_unicode_utf8_first)] }
def VaultCleanSaid : Prop := vaultCleanRow.holds Tryd.pinned (OpenSpec.ofChange vaultCleanSpec)

/-- ITS FALSE NEIGHBOUR: 'it returns false'. Refute it at one input. -/
def vaultCleanWrong : ChangeSpec := { name := "vaultClean", fn := fun _ => fun
  | [d1, d2] => { results := [.lit (.bool false)], args := [d1, d2] }
  | _ => none }
def VaultCleanWrongFalsely : Prop := vaultCleanRow.holds Tryd.pinned (OpenSpec.ofChange vaultCleanWrong)

/-- 'yashmaklaw18.VaultGoes': WHATEVER THE INPUT: true; the input reads as it did. -/
def vaultGoesSpec : ChangeSpec := { name := "vaultGoes", fn := fun _ => fun
  | [d1, d2] => { results := [.lit (.bool true)], args := [d1, d2] }
  | _ => none }
def vaultGoesRow : OpenClaim := { program := "ytgeofnemlijbgaadoor", sum := "e4d7f26289aa7acf2ade04520de3c3b0e97c1c1141e59d92321589583c88a5da", func := "yashmak/yashmaklaw18.VaultGoes", spec := "vaultGoes", unfollowed := true, recurses := true, named := ["unicode/utf8.first", "unicode/utf8.acceptRanges"], apart := false, laid := [("unicode/utf8.acceptRanges", laid_unicode_utf8_acceptRanges), ("unicode/utf8.first", laid_unicode_utf8_first)] }
def VaultGoesSaid : Prop := vaultGoesRow.holds Tryd.pinned (OpenSpec.ofChange vaultGoesSpec)

/-- ITS FALSE NEIGHBOUR: 'it returns false'. Refute it at one input. -/
def vaultGoesWrong : ChangeSpec := { name := "vaultGoes", fn := fun _ => fun
  | [d1, d2] => { results := [.lit (.bool false)], args := [d1, d2] }
  | _ => none }
def VaultGoesWrongFalsely : Prop := vaultGoesRow.holds Tryd.pinned (OpenSpec.ofChange vaultGoesWrong)

/-- 'yashmaklaw18.VaultTells': WHATEVER THE INPUT: true; the input reads as it did. -/
def vaultTellsSpec : ChangeSpec := { name := "vaultTells", fn := fun _ => fun
  | [d1, d2, d3, d4] => { results := [.lit (.bool true)], args := [d1, d2, d3, d4] }
  | _ => none }
def vaultTellsRow : OpenClaim := { program := "ytgeofnemlijbgaadoor", sum := "e4d7f26289aa7acf2ade04520de3c3b0e97c1c1141e59d92321589583c88a5da", func := "yashmak/yashmaklaw18.VaultTells", spec := "vaultTells", unfollowed := true, recurses := true, named := ["unicode/utf8.first", "unicode/utf8.acceptRanges"], apart := false, laid := [("unicode/utf8.acceptRanges", laid_unicode_utf8_acceptRanges), ("unicode/utf8.first", laid_unicode_utf8_first)] }
def VaultTellsSaid : Prop := vaultTellsRow.holds Tryd.pinned (OpenSpec.ofChange vaultTellsSpec)

/-- ITS FALSE NEIGHBOUR: 'it returns false'. Refute it at one input. -/
def vaultTellsWrong : ChangeSpec := { name := "vaultTells", fn := fun _ => fun
  | [d1, d2, d3, d4] => { results := [.lit (.bool false)], args := [d1, d2, d3, d4] }
  | _ => none }
def VaultTellsWrongFalsely : Prop := vaultTellsRow.holds Tryd.pinned (OpenSpec.ofChange vaultTellsWrong)

/-- 'yashmaklaw18.VaultSaves': WHATEVER THE INPUT: true; the input reads as it did. -/
def vaultSavesSpec : ChangeSpec := { name := "vaultSaves", fn := fun _ => fun
  | [d1, d2] => { results := [.lit (.bool true)], args := [d1, d2] }
  | _ => none }
def vaultSavesRow : OpenClaim := { program := "ytgeofnemlijbgaadoor", sum := "e4d7f26289aa7acf2ade04520de3c3b0e97c1c1141e59d92321589583c88a5da", func := "yashmak/yashmaklaw18.VaultSaves", spec := "vaultSaves", unfollowed := true, recurses := true, named := ["unicode/utf8.first", "unicode/utf8.acceptRanges"], apart := false, laid := [("unicode/utf8.acceptRanges", laid_unicode_utf8_acceptRanges), ("unicode/utf8.first", laid_unicode_utf8_first)] }
def VaultSavesSaid : Prop := vaultSavesRow.holds Tryd.pinned (OpenSpec.ofChange vaultSavesSpec)

/-- ITS FALSE NEIGHBOUR: 'it returns false'. Refute it at one input. -/
def vaultSavesWrong : ChangeSpec := { name := "vaultSaves", fn := fun _ => fun
  | [d1, d2] => { results := [.lit (.bool false)], args := [d1, d2] }
  | _ => none }
def VaultSavesWrongFalsely : Prop := vaultSavesRow.holds Tryd.pinned (OpenSpec.ofChange vaultSavesWrong)

/-- 'yashmaklaw18.VaultBack': WHATEVER THE INPUT: true; the input reads as it did. -/
def vaultBackSpec : ChangeSpec := { name := "vaultBack", fn := fun _ => fun
  | [d1, d2] => { results := [.lit (.bool true)], args := [d1, d2] }
  | _ => none }
def vaultBackRow : OpenClaim := { program := "ytgeofnemlijbgaadoor", sum := "e4d7f26289aa7acf2ade04520de3c3b0e97c1c1141e59d92321589583c88a5da", func := "yashmak/yashmaklaw18.VaultBack", spec := "vaultBack", unfollowed := true, recurses := true, named := ["unicode/utf8.first", "unicode/utf8.acceptRanges"], apart := false, laid := [("unicode/utf8.acceptRanges", laid_unicode_utf8_acceptRanges), ("unicode/utf8.first", laid_unicode_utf8_first)] }
def VaultBackSaid : Prop := vaultBackRow.holds Tryd.pinned (OpenSpec.ofChange vaultBackSpec)

/-- ITS FALSE NEIGHBOUR: 'it returns false'. Refute it at one input. -/
def vaultBackWrong : ChangeSpec := { name := "vaultBack", fn := fun _ => fun
  | [d1, d2] => { results := [.lit (.bool false)], args := [d1, d2] }
  | _ => none }
def VaultBackWrongFalsely : Prop := vaultBackRow.holds Tryd.pinned (OpenSpec.ofChange vaultBackWrong)

/-- 'yashmaklaw18.VaultCrashes': WHATEVER THE INPUT: true; the input reads as it did. -/
def vaultCrashesSpec : ChangeSpec := { name := "vaultCrashes", fn := fun _ => fun
  | [d1, d2, d3, d4, d5, d6] => { results := [.lit (.bool true)], args := [d1, d2, d3, d4, d5, d6] }
  | _ => none }
def vaultCrashesRow : OpenClaim := { program := "ytgeofnemlijbgaadoor", sum := "e4d7f26289aa7acf2ade04520de3c3b0e97c1c1141e59d92321589583c88a5da", func := "yashmak/yashmaklaw18.VaultCrashes", spec := "vaultCrashes", unfollowed := true, recurses := true, named := ["unicode/utf8.first", "unicode/utf8.acceptRanges"], apart := false, laid := [("unicode/utf8.acceptRanges", laid_unicode_utf8_acceptRanges), ("unicode/utf8.first", laid_unicode_utf8_first)] }
def VaultCrashesSaid : Prop := vaultCrashesRow.holds Tryd.pinned (OpenSpec.ofChange vaultCrashesSpec)

/-- ITS FALSE NEIGHBOUR: 'it returns false'. Refute it at one input. -/
def vaultCrashesWrong : ChangeSpec := { name := "vaultCrashes", fn := fun _ => fun
  | [d1, d2, d3, d4, d5, d6] => { results := [.lit (.bool false)], args := [d1, d2, d3, d4, d5, d6] }
  | _ => none }
def VaultCrashesWrongFalsely : Prop := vaultCrashesRow.holds Tryd.pinned (OpenSpec.ofChange vaultCrashesWrong)

/- THE SECOND FORM. 'bulk': how many values and letters a reading holds, each counted each time it is reached (what is shared counts as often as it is met; a slice's spare places count too). A statement '..UptoSaid' is the law's where the arguments, and the package variables that the reading takes, are together of bulk at most 1048576: NARROWER than '..Said'. Prove '..Said' where nothing that the law and all that it calls make is longer than what came in: it says more and counts as full. Else prove '..UptoSaid'. A law counts once. -/
mutual
def uptoBulk {H : Type} : DataW H → Nat
  | .lit (.string bytes) => bytes.length + 1
  | .lit _ => 1
  | .nil => 1
  | .ptr d => uptoBulk d + 1
  | .slice elems spare => uptoBulkAll elems + uptoBulkAll spare + 1
  | .agg parts => uptoBulkAll parts + 1
  | .iface _ d => uptoBulk d + 1
  | .map entries => uptoBulkEntries entries + 1
  | .held _ => 1
def uptoBulkAll {H : Type} : List (DataW H) → Nat
  | [] => 0
  | d :: r => uptoBulk d + uptoBulkAll r
def uptoBulkEntries {H : Type} : List (Lit × DataW H) → Nat
  | [] => 0
  | x :: r => uptoBulkEntry x + uptoBulkEntries r
def uptoBulkEntry {H : Type} : Lit × DataW H → Nat
  | (.string bytes, d) => bytes.length + uptoBulk d + 1
  | (_, d) => uptoBulk d + 1
 end
def uptoSmall : (H : Type) → List (DataW H) → Bool := fun _ ds => decide (uptoBulkAll ds ≤ 1048576)
def OpenSpec.upto (s : _root_.Go.ChangeSpec) : _root_.Go.OpenSpec := { _root_.Go.OpenSpec.ofChange s with cond := some uptoSmall }

/-- 'yashmaklaw18.VaultClean', WHERE WHAT IT READS IS OF BULK AT MOST 1048576: true; the input reads as it did. -/
def vaultCleanUptoRow : OpenClaim := { program := "ytgeofnemlijbgaadoor", sum := "e4d7f26289aa7acf2ade04520de3c3b0e97c1c1141e59d92321589583c88a5da", func := "yashmak/yashmaklaw18.VaultClean", spec := "vaultClean", unfollowed := true, recurses := true, named := ["unicode/utf8.first", "unicode/utf8.acceptRanges"], apart := false, laid := [("unicode/utf8.acceptRanges", laid_unicode_utf8_acceptRanges), ("unicode/utf8.first", laid_unicode_utf8_first)], narrowed := true }
def VaultCleanUptoSaid : Prop := vaultCleanUptoRow.holds Tryd.pinned (OpenSpec.upto vaultCleanSpec)

/-- 'yashmaklaw18.VaultGoes', WHERE WHAT IT READS IS OF BULK AT MOST 1048576: true; the input reads as it did. -/
def vaultGoesUptoRow : OpenClaim := { program := "ytgeofnemlijbgaadoor", sum := "e4d7f26289aa7acf2ade04520de3c3b0e97c1c1141e59d92321589583c88a5da", func := "yashmak/yashmaklaw18.VaultGoes", spec := "vaultGoes", unfollowed := true, recurses := true, named := ["unicode/utf8.first", "unicode/utf8.acceptRanges"], apart := false, laid := [("unicode/utf8.acceptRanges", laid_unicode_utf8_acceptRanges), ("unicode/utf8.first", laid_unicode_utf8_first)], narrowed := true }
def VaultGoesUptoSaid : Prop := vaultGoesUptoRow.holds Tryd.pinned (OpenSpec.upto vaultGoesSpec)

/-- 'yashmaklaw18.VaultTells', WHERE WHAT IT READS IS OF BULK AT MOST 1048576: true; the input reads as it did. -/
def vaultTellsUptoRow : OpenClaim := { program := "ytgeofnemlijbgaadoor", sum := "e4d7f26289aa7acf2ade04520de3c3b0e97c1c1141e59d92321589583c88a5da", func := "yashmak/yashmaklaw18.VaultTells", spec := "vaultTells", unfollowed := true, recurses := true, named := ["unicode/utf8.first", "unicode/utf8.acceptRanges"], apart := false, laid := [("unicode/utf8.acceptRanges", laid_unicode_utf8_acceptRanges), ("unicode/utf8.first", laid_unicode_utf8_first)], narrowed := true }
def VaultTellsUptoSaid : Prop := vaultTellsUptoRow.holds Tryd.pinned (OpenSpec.upto vaultTellsSpec)

/-- 'yashmaklaw18.VaultSaves', WHERE WHAT IT READS IS OF BULK AT MOST 1048576: true; the input reads as it did. -/
def vaultSavesUptoRow : OpenClaim := { program := "ytgeofnemlijbgaadoor", sum := "e4d7f26289aa7acf2ade04520de3c3b0e97c1c1141e59d92321589583c88a5da", func := "yashmak/yashmaklaw18.VaultSaves", spec := "vaultSaves", unfollowed := true, recurses := true, named := ["unicode/utf8.first", "unicode/utf8.acceptRanges"], apart := false, laid := [("unicode/utf8.acceptRanges", laid_unicode_utf8_acceptRanges), ("unicode/utf8.first", laid_unicode_utf8_first)], narrowed := true }
def VaultSavesUptoSaid : Prop := vaultSavesUptoRow.holds Tryd.pinned (OpenSpec.upto vaultSavesSpec)

/-- 'yashmaklaw18.VaultBack', WHERE WHAT IT READS IS OF BULK AT MOST 1048576: true; the input reads as it did. -/
def vaultBackUptoRow : OpenClaim := { program := "ytgeofnemlijbgaadoor", sum := "e4d7f26289aa7acf2ade04520de3c3b0e97c1c1141e59d92321589583c88a5da", func := "yashmak/yashmaklaw18.VaultBack", spec := "vaultBack", unfollowed := true, recurses := true, named := ["unicode/utf8.first", "unicode/utf8.acceptRanges"], apart := false, laid := [("unicode/utf8.acceptRanges", laid_unicode_utf8_acceptRanges), ("unicode/utf8.first", laid_unicode_utf8_first)], narrowed := true }
def VaultBackUptoSaid : Prop := vaultBackUptoRow.holds Tryd.pinned (OpenSpec.upto vaultBackSpec)

/-- 'yashmaklaw18.VaultCrashes', WHERE WHAT IT READS IS OF BULK AT MOST 1048576: true; the input reads as it did. -/
def vaultCrashesUptoRow : OpenClaim := { program := "ytgeofnemlijbgaadoor", sum := "e4d7f26289aa7acf2ade04520de3c3b0e97c1c1141e59d92321589583c88a5da", func := "yashmak/yashmaklaw18.VaultCrashes", spec := "vaultCrashes", unfollowed := true, recurses := true, named := ["unicode/utf8.first", "unicode/utf8.acceptRanges"], apart := false, laid := [("unicode/utf8.acceptRanges", laid_unicode_utf8_acceptRanges), ("unicode/utf8.first", laid_unicode_utf8_first)], narrowed := true }
def VaultCrashesUptoSaid : Prop := vaultCrashesUptoRow.holds Tryd.pinned (OpenSpec.upto vaultCrashesSpec)

end Rows
end Go.Proofs.YtgeofnemlijbgaaDoor
