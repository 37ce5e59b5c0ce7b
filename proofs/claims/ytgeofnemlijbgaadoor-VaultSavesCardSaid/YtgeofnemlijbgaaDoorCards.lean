/-
  DERIVED. GIVEN WITH THE SEED: THE CARDS: each row of YtgeofnemlijbgaaDoorRows.lean that lists a variable, with what it lists TIED to the program's text (the seventh form; the later family's looks); each row that meets fmt, with fmt's text TOLD by the authors' own Lean function (tested against real Go, not proved from fmt's source: count such statements apart). THE CARD IS WHAT COUNTS. Prove the row's statement (the work); the ties are given (YtgeofnemlijbgaaDoorTie.lean); close each card by the builder's one call (the guide's Derived/Test/ToyasCard.lean, 'card_holds'). Laid BY PROGRAM, IN A SANDBOX (cutbox-door.mjs). By AI agents, Wed Nov 11 2026. No macro, syntax, notation, axiom, sorry.
-/
import Derived.Test.YtgeofnemlijbgaaDoorRows
import GoSem.ClaimSeven
namespace Go.Proofs.YtgeofnemlijbgaaDoor
namespace Rows

/-- THE TIED CARD OF 'yashmaklaw18.VaultClean'. -/
def vaultCleanCard : Claim7 := { stood := { row := vaultCleanRow, standIns := [], harness := (true, "86de2a4b3fa56e51921562e2fb0de6d5b46e56dd2e2e8a0b44dfd5e3679b5e6a"), looks := false }, kinds := [], alts := [], laidByText := true, laidKinds := [.data, .pinned], laidTests := true, laidLooks := .later }
def VaultCleanCardSaid : Prop := Claim7.holds Tryd.pinned (.plain (OpenSpec.ofChange vaultCleanSpec)) vaultCleanCard

/-- THE TIED CARD OF 'yashmaklaw18.VaultGoes'. -/
def vaultGoesCard : Claim7 := { stood := { row := vaultGoesRow, standIns := [], harness := (true, "86de2a4b3fa56e51921562e2fb0de6d5b46e56dd2e2e8a0b44dfd5e3679b5e6a"), looks := false }, kinds := [], alts := [], laidByText := true, laidKinds := [.data, .pinned], laidTests := true, laidLooks := .later }
def VaultGoesCardSaid : Prop := Claim7.holds Tryd.pinned (.plain (OpenSpec.ofChange vaultGoesSpec)) vaultGoesCard

/-- THE TIED CARD OF 'yashmaklaw18.VaultTells'. -/
def vaultTellsCard : Claim7 := { stood := { row := vaultTellsRow, standIns := [], harness := (true, "86de2a4b3fa56e51921562e2fb0de6d5b46e56dd2e2e8a0b44dfd5e3679b5e6a"), looks := false }, kinds := [], alts := [], laidByText := true, laidKinds := [.data, .pinned], laidTests := true, laidLooks := .later }
def VaultTellsCardSaid : Prop := Claim7.holds Tryd.pinned (.plain (OpenSpec.ofChange vaultTellsSpec)) vaultTellsCard

/-- THE TIED CARD OF 'yashmaklaw18.VaultSaves'. -/
def vaultSavesCard : Claim7 := { stood := { row := vaultSavesRow, standIns := [], harness := (true, "86de2a4b3fa56e51921562e2fb0de6d5b46e56dd2e2e8a0b44dfd5e3679b5e6a"), looks := false }, kinds := [], alts := [], laidByText := true, laidKinds := [.data, .pinned], laidTests := true, laidLooks := .later }
def VaultSavesCardSaid : Prop := Claim7.holds Tryd.pinned (.plain (OpenSpec.ofChange vaultSavesSpec)) vaultSavesCard

/-- THE TIED CARD OF 'yashmaklaw18.VaultBack'. -/
def vaultBackCard : Claim7 := { stood := { row := vaultBackRow, standIns := [], harness := (true, "86de2a4b3fa56e51921562e2fb0de6d5b46e56dd2e2e8a0b44dfd5e3679b5e6a"), looks := false }, kinds := [], alts := [], laidByText := true, laidKinds := [.data, .pinned], laidTests := true, laidLooks := .later }
def VaultBackCardSaid : Prop := Claim7.holds Tryd.pinned (.plain (OpenSpec.ofChange vaultBackSpec)) vaultBackCard

/-- THE TIED CARD OF 'yashmaklaw18.VaultCrashes'. -/
def vaultCrashesCard : Claim7 := { stood := { row := vaultCrashesRow, standIns := [], harness := (true, "86de2a4b3fa56e51921562e2fb0de6d5b46e56dd2e2e8a0b44dfd5e3679b5e6a"), looks := false }, kinds := [], alts := [], laidByText := true, laidKinds := [.data, .pinned], laidTests := true, laidLooks := .later }
def VaultCrashesCardSaid : Prop := Claim7.holds Tryd.pinned (.plain (OpenSpec.ofChange vaultCrashesSpec)) vaultCrashesCard

/-- THE SECOND FORM's CARD OF 'yashmaklaw18.VaultClean'. -/
def vaultCleanUptoCard : Claim7 := { stood := { row := vaultCleanUptoRow, standIns := [], harness := (true, "86de2a4b3fa56e51921562e2fb0de6d5b46e56dd2e2e8a0b44dfd5e3679b5e6a"), looks := false }, kinds := [], alts := [], laidByText := true, laidKinds := [.data, .pinned], laidTests := true, laidLooks := .later }
def VaultCleanUptoCardSaid : Prop := Claim7.holds Tryd.pinned (.plain (OpenSpec.upto vaultCleanSpec)) vaultCleanUptoCard

/-- THE SECOND FORM's CARD OF 'yashmaklaw18.VaultGoes'. -/
def vaultGoesUptoCard : Claim7 := { stood := { row := vaultGoesUptoRow, standIns := [], harness := (true, "86de2a4b3fa56e51921562e2fb0de6d5b46e56dd2e2e8a0b44dfd5e3679b5e6a"), looks := false }, kinds := [], alts := [], laidByText := true, laidKinds := [.data, .pinned], laidTests := true, laidLooks := .later }
def VaultGoesUptoCardSaid : Prop := Claim7.holds Tryd.pinned (.plain (OpenSpec.upto vaultGoesSpec)) vaultGoesUptoCard

/-- THE SECOND FORM's CARD OF 'yashmaklaw18.VaultTells'. -/
def vaultTellsUptoCard : Claim7 := { stood := { row := vaultTellsUptoRow, standIns := [], harness := (true, "86de2a4b3fa56e51921562e2fb0de6d5b46e56dd2e2e8a0b44dfd5e3679b5e6a"), looks := false }, kinds := [], alts := [], laidByText := true, laidKinds := [.data, .pinned], laidTests := true, laidLooks := .later }
def VaultTellsUptoCardSaid : Prop := Claim7.holds Tryd.pinned (.plain (OpenSpec.upto vaultTellsSpec)) vaultTellsUptoCard

/-- THE SECOND FORM's CARD OF 'yashmaklaw18.VaultSaves'. -/
def vaultSavesUptoCard : Claim7 := { stood := { row := vaultSavesUptoRow, standIns := [], harness := (true, "86de2a4b3fa56e51921562e2fb0de6d5b46e56dd2e2e8a0b44dfd5e3679b5e6a"), looks := false }, kinds := [], alts := [], laidByText := true, laidKinds := [.data, .pinned], laidTests := true, laidLooks := .later }
def VaultSavesUptoCardSaid : Prop := Claim7.holds Tryd.pinned (.plain (OpenSpec.upto vaultSavesSpec)) vaultSavesUptoCard

/-- THE SECOND FORM's CARD OF 'yashmaklaw18.VaultBack'. -/
def vaultBackUptoCard : Claim7 := { stood := { row := vaultBackUptoRow, standIns := [], harness := (true, "86de2a4b3fa56e51921562e2fb0de6d5b46e56dd2e2e8a0b44dfd5e3679b5e6a"), looks := false }, kinds := [], alts := [], laidByText := true, laidKinds := [.data, .pinned], laidTests := true, laidLooks := .later }
def VaultBackUptoCardSaid : Prop := Claim7.holds Tryd.pinned (.plain (OpenSpec.upto vaultBackSpec)) vaultBackUptoCard

/-- THE SECOND FORM's CARD OF 'yashmaklaw18.VaultCrashes'. -/
def vaultCrashesUptoCard : Claim7 := { stood := { row := vaultCrashesUptoRow, standIns := [], harness := (true, "86de2a4b3fa56e51921562e2fb0de6d5b46e56dd2e2e8a0b44dfd5e3679b5e6a"), looks := false }, kinds := [], alts := [], laidByText := true, laidKinds := [.data, .pinned], laidTests := true, laidLooks := .later }
def VaultCrashesUptoCardSaid : Prop := Claim7.holds Tryd.pinned (.plain (OpenSpec.upto vaultCrashesSpec)) vaultCrashesUptoCard
end Rows
end Go.Proofs.YtgeofnemlijbgaaDoor
