/-
  DERIVED. GIVEN WITH THE SEED: THE CARDS: each row of YtnaphhfmccbamaaGreatDoorRows.lean that lists a variable, with what it lists TIED to the program's text (the seventh form; the later family's looks); each row that meets fmt, with fmt's text TOLD by the authors' own Lean function (tested against real Go, not proved from fmt's source: count such statements apart). THE CARD IS WHAT COUNTS. Prove the row's statement (the work); the ties are given (YtnaphhfmccbamaaGreatDoorTie.lean); close each card by the builder's one call (the guide's Derived/Test/ToyasCard.lean, 'card_holds'). Laid BY PROGRAM, IN A SANDBOX (cutbox-door.mjs). By AI agents, Wed Nov 11 2026. No macro, syntax, notation, axiom, sorry.
-/
import Derived.Test.YtnaphhfmccbamaaGreatDoorRows
import GoSem.ClaimSeven
namespace Go.Proofs.YtnaphhfmccbamaaGreatDoor
namespace Rows

/-- THE TIED CARD OF 'carpetbaglaw28.NativesPrint'. -/
def nativesPrintCard : Claim7 := { stood := { row := nativesPrintRow, standIns := [], harness := (true, "2804728d85cf04258c4025367009e3afac90c26f8e6f593da08193f2f3cd21b9"), looks := false }, kinds := [], alts := [], laidByText := true, laidKinds := [.data, .data, .data], laidTests := true, laidLooks := .later }
def NativesPrintCardSaid : Prop := Claim7.holds Tryz.pinned (.plain (OpenSpec.ofChange nativesPrintSpec)) nativesPrintCard

/-- THE TIED CARD OF 'carpetbaglaw28.NativesPlay'. -/
def nativesPlayCard : Claim7 := { stood := { row := nativesPlayRow, standIns := [], harness := (true, "2804728d85cf04258c4025367009e3afac90c26f8e6f593da08193f2f3cd21b9"), looks := false }, kinds := [], alts := [], laidByText := true, laidKinds := [.data, .data, .data], laidTests := true, laidLooks := .later }
def NativesPlayCardSaid : Prop := Claim7.holds Tryz.pinned (.plain (OpenSpec.ofChange nativesPlaySpec)) nativesPlayCard

/-- THE TIED CARD OF 'carpetbaglaw28.NativesNames'. -/
def nativesNamesCard : Claim7 := { stood := { row := nativesNamesRow, standIns := [], harness := (true, "2804728d85cf04258c4025367009e3afac90c26f8e6f593da08193f2f3cd21b9"), looks := false }, kinds := [], alts := [], laidByText := true, laidKinds := [.data, .data, .data], laidTests := true, laidLooks := .later }
def NativesNamesCardSaid : Prop := Claim7.holds Tryz.pinned (.plain (OpenSpec.ofChange nativesNamesSpec)) nativesNamesCard

/-- THE SECOND FORM's CARD OF 'carpetbaglaw28.NativesPrint'. -/
def nativesPrintUptoCard : Claim7 := { stood := { row := nativesPrintUptoRow, standIns := [], harness := (true, "2804728d85cf04258c4025367009e3afac90c26f8e6f593da08193f2f3cd21b9"), looks := false }, kinds := [], alts := [], laidByText := true, laidKinds := [.data, .data, .data], laidTests := true, laidLooks := .later }
def NativesPrintUptoCardSaid : Prop := Claim7.holds Tryz.pinned (.plain (OpenSpec.upto nativesPrintSpec)) nativesPrintUptoCard

/-- THE SECOND FORM's CARD OF 'carpetbaglaw28.NativesPlay'. -/
def nativesPlayUptoCard : Claim7 := { stood := { row := nativesPlayUptoRow, standIns := [], harness := (true, "2804728d85cf04258c4025367009e3afac90c26f8e6f593da08193f2f3cd21b9"), looks := false }, kinds := [], alts := [], laidByText := true, laidKinds := [.data, .data, .data], laidTests := true, laidLooks := .later }
def NativesPlayUptoCardSaid : Prop := Claim7.holds Tryz.pinned (.plain (OpenSpec.upto nativesPlaySpec)) nativesPlayUptoCard

/-- THE SECOND FORM's CARD OF 'carpetbaglaw28.NativesNames'. -/
def nativesNamesUptoCard : Claim7 := { stood := { row := nativesNamesUptoRow, standIns := [], harness := (true, "2804728d85cf04258c4025367009e3afac90c26f8e6f593da08193f2f3cd21b9"), looks := false }, kinds := [], alts := [], laidByText := true, laidKinds := [.data, .data, .data], laidTests := true, laidLooks := .later }
def NativesNamesUptoCardSaid : Prop := Claim7.holds Tryz.pinned (.plain (OpenSpec.upto nativesNamesSpec)) nativesNamesUptoCard
end Rows
end Go.Proofs.YtnaphhfmccbamaaGreatDoor
