/-
  DERIVED. GIVEN WITH THE SEED: THE CARDS: each row of YtpogpfabnkgkfaaDoorRows.lean that lists a variable, with what it lists TIED to the program's text (the seventh form; the later family's looks); each row that meets fmt, with fmt's text TOLD by the authors' own Lean function (tested against real Go, not proved from fmt's source: count such statements apart). THE CARD IS WHAT COUNTS. Prove the row's statement (the work); the ties are given (YtpogpfabnkgkfaaDoorTie.lean); close each card by the builder's one call (the guide's Derived/Test/ToyasCard.lean, 'card_holds'). Laid BY PROGRAM, IN A SANDBOX (cutbox-door.mjs). By AI agents, Wed Nov 11 2026. No macro, syntax, notation, axiom, sorry.
-/
import Derived.Test.YtpogpfabnkgkfaaDoorRows
import GoSem.ClaimSeven
namespace Go.Proofs.YtpogpfabnkgkfaaDoor
namespace Rows

/-- THE TIED CARD OF 'baileelaw23.PlacingLate'. -/
def placingLateCard : Claim7 := { stood := { row := placingLateRow, standIns := [], harness := (true, "6b4366b2ab89072e9d730993984521e436456de58aa03db0605c2df52b786c93"), looks := false }, kinds := [], alts := [], laidByText := true, laidKinds := [.data], laidTests := true, laidLooks := .later }
def PlacingLateCardSaid : Prop := Claim7.holds Tryd.pinned (.plain (OpenSpec.ofChange placingLateSpec)) placingLateCard

/-- THE SECOND FORM's CARD OF 'baileelaw23.PlacingLate'. -/
def placingLateUptoCard : Claim7 := { stood := { row := placingLateUptoRow, standIns := [], harness := (true, "6b4366b2ab89072e9d730993984521e436456de58aa03db0605c2df52b786c93"), looks := false }, kinds := [], alts := [], laidByText := true, laidKinds := [.data], laidTests := true, laidLooks := .later }
def PlacingLateUptoCardSaid : Prop := Claim7.holds Tryd.pinned (.plain (OpenSpec.upto placingLateSpec)) placingLateUptoCard
end Rows
end Go.Proofs.YtpogpfabnkgkfaaDoor
