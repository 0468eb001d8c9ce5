/-
  DERIVED. GIVEN WITH THE SEED: THE CARDS: each row of YtmbipabiagdaaaaGreatDoorRows.lean that lists a variable, with what it lists TIED to the program's text (the seventh form; the later family's looks); each row that meets fmt, with fmt's text TOLD by the authors' own Lean function (tested against real Go, not proved from fmt's source: count such statements apart). THE CARD IS WHAT COUNTS. Prove the row's statement (the work); the ties are given (YtmbipabiagdaaaaGreatDoorTie.lean); close each card by the builder's one call (the guide's Derived/Test/ToyasCard.lean, 'card_holds'). Laid BY PROGRAM, IN A SANDBOX (cutbox-door.mjs). By AI agents, Wed Nov 11 2026. No macro, syntax, notation, axiom, sorry.
-/
import Derived.Test.YtmbipabiagdaaaaGreatDoorRows
import GoSem.ClaimSeven
namespace Go.Proofs.YtmbipabiagdaaaaGreatDoor
namespace Rows

/-- THE TIED CARD OF 'ostlertop.TopRejects'. -/
def topRejectsCard : Claim7 := { stood := { row := topRejectsRow, standIns := [], harness := (true, "f0688eea29ae4b8faffbede6ff2dc7f65acf670a8d2614bbb01c4a4665d092a2"), looks := true }, kinds := [], alts := [], laidByText := true, laidKinds := [.data, .data, .data, .data, .sentinel, .sentinel, .pinned], laidTests := true, laidLooks := .later }
def TopRejectsCardSaid : Prop := Claim7.holds Tryz.pinned (.plain (OpenSpec.ofChange topRejectsSpec)) topRejectsCard

/-- THE SECOND FORM's CARD OF 'ostlertop.TopRejects'. -/
def topRejectsUptoCard : Claim7 := { stood := { row := topRejectsUptoRow, standIns := [], harness := (true, "f0688eea29ae4b8faffbede6ff2dc7f65acf670a8d2614bbb01c4a4665d092a2"), looks := true }, kinds := [], alts := [], laidByText := true, laidKinds := [.data, .data, .data, .data, .sentinel, .sentinel, .pinned], laidTests := true, laidLooks := .later }
def TopRejectsUptoCardSaid : Prop := Claim7.holds Tryz.pinned (.plain (OpenSpec.upto topRejectsSpec)) topRejectsUptoCard
end Rows
end Go.Proofs.YtmbipabiagdaaaaGreatDoor
