/-
  DERIVED. GIVEN WITH THE SEED: THE CARDS: each row of YtgeebjfbcjhifaaDoorRows.lean that lists a variable, with what it lists TIED to the program's text (the seventh form; the later family's looks); each row that meets fmt, with fmt's text TOLD by the authors' own Lean function (tested against real Go, not proved from fmt's source: count such statements apart). THE CARD IS WHAT COUNTS. Prove the row's statement (the work); the ties are given (YtgeebjfbcjhifaaDoorTie.lean); close each card by the builder's one call (the guide's Derived/Test/ToyasCard.lean, 'card_holds'). Laid BY PROGRAM, IN A SANDBOX (cutbox-door.mjs). By AI agents, Wed Nov 11 2026. No macro, syntax, notation, axiom, sorry.
-/
import Derived.Test.YtgeebjfbcjhifaaDoorRows
import GoSem.ClaimSeven
namespace Go.Proofs.YtgeebjfbcjhifaaDoor
namespace Rows

/-- THE TIED CARD OF 'enclosurelaw.WaveBack'. -/
def waveBackCard : Claim7 := { stood := { row := waveBackRow, standIns := [], harness := (true, "2cb6b8c7c564a6eb66edbb50a31b263ae13f4d97e39d154e88e98952dd243a54"), looks := false }, kinds := [], alts := [], laidByText := true, laidKinds := [.data, .data, .data], laidTests := true, laidLooks := .later }
def WaveBackCardSaid : Prop := Claim7.holds Tryd.pinned (.plain (OpenSpec.ofChange waveBackSpec)) waveBackCard

/-- THE SECOND FORM's CARD OF 'enclosurelaw.WaveBack'. -/
def waveBackUptoCard : Claim7 := { stood := { row := waveBackUptoRow, standIns := [], harness := (true, "2cb6b8c7c564a6eb66edbb50a31b263ae13f4d97e39d154e88e98952dd243a54"), looks := false }, kinds := [], alts := [], laidByText := true, laidKinds := [.data, .data, .data], laidTests := true, laidLooks := .later }
def WaveBackUptoCardSaid : Prop := Claim7.holds Tryd.pinned (.plain (OpenSpec.upto waveBackSpec)) waveBackUptoCard
end Rows
end Go.Proofs.YtgeebjfbcjhifaaDoor
