/-
  DERIVED. GIVEN WITH THE SEED: THE CARDS: each row of YtjjfkidddjcdcaaDoorRows.lean that lists a variable, with what it lists TIED to the program's text (the seventh form; the later family's looks); each row that meets fmt, with fmt's text TOLD by the authors' own Lean function (tested against real Go, not proved from fmt's source: count such statements apart). THE CARD IS WHAT COUNTS. Prove the row's statement (the work); the ties are given (YtjjfkidddjcdcaaDoorTie.lean); close each card by the builder's one call (the guide's Derived/Test/ToyasCard.lean, 'card_holds'). Laid BY PROGRAM, IN A SANDBOX (cutbox-door.mjs). By AI agents, Wed Nov 11 2026. No macro, syntax, notation, axiom, sorry.
-/
import Derived.Test.YtjjfkidddjcdcaaDoorRows
import GoSem.ClaimSeven
namespace Go.Proofs.YtjjfkidddjcdcaaDoor
namespace Rows

/-- THE TIED CARD OF 'enclosurelaw.ChanceOften'. -/
def chanceOftenCard : Claim7 := { stood := { row := chanceOftenRow, standIns := [], harness := (true, "eb762d8a47b875f85d5db458a8adf2cecadba1e067080b3550063545bfb4529b"), looks := false }, kinds := [], alts := [], laidByText := true, laidKinds := [.data], laidTests := true, laidLooks := .later }
def ChanceOftenCardSaid : Prop := Claim7.holds Tryd.pinned (.plain (OpenSpec.ofChange chanceOftenSpec)) chanceOftenCard

/-- THE TIED CARD OF 'enclosurelaw.BitsParts'. -/
def bitsPartsCard : Claim7 := { stood := { row := bitsPartsRow, standIns := [], harness := (true, "eb762d8a47b875f85d5db458a8adf2cecadba1e067080b3550063545bfb4529b"), looks := false }, kinds := [], alts := [], laidByText := true, laidKinds := [.data, .data], laidTests := true, laidLooks := .later }
def BitsPartsCardSaid : Prop := Claim7.holds Tryd.pinned (.plain (OpenSpec.ofChange bitsPartsSpec)) bitsPartsCard

/-- THE TIED CARD OF 'enclosurelaw.BitsMakes'. -/
def bitsMakesCard : Claim7 := { stood := { row := bitsMakesRow, standIns := [], harness := (true, "eb762d8a47b875f85d5db458a8adf2cecadba1e067080b3550063545bfb4529b"), looks := false }, kinds := [], alts := [], laidByText := true, laidKinds := [.data, .data], laidTests := true, laidLooks := .later }
def BitsMakesCardSaid : Prop := Claim7.holds Tryd.pinned (.plain (OpenSpec.ofChange bitsMakesSpec)) bitsMakesCard

/-- THE TIED CARD OF 'enclosurelaw.BitsSmall'. -/
def bitsSmallCard : Claim7 := { stood := { row := bitsSmallRow, standIns := [], harness := (true, "eb762d8a47b875f85d5db458a8adf2cecadba1e067080b3550063545bfb4529b"), looks := false }, kinds := [], alts := [], laidByText := true, laidKinds := [.data], laidTests := true, laidLooks := .later }
def BitsSmallCardSaid : Prop := Claim7.holds Tryd.pinned (.plain (OpenSpec.ofChange bitsSmallSpec)) bitsSmallCard

/-- THE TIED CARD OF 'enclosurelaw.BitsNeighbours'. -/
def bitsNeighboursCard : Claim7 := { stood := { row := bitsNeighboursRow, standIns := [], harness := (true, "eb762d8a47b875f85d5db458a8adf2cecadba1e067080b3550063545bfb4529b"), looks := false }, kinds := [], alts := [], laidByText := true, laidKinds := [.data, .data], laidTests := true, laidLooks := .later }
def BitsNeighboursCardSaid : Prop := Claim7.holds Tryd.pinned (.plain (OpenSpec.ofChange bitsNeighboursSpec)) bitsNeighboursCard

/-- THE TIED CARD OF 'enclosurelaw.ChanceSays'. -/
def chanceSaysCard : Claim7 := { stood := { row := chanceSaysRow, standIns := [], harness := (true, "eb762d8a47b875f85d5db458a8adf2cecadba1e067080b3550063545bfb4529b"), looks := false }, kinds := [], alts := [], laidByText := true, laidKinds := [.data], laidTests := true, laidLooks := .later }
def ChanceSaysCardSaid : Prop := Claim7.holds Tryd.pinned (.plain (OpenSpec.ofChange chanceSaysSpec)) chanceSaysCard

/-- THE SECOND FORM's CARD OF 'enclosurelaw.ChanceOften'. -/
def chanceOftenUptoCard : Claim7 := { stood := { row := chanceOftenUptoRow, standIns := [], harness := (true, "eb762d8a47b875f85d5db458a8adf2cecadba1e067080b3550063545bfb4529b"), looks := false }, kinds := [], alts := [], laidByText := true, laidKinds := [.data], laidTests := true, laidLooks := .later }
def ChanceOftenUptoCardSaid : Prop := Claim7.holds Tryd.pinned (.plain (OpenSpec.upto chanceOftenSpec)) chanceOftenUptoCard

/-- THE SECOND FORM's CARD OF 'enclosurelaw.BitsParts'. -/
def bitsPartsUptoCard : Claim7 := { stood := { row := bitsPartsUptoRow, standIns := [], harness := (true, "eb762d8a47b875f85d5db458a8adf2cecadba1e067080b3550063545bfb4529b"), looks := false }, kinds := [], alts := [], laidByText := true, laidKinds := [.data, .data], laidTests := true, laidLooks := .later }
def BitsPartsUptoCardSaid : Prop := Claim7.holds Tryd.pinned (.plain (OpenSpec.upto bitsPartsSpec)) bitsPartsUptoCard

/-- THE SECOND FORM's CARD OF 'enclosurelaw.BitsMakes'. -/
def bitsMakesUptoCard : Claim7 := { stood := { row := bitsMakesUptoRow, standIns := [], harness := (true, "eb762d8a47b875f85d5db458a8adf2cecadba1e067080b3550063545bfb4529b"), looks := false }, kinds := [], alts := [], laidByText := true, laidKinds := [.data, .data], laidTests := true, laidLooks := .later }
def BitsMakesUptoCardSaid : Prop := Claim7.holds Tryd.pinned (.plain (OpenSpec.upto bitsMakesSpec)) bitsMakesUptoCard

/-- THE SECOND FORM's CARD OF 'enclosurelaw.BitsSmall'. -/
def bitsSmallUptoCard : Claim7 := { stood := { row := bitsSmallUptoRow, standIns := [], harness := (true, "eb762d8a47b875f85d5db458a8adf2cecadba1e067080b3550063545bfb4529b"), looks := false }, kinds := [], alts := [], laidByText := true, laidKinds := [.data], laidTests := true, laidLooks := .later }
def BitsSmallUptoCardSaid : Prop := Claim7.holds Tryd.pinned (.plain (OpenSpec.upto bitsSmallSpec)) bitsSmallUptoCard

/-- THE SECOND FORM's CARD OF 'enclosurelaw.BitsNeighbours'. -/
def bitsNeighboursUptoCard : Claim7 := { stood := { row := bitsNeighboursUptoRow, standIns := [], harness := (true, "eb762d8a47b875f85d5db458a8adf2cecadba1e067080b3550063545bfb4529b"), looks := false }, kinds := [], alts := [], laidByText := true, laidKinds := [.data, .data], laidTests := true, laidLooks := .later }
def BitsNeighboursUptoCardSaid : Prop := Claim7.holds Tryd.pinned (.plain (OpenSpec.upto bitsNeighboursSpec)) bitsNeighboursUptoCard

/-- THE SECOND FORM's CARD OF 'enclosurelaw.ChanceSays'. -/
def chanceSaysUptoCard : Claim7 := { stood := { row := chanceSaysUptoRow, standIns := [], harness := (true, "eb762d8a47b875f85d5db458a8adf2cecadba1e067080b3550063545bfb4529b"), looks := false }, kinds := [], alts := [], laidByText := true, laidKinds := [.data], laidTests := true, laidLooks := .later }
def ChanceSaysUptoCardSaid : Prop := Claim7.holds Tryd.pinned (.plain (OpenSpec.upto chanceSaysSpec)) chanceSaysUptoCard
end Rows
end Go.Proofs.YtjjfkidddjcdcaaDoor
