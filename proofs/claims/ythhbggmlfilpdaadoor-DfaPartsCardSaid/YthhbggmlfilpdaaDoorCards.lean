/-
  DERIVED. GIVEN WITH THE SEED: THE CARDS: each row of YthhbggmlfilpdaaDoorRows.lean that lists a variable, with what it lists TIED to the program's text (the seventh form; the later family's looks); each row that meets fmt, with fmt's text TOLD by the authors' own Lean function (tested against real Go, not proved from fmt's source: count such statements apart). THE CARD IS WHAT COUNTS. Prove the row's statement (the work); the ties are given (YthhbggmlfilpdaaDoorTie.lean); close each card by the builder's one call (the guide's Derived/Test/ToyasCard.lean, 'card_holds'). Laid BY PROGRAM, IN A SANDBOX (cutbox-door.mjs). By AI agents, Wed Nov 11 2026. No macro, syntax, notation, axiom, sorry.
-/
import Derived.Test.YthhbggmlfilpdaaDoorRows
import GoSem.ClaimSeven
namespace Go.Proofs.YthhbggmlfilpdaaDoor
namespace Rows

/-- THE TIED CARD OF 'droverlaw19.DfaMakes'. -/
def dfaMakesCard : Claim7 := { stood := { row := dfaMakesRow, standIns := [], harness := (true, "92dae3aa380a7fdf1f0f943eee8c44382cf1df2d1740e59760fd17ae4ee3d4e9"), looks := false }, kinds := [], alts := [], laidByText := true, laidKinds := [.data, .data, .data], laidTests := true, laidLooks := .later }
def DfaMakesCardSaid : Prop := Claim7.holds Tryd.pinned (.plain (OpenSpec.ofChange dfaMakesSpec)) dfaMakesCard

/-- THE TIED CARD OF 'droverlaw19.DfaRaw'. -/
def dfaRawCard : Claim7 := { stood := { row := dfaRawRow, standIns := [], harness := (true, "92dae3aa380a7fdf1f0f943eee8c44382cf1df2d1740e59760fd17ae4ee3d4e9"), looks := false }, kinds := [], alts := [], laidByText := true, laidKinds := [.data, .data, .data], laidTests := true, laidLooks := .later }
def DfaRawCardSaid : Prop := Claim7.holds Tryd.pinned (.plain (OpenSpec.ofChange dfaRawSpec)) dfaRawCard

/-- THE TIED CARD OF 'droverlaw19.DfaGoes'. -/
def dfaGoesCard : Claim7 := { stood := { row := dfaGoesRow, standIns := [], harness := (true, "92dae3aa380a7fdf1f0f943eee8c44382cf1df2d1740e59760fd17ae4ee3d4e9"), looks := false }, kinds := [], alts := [], laidByText := true, laidKinds := [.data, .data, .data], laidTests := true, laidLooks := .later }
def DfaGoesCardSaid : Prop := Claim7.holds Tryd.pinned (.plain (OpenSpec.ofChange dfaGoesSpec)) dfaGoesCard

/-- THE TIED CARD OF 'droverlaw19.DfaSmalls'. -/
def dfaSmallsCard : Claim7 := { stood := { row := dfaSmallsRow, standIns := [], harness := (true, "92dae3aa380a7fdf1f0f943eee8c44382cf1df2d1740e59760fd17ae4ee3d4e9"), looks := false }, kinds := [], alts := [], laidByText := true, laidKinds := [.data, .data, .data], laidTests := true, laidLooks := .later }
def DfaSmallsCardSaid : Prop := Claim7.holds Tryd.pinned (.plain (OpenSpec.ofChange dfaSmallsSpec)) dfaSmallsCard

/-- THE TIED CARD OF 'droverlaw19.DfaLeast'. -/
def dfaLeastCard : Claim7 := { stood := { row := dfaLeastRow, standIns := [], harness := (true, "92dae3aa380a7fdf1f0f943eee8c44382cf1df2d1740e59760fd17ae4ee3d4e9"), looks := false }, kinds := [], alts := [], laidByText := true, laidKinds := [.data, .data, .data], laidTests := true, laidLooks := .later }
def DfaLeastCardSaid : Prop := Claim7.holds Tryd.pinned (.plain (OpenSpec.ofChange dfaLeastSpec)) dfaLeastCard

/-- THE TIED CARD OF 'droverlaw19.DfaJoins'. -/
def dfaJoinsCard : Claim7 := { stood := { row := dfaJoinsRow, standIns := [], harness := (true, "92dae3aa380a7fdf1f0f943eee8c44382cf1df2d1740e59760fd17ae4ee3d4e9"), looks := false }, kinds := [], alts := [], laidByText := true, laidKinds := [.data, .data, .data], laidTests := true, laidLooks := .later }
def DfaJoinsCardSaid : Prop := Claim7.holds Tryd.pinned (.plain (OpenSpec.ofChange dfaJoinsSpec)) dfaJoinsCard

/-- THE TIED CARD OF 'droverlaw19.DfaParts'. -/
def dfaPartsCard : Claim7 := { stood := { row := dfaPartsRow, standIns := [], harness := (true, "92dae3aa380a7fdf1f0f943eee8c44382cf1df2d1740e59760fd17ae4ee3d4e9"), looks := false }, kinds := [], alts := [], laidByText := true, laidKinds := [.data, .data, .data], laidTests := true, laidLooks := .later }
def DfaPartsCardSaid : Prop := Claim7.holds Tryd.pinned (.plain (OpenSpec.ofChange dfaPartsSpec)) dfaPartsCard

/-- THE SECOND FORM's CARD OF 'droverlaw19.DfaMakes'. -/
def dfaMakesUptoCard : Claim7 := { stood := { row := dfaMakesUptoRow, standIns := [], harness := (true, "92dae3aa380a7fdf1f0f943eee8c44382cf1df2d1740e59760fd17ae4ee3d4e9"), looks := false }, kinds := [], alts := [], laidByText := true, laidKinds := [.data, .data, .data], laidTests := true, laidLooks := .later }
def DfaMakesUptoCardSaid : Prop := Claim7.holds Tryd.pinned (.plain (OpenSpec.upto dfaMakesSpec)) dfaMakesUptoCard

/-- THE SECOND FORM's CARD OF 'droverlaw19.DfaRaw'. -/
def dfaRawUptoCard : Claim7 := { stood := { row := dfaRawUptoRow, standIns := [], harness := (true, "92dae3aa380a7fdf1f0f943eee8c44382cf1df2d1740e59760fd17ae4ee3d4e9"), looks := false }, kinds := [], alts := [], laidByText := true, laidKinds := [.data, .data, .data], laidTests := true, laidLooks := .later }
def DfaRawUptoCardSaid : Prop := Claim7.holds Tryd.pinned (.plain (OpenSpec.upto dfaRawSpec)) dfaRawUptoCard

/-- THE SECOND FORM's CARD OF 'droverlaw19.DfaGoes'. -/
def dfaGoesUptoCard : Claim7 := { stood := { row := dfaGoesUptoRow, standIns := [], harness := (true, "92dae3aa380a7fdf1f0f943eee8c44382cf1df2d1740e59760fd17ae4ee3d4e9"), looks := false }, kinds := [], alts := [], laidByText := true, laidKinds := [.data, .data, .data], laidTests := true, laidLooks := .later }
def DfaGoesUptoCardSaid : Prop := Claim7.holds Tryd.pinned (.plain (OpenSpec.upto dfaGoesSpec)) dfaGoesUptoCard

/-- THE SECOND FORM's CARD OF 'droverlaw19.DfaSmalls'. -/
def dfaSmallsUptoCard : Claim7 := { stood := { row := dfaSmallsUptoRow, standIns := [], harness := (true, "92dae3aa380a7fdf1f0f943eee8c44382cf1df2d1740e59760fd17ae4ee3d4e9"), looks := false }, kinds := [], alts := [], laidByText := true, laidKinds := [.data, .data, .data], laidTests := true, laidLooks := .later }
def DfaSmallsUptoCardSaid : Prop := Claim7.holds Tryd.pinned (.plain (OpenSpec.upto dfaSmallsSpec)) dfaSmallsUptoCard

/-- THE SECOND FORM's CARD OF 'droverlaw19.DfaLeast'. -/
def dfaLeastUptoCard : Claim7 := { stood := { row := dfaLeastUptoRow, standIns := [], harness := (true, "92dae3aa380a7fdf1f0f943eee8c44382cf1df2d1740e59760fd17ae4ee3d4e9"), looks := false }, kinds := [], alts := [], laidByText := true, laidKinds := [.data, .data, .data], laidTests := true, laidLooks := .later }
def DfaLeastUptoCardSaid : Prop := Claim7.holds Tryd.pinned (.plain (OpenSpec.upto dfaLeastSpec)) dfaLeastUptoCard

/-- THE SECOND FORM's CARD OF 'droverlaw19.DfaJoins'. -/
def dfaJoinsUptoCard : Claim7 := { stood := { row := dfaJoinsUptoRow, standIns := [], harness := (true, "92dae3aa380a7fdf1f0f943eee8c44382cf1df2d1740e59760fd17ae4ee3d4e9"), looks := false }, kinds := [], alts := [], laidByText := true, laidKinds := [.data, .data, .data], laidTests := true, laidLooks := .later }
def DfaJoinsUptoCardSaid : Prop := Claim7.holds Tryd.pinned (.plain (OpenSpec.upto dfaJoinsSpec)) dfaJoinsUptoCard

/-- THE SECOND FORM's CARD OF 'droverlaw19.DfaParts'. -/
def dfaPartsUptoCard : Claim7 := { stood := { row := dfaPartsUptoRow, standIns := [], harness := (true, "92dae3aa380a7fdf1f0f943eee8c44382cf1df2d1740e59760fd17ae4ee3d4e9"), looks := false }, kinds := [], alts := [], laidByText := true, laidKinds := [.data, .data, .data], laidTests := true, laidLooks := .later }
def DfaPartsUptoCardSaid : Prop := Claim7.holds Tryd.pinned (.plain (OpenSpec.upto dfaPartsSpec)) dfaPartsUptoCard
end Rows
end Go.Proofs.YthhbggmlfilpdaaDoor
