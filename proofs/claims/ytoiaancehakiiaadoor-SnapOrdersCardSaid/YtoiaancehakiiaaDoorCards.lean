/-
  DERIVED. GIVEN WITH THE SEED: THE CARDS: each row of YtoiaancehakiiaaDoorRows.lean that lists a variable, with what it lists TIED to the program's text (the seventh form; the later family's looks); each row that meets fmt, with fmt's text TOLD by the authors' own Lean function (tested against real Go, not proved from fmt's source: count such statements apart). THE CARD IS WHAT COUNTS. Prove the row's statement (the work); the ties are given (YtoiaancehakiiaaDoorTie.lean); close each card by the builder's one call (the guide's Derived/Test/ToyasCard.lean, 'card_holds'). Laid BY PROGRAM, IN A SANDBOX (cutbox-door.mjs). By AI agents, Wed Nov 11 2026. No macro, syntax, notation, axiom, sorry.
-/
import Derived.Test.YtoiaancehakiiaaDoorRows
import GoSem.ClaimSeven
namespace Go.Proofs.YtoiaancehakiiaaDoor
namespace Rows

/-- THE TIED CARD OF 'monticulelaw07.DefReads'. -/
def defReadsCard : Claim7 := { stood := { row := defReadsRow, standIns := [], harness := (true, "92016ad585900112d3a7c95d5cc032d9f5e167bd5f17b7227ed1ada5a5cb099a"), looks := false }, kinds := [], alts := [], laidByText := true, laidKinds := [.data, .pinned], laidTests := true, laidLooks := .later }
def DefReadsCardSaid : Prop := Claim7.holds Tryd.pinned (.plain (OpenSpec.ofChange defReadsSpec)) defReadsCard

/-- THE TIED CARD OF 'monticulelaw08.SnapOrders'. -/
def snapOrdersCard : Claim7 := { stood := { row := snapOrdersRow, standIns := [], harness := (true, "92016ad585900112d3a7c95d5cc032d9f5e167bd5f17b7227ed1ada5a5cb099a"), looks := false }, kinds := [], alts := [], laidByText := true, laidKinds := [.data, .pinned], laidTests := true, laidLooks := .later }
def SnapOrdersCardSaid : Prop := Claim7.holds Tryd.pinned (.plain (OpenSpec.ofChange snapOrdersSpec)) snapOrdersCard

/-- THE TIED CARD OF 'monticulelaw07.DefBack'. -/
def defBackCard : Claim7 := { stood := { row := defBackRow, standIns := [], harness := (true, "92016ad585900112d3a7c95d5cc032d9f5e167bd5f17b7227ed1ada5a5cb099a"), looks := false }, kinds := [], alts := [], laidByText := true, laidKinds := [.data, .pinned], laidTests := true, laidLooks := .later }
def DefBackCardSaid : Prop := Claim7.holds Tryd.pinned (.plain (OpenSpec.ofChange defBackSpec)) defBackCard

/-- THE SECOND FORM's CARD OF 'monticulelaw07.DefReads'. -/
def defReadsUptoCard : Claim7 := { stood := { row := defReadsUptoRow, standIns := [], harness := (true, "92016ad585900112d3a7c95d5cc032d9f5e167bd5f17b7227ed1ada5a5cb099a"), looks := false }, kinds := [], alts := [], laidByText := true, laidKinds := [.data, .pinned], laidTests := true, laidLooks := .later }
def DefReadsUptoCardSaid : Prop := Claim7.holds Tryd.pinned (.plain (OpenSpec.upto defReadsSpec)) defReadsUptoCard

/-- THE SECOND FORM's CARD OF 'monticulelaw08.SnapOrders'. -/
def snapOrdersUptoCard : Claim7 := { stood := { row := snapOrdersUptoRow, standIns := [], harness := (true, "92016ad585900112d3a7c95d5cc032d9f5e167bd5f17b7227ed1ada5a5cb099a"), looks := false }, kinds := [], alts := [], laidByText := true, laidKinds := [.data, .pinned], laidTests := true, laidLooks := .later }
def SnapOrdersUptoCardSaid : Prop := Claim7.holds Tryd.pinned (.plain (OpenSpec.upto snapOrdersSpec)) snapOrdersUptoCard

/-- THE SECOND FORM's CARD OF 'monticulelaw07.DefBack'. -/
def defBackUptoCard : Claim7 := { stood := { row := defBackUptoRow, standIns := [], harness := (true, "92016ad585900112d3a7c95d5cc032d9f5e167bd5f17b7227ed1ada5a5cb099a"), looks := false }, kinds := [], alts := [], laidByText := true, laidKinds := [.data, .pinned], laidTests := true, laidLooks := .later }
def DefBackUptoCardSaid : Prop := Claim7.holds Tryd.pinned (.plain (OpenSpec.upto defBackSpec)) defBackUptoCard
end Rows
end Go.Proofs.YtoiaancehakiiaaDoor
