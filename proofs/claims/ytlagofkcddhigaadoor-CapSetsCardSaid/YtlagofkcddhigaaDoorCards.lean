/-
  DERIVED. GIVEN WITH THE SEED: THE CARDS: each row of YtlagofkcddhigaaDoorRows.lean that lists a variable, with what it lists TIED to the program's text (the seventh form; the later family's looks); each row that meets fmt, with fmt's text TOLD by the authors' own Lean function (tested against real Go, not proved from fmt's source: count such statements apart). THE CARD IS WHAT COUNTS. Prove the row's statement (the work); the ties are given (YtlagofkcddhigaaDoorTie.lean); close each card by the builder's one call (the guide's Derived/Test/ToyasCard.lean, 'card_holds'). Laid BY PROGRAM, IN A SANDBOX (cutbox-door.mjs). By AI agents, Wed Nov 11 2026. No macro, syntax, notation, axiom, sorry.
-/
import Derived.Test.YtlagofkcddhigaaDoorRows
import GoSem.ClaimSeven
namespace Go.Proofs.YtlagofkcddhigaaDoor
namespace Rows

/-- THE TIED CARD OF 'hackamorelaw07.CapPermits'. -/
def capPermitsCard : Claim7 := { stood := { row := capPermitsRow, standIns := [], harness := (true, "2465118a18c2c497b1bd22f508bb795d3535449d0ac1fd9ffb5b4d56645d5315"), looks := false }, kinds := [], alts := [], laidByText := true, laidKinds := [.called, .data], laidTests := true, laidLooks := .later }
def CapPermitsCardSaid : Prop := Claim7.holds Tryd.pinned (.plain (OpenSpec.ofChange capPermitsSpec)) capPermitsCard

/-- THE TIED CARD OF 'hackamorelaw07.CapOrder'. -/
def capOrderCard : Claim7 := { stood := { row := capOrderRow, standIns := [], harness := (true, "2465118a18c2c497b1bd22f508bb795d3535449d0ac1fd9ffb5b4d56645d5315"), looks := false }, kinds := [], alts := [], laidByText := true, laidKinds := [.called, .data], laidTests := true, laidLooks := .later }
def CapOrderCardSaid : Prop := Claim7.holds Tryd.pinned (.plain (OpenSpec.ofChange capOrderSpec)) capOrderCard

/-- THE TIED CARD OF 'hackamorelaw07.CapBeside'. -/
def capBesideCard : Claim7 := { stood := { row := capBesideRow, standIns := [], harness := (true, "2465118a18c2c497b1bd22f508bb795d3535449d0ac1fd9ffb5b4d56645d5315"), looks := false }, kinds := [], alts := [], laidByText := true, laidKinds := [.called, .called, .data, .called, .called], laidTests := true, laidLooks := .later }
def CapBesideCardSaid : Prop := Claim7.holds Tryd.pinned (.plain (OpenSpec.ofChange capBesideSpec)) capBesideCard

/-- THE TIED CARD OF 'hackamorelaw07.CapViews'. -/
def capViewsCard : Claim7 := { stood := { row := capViewsRow, standIns := [], harness := (true, "2465118a18c2c497b1bd22f508bb795d3535449d0ac1fd9ffb5b4d56645d5315"), looks := false }, kinds := [], alts := [], laidByText := true, laidKinds := [.called, .data, .called, .called, .called], laidTests := true, laidLooks := .later }
def CapViewsCardSaid : Prop := Claim7.holds Tryd.pinned (.plain (OpenSpec.ofChange capViewsSpec)) capViewsCard

/-- THE TIED CARD OF 'hackamorelaw07.CapTables'. -/
def capTablesCard : Claim7 := { stood := { row := capTablesRow, standIns := [], harness := (true, "2465118a18c2c497b1bd22f508bb795d3535449d0ac1fd9ffb5b4d56645d5315"), looks := false }, kinds := [], alts := [], laidByText := true, laidKinds := [.data, .data, .data, .called, .called, .data], laidTests := true, laidLooks := .later }
def CapTablesCardSaid : Prop := Claim7.holds Tryd.pinned (.plain (OpenSpec.ofChange capTablesSpec)) capTablesCard

/-- THE TIED CARD OF 'hackamorelaw07.CapSets'. -/
def capSetsCard : Claim7 := { stood := { row := capSetsRow, standIns := [], harness := (true, "2465118a18c2c497b1bd22f508bb795d3535449d0ac1fd9ffb5b4d56645d5315"), looks := false }, kinds := [], alts := [], laidByText := true, laidKinds := [.data, .data, .data, .called, .called, .data, .called], laidTests := true, laidLooks := .later }
def CapSetsCardSaid : Prop := Claim7.holds Tryd.pinned (.plain (OpenSpec.ofChange capSetsSpec)) capSetsCard

/-- THE TIED CARD OF 'hackamorelaw07.CapRaces'. -/
def capRacesCard : Claim7 := { stood := { row := capRacesRow, standIns := [], harness := (true, "2465118a18c2c497b1bd22f508bb795d3535449d0ac1fd9ffb5b4d56645d5315"), looks := false }, kinds := [], alts := [], laidByText := true, laidKinds := [.called, .called, .data, .called, .called, .called], laidTests := true, laidLooks := .later }
def CapRacesCardSaid : Prop := Claim7.holds Tryd.pinned (.plain (OpenSpec.ofChange capRacesSpec)) capRacesCard

/-- THE SECOND FORM's CARD OF 'hackamorelaw07.CapPermits'. -/
def capPermitsUptoCard : Claim7 := { stood := { row := capPermitsUptoRow, standIns := [], harness := (true, "2465118a18c2c497b1bd22f508bb795d3535449d0ac1fd9ffb5b4d56645d5315"), looks := false }, kinds := [], alts := [], laidByText := true, laidKinds := [.called, .data], laidTests := true, laidLooks := .later }
def CapPermitsUptoCardSaid : Prop := Claim7.holds Tryd.pinned (.plain (OpenSpec.upto capPermitsSpec)) capPermitsUptoCard

/-- THE SECOND FORM's CARD OF 'hackamorelaw07.CapOrder'. -/
def capOrderUptoCard : Claim7 := { stood := { row := capOrderUptoRow, standIns := [], harness := (true, "2465118a18c2c497b1bd22f508bb795d3535449d0ac1fd9ffb5b4d56645d5315"), looks := false }, kinds := [], alts := [], laidByText := true, laidKinds := [.called, .data], laidTests := true, laidLooks := .later }
def CapOrderUptoCardSaid : Prop := Claim7.holds Tryd.pinned (.plain (OpenSpec.upto capOrderSpec)) capOrderUptoCard

/-- THE SECOND FORM's CARD OF 'hackamorelaw07.CapBeside'. -/
def capBesideUptoCard : Claim7 := { stood := { row := capBesideUptoRow, standIns := [], harness := (true, "2465118a18c2c497b1bd22f508bb795d3535449d0ac1fd9ffb5b4d56645d5315"), looks := false }, kinds := [], alts := [], laidByText := true, laidKinds := [.called, .called, .data, .called, .called], laidTests := true, laidLooks := .later }
def CapBesideUptoCardSaid : Prop := Claim7.holds Tryd.pinned (.plain (OpenSpec.upto capBesideSpec)) capBesideUptoCard

/-- THE SECOND FORM's CARD OF 'hackamorelaw07.CapViews'. -/
def capViewsUptoCard : Claim7 := { stood := { row := capViewsUptoRow, standIns := [], harness := (true, "2465118a18c2c497b1bd22f508bb795d3535449d0ac1fd9ffb5b4d56645d5315"), looks := false }, kinds := [], alts := [], laidByText := true, laidKinds := [.called, .data, .called, .called, .called], laidTests := true, laidLooks := .later }
def CapViewsUptoCardSaid : Prop := Claim7.holds Tryd.pinned (.plain (OpenSpec.upto capViewsSpec)) capViewsUptoCard

/-- THE SECOND FORM's CARD OF 'hackamorelaw07.CapTables'. -/
def capTablesUptoCard : Claim7 := { stood := { row := capTablesUptoRow, standIns := [], harness := (true, "2465118a18c2c497b1bd22f508bb795d3535449d0ac1fd9ffb5b4d56645d5315"), looks := false }, kinds := [], alts := [], laidByText := true, laidKinds := [.data, .data, .data, .called, .called, .data], laidTests := true, laidLooks := .later }
def CapTablesUptoCardSaid : Prop := Claim7.holds Tryd.pinned (.plain (OpenSpec.upto capTablesSpec)) capTablesUptoCard

/-- THE SECOND FORM's CARD OF 'hackamorelaw07.CapSets'. -/
def capSetsUptoCard : Claim7 := { stood := { row := capSetsUptoRow, standIns := [], harness := (true, "2465118a18c2c497b1bd22f508bb795d3535449d0ac1fd9ffb5b4d56645d5315"), looks := false }, kinds := [], alts := [], laidByText := true, laidKinds := [.data, .data, .data, .called, .called, .data, .called], laidTests := true, laidLooks := .later }
def CapSetsUptoCardSaid : Prop := Claim7.holds Tryd.pinned (.plain (OpenSpec.upto capSetsSpec)) capSetsUptoCard

/-- THE SECOND FORM's CARD OF 'hackamorelaw07.CapRaces'. -/
def capRacesUptoCard : Claim7 := { stood := { row := capRacesUptoRow, standIns := [], harness := (true, "2465118a18c2c497b1bd22f508bb795d3535449d0ac1fd9ffb5b4d56645d5315"), looks := false }, kinds := [], alts := [], laidByText := true, laidKinds := [.called, .called, .data, .called, .called, .called], laidTests := true, laidLooks := .later }
def CapRacesUptoCardSaid : Prop := Claim7.holds Tryd.pinned (.plain (OpenSpec.upto capRacesSpec)) capRacesUptoCard
end Rows
end Go.Proofs.YtlagofkcddhigaaDoor
