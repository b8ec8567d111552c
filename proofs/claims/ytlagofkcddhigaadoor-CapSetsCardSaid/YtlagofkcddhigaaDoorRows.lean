/-
  NARROWER THAN 'FOR EVERY INPUT', by the rows' own cells (each row's printed sentence says how): CapPermits: laid · CapOrder: laid · CapBeside: laid · CapViews: laid · CapTables: laid · CapSets: laid · CapRaces: laid.
  DERIVED. THE GIVEN ROWS OF THIS SEAT. 7 by the template 'for every input the law returns true; each argument reads behind the call as it read before'; 0 by the template 'total and deterministic' (their statements: YtlagofkcddhigaaDoorTotals.lean).
  GIVEN WITH THE SEED: the statements are not yours to turn. If you find one false, say at which input.
  Laid BY PROGRAM, IN A SANDBOX (cutbox-rows.mjs): the forced cells as the released guide's own fill.sh prints them over the translation 7faf9e20aee2a858… (all of the seat's roots in one cut). By AI agents, Wed Nov 11 2026. No macro, syntax, notation, axiom, sorry.
-/
import Derived.Test.YtlagofkcddhigaaDoorChecked
import GoSem.Claim
import GoSem.ClaimJoined
import GoSem.ClaimMapViews
import Derived.JoinedTies
import Derived.KernelRfl
namespace Go.Proofs.YtlagofkcddhigaaDoor
/- THE CELL 'sum', in the pinned program and in every row, IS THE sha256 OF THE DUMP (.gsa) THAT YtlagofkcddhigaaDoorProg.lean LOADS. Nothing in Lean hashes anything: it is a label: what it is worth is what the hold of that sum in a sandbox is worth. -/
noncomputable def Tryd.pinned : Pinned := { name := "ytlagofkcddhigaadoor", sum := "7faf9e20aee2a85898025f37e16be252b0f867987731c0f290ce71a4eee6786d", checked := Tryd.checked }
namespace Rows
def none {H : Type} : Left H := { results := [], args := [] }

/- WHAT THE LISTED PACKAGE-LEVEL VARIABLES READ AS WHEN THE CALL BEGINS. Each datum BY PROGRAM (the guide's laid-datum.mjs) off the statement by which the dump's own 'gosem.cut.vars' lays the variable. In a bare row this is a premise. The card (YtlagofkcddhigaaDoorCards.lean) ties it to the program's text. -/
def laid_hackamore_cap_fits {H : Type} : DataW H := .agg [.lit (.int .u64 1023), .lit (.int .u64 518), .lit (.int .u64 516), .lit (.int .u64 1016), .lit (.int .u64 816), .lit (.int .u64 800), .lit (.int .u64 832), .lit (.int .u64 896), .lit (.int .u64 768), .lit (.int .u64 512)]
def laid_hackamore_cap_views {H : Type} : DataW H := .agg [.agg [.lit (.int .i64 0), .lit (.int .i64 0), .lit (.int .i64 0), .lit (.int .i64 0), .lit (.int .i64 0), .lit (.int .i64 0), .lit (.int .i64 0)], .agg [.lit (.int .i64 0), .lit (.int .i64 1), .lit (.int .i64 6), .lit (.int .i64 6), .lit (.int .i64 4), .lit (.int .i64 6), .lit (.int .i64 6)], .agg [.lit (.int .i64 0), .lit (.int .i64 1), .lit (.int .i64 2), .lit (.int .i64 5), .lit (.int .i64 4), .lit (.int .i64 5), .lit (.int .i64 6)], .agg [.lit (.int .i64 0), .lit (.int .i64 1), .lit (.int .i64 2), .lit (.int .i64 3), .lit (.int .i64 4), .lit (.int .i64 5), .lit (.int .i64 6)], .agg [.lit (.int .i64 0), .lit (.int .i64 4), .lit (.int .i64 4), .lit (.int .i64 4), .lit (.int .i64 4), .lit (.int .i64 4), .lit (.int .i64 6)], .agg [.lit (.int .i64 0), .lit (.int .i64 6), .lit (.int .i64 5), .lit (.int .i64 5), .lit (.int .i64 4), .lit (.int .i64 5), .lit (.int .i64 6)], .agg [.lit (.int .i64 0), .lit (.int .i64 0), .lit (.int .i64 0), .lit (.int .i64 0), .lit (.int .i64 0), .lit (.int .i64 0), .lit (.int .i64 0)]]
def laid_hackamore_cap_sets {H : Type} : DataW H := .agg [.lit (.int .u64 0), .lit (.int .u64 0), .lit (.int .u64 0), .lit (.int .u64 0), .lit (.int .u64 0), .lit (.int .u64 0), .lit (.int .u64 0), .lit (.int .u64 56), .lit (.int .u64 82), .lit (.int .u64 80), .lit (.int .u64 120), .lit (.int .u64 126)]
def laid_hackamore_cap_local {H : Type} : DataW H := .agg [.lit (.int .u64 0), .lit (.int .u64 64), .lit (.int .u64 96), .lit (.int .u64 104), .lit (.int .u64 112), .lit (.int .u64 124), .lit (.int .u64 126)]
def laid_hackamore_cap_global {H : Type} : DataW H := .agg [.lit (.int .u64 0), .lit (.int .u64 64), .lit (.int .u64 64), .lit (.int .u64 64), .lit (.int .u64 112), .lit (.int .u64 112), .lit (.int .u64 126)]
def laid_hackamore_cap_stores {H : Type} : DataW H := .agg [.lit (.int .u64 0), .lit (.int .u64 82), .lit (.int .u64 86), .lit (.int .u64 126), .lit (.int .u64 0), .lit (.int .u64 0), .lit (.int .u64 0)]
def laid_math_bits_deBruijn32tab {H : Type} : DataW H := .agg [.lit (.int .u8 0), .lit (.int .u8 1), .lit (.int .u8 28), .lit (.int .u8 2), .lit (.int .u8 29), .lit (.int .u8 14), .lit (.int .u8 24), .lit (.int .u8 3), .lit (.int .u8 30), .lit (.int .u8 22), .lit (.int .u8 20), .lit (.int .u8 15), .lit (.int .u8 25), .lit (.int .u8 17), .lit (.int .u8 4), .lit (.int .u8 8), .lit (.int .u8 31), .lit (.int .u8 27), .lit (.int .u8 13), .lit (.int .u8 23), .lit (.int .u8 21), .lit (.int .u8 19), .lit (.int .u8 16), .lit (.int .u8 7), .lit (.int .u8 26), .lit (.int .u8 12), .lit (.int .u8 18), .lit (.int .u8 6), .lit (.int .u8 11), .lit (.int .u8 5), .lit (.int .u8 10), .lit (.int .u8 9)]
def laid_math_bits_deBruijn64tab {H : Type} : DataW H := .agg [.lit (.int .u8 0), .lit (.int .u8 1), .lit (.int .u8 56), .lit (.int .u8 2), .lit (.int .u8 57), .lit (.int .u8 49), .lit (.int .u8 28), .lit (.int .u8 3), .lit (.int .u8 61), .lit (.int .u8 58), .lit (.int .u8 42), .lit (.int .u8 50), .lit (.int .u8 38), .lit (.int .u8 29), .lit (.int .u8 17), .lit (.int .u8 4), .lit (.int .u8 62), .lit (.int .u8 47), .lit (.int .u8 59), .lit (.int .u8 36), .lit (.int .u8 45), .lit (.int .u8 43), .lit (.int .u8 51), .lit (.int .u8 22), .lit (.int .u8 53), .lit (.int .u8 39), .lit (.int .u8 33), .lit (.int .u8 30), .lit (.int .u8 24), .lit (.int .u8 18), .lit (.int .u8 12), .lit (.int .u8 5), .lit (.int .u8 63), .lit (.int .u8 55), .lit (.int .u8 48), .lit (.int .u8 27), .lit (.int .u8 60), .lit (.int .u8 41), .lit (.int .u8 37), .lit (.int .u8 16), .lit (.int .u8 46), .lit (.int .u8 35), .lit (.int .u8 44), .lit (.int .u8 21), .lit (.int .u8 52), .lit (.int .u8 32), .lit (.int .u8 23), .lit (.int .u8 11), .lit (.int .u8 54), .lit (.int .u8 26), .lit (.int .u8 40), .lit (.int .u8 15), .lit (.int .u8 34), .lit (.int .u8 20), .lit (.int .u8 31), .lit (.int .u8 10), .lit (.int .u8 25), .lit (.int .u8 14), .lit (.int .u8 19), .lit (.int .u8 9), .lit (.int .u8 13), .lit (.int .u8 8), .lit (.int .u8 7), .lit (.int .u8 6)]
def laid_hackamore_cap_names {H : Type} : DataW H := .agg [.lit (.string []), .lit (.string [105, 115, 111]), .lit (.string [116, 114, 110]), .lit (.string [114, 101, 102]), .lit (.string [118, 97, 108]), .lit (.string [98, 111, 120]), .lit (.string [116, 97, 103]), .lit (.string [35, 114, 101, 97, 100]), .lit (.string [35, 115, 101, 110, 100]), .lit (.string [35, 115, 104, 97, 114, 101]), .lit (.string [35, 97, 108, 105, 97, 115]), .lit (.string [35, 97, 110, 121])]

/-- 'hackamorelaw07.CapPermits': WHATEVER THE INPUT: true; the input reads as it did. -/
def capPermitsSpec : ChangeSpec := { name := "capPermits", fn := fun _ => fun
  | [d1, d2] => { results := [.lit (.bool true)], args := [d1, d2] }
  | _ => none }
def capPermitsRow : OpenClaim := { program := "ytlagofkcddhigaadoor", sum := "7faf9e20aee2a85898025f37e16be252b0f867987731c0f290ce71a4eee6786d", func := "hackamore/hackamorelaw07.CapPermits", spec := "capPermits", named := ["hackamore/cap.views", "hackamore/cap.fits"], plainKeys := false, apart := false, laid := [("hackamore/cap.fits", laid_hackamore_cap_fits), ("hackamore/cap.views", laid_hackamore_cap_views)] }
def CapPermitsSaid : Prop := capPermitsRow.holds Tryd.pinned (OpenSpec.ofChange capPermitsSpec)

/-- ITS FALSE NEIGHBOUR: 'it returns false'. Refute it at one input. -/
def capPermitsWrong : ChangeSpec := { name := "capPermits", fn := fun _ => fun
  | [d1, d2] => { results := [.lit (.bool false)], args := [d1, d2] }
  | _ => none }
def CapPermitsWrongFalsely : Prop := capPermitsRow.holds Tryd.pinned (OpenSpec.ofChange capPermitsWrong)

/-- 'hackamorelaw07.CapOrder': WHATEVER THE INPUT: true; the input reads as it did. -/
def capOrderSpec : ChangeSpec := { name := "capOrder", fn := fun _ => fun
  | [d1, d2, d3, d4, d5, d6] => { results := [.lit (.bool true)], args := [d1, d2, d3, d4, d5, d6] }
  | _ => none }
def capOrderRow : OpenClaim := { program := "ytlagofkcddhigaadoor", sum := "7faf9e20aee2a85898025f37e16be252b0f867987731c0f290ce71a4eee6786d", func := "hackamore/hackamorelaw07.CapOrder", spec := "capOrder", named := ["hackamore/cap.fits", "hackamore/cap.views"], plainKeys := false, apart := false, laid := [("hackamore/cap.fits", laid_hackamore_cap_fits), ("hackamore/cap.views", laid_hackamore_cap_views)] }
def CapOrderSaid : Prop := capOrderRow.holds Tryd.pinned (OpenSpec.ofChange capOrderSpec)

/-- ITS FALSE NEIGHBOUR: 'it returns false'. Refute it at one input. -/
def capOrderWrong : ChangeSpec := { name := "capOrder", fn := fun _ => fun
  | [d1, d2, d3, d4, d5, d6] => { results := [.lit (.bool false)], args := [d1, d2, d3, d4, d5, d6] }
  | _ => none }
def CapOrderWrongFalsely : Prop := capOrderRow.holds Tryd.pinned (OpenSpec.ofChange capOrderWrong)

/-- 'hackamorelaw07.CapBeside': WHATEVER THE INPUT: true; the input reads as it did. -/
def capBesideSpec : ChangeSpec := { name := "capBeside", fn := fun _ => fun
  | [d1, d2, d3] => { results := [.lit (.bool true)], args := [d1, d2, d3] }
  | _ => none }
def capBesideRow : OpenClaim := { program := "ytlagofkcddhigaadoor", sum := "7faf9e20aee2a85898025f37e16be252b0f867987731c0f290ce71a4eee6786d", func := "hackamore/hackamorelaw07.CapBeside", spec := "capBeside", named := ["hackamore/cap.local", "hackamore/cap.global", "hackamore/cap.fits", "hackamore/cap.sets", "hackamore/cap.views"], plainKeys := false, apart := false, laid := [("hackamore/cap.sets", laid_hackamore_cap_sets), ("hackamore/cap.fits", laid_hackamore_cap_fits), ("hackamore/cap.views", laid_hackamore_cap_views), ("hackamore/cap.local", laid_hackamore_cap_local), ("hackamore/cap.global", laid_hackamore_cap_global)] }
def CapBesideSaid : Prop := capBesideRow.holds Tryd.pinned (OpenSpec.ofChange capBesideSpec)

/-- ITS FALSE NEIGHBOUR: 'it returns false'. Refute it at one input. -/
def capBesideWrong : ChangeSpec := { name := "capBeside", fn := fun _ => fun
  | [d1, d2, d3] => { results := [.lit (.bool false)], args := [d1, d2, d3] }
  | _ => none }
def CapBesideWrongFalsely : Prop := capBesideRow.holds Tryd.pinned (OpenSpec.ofChange capBesideWrong)

/-- 'hackamorelaw07.CapViews': WHATEVER THE INPUT: true; the input reads as it did. -/
def capViewsSpec : ChangeSpec := { name := "capViews", fn := fun _ => fun
  | [d1, d2, d3] => { results := [.lit (.bool true)], args := [d1, d2, d3] }
  | _ => none }
def capViewsRow : OpenClaim := { program := "ytlagofkcddhigaadoor", sum := "7faf9e20aee2a85898025f37e16be252b0f867987731c0f290ce71a4eee6786d", func := "hackamore/hackamorelaw07.CapViews", spec := "capViews", named := ["hackamore/cap.views", "hackamore/cap.stores", "hackamore/cap.local", "hackamore/cap.global", "hackamore/cap.fits"], plainKeys := false, apart := false, laid := [("hackamore/cap.fits", laid_hackamore_cap_fits), ("hackamore/cap.views", laid_hackamore_cap_views), ("hackamore/cap.stores", laid_hackamore_cap_stores), ("hackamore/cap.local", laid_hackamore_cap_local), ("hackamore/cap.global", laid_hackamore_cap_global)] }
def CapViewsSaid : Prop := capViewsRow.holds Tryd.pinned (OpenSpec.ofChange capViewsSpec)

/-- ITS FALSE NEIGHBOUR: 'it returns false'. Refute it at one input. -/
def capViewsWrong : ChangeSpec := { name := "capViews", fn := fun _ => fun
  | [d1, d2, d3] => { results := [.lit (.bool false)], args := [d1, d2, d3] }
  | _ => none }
def CapViewsWrongFalsely : Prop := capViewsRow.holds Tryd.pinned (OpenSpec.ofChange capViewsWrong)

/-- 'hackamorelaw07.CapTables': WHATEVER THE INPUT: true; the input reads as it did. -/
def capTablesSpec : ChangeSpec := { name := "capTables", fn := fun _ => fun
  | [d1, d2, d3, d4, d5] => { results := [.lit (.bool true)], args := [d1, d2, d3, d4, d5] }
  | _ => none }
def capTablesRow : OpenClaim := { program := "ytlagofkcddhigaadoor", sum := "7faf9e20aee2a85898025f37e16be252b0f867987731c0f290ce71a4eee6786d", func := "hackamore/hackamorelaw07.CapTables", spec := "capTables", named := ["hackamore/cap.names", "hackamore/cap.sets", "math/bits.deBruijn32tab", "math/bits.deBruijn64tab", "hackamore/cap.fits", "hackamore/cap.views"], plainKeys := false, apart := false, laid := [("math/bits.deBruijn32tab", laid_math_bits_deBruijn32tab), ("math/bits.deBruijn64tab", laid_math_bits_deBruijn64tab), ("hackamore/cap.names", laid_hackamore_cap_names), ("hackamore/cap.sets", laid_hackamore_cap_sets), ("hackamore/cap.fits", laid_hackamore_cap_fits), ("hackamore/cap.views", laid_hackamore_cap_views)] }
def CapTablesSaid : Prop := capTablesRow.holds Tryd.pinned (OpenSpec.ofChange capTablesSpec)

/-- ITS FALSE NEIGHBOUR: 'it returns false'. Refute it at one input. -/
def capTablesWrong : ChangeSpec := { name := "capTables", fn := fun _ => fun
  | [d1, d2, d3, d4, d5] => { results := [.lit (.bool false)], args := [d1, d2, d3, d4, d5] }
  | _ => none }
def CapTablesWrongFalsely : Prop := capTablesRow.holds Tryd.pinned (OpenSpec.ofChange capTablesWrong)

/-- 'hackamorelaw07.CapSets': WHATEVER THE INPUT: true; the input reads as it did. -/
def capSetsSpec : ChangeSpec := { name := "capSets", fn := fun _ => fun
  | [d] => { results := [.lit (.bool true)], args := [d] }
  | _ => none }
def capSetsRow : OpenClaim := { program := "ytlagofkcddhigaadoor", sum := "7faf9e20aee2a85898025f37e16be252b0f867987731c0f290ce71a4eee6786d", func := "hackamore/hackamorelaw07.CapSets", spec := "capSets", named := ["hackamore/cap.names", "hackamore/cap.sets", "math/bits.deBruijn32tab", "math/bits.deBruijn64tab", "hackamore/cap.global", "hackamore/cap.views", "hackamore/cap.fits"], plainKeys := false, apart := false, laid := [("math/bits.deBruijn32tab", laid_math_bits_deBruijn32tab), ("math/bits.deBruijn64tab", laid_math_bits_deBruijn64tab), ("hackamore/cap.names", laid_hackamore_cap_names), ("hackamore/cap.sets", laid_hackamore_cap_sets), ("hackamore/cap.fits", laid_hackamore_cap_fits), ("hackamore/cap.views", laid_hackamore_cap_views), ("hackamore/cap.global", laid_hackamore_cap_global)] }
def CapSetsSaid : Prop := capSetsRow.holds Tryd.pinned (OpenSpec.ofChange capSetsSpec)

/-- ITS FALSE NEIGHBOUR: 'it returns false'. Refute it at one input. -/
def capSetsWrong : ChangeSpec := { name := "capSets", fn := fun _ => fun
  | [d] => { results := [.lit (.bool false)], args := [d] }
  | _ => none }
def CapSetsWrongFalsely : Prop := capSetsRow.holds Tryd.pinned (OpenSpec.ofChange capSetsWrong)

/-- 'hackamorelaw07.CapRaces': WHATEVER THE INPUT: true; the input reads as it did. -/
def capRacesSpec : ChangeSpec := { name := "capRaces", fn := fun _ => fun
  | [d1, d2] => { results := [.lit (.bool true)], args := [d1, d2] }
  | _ => none }
def capRacesRow : OpenClaim := { program := "ytlagofkcddhigaadoor", sum := "7faf9e20aee2a85898025f37e16be252b0f867987731c0f290ce71a4eee6786d", func := "hackamore/hackamorelaw07.CapRaces", spec := "capRaces", unfollowed := true, recurses := true, named := ["hackamore/cap.views", "hackamore/cap.fits", "hackamore/cap.stores", "hackamore/cap.sets", "hackamore/cap.local", "hackamore/cap.global"], plainKeys := false, apart := false, laid := [("hackamore/cap.sets", laid_hackamore_cap_sets), ("hackamore/cap.fits", laid_hackamore_cap_fits), ("hackamore/cap.views", laid_hackamore_cap_views), ("hackamore/cap.stores", laid_hackamore_cap_stores), ("hackamore/cap.local", laid_hackamore_cap_local), ("hackamore/cap.global", laid_hackamore_cap_global)] }
def CapRacesSaid : Prop := capRacesRow.holds Tryd.pinned (OpenSpec.ofChange capRacesSpec)

/-- ITS FALSE NEIGHBOUR: 'it returns false'. Refute it at one input. -/
def capRacesWrong : ChangeSpec := { name := "capRaces", fn := fun _ => fun
  | [d1, d2] => { results := [.lit (.bool false)], args := [d1, d2] }
  | _ => none }
def CapRacesWrongFalsely : Prop := capRacesRow.holds Tryd.pinned (OpenSpec.ofChange capRacesWrong)

/- THE SECOND FORM. 'bulk': how many values and letters a reading holds, each counted each time it is reached (what is shared counts as often as it is met; a slice's spare places count too). A statement '..UptoSaid' is the law's where the arguments, and the package variables that the reading takes, are together of bulk at most 1048576: NARROWER than '..Said'. Prove '..Said' where nothing that the law and all that it calls make is longer than what came in: it says more and counts as full. Else prove '..UptoSaid'. A law counts once. -/
mutual
def uptoBulk {H : Type} : DataW H → Nat
  | .lit (.string bytes) => bytes.length + 1
  | .lit _ => 1
  | .nil => 1
  | .ptr d => uptoBulk d + 1
  | .slice elems spare => uptoBulkAll elems + uptoBulkAll spare + 1
  | .agg parts => uptoBulkAll parts + 1
  | .iface _ d => uptoBulk d + 1
  | .map entries => uptoBulkEntries entries + 1
  | .held _ => 1
def uptoBulkAll {H : Type} : List (DataW H) → Nat
  | [] => 0
  | d :: r => uptoBulk d + uptoBulkAll r
def uptoBulkEntries {H : Type} : List (Lit × DataW H) → Nat
  | [] => 0
  | x :: r => uptoBulkEntry x + uptoBulkEntries r
def uptoBulkEntry {H : Type} : Lit × DataW H → Nat
  | (.string bytes, d) => bytes.length + uptoBulk d + 1
  | (_, d) => uptoBulk d + 1
 end
def uptoSmall : (H : Type) → List (DataW H) → Bool := fun _ ds => decide (uptoBulkAll ds ≤ 1048576)
def OpenSpec.upto (s : _root_.Go.ChangeSpec) : _root_.Go.OpenSpec := { _root_.Go.OpenSpec.ofChange s with cond := some uptoSmall }

/-- 'hackamorelaw07.CapPermits', WHERE WHAT IT READS IS OF BULK AT MOST 1048576: true; the input reads as it did. -/
def capPermitsUptoRow : OpenClaim := { program := "ytlagofkcddhigaadoor", sum := "7faf9e20aee2a85898025f37e16be252b0f867987731c0f290ce71a4eee6786d", func := "hackamore/hackamorelaw07.CapPermits", spec := "capPermits", named := ["hackamore/cap.views", "hackamore/cap.fits"], plainKeys := false, apart := false, laid := [("hackamore/cap.fits", laid_hackamore_cap_fits), ("hackamore/cap.views", laid_hackamore_cap_views)], narrowed := true }
def CapPermitsUptoSaid : Prop := capPermitsUptoRow.holds Tryd.pinned (OpenSpec.upto capPermitsSpec)

/-- 'hackamorelaw07.CapOrder', WHERE WHAT IT READS IS OF BULK AT MOST 1048576: true; the input reads as it did. -/
def capOrderUptoRow : OpenClaim := { program := "ytlagofkcddhigaadoor", sum := "7faf9e20aee2a85898025f37e16be252b0f867987731c0f290ce71a4eee6786d", func := "hackamore/hackamorelaw07.CapOrder", spec := "capOrder", named := ["hackamore/cap.fits", "hackamore/cap.views"], plainKeys := false, apart := false, laid := [("hackamore/cap.fits", laid_hackamore_cap_fits), ("hackamore/cap.views", laid_hackamore_cap_views)], narrowed := true }
def CapOrderUptoSaid : Prop := capOrderUptoRow.holds Tryd.pinned (OpenSpec.upto capOrderSpec)

/-- 'hackamorelaw07.CapBeside', WHERE WHAT IT READS IS OF BULK AT MOST 1048576: true; the input reads as it did. -/
def capBesideUptoRow : OpenClaim := { program := "ytlagofkcddhigaadoor", sum := "7faf9e20aee2a85898025f37e16be252b0f867987731c0f290ce71a4eee6786d", func := "hackamore/hackamorelaw07.CapBeside", spec := "capBeside", named := ["hackamore/cap.local", "hackamore/cap.global", "hackamore/cap.fits", "hackamore/cap.sets", "hackamore/cap.views"], plainKeys := false, apart := false, laid := [("hackamore/cap.sets", laid_hackamore_cap_sets), ("hackamore/cap.fits", laid_hackamore_cap_fits), ("hackamore/cap.views", laid_hackamore_cap_views), ("hackamore/cap.local", laid_hackamore_cap_local), ("hackamore/cap.global", laid_hackamore_cap_global)], narrowed := true }
def CapBesideUptoSaid : Prop := capBesideUptoRow.holds Tryd.pinned (OpenSpec.upto capBesideSpec)

/-- 'hackamorelaw07.CapViews', WHERE WHAT IT READS IS OF BULK AT MOST 1048576: true; the input reads as it did. -/
def capViewsUptoRow : OpenClaim := { program := "ytlagofkcddhigaadoor", sum := "7faf9e20aee2a85898025f37e16be252b0f867987731c0f290ce71a4eee6786d", func := "hackamore/hackamorelaw07.CapViews", spec := "capViews", named := ["hackamore/cap.views", "hackamore/cap.stores", "hackamore/cap.local", "hackamore/cap.global", "hackamore/cap.fits"], plainKeys := false, apart := false, laid := [("hackamore/cap.fits", laid_hackamore_cap_fits), ("hackamore/cap.views", laid_hackamore_cap_views), ("hackamore/cap.stores", laid_hackamore_cap_stores), ("hackamore/cap.local", laid_hackamore_cap_local), ("hackamore/cap.global", laid_hackamore_cap_global)], narrowed := true }
def CapViewsUptoSaid : Prop := capViewsUptoRow.holds Tryd.pinned (OpenSpec.upto capViewsSpec)

/-- 'hackamorelaw07.CapTables', WHERE WHAT IT READS IS OF BULK AT MOST 1048576: true; the input reads as it did. -/
def capTablesUptoRow : OpenClaim := { program := "ytlagofkcddhigaadoor", sum := "7faf9e20aee2a85898025f37e16be252b0f867987731c0f290ce71a4eee6786d", func := "hackamore/hackamorelaw07.CapTables", spec := "capTables", named := ["hackamore/cap.names", "hackamore/cap.sets", "math/bits.deBruijn32tab", "math/bits.deBruijn64tab", "hackamore/cap.fits", "hackamore/cap.views"], plainKeys := false, apart := false, laid := [("math/bits.deBruijn32tab", laid_math_bits_deBruijn32tab), ("math/bits.deBruijn64tab", laid_math_bits_deBruijn64tab), ("hackamore/cap.names", laid_hackamore_cap_names), ("hackamore/cap.sets", laid_hackamore_cap_sets), ("hackamore/cap.fits", laid_hackamore_cap_fits), ("hackamore/cap.views", laid_hackamore_cap_views)], narrowed := true }
def CapTablesUptoSaid : Prop := capTablesUptoRow.holds Tryd.pinned (OpenSpec.upto capTablesSpec)

/-- 'hackamorelaw07.CapSets', WHERE WHAT IT READS IS OF BULK AT MOST 1048576: true; the input reads as it did. -/
def capSetsUptoRow : OpenClaim := { program := "ytlagofkcddhigaadoor", sum := "7faf9e20aee2a85898025f37e16be252b0f867987731c0f290ce71a4eee6786d", func := "hackamore/hackamorelaw07.CapSets", spec := "capSets", named := ["hackamore/cap.names", "hackamore/cap.sets", "math/bits.deBruijn32tab", "math/bits.deBruijn64tab", "hackamore/cap.global", "hackamore/cap.views", "hackamore/cap.fits"], plainKeys := false, apart := false, laid := [("math/bits.deBruijn32tab", laid_math_bits_deBruijn32tab), ("math/bits.deBruijn64tab", laid_math_bits_deBruijn64tab), ("hackamore/cap.names", laid_hackamore_cap_names), ("hackamore/cap.sets", laid_hackamore_cap_sets), ("hackamore/cap.fits", laid_hackamore_cap_fits), ("hackamore/cap.views", laid_hackamore_cap_views), ("hackamore/cap.global", laid_hackamore_cap_global)], narrowed := true }
def CapSetsUptoSaid : Prop := capSetsUptoRow.holds Tryd.pinned (OpenSpec.upto capSetsSpec)

/-- 'hackamorelaw07.CapRaces', WHERE WHAT IT READS IS OF BULK AT MOST 1048576: true; the input reads as it did. -/
def capRacesUptoRow : OpenClaim := { program := "ytlagofkcddhigaadoor", sum := "7faf9e20aee2a85898025f37e16be252b0f867987731c0f290ce71a4eee6786d", func := "hackamore/hackamorelaw07.CapRaces", spec := "capRaces", unfollowed := true, recurses := true, named := ["hackamore/cap.views", "hackamore/cap.fits", "hackamore/cap.stores", "hackamore/cap.sets", "hackamore/cap.local", "hackamore/cap.global"], plainKeys := false, apart := false, laid := [("hackamore/cap.sets", laid_hackamore_cap_sets), ("hackamore/cap.fits", laid_hackamore_cap_fits), ("hackamore/cap.views", laid_hackamore_cap_views), ("hackamore/cap.stores", laid_hackamore_cap_stores), ("hackamore/cap.local", laid_hackamore_cap_local), ("hackamore/cap.global", laid_hackamore_cap_global)], narrowed := true }
def CapRacesUptoSaid : Prop := capRacesUptoRow.holds Tryd.pinned (OpenSpec.upto capRacesSpec)

end Rows
end Go.Proofs.YtlagofkcddhigaaDoor
