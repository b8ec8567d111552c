/-
  DERIVED. GIVEN WITH THE SEED: THE PROGRAM's TIES (one call each: nine closed facts by the kernel) AND EACH ROW's TIE, after the 31st guide's Derived/Test/Toyas{Tie, Card}.lean. No idea stands in it: it is a product of the set-up. Laid BY PROGRAM, IN A SANDBOX (cutbox-door.mjs). By AI agents, Wed Nov 11 2026. No macro, syntax, notation, axiom, sorry.
-/
import Derived.Test.YtlagofkcddhigaaDoorRows
import Derived.LaidByTextLater
import Derived.SevenTiedAt
import Derived.LaidSub
import Derived.LaidOnce
namespace Go.Proofs.YtlagofkcddhigaaDoor
open Go
set_option maxRecDepth 100000
theorem seatTie1 : Tryd.prog.laidByTextLater [("math/bits.deBruijn32tab", Rows.laid_math_bits_deBruijn32tab), ("math/bits.deBruijn64tab", Rows.laid_math_bits_deBruijn64tab), ("hackamore/cap.names", Rows.laid_hackamore_cap_names), ("hackamore/cap.sets", Rows.laid_hackamore_cap_sets), ("hackamore/cap.fits", Rows.laid_hackamore_cap_fits), ("hackamore/cap.views", Rows.laid_hackamore_cap_views), ("hackamore/cap.stores", Rows.laid_hackamore_cap_stores), ("hackamore/cap.local", Rows.laid_hackamore_cap_local), ("hackamore/cap.global", Rows.laid_hackamore_cap_global)] [.data, .data, .data, .called, .called, .data, .called, .called, .called] true :=
  Program.laidByTextLater_by_one 3648 8 65 (by kernel_rfl) (by kernel_rfl) (by kernel_rfl) (by kernel_rfl) (by kernel_rfl) (by kernel_rfl) (fun _ _ => by kernel_rfl)
theorem noOwnUnsafe : Tryd.pinned.checked.prog.headLifts.contains "ownunsafe" = false := by kernel_rfl
theorem tie : Tryd.prog.laidByTextLater [("hackamore/cap.fits", Rows.laid_hackamore_cap_fits), ("hackamore/cap.views", Rows.laid_hackamore_cap_views)] [.called, .data] true :=
  Program.laidByTextLater.sub seatTie1 ["hackamore/cap.fits", "hackamore/cap.views"] (by kernel_rfl) (by kernel_rfl)
theorem capPermits_row_tie : Rows.capPermitsRow.laidByTextAt .later Tryd.pinned [.called, .data] true :=
  OpenClaim.laidByTextAt_later rfl rfl tie noOwnUnsafe
theorem capOrder_row_tie : Rows.capOrderRow.laidByTextAt .later Tryd.pinned [.called, .data] true :=
  OpenClaim.laidByTextAt_later rfl rfl tie noOwnUnsafe
theorem tie2 : Tryd.prog.laidByTextLater [("hackamore/cap.sets", Rows.laid_hackamore_cap_sets), ("hackamore/cap.fits", Rows.laid_hackamore_cap_fits), ("hackamore/cap.views", Rows.laid_hackamore_cap_views), ("hackamore/cap.local", Rows.laid_hackamore_cap_local), ("hackamore/cap.global", Rows.laid_hackamore_cap_global)] [.called, .called, .data, .called, .called] true :=
  Program.laidByTextLater.sub seatTie1 ["hackamore/cap.sets", "hackamore/cap.fits", "hackamore/cap.views", "hackamore/cap.local", "hackamore/cap.global"] (by kernel_rfl) (by kernel_rfl)
theorem capBeside_row_tie : Rows.capBesideRow.laidByTextAt .later Tryd.pinned [.called, .called, .data, .called, .called] true :=
  OpenClaim.laidByTextAt_later rfl rfl tie2 noOwnUnsafe
theorem tie3 : Tryd.prog.laidByTextLater [("hackamore/cap.fits", Rows.laid_hackamore_cap_fits), ("hackamore/cap.views", Rows.laid_hackamore_cap_views), ("hackamore/cap.stores", Rows.laid_hackamore_cap_stores), ("hackamore/cap.local", Rows.laid_hackamore_cap_local), ("hackamore/cap.global", Rows.laid_hackamore_cap_global)] [.called, .data, .called, .called, .called] true :=
  Program.laidByTextLater.sub seatTie1 ["hackamore/cap.fits", "hackamore/cap.views", "hackamore/cap.stores", "hackamore/cap.local", "hackamore/cap.global"] (by kernel_rfl) (by kernel_rfl)
theorem capViews_row_tie : Rows.capViewsRow.laidByTextAt .later Tryd.pinned [.called, .data, .called, .called, .called] true :=
  OpenClaim.laidByTextAt_later rfl rfl tie3 noOwnUnsafe
theorem tie4 : Tryd.prog.laidByTextLater [("math/bits.deBruijn32tab", Rows.laid_math_bits_deBruijn32tab), ("math/bits.deBruijn64tab", Rows.laid_math_bits_deBruijn64tab), ("hackamore/cap.names", Rows.laid_hackamore_cap_names), ("hackamore/cap.sets", Rows.laid_hackamore_cap_sets), ("hackamore/cap.fits", Rows.laid_hackamore_cap_fits), ("hackamore/cap.views", Rows.laid_hackamore_cap_views)] [.data, .data, .data, .called, .called, .data] true :=
  Program.laidByTextLater.sub seatTie1 ["math/bits.deBruijn32tab", "math/bits.deBruijn64tab", "hackamore/cap.names", "hackamore/cap.sets", "hackamore/cap.fits", "hackamore/cap.views"] (by kernel_rfl) (by kernel_rfl)
theorem capTables_row_tie : Rows.capTablesRow.laidByTextAt .later Tryd.pinned [.data, .data, .data, .called, .called, .data] true :=
  OpenClaim.laidByTextAt_later rfl rfl tie4 noOwnUnsafe
theorem tie5 : Tryd.prog.laidByTextLater [("math/bits.deBruijn32tab", Rows.laid_math_bits_deBruijn32tab), ("math/bits.deBruijn64tab", Rows.laid_math_bits_deBruijn64tab), ("hackamore/cap.names", Rows.laid_hackamore_cap_names), ("hackamore/cap.sets", Rows.laid_hackamore_cap_sets), ("hackamore/cap.fits", Rows.laid_hackamore_cap_fits), ("hackamore/cap.views", Rows.laid_hackamore_cap_views), ("hackamore/cap.global", Rows.laid_hackamore_cap_global)] [.data, .data, .data, .called, .called, .data, .called] true :=
  Program.laidByTextLater.sub seatTie1 ["math/bits.deBruijn32tab", "math/bits.deBruijn64tab", "hackamore/cap.names", "hackamore/cap.sets", "hackamore/cap.fits", "hackamore/cap.views", "hackamore/cap.global"] (by kernel_rfl) (by kernel_rfl)
theorem capSets_row_tie : Rows.capSetsRow.laidByTextAt .later Tryd.pinned [.data, .data, .data, .called, .called, .data, .called] true :=
  OpenClaim.laidByTextAt_later rfl rfl tie5 noOwnUnsafe
theorem tie6 : Tryd.prog.laidByTextLater [("hackamore/cap.sets", Rows.laid_hackamore_cap_sets), ("hackamore/cap.fits", Rows.laid_hackamore_cap_fits), ("hackamore/cap.views", Rows.laid_hackamore_cap_views), ("hackamore/cap.stores", Rows.laid_hackamore_cap_stores), ("hackamore/cap.local", Rows.laid_hackamore_cap_local), ("hackamore/cap.global", Rows.laid_hackamore_cap_global)] [.called, .called, .data, .called, .called, .called] true :=
  Program.laidByTextLater.sub seatTie1 ["hackamore/cap.sets", "hackamore/cap.fits", "hackamore/cap.views", "hackamore/cap.stores", "hackamore/cap.local", "hackamore/cap.global"] (by kernel_rfl) (by kernel_rfl)
theorem capRaces_row_tie : Rows.capRacesRow.laidByTextAt .later Tryd.pinned [.called, .called, .data, .called, .called, .called] true :=
  OpenClaim.laidByTextAt_later rfl rfl tie6 noOwnUnsafe
theorem capPermitsUpto_row_tie : Rows.capPermitsUptoRow.laidByTextAt .later Tryd.pinned [.called, .data] true :=
  OpenClaim.laidByTextAt_later rfl rfl tie noOwnUnsafe
theorem capOrderUpto_row_tie : Rows.capOrderUptoRow.laidByTextAt .later Tryd.pinned [.called, .data] true :=
  OpenClaim.laidByTextAt_later rfl rfl tie noOwnUnsafe
theorem capBesideUpto_row_tie : Rows.capBesideUptoRow.laidByTextAt .later Tryd.pinned [.called, .called, .data, .called, .called] true :=
  OpenClaim.laidByTextAt_later rfl rfl tie2 noOwnUnsafe
theorem capViewsUpto_row_tie : Rows.capViewsUptoRow.laidByTextAt .later Tryd.pinned [.called, .data, .called, .called, .called] true :=
  OpenClaim.laidByTextAt_later rfl rfl tie3 noOwnUnsafe
theorem capTablesUpto_row_tie : Rows.capTablesUptoRow.laidByTextAt .later Tryd.pinned [.data, .data, .data, .called, .called, .data] true :=
  OpenClaim.laidByTextAt_later rfl rfl tie4 noOwnUnsafe
theorem capSetsUpto_row_tie : Rows.capSetsUptoRow.laidByTextAt .later Tryd.pinned [.data, .data, .data, .called, .called, .data, .called] true :=
  OpenClaim.laidByTextAt_later rfl rfl tie5 noOwnUnsafe
theorem capRacesUpto_row_tie : Rows.capRacesUptoRow.laidByTextAt .later Tryd.pinned [.called, .called, .data, .called, .called, .called] true :=
  OpenClaim.laidByTextAt_later rfl rfl tie6 noOwnUnsafe
end Go.Proofs.YtlagofkcddhigaaDoor
