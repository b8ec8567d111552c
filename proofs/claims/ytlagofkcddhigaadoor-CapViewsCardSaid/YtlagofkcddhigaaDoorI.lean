/- The walk of the law CapViews. -/
import Derived.Test.YtlagofkcddhigaaDoorH
namespace Go.Proofs.YtlagofkcddhigaaDoor
open Go.RowKit

structure EV (w : World) : Prop where
  v : TV w
  f : T1 1 .u64 fitsL w
  l : T1 2 .u64 localL w
  g : T1 3 .u64 globalL w
  t : T1 5 .u64 storesL w
theorem EV.below {w w' : World} (h : EV w) (hb : Below w.heap.size w w') : EV w' := ⟨h.v.below hb, h.f.below hb, h.l.below hb, h.g.below hb, h.t.below hb⟩
theorem EV.two {w : World} (h : EV w) : E2 w := ⟨h.v, h.f⟩

set_option maxHeartbeats 4000000 in
theorem views_core (a b m : Int) (w0 w : World) (hB : Below w0.heap.size w0 w) (hE : EV w) :
    Calls Tryd.prog 6 #[.int .i64 a, .int .i64 b, .int .i64 m] w fun e w' => e = .returned (.bool true) ∧ Below w0.heap.size w0 w' := by
  go_enter Tryd.func6, Tryd.ntmps6
  go_wp2_with (first
    | (go_at_call 11; refine (view_calls _ _ _ hE.v).mono ?_; rintro e w' ⟨rfl, rfl⟩)
    | (go_at_call 23; refine (ref_view_calls _ _ _).mono ?_; rintro e w' ⟨rfl, rfl⟩)
    | (go_at_call 14; refine (extract_calls _ _ _ hE.v).mono ?_; rintro e w1 ⟨rfl, hb1⟩; replace hE := hE.below hb1; replace hB := hB.then hb1; clear hb1)
    | (go_at_call 24; refine (ref_extract_calls _ _ _).mono ?_; rintro e w' ⟨rfl, rfl⟩)
    | (go_at_call 25; refine (store_calls _ _ _ _ hE.t).mono ?_; rintro e w1 ⟨rfl, hb1⟩; replace hE := hE.below hb1; replace hB := hB.then hb1; clear hb1)
    | (go_at_call 26; refine (ref_store_calls _ _ _ _).mono ?_; rintro e w' ⟨rfl, rfl⟩)
    | (go_at_call 19; refine (local_calls _ _ _ hE.l).mono ?_; rintro e w' ⟨rfl, rfl⟩)
    | (go_at_call 27; refine (ref_local_calls _ _ _).mono ?_; rintro e w' ⟨rfl, rfl⟩)
    | (go_at_call 20; refine (global_calls _ _ _ hE.g).mono ?_; rintro e w' ⟨rfl, rfl⟩)
    | (go_at_call 28; refine (ref_global_calls _ _ _).mono ?_; rintro e w' ⟨rfl, rfl⟩)
    | (go_at_call 15; refine (awake_calls _ hE.two).mono ?_; rintro e w1 ⟨rfl, hb1⟩; replace hE := hE.below hb1; replace hB := hB.then hb1; clear hb1))
  go_ret
  exact ⟨rfl, hB⟩
end Go.Proofs.YtlagofkcddhigaaDoor
