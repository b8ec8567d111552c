/- The walk of 'awake' and of the laws CapPermits, CapOrder, CapBeside. -/
import Derived.Test.YtlagofkcddhigaaDoorC
namespace Go.Proofs.YtlagofkcddhigaaDoor
open Go.RowKit

/-- The tables that every law of this chapter reads. -/
structure E2 (w : World) : Prop where
  v : TV w
  f : T1 1 .u64 fitsL w
theorem E2.below {w w' : World} (h : E2 w) (hb : Below w.heap.size w w') : E2 w' := ⟨h.v.below hb, h.f.below hb⟩

set_option maxHeartbeats 800000 in
theorem awake_core (w0 w : World) (hB : Below w0.heap.size w0 w) (hE : E2 w) : Calls Tryd.prog 15 #[] w fun e w' => e = .returned (.bool true) ∧ Below w0.heap.size w0 w' := by
  have e1 : viewC 1 3 = 6 := by decide
  have e2 : viewB 1 3 = true := by decide
  have e3 : viewC 4 3 = 4 := by decide
  have e4 : viewB 4 3 = true := by decide
  have e5 : turnN 1 0 = 1 := by decide
  have e6 : turnM 1 0 1 0 2 = 2 := by decide
  have e7 : extN 3 1 = 1 := by decide
  have e8 : extM 3 1 = 1 := by decide
  have e9 : extB 3 1 = true := by decide
  have e10 : fitsC 1 2 6 0 = true := by decide
  have e11 : fitsC 1 2 5 0 = false := by decide
  go_enter Tryd.func15, Tryd.ntmps15
  go_wp2_with (first
    | (go_at_call 11; refine (view_calls _ _ _ hE.v).mono ?_; rintro e w' ⟨rfl, rfl⟩)
    | (go_at_call 21; refine (alias_calls _ _ _).mono ?_; rintro e w1 ⟨rfl, hb1⟩; replace hE := hE.below hb1; replace hB := hB.then hb1; clear hb1)
    | (go_at_call 14; refine (extract_calls _ _ _ hE.v).mono ?_; rintro e w1 ⟨rfl, hb1⟩; replace hE := hE.below hb1; replace hB := hB.then hb1; clear hb1)
    | (go_at_call 17; refine (fits_calls _ _ _ _ _ hE.f).mono ?_; rintro e w1 ⟨rfl, hb1⟩; replace hE := hE.below hb1; replace hB := hB.then hb1; clear hb1))
  go_ret
  exact ⟨rfl, hB⟩
theorem awake_calls (w : World) (hE : E2 w) : Calls Tryd.prog 15 #[] w fun e w' => e = .returned (.bool true) ∧ Below w.heap.size w w' :=
  awake_core w w (Below.refl _ _) hE

/-! ### CapPermits -/
theorem permits_law : ∀ x ∈ List.range 7, ∀ y ∈ List.range 7, x ≠ 0 → y ≠ 0 →
    viewB x y = readsC x ∧
    (viewB x y && (readsC (viewC x y) && !readsC y || hasC 14 (viewC x y) && (!hasC 14 x || !hasC 14 y) || (x : Int) == 3 && viewC x y != y)) = false ∧
    extB x y = hasC 14 x ∧
    (extB x y && (readsC (extN x y) && !readsC y || hasC 14 (extN x y) && !hasC 14 y)) = false := by decide
theorem permits_int (x y : Int) (h1 : 1 ≤ x) (h2 : x ≤ 6) (h3 : 1 ≤ y) (h4 : y ≤ 6) :
    viewB x y = readsC x ∧
    (viewB x y && (readsC (viewC x y) && !readsC y || hasC 14 (viewC x y) && (!hasC 14 x || !hasC 14 y) || (x : Int) == 3 && viewC x y != y)) = false ∧
    extB x y = hasC 14 x ∧
    (extB x y && (readsC (extN x y) && !readsC y || hasC 14 (extN x y) && !hasC 14 y)) = false := by
  have := permits_law x.toNat (by simp; omega) y.toNat (by simp; omega) (by omega) (by omega)
  rw [show ((x.toNat : Nat) : Int) = x by omega, show ((y.toNat : Nat) : Int) = y by omega] at this
  exact this

set_option maxHeartbeats 4000000 in
theorem permits_core (a b : Int) (ha : 0 ≤ a) (ha' : a ≤ 255) (hb : 0 ≤ b) (hb' : b ≤ 255) (w0 w : World) (hB : Below w0.heap.size w0 w) (hE : E2 w) :
    Calls Tryd.prog 3 #[.int .u8 a, .int .u8 b] w fun e w' => e = .returned (.bool true) ∧ Below w0.heap.size w0 w' := by
  have hp := permits_int (1 + a % 6) (1 + b % 6) (by omega) (by omega) (by omega) (by omega)
  go_enter Tryd.func3, Tryd.ntmps3
  go_wp2_with fail
  refine (one_calls _ _ ha ha').mono ?_
  rintro e w' ⟨rfl, rfl⟩
  generalize hx : 1 + a % 6 = x at *
  go_wp2_with fail
  refine (one_calls _ _ hb hb').mono ?_
  rintro e w' ⟨rfl, rfl⟩
  generalize hy : 1 + b % 6 = y at *
  clear hx hy
  obtain ⟨p1, p2, p3, p4⟩ := hp
  have P2 := Lib.hid p2
  have P4 := Lib.hid p4
  clear p2 p4
  go_wp2_with (first
    | (go_at_call 11; refine (view_calls _ _ _ hE.v).mono ?_; rintro e w' ⟨rfl, rfl⟩)
    | (go_at_call 12; refine (reads_calls _ _).mono ?_; rintro e w' ⟨rfl, rfl⟩)
    | (go_at_call 13; refine (writes_calls _ _).mono ?_; rintro e w1 ⟨rfl, hb1⟩; replace hE := hE.below hb1; replace hB := hB.then hb1; clear hb1)
    | (go_at_call 14; refine (extract_calls _ _ _ hE.v).mono ?_; rintro e w1 ⟨rfl, hb1⟩; replace hE := hE.below hb1; replace hB := hB.then hb1; clear hb1)
    | (go_at_call 15; refine (awake_calls _ hE).mono ?_; rintro e w1 ⟨rfl, hb1⟩; replace hE := hE.below hb1; replace hB := hB.then hb1; clear hb1))
  all_goals
    go_ret
    refine ⟨ret_bool ?_, hB⟩
    have q2 := P2.out
    have q4 := P4.out
    clear P2 P4 hB hE ha ha' hb hb'
    simp_all
end Go.Proofs.YtlagofkcddhigaaDoor
