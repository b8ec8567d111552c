/- Contracts of the small functions of package cap: rows of the table of what fits, Alias, Extract, Local, Global. -/
import Derived.Test.YtlagofkcddhigaaDoorA
namespace Go.Proofs.YtlagofkcddhigaaDoor
open Go.RowKit

theorem ret_ib {a b : Int} {c d : Bool} (h : a = b) (k : c = d) : Ending.returned (.tuple #[.int .i64 a, .bool c]) = Ending.returned (.tuple #[.int .i64 b, .bool d]) := by rw [h, k]
theorem ret_ii {a b c d : Int} (h : a = b) (k : c = d) : Ending.returned (.tuple #[.int .i64 a, .int .i64 c]) = Ending.returned (.tuple #[.int .i64 b, .int .i64 d]) := by rw [h, k]
theorem ret_iib {a b c d : Int} {x y : Bool} (h : a = b) (k : c = d) (l : x = y) : Ending.returned (.tuple #[.int .i64 a, .int .i64 c, .bool x]) = Ending.returned (.tuple #[.int .i64 b, .int .i64 d, .bool y]) := by rw [h, k, l]

def rowB (c m : Int) : Bool := isC c && decide (0 ≤ m ∧ m ≤ 2)
def rowN (c m : Int) : Int := if rowB c m then (if c = 1 then at1 [1, 0, 2] m else if c = 2 then 3 + at1 [1, 0, 2] m else c + 3) else 0

set_option maxHeartbeats 800000 in
theorem row_calls (c m : Int) (w : World) : Calls Tryd.prog 59 #[.int .i64 c, .int .i64 m] w fun e w' => e = .returned (.tuple #[.int .i64 (rowN c m), .bool (rowB c m)]) ∧ Below w.heap.size w w' := by
  by_cases h1 : 1 ≤ c ∧ c ≤ 6
  · have hi : isC c = true := isC_iff.2 h1
    obtain ⟨g1, g2⟩ := h1
    by_cases h2 : m < 0
    · go_enter Tryd.func59, Tryd.ntmps59
      go_wp2_with (go_at_call 33; refine (is_calls _ _).mono ?_; rintro e w' ⟨rfl, rfl⟩)
      go_ret2
      have hB : rowB c m = false := by simp [rowB, hi]; omega
      exact ⟨ret_ib (by simp [rowN, hB]) hB.symm, Below.refl _ _⟩
    · by_cases h3 : 2 < m
      · go_enter Tryd.func59, Tryd.ntmps59
        go_wp2_with (go_at_call 33; refine (is_calls _ _).mono ?_; rintro e w' ⟨rfl, rfl⟩)
        go_ret2
        have hB : rowB c m = false := by simp [rowB, hi]; omega
        exact ⟨ret_ib (by simp [rowN, hB]) hB.symm, Below.refl _ _⟩
      · have hm : m = 0 ∨ m = 1 ∨ m = 2 := by omega
        clear h2 h3
        rcases hm with rfl | rfl | rfl
        all_goals
          go_enter Tryd.func59, Tryd.ntmps59
          go_wp2_with (go_at_call 33; refine (is_calls _ _).mono ?_; rintro e w' ⟨rfl, rfl⟩)
          all_goals
            go_ret2
            exact ⟨ret_ib (by simp_all [rowN, rowB, at1]; try omega) (by simp [rowB, hi]), (Below.refl _ _).alloc (Nat.le_refl _) _⟩
  · have hi : isC c = false := isC_no.2 h1
    clear h1
    go_enter Tryd.func59, Tryd.ntmps59
    go_wp2_with (go_at_call 33; refine (is_calls _ _).mono ?_; rintro e w' ⟨rfl, rfl⟩)
    go_ret2
    exact ⟨ret_ib (by simp [rowN, rowB, hi]) (by simp [rowB, hi]), Below.refl _ _⟩

theorem at1_marks (m : Int) (h : 0 ≤ m ∧ m ≤ 2) : 0 ≤ at1 [1, 0, 2] m ∧ at1 [1, 0, 2] m ≤ 2 := by
  have : m = 0 ∨ m = 1 ∨ m = 2 := by omega
  rcases this with rfl | rfl | rfl <;> decide
theorem rowN_bd (c m : Int) : 0 ≤ rowN c m ∧ rowN c m ≤ 9 := by
  unfold rowN
  split
  · rename_i h
    simp only [rowB, Bool.and_eq_true, decide_eq_true_eq] at h
    have h1 := isC_iff.1 h.1
    have h2 := at1_marks m h.2
    split
    · omega
    · split <;> omega
  · omega

def fitsC (a m b o : Int) : Bool := rowB a m && rowB b o && (bits BinOp.and IntKind.u64 (at1 fitsL (rowN a m) / 2 ^ (rowN b o).toNat) 1 == 1)
set_option maxHeartbeats 800000 in
theorem fits_calls (a m b o : Int) (w : World) (hf : T1 1 .u64 fitsL w) : Calls Tryd.prog 17 #[.int .i64 a, .int .i64 m, .int .i64 b, .int .i64 o] w fun e w' => e = .returned (.bool (fitsC a m b o)) ∧ Below w.heap.size w w' := by
  have hx := rowN_bd a m
  have hy := rowN_bd b o
  obtain ⟨x1, x2⟩ := hx
  obtain ⟨y1, y2⟩ := hy
  cases h1 : rowB a m with
  | false =>
    have hC : fitsC a m b o = false := by simp [fitsC, h1]
    go_enter Tryd.func17, Tryd.ntmps17
    go_wp2_with fail
    refine (row_calls _ _ _).mono ?_
    rintro e w1 ⟨rfl, hb1⟩
    go_wp2_with fail
    refine (row_calls _ _ _).mono ?_
    rintro e w2 ⟨rfl, hb2⟩
    go_wp2
    go_ret
    exact ⟨ret_bool hC.symm, hb1.trans (hb2.mono hb1.size)⟩
  | true =>
    cases h2 : rowB b o with
    | false =>
      have hC : fitsC a m b o = false := by simp [fitsC, h2]
      go_enter Tryd.func17, Tryd.ntmps17
      go_wp2_with fail
      refine (row_calls _ _ _).mono ?_
      rintro e w1 ⟨rfl, hb1⟩
      go_wp2_with fail
      refine (row_calls _ _ _).mono ?_
      rintro e w2 ⟨rfl, hb2⟩
      go_wp2
      go_ret
      exact ⟨ret_bool hC.symm, hb1.trans (hb2.mono hb1.size)⟩
    | true =>
      have hC : fitsC a m b o = (bits BinOp.and IntKind.u64 (at1 fitsL (rowN a m) / 2 ^ (rowN b o).toNat) 1 == 1) := by simp [fitsC, h1, h2]
      go_enter Tryd.func17, Tryd.ntmps17
      go_wp2_with fail
      refine (row_calls _ _ _).mono ?_
      rintro e w1 ⟨rfl, hb1⟩
      go_wp2_with fail
      refine (row_calls _ _ _).mono ?_
      rintro e w2 ⟨rfl, hb2⟩
      have hb : Below w.heap.size w w2 := hb1.trans (hb2.mono hb1.size)
      have hc := (hf.below hb).at (i := rowN a m) x1 (by show rowN a m < 10; omega)
      clear hf hb1 hb2
      have HC := Lib.hid hC
      clear hC
      go_wp2
      go_ret
      exact ⟨ret_bool HC.out.symm, hb⟩
end Go.Proofs.YtlagofkcddhigaaDoor
