/- slices.IsSorted, Clone, Compact at int, on sorted lists without doubles. -/
import Derived.Test.YtlagofkcddhigaaDoorO
namespace Go.Proofs.YtlagofkcddhigaaDoor
open Go.RowKit

set_option maxHeartbeats 400000 in
theorem isNaN_calls (x : Int) (w : World) : Calls Tryd.prog 79 #[.int .i64 x] w fun e w' => e = .returned (.bool false) ∧ w' = w := by
  go_enter Tryd.func79, Tryd.ntmps79
  go_wp2
  go_ret
  exact ⟨rfl, rfl⟩
set_option maxHeartbeats 400000 in
theorem less_calls (x y : Int) (w : World) : Calls Tryd.prog 67 #[.int .i64 x, .int .i64 y] w fun e w' => e = .returned (.bool (decide (x < y))) ∧ w' = w := by
  go_enter Tryd.func67, Tryd.ntmps67
  go_wp2_with (go_at_call 79; refine (isNaN_calls _ _).mono ?_; rintro e w' ⟨rfl, rfl⟩)
  go_ret
  exact ⟨rfl, rfl⟩

theorem _root_.Go.RowKit.Below.drewN {B : Nat} {w W : World} (h : Below B w W) (n : Nat) : Below B w (W.drewN n) := ⟨h.os, h.tape, h.output, h.size, h.block⟩
/-- Ascending, each once. -/
def Asc (xs : List Int) : Prop := ∀ i, i + 1 < xs.length → xs.getD i 0 < xs.getD (i + 1) 0

set_option maxHeartbeats 1000000 in
theorem sorted_calls (v : Value) (xs : List Int) (w : World) (h : SlI w v xs) (ha : Asc xs) (hb : xs.length ≤ 1000000) :
    Calls Tryd.prog 48 #[v] w fun e w' => e = .returned (.bool true) ∧ Below w.heap.size w w' := by
  rcases h with ⟨rfl, a, c, rfl⟩ | ⟨h0, b, o, c, rfl, hc⟩
  · go_enter Tryd.func48, Tryd.ntmps48
    go_wp2
    refine wp_loop_rounds 1 ?_
    rw [rounds_succ]
    go_wp2
    go_ret
    exact ⟨rfl, Below.refl _ _⟩
  · unfold Asc at ha
    generalize hn : xs.length = n at *
    have A := Lib.hid ha
    clear ha hn
    go_enter Tryd.func48, Tryd.ntmps48
    go_wp2
    go_loopg [3] (n - 1) (fun gk i wr => gk ≤ n - 1 ∧ i = .int .i64 gk ∧ Below w.heap.size w wr)
    case atStart => exact ⟨Nat.le_refl _, by congr 1; omega, Below.refl _ _⟩
    case round =>
      obtain ⟨hgk, rfl, hbel⟩ := hrel
      by_cases hg0 : gk = 0
      · subst hg0
        go_wp2
        go_ret
        exact ⟨rfl, hbel⟩
      · obtain ⟨k, rfl⟩ : ∃ k, gk = k + 1 := ⟨gk - 1, by omega⟩
        have g1 : wr.cell? ⟨b, o + (k + 1), none⟩ = some (.int .i64 (xs.getD (k + 1) 0)) := (hbel.cell (World.block_lt_of_cell? w _ (hc (k + 1) (by omega)))).trans (hc (k + 1) (by omega))
        have g2 : wr.cell? ⟨b, o + k, none⟩ = some (.int .i64 (xs.getD k 0)) := (hbel.cell (World.block_lt_of_cell? w _ (hc k (by omega)))).trans (hc k (by omega))
        have hlt := A.out k (by omega)
        clear hc
        generalize hx : xs.getD (k + 1) 0 = x at *
        generalize hy : xs.getD k 0 = y at *
        clear hx hy
        have i1 : (k : Int) + 1 < (n : Int) := by omega
        have i2 : (0 : Int) ≤ (k : Int) + 1 := by omega
        have i3 : (0 : Int) ≤ (k : Int) + 1 - 1 := by omega
        have i4 : (k : Int) + 1 - 1 < (n : Int) := by omega
        have i5 : IntKind.i64.wrap (k : Int) = k := IntWalk.i64_in _ (by omega)
        have i6 : ((k : Int) + 1).toNat = k + 1 := by omega
        have i7 : (0 : Int) ≤ (k : Int) := by omega
        have i8 : (k : Int) < (n : Int) := by omega
        go_wp2_with fail
        go_quiet ((go_at_call 67; exact Calls.quiet_of_same (less_calls _ _ _)))
        clear i5
        go_wp2
        go_roundg k
        case measure => omega
        case rel => exact ⟨by omega, by go_num, hbel.drewN _⟩

set_option maxHeartbeats 1000000 in
/-- Compact of a list without doubles is the list itself. -/
theorem compact_calls (v : Value) (xs : List Int) (w : World) (h : SlI w v xs) (ha : Asc xs) (hb : xs.length ≤ 1000000) :
    Calls Tryd.prog 49 #[v] w fun e w' => e = .returned v ∧ Below w.heap.size w w' := by
  rcases h with ⟨rfl, a, c, rfl⟩ | ⟨h0, b, o, c, rfl, hc⟩
  · go_enter Tryd.func49, Tryd.ntmps49
    go_wp2
    go_ret
    exact ⟨rfl, Below.refl _ _⟩
  · unfold Asc at ha
    generalize hn : xs.length = n at *
    have A := Lib.hid ha
    clear ha hn
    by_cases h1 : n = 1
    · subst h1
      clear hc
      go_enter Tryd.func49, Tryd.ntmps49
      go_wp2
      go_ret
      exact ⟨rfl, Below.refl _ _⟩
    · have hn2 : 2 ≤ n := by omega
      clear h1
      go_enter Tryd.func49, Tryd.ntmps49
      go_wp2
      go_loopg [3] (n - 1) (fun gk i wr => gk ≤ n - 1 ∧ i = .int .i64 ((n - gk : Nat) : Int) ∧ Below w.heap.size w wr)
      case atStart => exact ⟨Nat.le_refl _, by congr 1; omega, Below.refl _ _⟩
      case round =>
        obtain ⟨hgk, rfl, hbel⟩ := hrel
        by_cases hg0 : gk = 0
        · subst hg0
          simp only [Nat.sub_zero]
          go_wp2
          go_ret
          exact ⟨rfl, hbel⟩
        · obtain ⟨k, hk⟩ : ∃ k, n - gk = k + 1 := ⟨n - gk - 1, by omega⟩
          rw [hk]
          have hkn : k + 1 < n := by omega
          have K := Lib.hid hk
          clear hk
          have g1 : wr.cell? ⟨b, o + (k + 1), none⟩ = some (.int .i64 (xs.getD (k + 1) 0)) := (hbel.cell (World.block_lt_of_cell? w _ (hc (k + 1) hkn))).trans (hc (k + 1) hkn)
          have g2 : wr.cell? ⟨b, o + k, none⟩ = some (.int .i64 (xs.getD k 0)) := (hbel.cell (World.block_lt_of_cell? w _ (hc k (by omega)))).trans (hc k (by omega))
          have hlt := A.out k hkn
          clear hc
          generalize hx : xs.getD (k + 1) 0 = x at *
          generalize hy : xs.getD k 0 = y at *
          clear hx hy
          have hd : (x == y) = false := beq_eq_false_iff_ne.2 (by omega)
          clear hlt
          have i1 : (k : Int) + 1 < (n : Int) := by omega
          have i2 : (0 : Int) ≤ (k : Int) + 1 := by omega
          have i5 : IntKind.i64.wrap (k : Int) = k := IntWalk.i64_in _ (by omega)
          have i6 : ((k : Int) + 1).toNat = k + 1 := by omega
          have i7 : (0 : Int) ≤ (k : Int) := by omega
          have i8 : (k : Int) < (n : Int) := by omega
          go_wp2_with fail
          go_quiet (fail)
          clear i5
          go_wp2
          go_roundg (gk - 1)
          case measure => omega
          case rel => exact ⟨by omega, by have := K.out; congr 1; omega, hbel.drewN _⟩
end Go.Proofs.YtlagofkcddhigaaDoor
