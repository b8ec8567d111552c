/- Contracts: names, Recover, the reference's Alias, Consumed, Fits, Sub. -/
import Derived.Test.YtlagofkcddhigaaDoorH
namespace Go.Proofs.YtlagofkcddhigaaDoor
open Go.RowKit

def namesL : List (List UInt8) := [[], [105, 115, 111], [116, 114, 110], [114, 101, 102], [118, 97, 108], [98, 111, 120], [116, 97, 103], [35, 114, 101, 97, 100], [35, 115, 101, 110, 100], [35, 115, 104, 97, 114, 101], [35, 97, 108, 105, 97, 115], [35, 97, 110, 121]]
def nameC (c : Int) : ByteArray := if 0 ≤ c then ⟨(namesL.getD c.toNat []).toArray⟩ else ⟨#[]⟩
def TN (w : World) : Prop := ∀ (i : Nat) (s : List UInt8), namesL[i]? = some s → w.cell? ⟨6, i, none⟩ = some (.string ⟨s.toArray⟩)
theorem TN.below {w w' : World} (h : TN w) (hb : Below w.heap.size w w') : TN w' := by
  intro i z hz
  have hc := h i z hz
  exact (hb.cell (World.block_lt_of_cell? w _ hc)).trans hc
theorem TN.at {w : World} (h : TN w) {i : Int} (h0 : 0 ≤ i) (h1 : i < 12) : w.cell? ⟨6, i.toNat, none⟩ = some (.string (nameC i)) := by
  have hi : i.toNat < namesL.length := by show i.toNat < 12; omega
  rw [h i.toNat namesL[i.toNat] (List.getElem?_eq_getElem hi)]
  simp [nameC, h0, List.getD, hi]
theorem nameC_out {c : Int} (h : c < 0 ∨ 12 ≤ c) : nameC c = ⟨#[]⟩ := by
  unfold nameC
  split
  · have hi : namesL.length ≤ c.toNat := by show 12 ≤ c.toNat; omega
    simp [List.getD, List.getElem?_eq_none hi]
  · rfl
theorem ret_str {a b : ByteArray} (h : a = b) : Ending.returned (.string a) = Ending.returned (.string b) := by rw [h]

set_option maxHeartbeats 400000 in
theorem name_calls (c : Int) (w : World) (hn : TN w) : Calls Tryd.prog 31 #[.int .i64 c] w fun e w' => e = .returned (.string (nameC c)) ∧ w = w' := by
  by_cases h0 : c < 0
  · have hN := nameC_out (Or.inl h0 : c < 0 ∨ 12 ≤ c)
    go_enter Tryd.func31, Tryd.ntmps31
    go_wp2
    go_ret
    exact ⟨ret_str (by first | exact hN.symm | rfl), rfl⟩
  · by_cases h1 : 12 ≤ c
    · have hN := nameC_out (Or.inr h1 : c < 0 ∨ 12 ≤ c)
      go_enter Tryd.func31, Tryd.ntmps31
      go_wp2
      go_ret
      exact ⟨ret_str (by first | exact hN.symm | rfl), rfl⟩
    · have g0 : 0 ≤ c := by omega
      have g1 : c < 12 := by omega
      have hc := hn.at g0 g1
      clear hn h0 h1
      go_enter Tryd.func31, Tryd.ntmps31
      go_wp2
      go_ret
      exact ⟨rfl, rfl⟩
set_option maxHeartbeats 800000 in
theorem ref_name_calls (c : Int) (w : World) : Calls Tryd.prog 32 #[.int .i64 c] w fun e w' => e = .returned (.string (nameC c)) ∧ Below w.heap.size w w' := by
  by_cases h0 : c < 0
  · have hN := nameC_out (Or.inl h0 : c < 0 ∨ 12 ≤ c)
    go_enter Tryd.func32, Tryd.ntmps32
    go_wp2
    go_ret
    exact ⟨ret_str (by first | exact hN.symm | rfl), (Below.refl _ _).alloc (Nat.le_refl _) _⟩
  · by_cases h1 : 12 ≤ c
    · have hN := nameC_out (Or.inr h1 : c < 0 ∨ 12 ≤ c)
      go_enter Tryd.func32, Tryd.ntmps32
      go_wp2
      go_ret
      exact ⟨ret_str (by first | exact hN.symm | rfl), (Below.refl _ _).alloc (Nat.le_refl _) _⟩
    · have hc : c = 0 ∨ c = 1 ∨ c = 2 ∨ c = 3 ∨ c = 4 ∨ c = 5 ∨ c = 6 ∨ c = 7 ∨ c = 8 ∨ c = 9 ∨ c = 10 ∨ c = 11 := by omega
      clear h0 h1
      rcases hc with rfl | rfl | rfl | rfl | rfl | rfl | rfl | rfl | rfl | rfl | rfl | rfl
      all_goals
        go_enter Tryd.func32, Tryd.ntmps32
        go_wp2
        go_ret
        exact ⟨ret_str (by decide), (Below.refl _ _).alloc (Nat.le_refl _) _⟩

def recN (c : Int) : Int := at1 [0, 1, 1, 1, 4, 4, 6] (if isC c then c else 0)
set_option maxHeartbeats 800000 in
theorem recover_calls (c : Int) (w : World) : Calls Tryd.prog 46 #[.int .i64 c] w fun e w' => e = .returned (.tuple #[.int .i64 (recN c), .bool (isC c)]) ∧ w = w' := by
  by_cases h : 1 ≤ c ∧ c ≤ 6
  · have hc : c = 1 ∨ c = 2 ∨ c = 3 ∨ c = 4 ∨ c = 5 ∨ c = 6 := by omega
    clear h
    have x1 : ∀ w : World, (Instr.index 64 (.agg #[.int .i64 0, .int .i64 1, .int .i64 1, .int .i64 1, .int .i64 4, .int .i64 4, .int .i64 6]) (.int .i64 1)).run Tryd.prog w = .ok (.int .i64 1) w := fun _ => by kernel_rfl
    have x2 : ∀ w : World, (Instr.index 64 (.agg #[.int .i64 0, .int .i64 1, .int .i64 1, .int .i64 1, .int .i64 4, .int .i64 4, .int .i64 6]) (.int .i64 2)).run Tryd.prog w = .ok (.int .i64 1) w := fun _ => by kernel_rfl
    have x3 : ∀ w : World, (Instr.index 64 (.agg #[.int .i64 0, .int .i64 1, .int .i64 1, .int .i64 1, .int .i64 4, .int .i64 4, .int .i64 6]) (.int .i64 3)).run Tryd.prog w = .ok (.int .i64 1) w := fun _ => by kernel_rfl
    have x4 : ∀ w : World, (Instr.index 64 (.agg #[.int .i64 0, .int .i64 1, .int .i64 1, .int .i64 1, .int .i64 4, .int .i64 4, .int .i64 6]) (.int .i64 4)).run Tryd.prog w = .ok (.int .i64 4) w := fun _ => by kernel_rfl
    have x5 : ∀ w : World, (Instr.index 64 (.agg #[.int .i64 0, .int .i64 1, .int .i64 1, .int .i64 1, .int .i64 4, .int .i64 4, .int .i64 6]) (.int .i64 5)).run Tryd.prog w = .ok (.int .i64 4) w := fun _ => by kernel_rfl
    have x6 : ∀ w : World, (Instr.index 64 (.agg #[.int .i64 0, .int .i64 1, .int .i64 1, .int .i64 1, .int .i64 4, .int .i64 4, .int .i64 6]) (.int .i64 6)).run Tryd.prog w = .ok (.int .i64 6) w := fun _ => by kernel_rfl
    have i1 : isC 1 = true := by decide
    have i2 : isC 2 = true := by decide
    have i3 : isC 3 = true := by decide
    have i4 : isC 4 = true := by decide
    have i5 : isC 5 = true := by decide
    have i6 : isC 6 = true := by decide
    rcases hc with rfl | rfl | rfl | rfl | rfl | rfl
    all_goals
      go_enter Tryd.func46, Tryd.ntmps46
      go_wp2_with (go_at_call 33; refine (is_calls _ _).mono ?_; rintro e w' ⟨rfl, rfl⟩)
      go_ret2
      exact ⟨ret_ib rfl (by first | rfl | simp_all), rfl⟩
  · have hi : isC c = false := isC_no.2 h
    clear h
    go_enter Tryd.func46, Tryd.ntmps46
    go_wp2_with (go_at_call 33; refine (is_calls _ _).mono ?_; rintro e w' ⟨rfl, rfl⟩)
    go_ret2
    exact ⟨ret_ib (by simp [recN, hi, at1]) (by simp [hi]), rfl⟩
end Go.Proofs.YtlagofkcddhigaaDoor
