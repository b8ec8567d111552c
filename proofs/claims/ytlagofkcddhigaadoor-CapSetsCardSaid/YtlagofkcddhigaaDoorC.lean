/- Contracts: Sub, Local, Global, Alias, Consumed, Extract, the laws' small helpers. -/
import Derived.Test.YtlagofkcddhigaaDoorB
namespace Go.Proofs.YtlagofkcddhigaaDoor
open Go.RowKit

theorem _root_.Go.RowKit.Below.then {w0 w1 w2 : World} (h : Below w0.heap.size w0 w1) (k : Below w1.heap.size w1 w2) : Below w0.heap.size w0 w2 := h.trans (k.mono h.size)

set_option maxHeartbeats 400000 in
theorem sub_calls (a b : Int) (w : World) (hf : T1 1 .u64 fitsL w) : Calls Tryd.prog 18 #[.int .i64 a, .int .i64 b] w fun e w' => e = .returned (.bool (fitsC a 1 b 0)) ∧ Below w.heap.size w w' := by
  go_enter Tryd.func18, Tryd.ntmps18
  go_wp2_with (go_at_call 17; refine (fits_calls _ _ _ _ _ (by assumption)).mono ?_; rintro e w1 ⟨rfl, hb1⟩)
  go_ret
  exact ⟨rfl, by assumption⟩

def localC (a b : Int) : Bool := isC a && hasC (at1 localL a) b
def globalC (a b : Int) : Bool := isC a && hasC (at1 globalL a) b
set_option maxHeartbeats 400000 in
theorem local_calls (a b : Int) (w : World) (hl : T1 2 .u64 localL w) : Calls Tryd.prog 19 #[.int .i64 a, .int .i64 b] w fun e w' => e = .returned (.bool (localC a b)) ∧ w = w' := by
  by_cases h1 : 1 ≤ a ∧ a ≤ 6
  · have hi : isC a = true := isC_iff.2 h1
    obtain ⟨g1, g2⟩ := h1
    have hc := hl.at (i := a) (by omega) (by show a < 7; omega)
    clear hl
    go_enter Tryd.func19, Tryd.ntmps19
    go_wp2_with (first | (go_at_call 33; refine (is_calls _ _).mono ?_; rintro e w' ⟨rfl, rfl⟩) | (go_at_call 58; refine (has_calls _ _ _).mono ?_; rintro e w' ⟨rfl, rfl⟩))
    go_ret
    exact ⟨ret_bool (by simp [localC, hi]), rfl⟩
  · have hi : isC a = false := isC_no.2 h1
    clear h1 hl
    go_enter Tryd.func19, Tryd.ntmps19
    go_wp2_with (first | (go_at_call 33; refine (is_calls _ _).mono ?_; rintro e w' ⟨rfl, rfl⟩) | (go_at_call 58; refine (has_calls _ _ _).mono ?_; rintro e w' ⟨rfl, rfl⟩))
    go_ret
    exact ⟨ret_bool (by simp [localC, hi]), rfl⟩
set_option maxHeartbeats 400000 in
theorem global_calls (a b : Int) (w : World) (hl : T1 3 .u64 globalL w) : Calls Tryd.prog 20 #[.int .i64 a, .int .i64 b] w fun e w' => e = .returned (.bool (globalC a b)) ∧ w = w' := by
  by_cases h1 : 1 ≤ a ∧ a ≤ 6
  · have hi : isC a = true := isC_iff.2 h1
    obtain ⟨g1, g2⟩ := h1
    have hc := hl.at (i := a) (by omega) (by show a < 7; omega)
    clear hl
    go_enter Tryd.func20, Tryd.ntmps20
    go_wp2_with (first | (go_at_call 33; refine (is_calls _ _).mono ?_; rintro e w' ⟨rfl, rfl⟩) | (go_at_call 58; refine (has_calls _ _ _).mono ?_; rintro e w' ⟨rfl, rfl⟩))
    go_ret
    exact ⟨ret_bool (by simp [globalC, hi]), rfl⟩
  · have hi : isC a = false := isC_no.2 h1
    clear h1 hl
    go_enter Tryd.func20, Tryd.ntmps20
    go_wp2_with (first | (go_at_call 33; refine (is_calls _ _).mono ?_; rintro e w' ⟨rfl, rfl⟩) | (go_at_call 58; refine (has_calls _ _ _).mono ?_; rintro e w' ⟨rfl, rfl⟩))
    go_ret
    exact ⟨ret_bool (by simp [globalC, hi]), rfl⟩

def turnN (c m : Int) : Int := if rowB c m then c else 0
def turnM (c m fr to ot : Int) : Int := if rowB c m then (if c > 2 then 0 else if m = fr then to else ot) else 0
set_option maxHeartbeats 400000 in
theorem turned_calls (c m fr to ot : Int) (w : World) : Calls Tryd.prog 60 #[.int .i64 c, .int .i64 m, .int .i64 fr, .int .i64 to, .int .i64 ot] w fun e w' => e = .returned (.tuple #[.int .i64 (turnN c m), .int .i64 (turnM c m fr to ot)]) ∧ Below w.heap.size w w' := by
  cases h1 : rowB c m with
  | false =>
    go_enter Tryd.func60, Tryd.ntmps60
    go_wp2_with (go_at_call 59; refine (row_calls _ _ _).mono ?_; rintro e w1 ⟨rfl, hb1⟩)
    go_ret2
    exact ⟨ret_ii (by simp [turnN, h1]) (by simp [turnM, h1]), by assumption⟩
  | true =>
    by_cases h2 : 2 < c
    · go_enter Tryd.func60, Tryd.ntmps60
      go_wp2_with (go_at_call 59; refine (row_calls _ _ _).mono ?_; rintro e w1 ⟨rfl, hb1⟩)
      go_ret2
      exact ⟨ret_ii (by simp [turnN, h1]) (by simp [turnM, h1, h2]), by assumption⟩
    · cases h3 : (m == fr) with
      | true =>
        go_enter Tryd.func60, Tryd.ntmps60
        go_wp2_with (go_at_call 59; refine (row_calls _ _ _).mono ?_; rintro e w1 ⟨rfl, hb1⟩)
        go_ret2
        exact ⟨ret_ii (by simp [turnN, h1]) (by have := beq_iff_eq.1 h3; subst this; simp [turnM, h1]; omega), by assumption⟩
      | false =>
        go_enter Tryd.func60, Tryd.ntmps60
        go_wp2_with (go_at_call 59; refine (row_calls _ _ _).mono ?_; rintro e w1 ⟨rfl, hb1⟩)
        go_ret2
        exact ⟨ret_ii (by simp [turnN, h1]) (by have := beq_eq_false_iff_ne.1 h3; simp [turnM, h1, this]; omega), by assumption⟩
set_option maxHeartbeats 400000 in
theorem alias_calls (c m : Int) (w : World) : Calls Tryd.prog 21 #[.int .i64 c, .int .i64 m] w fun e w' => e = .returned (.tuple #[.int .i64 (turnN c m), .int .i64 (turnM c m 1 0 2)]) ∧ Below w.heap.size w w' := by
  go_enter Tryd.func21, Tryd.ntmps21
  go_wp2_with (go_at_call 60; refine (turned_calls _ _ _ _ _ _).mono ?_; rintro e w1 ⟨rfl, hb1⟩)
  go_ret2
  exact ⟨rfl, by assumption⟩
set_option maxHeartbeats 400000 in
theorem consumed_calls (c m : Int) (w : World) : Calls Tryd.prog 44 #[.int .i64 c, .int .i64 m] w fun e w' => e = .returned (.tuple #[.int .i64 (turnN c m), .int .i64 (turnM c m 2 2 1)]) ∧ Below w.heap.size w w' := by
  go_enter Tryd.func44, Tryd.ntmps44
  go_wp2_with (go_at_call 60; refine (turned_calls _ _ _ _ _ _).mono ?_; rintro e w1 ⟨rfl, hb1⟩)
  go_ret2
  exact ⟨rfl, by assumption⟩

def extB (o f : Int) : Bool := hasC 14 o && isC f
def extN (o f : Int) : Int := if extB o f then (if f = 1 then 1 else if f = 2 then (if o = 3 then 2 else if o = 2 then 5 else 6) else viewAt o f) else 0
def extM (o f : Int) : Int := if extB o f then (if f = 1 then 1 else if f = 2 ∧ o = 3 then 1 else 0) else 0
set_option maxHeartbeats 800000 in
theorem extract_calls (o f : Int) (w : World) (hv : TV w) : Calls Tryd.prog 14 #[.int .i64 o, .int .i64 f] w fun e w' => e = .returned (.tuple #[.int .i64 (extN o f), .int .i64 (extM o f), .bool (extB o f)]) ∧ Below w.heap.size w w' := by
  cases h1 : hasC 14 o with
  | false =>
    have hB : extB o f = false := by simp [extB, h1]
    go_enter Tryd.func14, Tryd.ntmps14
    go_wp2_with (first | (go_at_call 33; refine (is_calls _ _).mono ?_; rintro e w' ⟨rfl, rfl⟩) | (go_at_call 13; refine (writes_calls _ _).mono ?_; rintro e w1 ⟨rfl, hb1⟩))
    go_ret3
    exact ⟨ret_iib (by simp [extN, hB]) (by simp [extM, hB]) hB.symm, by assumption⟩
  | true =>
    cases h2 : isC f with
    | false =>
      have hB : extB o f = false := by simp [extB, h2]
      go_enter Tryd.func14, Tryd.ntmps14
      go_wp2_with (first | (go_at_call 33; refine (is_calls _ _).mono ?_; rintro e w' ⟨rfl, rfl⟩) | (go_at_call 13; refine (writes_calls _ _).mono ?_; rintro e w1 ⟨rfl, hb1⟩))
      go_ret3
      exact ⟨ret_iib (by simp [extN, hB]) (by simp [extM, hB]) hB.symm, by assumption⟩
    | true =>
      have hB : extB o f = true := by simp [extB, h1, h2]
      have ho : isC o = true := by simp only [hasC, Bool.and_eq_true] at h1; exact h1.1
      have g1 := isC_iff.1 ho
      have g2 := isC_iff.1 h2
      obtain ⟨g1, g1'⟩ := g1
      obtain ⟨g2, g2'⟩ := g2
      go_enter Tryd.func14, Tryd.ntmps14
      go_wp2_with fail
      refine (writes_calls _ _).mono ?_
      rintro e w1 ⟨rfl, hb1⟩
      have hc := (hv.below hb1).at (o := o) (f := f) (by omega) (by omega) (by omega) (by omega)
      clear hv ho
      go_wp2_with (first | (go_at_call 33; refine (is_calls _ _).mono ?_; rintro e w' ⟨rfl, rfl⟩))
      all_goals
        go_ret3
        exact ⟨ret_iib (by simp_all [extN]) (by simp_all [extM]) hB.symm, hb1⟩

set_option maxHeartbeats 400000 in
theorem one_calls (n : Int) (w : World) (h0 : 0 ≤ n) (h1 : n ≤ 255) : Calls Tryd.prog 10 #[.int .u8 n] w fun e w' => e = .returned (.int .i64 (1 + n % 6)) ∧ w = w' := by
  go_enter Tryd.func10, Tryd.ntmps10
  go_wp2
  go_ret
  exact ⟨rfl, rfl⟩
set_option maxHeartbeats 400000 in
theorem mark_calls (n : Int) (w : World) (h0 : 0 ≤ n) (h1 : n ≤ 255) : Calls Tryd.prog 16 #[.int .u8 n] w fun e w' => e = .returned (.int .i64 (n % 3)) ∧ w = w' := by
  go_enter Tryd.func16, Tryd.ntmps16
  go_wp2
  go_ret
  exact ⟨rfl, rfl⟩
end Go.Proofs.YtlagofkcddhigaaDoor
