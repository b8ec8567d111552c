/- Contracts of the reference's small functions, in the words of the program's tables; Store. -/
import Derived.Test.YtlagofkcddhigaaDoorE
namespace Go.Proofs.YtlagofkcddhigaaDoor
open Go.RowKit

theorem caps_of {P : Int → Prop} (h : ∀ x ∈ caps, P x) {x : Int} (hx : isC x = true) : P x := by
  have := isC_iff.1 hx
  exact h x (mem_caps this.1 this.2)
theorem marks_of {P : Int → Prop} (h : ∀ x ∈ marks, P x) {x : Int} (hx : 0 ≤ x ∧ x ≤ 2) : P x := h x (mem_marks hx.1 hx.2)

theorem has_isC {s c : Int} (h : hasC s c = true) : isC c = true := by simp only [hasC, Bool.and_eq_true] at h; exact h.1
theorem has_no {s c : Int} (h : isC c = false) : hasC s c = false := by simp [hasC, h]
theorem row_isC {c m : Int} (h : rowB c m = true) : isC c = true ∧ 0 ≤ m ∧ m ≤ 2 := by simpa [rowB] using h

def uniqueC (c : Int) : Bool := c == 1 || c == 2
def sharedC (c : Int) : Bool := c == 4 || c == 5
def countsC (c m : Int) : Int := if m = 2 ∧ c = 1 then 6 else if m = 2 ∧ c = 2 then 5 else c
def rwritesC (c : Int) : Bool := c == 1 || c == 2 || c == 3
def rsendC (c : Int) : Bool := c == 1 || c == 4 || c == 6

theorem rwrites_eq (c : Int) : rwritesC c = hasC 14 c := by
  cases h : isC c with
  | true => exact caps_of (P := fun c => rwritesC c = hasC 14 c) (by decide) h
  | false =>
    rw [has_no h]
    have := isC_no.1 h
    simp [rwritesC]; omega
theorem rsend_eq (c : Int) : rsendC c = hasC 82 c := by
  cases h : isC c with
  | true => exact caps_of (P := fun c => rsendC c = hasC 82 c) (by decide) h
  | false =>
    rw [has_no h]
    have := isC_no.1 h
    simp [rsendC]; omega

set_option maxHeartbeats 400000 in
theorem unique_calls (c : Int) (w : World) : Calls Tryd.prog 61 #[.int .i64 c] w fun e w' => e = .returned (.bool (uniqueC c)) ∧ w = w' := by
  go_enter Tryd.func61, Tryd.ntmps61
  go_wp2
  all_goals
    go_ret
    exact ⟨ret_bool (by simp_all [uniqueC]), rfl⟩
set_option maxHeartbeats 400000 in
theorem shared_calls (c : Int) (w : World) : Calls Tryd.prog 65 #[.int .i64 c] w fun e w' => e = .returned (.bool (sharedC c)) ∧ w = w' := by
  go_enter Tryd.func65, Tryd.ntmps65
  go_wp2
  all_goals
    go_ret
    exact ⟨ret_bool (by simp_all [sharedC]), rfl⟩
set_option maxHeartbeats 400000 in
theorem ref_writes_calls (c : Int) (w : World) : Calls Tryd.prog 39 #[.int .i64 c] w fun e w' => e = .returned (.bool (hasC 14 c)) ∧ w = w' := by
  go_enter Tryd.func39, Tryd.ntmps39
  go_wp2
  all_goals
    go_ret
    exact ⟨ret_bool (by rw [← rwrites_eq]; simp_all [rwritesC]), rfl⟩
set_option maxHeartbeats 400000 in
theorem ref_sendable_calls (c : Int) (w : World) : Calls Tryd.prog 40 #[.int .i64 c] w fun e w' => e = .returned (.bool (hasC 82 c)) ∧ w = w' := by
  go_enter Tryd.func40, Tryd.ntmps40
  go_wp2
  all_goals
    go_ret
    exact ⟨ret_bool (by rw [← rsend_eq]; simp_all [rsendC]), rfl⟩
set_option maxHeartbeats 400000 in
theorem ref_reads_calls (c : Int) (w : World) : Calls Tryd.prog 38 #[.int .i64 c] w fun e w' => e = .returned (.bool (readsC c)) ∧ w = w' := by
  go_enter Tryd.func38, Tryd.ntmps38
  go_wp2_with (go_at_call 34; refine (ref_is_calls _ _).mono ?_; rintro e w' ⟨rfl, rfl⟩)
  all_goals
    go_ret
    exact ⟨ret_bool (by simp_all [readsC]), rfl⟩
set_option maxHeartbeats 400000 in
theorem marked_calls (c m : Int) (w : World) : Calls Tryd.prog 62 #[.int .i64 c, .int .i64 m] w fun e w' => e = .returned (.bool (rowB c m)) ∧ w = w' := by
  cases h : isC c
  all_goals
    go_enter Tryd.func62, Tryd.ntmps62
    go_wp2_with (go_at_call 34; refine (ref_is_calls _ _).mono ?_; rintro e w' ⟨rfl, rfl⟩)
    all_goals
      go_ret
      exact ⟨ret_bool (by simp [rowB, h]; try omega), rfl⟩
set_option maxHeartbeats 400000 in
theorem counts_calls (c m : Int) (w : World) : Calls Tryd.prog 63 #[.int .i64 c, .int .i64 m] w fun e w' => e = .returned (.int .i64 (countsC c m)) ∧ w = w' := by
  go_enter Tryd.func63, Tryd.ntmps63
  go_wp2
  all_goals
    go_ret
    exact ⟨ret_int (by simp_all [countsC]), rfl⟩

def rviewN (o f : Int) : Int := if viewB o f = false then 0 else if o = 3 ∨ f = 6 then f else if o = 4 ∨ f = 4 then 4 else if o = 1 then (if f = 1 then 1 else 6) else if o = 2 then (if uniqueC f = true then f else 5) else if f = 1 then 6 else 5
theorem rviewN_eq (o f : Int) : rviewN o f = viewC o f := by
  cases h : viewB o f with
  | false => simp [rviewN, viewC, h]
  | true =>
    have hh := h
    simp only [viewB, Bool.and_eq_true] at hh
    exact caps_of (P := fun f => rviewN o f = viewC o f) (caps_of (P := fun o => ∀ f ∈ caps, rviewN o f = viewC o f) (by decide) hh.1.1) hh.1.2
set_option maxHeartbeats 800000 in
theorem ref_view_calls (o f : Int) (w : World) : Calls Tryd.prog 23 #[.int .i64 o, .int .i64 f] w fun e w' => e = .returned (.tuple #[.int .i64 (viewC o f), .bool (viewB o f)]) ∧ w = w' := by
  go_enter Tryd.func23, Tryd.ntmps23
  go_wp2_with (first | (go_at_call 34; refine (ref_is_calls _ _).mono ?_; rintro e w' ⟨rfl, rfl⟩) | (go_at_call 61; refine (unique_calls _ _).mono ?_; rintro e w' ⟨rfl, rfl⟩))
  all_goals
    go_ret2
    exact ⟨ret_ib (by rw [← rviewN_eq]; simp_all [rviewN, viewB]) (by simp_all [viewB]), rfl⟩
end Go.Proofs.YtlagofkcddhigaaDoor
