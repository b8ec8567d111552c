/- Contracts: the reference's Extract, Store, Local, Global; the program's Store; the walk of the law CapViews. -/
import Derived.Test.YtlagofkcddhigaaDoorG
namespace Go.Proofs.YtlagofkcddhigaaDoor
open Go.RowKit

theorem ext_facts : ∀ o ∈ caps, ∀ f ∈ caps, extB o f = true → viewB o f = true ∧ viewC o f = viewAt o f := by decide
set_option maxHeartbeats 800000 in
theorem ref_extract_calls (o f : Int) (w : World) : Calls Tryd.prog 24 #[.int .i64 o, .int .i64 f] w fun e w' => e = .returned (.tuple #[.int .i64 (extN o f), .int .i64 (extM o f), .bool (extB o f)]) ∧ w = w' := by
  cases h1 : hasC 14 o with
  | false =>
    have hB : extB o f = false := by simp [extB, h1]
    go_enter Tryd.func24, Tryd.ntmps24
    go_wp2_with (first | (go_at_call 34; refine (ref_is_calls _ _).mono ?_; rintro e w' ⟨rfl, rfl⟩) | (go_at_call 39; refine (ref_writes_calls _ _).mono ?_; rintro e w' ⟨rfl, rfl⟩))
    go_ret3
    exact ⟨ret_iib (by simp [extN, hB]) (by simp [extM, hB]) hB.symm, rfl⟩
  | true =>
    cases h2 : isC f with
    | false =>
      have hB : extB o f = false := by simp [extB, h2]
      go_enter Tryd.func24, Tryd.ntmps24
      go_wp2_with (first | (go_at_call 34; refine (ref_is_calls _ _).mono ?_; rintro e w' ⟨rfl, rfl⟩) | (go_at_call 39; refine (ref_writes_calls _ _).mono ?_; rintro e w' ⟨rfl, rfl⟩))
      go_ret3
      exact ⟨ret_iib (by simp [extN, hB]) (by simp [extM, hB]) hB.symm, rfl⟩
    | true =>
      have hB : extB o f = true := by simp [extB, h1, h2]
      have hv := caps_of (P := fun f => extB o f = true → viewB o f = true ∧ viewC o f = viewAt o f) (caps_of (P := fun o => ∀ f ∈ caps, extB o f = true → viewB o f = true ∧ viewC o f = viewAt o f) ext_facts (has_isC h1)) h2 hB
      obtain ⟨v1, v2⟩ := hv
      go_enter Tryd.func24, Tryd.ntmps24
      go_wp2_with (first | (go_at_call 34; refine (ref_is_calls _ _).mono ?_; rintro e w' ⟨rfl, rfl⟩) | (go_at_call 39; refine (ref_writes_calls _ _).mono ?_; rintro e w' ⟨rfl, rfl⟩) | (go_at_call 23; refine (ref_view_calls _ _ _).mono ?_; rintro e w' ⟨rfl, rfl⟩))
      all_goals
        go_ret3
        exact ⟨ret_iib (by simp_all [extN]) (by simp_all [extM]) (by simp_all), rfl⟩

def storeC (o c m : Int) : Bool := rowB c m && isC o && hasC (at1 storesL o) (countsC c m)
set_option maxHeartbeats 800000 in
theorem store_calls (o c m : Int) (w : World) (hs : T1 5 .u64 storesL w) : Calls Tryd.prog 25 #[.int .i64 o, .int .i64 c, .int .i64 m] w fun e w' => e = .returned (.bool (storeC o c m)) ∧ Below w.heap.size w w' := by
  cases h1 : rowB c m with
  | false =>
    have hB : storeC o c m = false := by simp [storeC, h1]
    go_enter Tryd.func25, Tryd.ntmps25
    go_wp2_with (first | (go_at_call 33; refine (is_calls _ _).mono ?_; rintro e w' ⟨rfl, rfl⟩) | (go_at_call 59; refine (row_calls _ _ _).mono ?_; rintro e w1 ⟨rfl, hb1⟩))
    go_ret
    exact ⟨ret_bool hB.symm, by assumption⟩
  | true =>
    cases h2 : isC o with
    | false =>
      have hB : storeC o c m = false := by simp [storeC, h2]
      go_enter Tryd.func25, Tryd.ntmps25
      go_wp2_with (first | (go_at_call 33; refine (is_calls _ _).mono ?_; rintro e w' ⟨rfl, rfl⟩) | (go_at_call 59; refine (row_calls _ _ _).mono ?_; rintro e w1 ⟨rfl, hb1⟩))
      go_ret
      exact ⟨ret_bool hB.symm, by assumption⟩
    | true =>
      have hB : storeC o c m = hasC (at1 storesL o) (countsC c m) := by simp [storeC, h1, h2]
      have g1 := isC_iff.1 h2
      obtain ⟨g1, g1'⟩ := g1
      have HB := Lib.hid hB
      clear hB
      go_enter Tryd.func25, Tryd.ntmps25
      go_wp2_with fail
      refine (row_calls _ _ _).mono ?_
      rintro e w1 ⟨rfl, hb1⟩
      have hc := (hs.below hb1).at (i := o) (by omega) (by show o < 7; omega)
      clear hs
      go_wp2_with (first | (go_at_call 33; refine (is_calls _ _).mono ?_; rintro e w' ⟨rfl, rfl⟩) | (go_at_call 58; refine (has_calls _ _ _).mono ?_; rintro e w' ⟨rfl, rfl⟩))
      all_goals
        go_ret
        exact ⟨ret_bool (by rw [HB.out]; simp_all [countsC]), hb1⟩

def rstoreC (o c m : Int) : Bool := hasC 14 o && rowB c m && (if o = 3 then true else if o = 2 then countsC c m != 3 && countsC c m != 5 else hasC 82 (countsC c m))
theorem rstore_dec : ∀ o ∈ caps, ∀ c ∈ caps, ∀ m ∈ marks, rstoreC o c m = storeC o c m := by decide +kernel
theorem rstore_eq (o c m : Int) : rstoreC o c m = storeC o c m := by
  cases h1 : isC o with
  | false => simp [rstoreC, storeC, h1, has_no h1]
  | true =>
    cases h2 : rowB c m with
    | false => simp [rstoreC, storeC, h2]
    | true =>
      have := row_isC h2
      exact marks_of (P := fun m => rstoreC o c m = storeC o c m) (caps_of (P := fun c => ∀ m ∈ marks, rstoreC o c m = storeC o c m) (caps_of (P := fun o => ∀ c ∈ caps, ∀ m ∈ marks, rstoreC o c m = storeC o c m) rstore_dec h1) this.1) this.2
set_option maxHeartbeats 800000 in
theorem ref_store_calls (o c m : Int) (w : World) : Calls Tryd.prog 26 #[.int .i64 o, .int .i64 c, .int .i64 m] w fun e w' => e = .returned (.bool (storeC o c m)) ∧ w = w' := by
  go_enter Tryd.func26, Tryd.ntmps26
  go_wp2_with (first | (go_at_call 39; refine (ref_writes_calls _ _).mono ?_; rintro e w' ⟨rfl, rfl⟩) | (go_at_call 62; refine (marked_calls _ _ _).mono ?_; rintro e w' ⟨rfl, rfl⟩) | (go_at_call 63; refine (counts_calls _ _ _).mono ?_; rintro e w' ⟨rfl, rfl⟩) | (go_at_call 40; refine (ref_sendable_calls _ _).mono ?_; rintro e w' ⟨rfl, rfl⟩))
  all_goals
    go_ret
    exact ⟨ret_bool (by rw [← rstore_eq]; simp_all [rstoreC]), rfl⟩

def besideC (a b : Int) : Bool := if a = 6 then true else if a = 5 then b != 1 else if a = 3 then (b == 3 || b == 5 || b == 6) else if a = 4 then (b == 4 || b == 5 || b == 6) else if a = 2 then (b == 5 || b == 6) else b == 6
set_option maxHeartbeats 800000 in
theorem beside_calls (a b : Int) (w : World) : Calls Tryd.prog 64 #[.int .i64 a, .int .i64 b] w fun e w' => e = .returned (.bool (besideC a b)) ∧ w = w' := by
  go_enter Tryd.func64, Tryd.ntmps64
  go_wp2
  all_goals
    go_ret
    exact ⟨ret_bool (by simp_all [besideC]), rfl⟩
def rlocalC (a b : Int) : Bool := isC a && isC b && besideC a b && besideC b a
theorem local_dec : ∀ a ∈ caps, ∀ b ∈ caps, rlocalC a b = localC a b := by decide +kernel
theorem rlocal_eq (a b : Int) : rlocalC a b = localC a b := by
  cases h1 : isC a with
  | false => simp [rlocalC, localC, h1]
  | true =>
    cases h2 : isC b with
    | false => simp [rlocalC, localC, h2, has_no h2]
    | true => exact caps_of (P := fun b => rlocalC a b = localC a b) (caps_of (P := fun a => ∀ b ∈ caps, rlocalC a b = localC a b) local_dec h1) h2
set_option maxHeartbeats 800000 in
theorem ref_local_calls (a b : Int) (w : World) : Calls Tryd.prog 27 #[.int .i64 a, .int .i64 b] w fun e w' => e = .returned (.bool (localC a b)) ∧ w = w' := by
  go_enter Tryd.func27, Tryd.ntmps27
  go_wp2_with (first | (go_at_call 34; refine (ref_is_calls _ _).mono ?_; rintro e w' ⟨rfl, rfl⟩) | (go_at_call 64; refine (beside_calls _ _ _).mono ?_; rintro e w' ⟨rfl, rfl⟩))
  all_goals
    go_ret
    exact ⟨ret_bool (by rw [← rlocal_eq]; simp_all [rlocalC]), rfl⟩
def rglobalC (a b : Int) : Bool := isC a && isC b && (a == 6 || b == 6 || sharedC a && sharedC b)
theorem global_dec : ∀ a ∈ caps, ∀ b ∈ caps, rglobalC a b = globalC a b := by decide +kernel
theorem rglobal_eq (a b : Int) : rglobalC a b = globalC a b := by
  cases h1 : isC a with
  | false => simp [rglobalC, globalC, h1]
  | true =>
    cases h2 : isC b with
    | false => simp [rglobalC, globalC, h2, has_no h2]
    | true => exact caps_of (P := fun b => rglobalC a b = globalC a b) (caps_of (P := fun a => ∀ b ∈ caps, rglobalC a b = globalC a b) global_dec h1) h2
set_option maxHeartbeats 800000 in
theorem ref_global_calls (a b : Int) (w : World) : Calls Tryd.prog 28 #[.int .i64 a, .int .i64 b] w fun e w' => e = .returned (.bool (globalC a b)) ∧ w = w' := by
  go_enter Tryd.func28, Tryd.ntmps28
  go_wp2_with (first | (go_at_call 34; refine (ref_is_calls _ _).mono ?_; rintro e w' ⟨rfl, rfl⟩) | (go_at_call 65; refine (shared_calls _ _).mono ?_; rintro e w' ⟨rfl, rfl⟩))
  all_goals
    go_ret
    exact ⟨ret_bool (by rw [← rglobal_eq]; simp_all [rglobalC]), rfl⟩
end Go.Proofs.YtlagofkcddhigaaDoor
