/- Contracts: the reference's Alias, Consumed, Fits, Sub, Recover. -/
import Derived.Test.YtlagofkcddhigaaDoorJ
namespace Go.Proofs.YtlagofkcddhigaaDoor
open Go.RowKit

set_option maxHeartbeats 800000 in
theorem ref_alias_calls (c m : Int) (w : World) : Calls Tryd.prog 43 #[.int .i64 c, .int .i64 m] w fun e w' => e = .returned (.tuple #[.int .i64 (turnN c m), .int .i64 (turnM c m 1 0 2)]) ∧ w = w' := by
  cases h : rowB c m with
  | false =>
    go_enter Tryd.func43, Tryd.ntmps43
    go_wp2_with (first | (go_at_call 62; refine (marked_calls _ _ _).mono ?_; rintro e w' ⟨rfl, rfl⟩) | (go_at_call 61; refine (unique_calls _ _).mono ?_; rintro e w' ⟨rfl, rfl⟩))
    go_ret2
    exact ⟨ret_ii (by simp [turnN, h]) (by simp [turnM, h]), rfl⟩
  | true =>
    have g := row_isC h
    have g1 := isC_iff.1 g.1
    obtain ⟨g1, g2⟩ := g1
    clear g
    cases hu : uniqueC c with
    | false =>
      have hc : 2 < c := by simp [uniqueC] at hu; omega
      go_enter Tryd.func43, Tryd.ntmps43
      go_wp2_with (first | (go_at_call 62; refine (marked_calls _ _ _).mono ?_; rintro e w' ⟨rfl, rfl⟩) | (go_at_call 61; refine (unique_calls _ _).mono ?_; rintro e w' ⟨rfl, rfl⟩))
      go_ret2
      exact ⟨ret_ii (by simp [turnN, h]) (by simp [turnM, h, hc]), rfl⟩
    | true =>
      have hc : ¬ 2 < c := by simp [uniqueC] at hu; omega
      have hT : turnM c m 1 0 2 = if m = 1 then 0 else 2 := by unfold turnM; rw [if_pos h, if_neg hc]
      have HT := Lib.hid hT
      clear hT hc
      go_enter Tryd.func43, Tryd.ntmps43
      go_wp2_with (first | (go_at_call 62; refine (marked_calls _ _ _).mono ?_; rintro e w' ⟨rfl, rfl⟩) | (go_at_call 61; refine (unique_calls _ _).mono ?_; rintro e w' ⟨rfl, rfl⟩))
      all_goals
        go_ret2
        exact ⟨ret_ii (by simp [turnN, h]) (by rw [HT.out]; simp_all), rfl⟩
set_option maxHeartbeats 800000 in
theorem ref_consumed_calls (c m : Int) (w : World) : Calls Tryd.prog 45 #[.int .i64 c, .int .i64 m] w fun e w' => e = .returned (.tuple #[.int .i64 (turnN c m), .int .i64 (turnM c m 2 2 1)]) ∧ w = w' := by
  cases h : rowB c m with
  | false =>
    go_enter Tryd.func45, Tryd.ntmps45
    go_wp2_with (first | (go_at_call 62; refine (marked_calls _ _ _).mono ?_; rintro e w' ⟨rfl, rfl⟩) | (go_at_call 61; refine (unique_calls _ _).mono ?_; rintro e w' ⟨rfl, rfl⟩))
    go_ret2
    exact ⟨ret_ii (by simp [turnN, h]) (by simp [turnM, h]), rfl⟩
  | true =>
    have g := row_isC h
    have g1 := isC_iff.1 g.1
    obtain ⟨g1, g2⟩ := g1
    clear g
    cases hu : uniqueC c with
    | false =>
      have hc : 2 < c := by simp [uniqueC] at hu; omega
      go_enter Tryd.func45, Tryd.ntmps45
      go_wp2_with (first | (go_at_call 62; refine (marked_calls _ _ _).mono ?_; rintro e w' ⟨rfl, rfl⟩) | (go_at_call 61; refine (unique_calls _ _).mono ?_; rintro e w' ⟨rfl, rfl⟩))
      go_ret2
      exact ⟨ret_ii (by simp [turnN, h]) (by simp [turnM, h, hc]), rfl⟩
    | true =>
      have hc : ¬ 2 < c := by simp [uniqueC] at hu; omega
      have hT : turnM c m 2 2 1 = if m = 2 then 2 else 1 := by unfold turnM; rw [if_pos h, if_neg hc]
      have HT := Lib.hid hT
      clear hT hc
      go_enter Tryd.func45, Tryd.ntmps45
      go_wp2_with (first | (go_at_call 62; refine (marked_calls _ _ _).mono ?_; rintro e w' ⟨rfl, rfl⟩) | (go_at_call 61; refine (unique_calls _ _).mono ?_; rintro e w' ⟨rfl, rfl⟩))
      all_goals
        go_ret2
        exact ⟨ret_ii (by simp [turnN, h]) (by rw [HT.out]; simp_all), rfl⟩

def rfitsC (a m b o : Int) : Bool := rowB a m && rowB b o && (b == 6 ||
  (if a = 1 then (m == 1 || (b == 1 && (o == 2 || (m == 0 && o == 0))))
   else if a = 2 then (if m = 1 then b != 1 else (b == 5 || (b == 2 && (o == 2 || (m == 0 && o == 0)))))
   else if a = 3 then (b == 3 || b == 5) else if a = 4 then (b == 4 || b == 5) else (a == 5 && b == 5)))
theorem rfits_dec : ∀ a ∈ caps, ∀ m ∈ marks, ∀ b ∈ caps, ∀ o ∈ marks, rfitsC a m b o = fitsC a m b o := by decide +kernel
theorem rfits_eq (a m b o : Int) : rfitsC a m b o = fitsC a m b o := by
  cases h1 : rowB a m with
  | false => simp [rfitsC, fitsC, h1]
  | true =>
    cases h2 : rowB b o with
    | false => simp [rfitsC, fitsC, h2]
    | true =>
      have k1 := row_isC h1
      have k2 := row_isC h2
      exact rfits_dec a (mem_caps (isC_iff.1 k1.1).1 (isC_iff.1 k1.1).2) m (mem_marks k1.2.1 k1.2.2) b (mem_caps (isC_iff.1 k2.1).1 (isC_iff.1 k2.1).2) o (mem_marks k2.2.1 k2.2.2)
set_option maxHeartbeats 4000000 in
theorem ref_fits_calls (a m b o : Int) (w : World) : Calls Tryd.prog 42 #[.int .i64 a, .int .i64 m, .int .i64 b, .int .i64 o] w fun e w' => e = .returned (.bool (fitsC a m b o)) ∧ w = w' := by
  go_enter Tryd.func42, Tryd.ntmps42
  go_wp2_with (go_at_call 62; refine (marked_calls _ _ _).mono ?_; rintro e w' ⟨rfl, rfl⟩)
  all_goals
    go_ret
    exact ⟨ret_bool (by rw [← rfits_eq]; first | (simp_all [rfitsC]; done) | (simp_all [rfitsC]; rw [Bool.eq_iff_iff]; simp; omega)), rfl⟩
set_option maxHeartbeats 400000 in
theorem ref_sub_calls (a b : Int) (w : World) : Calls Tryd.prog 41 #[.int .i64 a, .int .i64 b] w fun e w' => e = .returned (.bool (fitsC a 1 b 0)) ∧ w = w' := by
  go_enter Tryd.func41, Tryd.ntmps41
  go_wp2_with (go_at_call 42; refine (ref_fits_calls _ _ _ _ _).mono ?_; rintro e w' ⟨rfl, rfl⟩)
  go_ret
  exact ⟨rfl, rfl⟩

def rrecN (c : Int) : Int := if c = 1 ∨ c = 2 ∨ c = 3 then 1 else if c = 4 ∨ c = 5 then 4 else if c = 6 then 6 else 0
def rrecB (c : Int) : Bool := c == 1 || c == 2 || c == 3 || c == 4 || c == 5 || c == 6
theorem rrecN_eq (c : Int) : rrecN c = recN c := by
  cases h : isC c with
  | true => exact caps_of (P := fun c => rrecN c = recN c) (by decide) h
  | false =>
    have g := isC_no.1 h
    unfold rrecN recN
    rw [if_neg (by omega), if_neg (by omega), if_neg (by omega), h]
    rfl
theorem rrecB_eq (c : Int) : rrecB c = isC c := by
  cases h : isC c with
  | true => rw [← h]; exact caps_of (P := fun c => rrecB c = isC c) (by decide) h
  | false =>
    have := isC_no.1 h
    simp [rrecB]; omega
set_option maxHeartbeats 800000 in
theorem ref_recover_calls (c : Int) (w : World) : Calls Tryd.prog 47 #[.int .i64 c] w fun e w' => e = .returned (.tuple #[.int .i64 (recN c), .bool (isC c)]) ∧ w = w' := by
  go_enter Tryd.func47, Tryd.ntmps47
  go_wp2
  all_goals
    go_ret2
    exact ⟨ret_ib (by rw [← rrecN_eq]; simp_all [rrecN]) (by rw [← rrecB_eq]; simp_all [rrecB]), rfl⟩
end Go.Proofs.YtlagofkcddhigaaDoor
