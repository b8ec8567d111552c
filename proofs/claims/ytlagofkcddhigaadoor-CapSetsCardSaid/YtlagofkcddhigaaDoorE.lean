/- The walk of the law CapOrder. -/
import Derived.Test.YtlagofkcddhigaaDoorD
namespace Go.Proofs.YtlagofkcddhigaaDoor
open Go.RowKit

def caps : List Int := [1, 2, 3, 4, 5, 6]
def marks : List Int := [0, 1, 2]
theorem mem_caps {x : Int} (h1 : 1 ≤ x) (h2 : x ≤ 6) : x ∈ caps := by simp [caps]; omega
theorem mem_marks {x : Int} (h1 : 0 ≤ x) (h2 : x ≤ 2) : x ∈ marks := by simp [marks]; omega
theorem order_refl : (caps.all fun x => marks.all fun i => fitsC x i x i && fitsC 1 1 x i) = true := by decide +kernel
theorem order_perm : (caps.all fun x => marks.all fun i => caps.all fun y => marks.all fun j => !fitsC x i y j || ((!readsC y || readsC x) && (!hasC 14 y || hasC 14 x))) = true := by decide +kernel
theorem order_trans : (caps.all fun x => marks.all fun i => caps.all fun y => marks.all fun j => !fitsC x i y j || (caps.all fun z => marks.all fun k => !fitsC y j z k || fitsC x i z k)) = true := by decide +kernel

set_option maxHeartbeats 4000000 in
theorem order_core (a b c l m n : Int) (ha : 0 ≤ a) (ha' : a ≤ 255) (hb : 0 ≤ b) (hb' : b ≤ 255) (hc : 0 ≤ c) (hc' : c ≤ 255)
    (hl : 0 ≤ l) (hl' : l ≤ 255) (hm : 0 ≤ m) (hm' : m ≤ 255) (hn : 0 ≤ n) (hn' : n ≤ 255) (w0 w : World) (hB : Below w0.heap.size w0 w) (hE : E2 w) :
    Calls Tryd.prog 4 #[.int .u8 a, .int .u8 b, .int .u8 c, .int .u8 l, .int .u8 m, .int .u8 n] w fun e w' => e = .returned (.bool true) ∧ Below w0.heap.size w0 w' := by
  have x1 := mem_caps (x := 1 + a % 6) (by omega) (by omega)
  have y1 := mem_caps (x := 1 + b % 6) (by omega) (by omega)
  have z1 := mem_caps (x := 1 + c % 6) (by omega) (by omega)
  have i1 := mem_marks (x := l % 3) (by omega) (by omega)
  have j1 := mem_marks (x := m % 3) (by omega) (by omega)
  have k1 := mem_marks (x := n % 3) (by omega) (by omega)
  have P1 := List.all_eq_true.1 (List.all_eq_true.1 order_refl _ x1) _ i1
  have P2 := List.all_eq_true.1 (List.all_eq_true.1 (List.all_eq_true.1 (List.all_eq_true.1 order_perm _ x1) _ i1) _ y1) _ j1
  have P3 := List.all_eq_true.1 (List.all_eq_true.1 (List.all_eq_true.1 (List.all_eq_true.1 order_trans _ x1) _ i1) _ y1) _ j1
  clear x1 y1 i1 j1
  go_enter Tryd.func4, Tryd.ntmps4
  go_wp2_with fail
  refine (one_calls _ _ ha ha').mono ?_
  rintro e w' ⟨rfl, rfl⟩
  generalize hx : 1 + a % 6 = x at *
  go_wp2_with fail
  refine (one_calls _ _ hb hb').mono ?_
  rintro e w' ⟨rfl, rfl⟩
  generalize hy : 1 + b % 6 = y at *
  go_wp2_with fail
  refine (one_calls _ _ hc hc').mono ?_
  rintro e w' ⟨rfl, rfl⟩
  generalize hz : 1 + c % 6 = z at *
  clear hx hy hz
  go_wp2_with fail
  refine (mark_calls _ _ hl hl').mono ?_
  rintro e w' ⟨rfl, rfl⟩
  generalize hi : l % 3 = i at *
  go_wp2_with fail
  refine (mark_calls _ _ hm hm').mono ?_
  rintro e w' ⟨rfl, rfl⟩
  generalize hj : m % 3 = j at *
  go_wp2_with fail
  refine (mark_calls _ _ hn hn').mono ?_
  rintro e w' ⟨rfl, rfl⟩
  generalize hk : n % 3 = k at *
  clear hi hj hk ha ha' hb hb' hc hc' hl hl' hm hm' hn hn'
  simp only [Bool.and_eq_true] at P1
  obtain ⟨q1, q2⟩ := P1
  cases r1 : fitsC x i y j with
  | false =>
    clear P2 P3 z1 k1
    go_wp2_with (first
      | (go_at_call 17; refine (fits_calls _ _ _ _ _ hE.f).mono ?_; rintro e w1 ⟨rfl, hb1⟩; replace hE := hE.below hb1; replace hB := hB.then hb1; clear hb1)
      | (go_at_call 18; refine (sub_calls _ _ _ hE.f).mono ?_; rintro e w1 ⟨rfl, hb1⟩; replace hE := hE.below hb1; replace hB := hB.then hb1; clear hb1)
      | (go_at_call 12; refine (reads_calls _ _).mono ?_; rintro e w' ⟨rfl, rfl⟩)
      | (go_at_call 13; refine (writes_calls _ _).mono ?_; rintro e w1 ⟨rfl, hb1⟩; replace hE := hE.below hb1; replace hB := hB.then hb1; clear hb1)
      | (go_at_call 15; refine (awake_calls _ hE).mono ?_; rintro e w1 ⟨rfl, hb1⟩; replace hE := hE.below hb1; replace hB := hB.then hb1; clear hb1))
    go_ret
    exact ⟨rfl, hB⟩
  | true =>
    rw [r1] at P2 P3
    simp only [Bool.not_true, Bool.false_or] at P3
    have P4 := List.all_eq_true.1 (List.all_eq_true.1 P3 _ z1) _ k1
    simp only [Bool.not_true, Bool.false_or, Bool.and_eq_true] at P2
    obtain ⟨p1, p2⟩ := P2
    clear P3 z1 k1
    have R : ∃ b1 b2 b3 b4 b5 b6, fitsC y j z k = b1 ∧ fitsC x i z k = b2 ∧ readsC y = b3 ∧ readsC x = b4 ∧ hasC 14 y = b5 ∧ hasC 14 x = b6 ∧ (!b1 || b2) = true ∧ (!b3 || b4) = true ∧ (!b5 || b6) = true :=
      ⟨_, _, _, _, _, _, rfl, rfl, rfl, rfl, rfl, rfl, P4, p1, p2⟩
    clear P4 p1 p2
    obtain ⟨b1, b2, b3, b4, b5, b6, s1, s2, s3, s4, s5, s6, t1, t2, t3⟩ := R
    cases b1 <;> cases b3 <;> cases b5
    all_goals
      simp only [Bool.not_true, Bool.not_false, Bool.true_or, Bool.false_or] at t1 t2 t3
      go_wp2_with (first
        | (go_at_call 17; refine (fits_calls _ _ _ _ _ hE.f).mono ?_; rintro e w1 ⟨rfl, hb1⟩; replace hE := hE.below hb1; replace hB := hB.then hb1; clear hb1)
        | (go_at_call 18; refine (sub_calls _ _ _ hE.f).mono ?_; rintro e w1 ⟨rfl, hb1⟩; replace hE := hE.below hb1; replace hB := hB.then hb1; clear hb1)
        | (go_at_call 12; refine (reads_calls _ _).mono ?_; rintro e w' ⟨rfl, rfl⟩)
        | (go_at_call 13; refine (writes_calls _ _).mono ?_; rintro e w1 ⟨rfl, hb1⟩; replace hE := hE.below hb1; replace hB := hB.then hb1; clear hb1)
        | (go_at_call 15; refine (awake_calls _ hE).mono ?_; rintro e w1 ⟨rfl, hb1⟩; replace hE := hE.below hb1; replace hB := hB.then hb1; clear hb1))
    all_goals
      go_ret
      exact ⟨rfl, hB⟩
end Go.Proofs.YtlagofkcddhigaaDoor
