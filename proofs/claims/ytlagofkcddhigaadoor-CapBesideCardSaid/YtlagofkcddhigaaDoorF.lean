/- The walk of the law CapBeside. -/
import Derived.Test.YtlagofkcddhigaaDoorE
namespace Go.Proofs.YtlagofkcddhigaaDoor
open Go.RowKit

structure E5 (w : World) : Prop where
  v : TV w
  f : T1 1 .u64 fitsL w
  l : T1 2 .u64 localL w
  g : T1 3 .u64 globalL w
  s : T1 4 .u64 setsL w
theorem E5.below {w w' : World} (h : E5 w) (hb : Below w.heap.size w w') : E5 w' := ⟨h.v.below hb, h.f.below hb, h.l.below hb, h.g.below hb, h.s.below hb⟩
theorem E5.two {w : World} (h : E5 w) : E2 w := ⟨h.v, h.f⟩

theorem beside_law : (caps.all fun x => caps.all fun y => (localC y x == localC x y) && (globalC y x == globalC x y) && (!globalC x y || localC x y) && (!globalC x y || !hasC 14 x || !readsC y)
    && (!fitsC (turnN x 0) (turnM x 0 1 0 2) y 0 || localC x y) && (!fitsC x 1 y 0 || !hasC 82 y || caps.all fun z => !localC x z || globalC y z)) = true := by decide +kernel

set_option maxHeartbeats 4000000 in
theorem beside_core (a b c : Int) (ha : 0 ≤ a) (ha' : a ≤ 255) (hb : 0 ≤ b) (hb' : b ≤ 255) (hc : 0 ≤ c) (hc' : c ≤ 255)
    (w0 w : World) (hB : Below w0.heap.size w0 w) (hE : E5 w) :
    Calls Tryd.prog 5 #[.int .u8 a, .int .u8 b, .int .u8 c] w fun e w' => e = .returned (.bool true) ∧ Below w0.heap.size w0 w' := by
  have x1 := mem_caps (x := 1 + a % 6) (by omega) (by omega)
  have y1 := mem_caps (x := 1 + b % 6) (by omega) (by omega)
  have z1 := mem_caps (x := 1 + c % 6) (by omega) (by omega)
  have P1 := List.all_eq_true.1 (List.all_eq_true.1 beside_law _ x1) _ y1
  clear x1 y1
  go_enter Tryd.func5, Tryd.ntmps5
  go_wp2_with fail
  refine (one_calls _ _ ha ha').mono ?_
  rintro e w' ⟨rfl, rfl⟩
  generalize hx : 1 + a % 6 = x at *
  go_wp2_with fail
  refine (one_calls _ _ hb hb').mono ?_
  rintro e w' ⟨rfl, rfl⟩
  generalize hy : 1 + b % 6 = y at *
  go_wp2_with fail
  refine (one_calls _ _ hc hc').mono ?_
  rintro e w' ⟨rfl, rfl⟩
  generalize hz : 1 + c % 6 = z at *
  clear hx hy hz ha ha' hb hb' hc hc'
  simp only [Bool.and_eq_true, beq_iff_eq] at P1
  obtain ⟨⟨⟨⟨⟨p1, p2⟩, p3⟩, p4⟩, p5⟩, p6⟩ := P1
  have p7 : (!fitsC x 1 y 0 || !hasC 82 y || (!localC x z || globalC y z)) = true := by
    cases h : (!fitsC x 1 y 0 || !hasC 82 y) with
    | true => rfl
    | false => rw [h, Bool.false_or] at p6; exact List.all_eq_true.1 p6 _ z1
  clear p6 z1
  have Q := Lib.hid (And.intro p3 (And.intro p4 (And.intro p5 p7)))
  clear p3 p4 p5 p7
  have R : ∃ b1 b2, globalC x y = b1 ∧ localC x y = b2 := ⟨_, _, rfl, rfl⟩
  obtain ⟨b1, b2, s1, s2⟩ := R
  rw [s2] at p1
  rw [s1] at p2
  cases b1 <;> cases b2
  all_goals
    go_wp2_with (first
      | (go_at_call 17; refine (fits_calls _ _ _ _ _ hE.f).mono ?_; rintro e w1 ⟨rfl, hb1⟩; replace hE := hE.below hb1; replace hB := hB.then hb1; clear hb1)
      | (go_at_call 18; refine (sub_calls _ _ _ hE.f).mono ?_; rintro e w1 ⟨rfl, hb1⟩; replace hE := hE.below hb1; replace hB := hB.then hb1; clear hb1)
      | (go_at_call 19; refine (local_calls _ _ _ hE.l).mono ?_; rintro e w' ⟨rfl, rfl⟩)
      | (go_at_call 20; refine (global_calls _ _ _ hE.g).mono ?_; rintro e w' ⟨rfl, rfl⟩)
      | (go_at_call 22; refine (sendable_calls _ _ hE.s).mono ?_; rintro e w' ⟨rfl, rfl⟩)
      | (go_at_call 12; refine (reads_calls _ _).mono ?_; rintro e w' ⟨rfl, rfl⟩)
      | (go_at_call 13; refine (writes_calls _ _).mono ?_; rintro e w1 ⟨rfl, hb1⟩; replace hE := hE.below hb1; replace hB := hB.then hb1; clear hb1)
      | (go_at_call 21; refine (alias_calls _ _ _).mono ?_; rintro e w1 ⟨rfl, hb1⟩; replace hE := hE.below hb1; replace hB := hB.then hb1; clear hb1)
      | (go_at_call 15; refine (awake_calls _ hE.two).mono ?_; rintro e w1 ⟨rfl, hb1⟩; replace hE := hE.below hb1; replace hB := hB.then hb1; clear hb1))
  all_goals
    go_ret
    refine ⟨ret_bool ?_, hB⟩
    have q := Q.out
    clear Q hB hE
    simp_all
end Go.Proofs.YtlagofkcddhigaaDoor
