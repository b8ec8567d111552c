/- awake: the chapter's example. -/
import Derived.Test.YtddajaikighjlaaIy
import Derived.Test.YtddajaikighjlaaEq
import Derived.Test.YtddajaikighjlaaSf
import Derived.Test.YtddajaikighjlaaSe
import Derived.Test.YtddajaikighjlaaAd
namespace Go.Proofs.Ytddajaikighjlaa
open Go.RowKit Go.Mp Go.Wh

def e1 : Wh := (setS (newS 0) 1 100 0).1
def e2 : Wh := (advS e1 64).1
def e3 : Wh := (advS e2 100).1
def e4 : Wh := (setS e3 2 110 5).1
theorem e_facts : (setS (newS 0) 1 100 0).2 = 0 ∧ slotS e1 1 = (1, 1, 0) ∧ (advS e1 64).2.1 = [] ∧ (advS e1 64).2.2 = 0 ∧ slotS e2 1 = (0, 36, 0) ∧ (advS e2 100).2.1 = [(1, 100)] ∧ (advS e2 100).2.2 = 0 ∧ (setS e3 2 110 5).2 = 0 ∧ (advS e4 121).2.1 = [(2, 110), (2, 115), (2, 120)] ∧ (advS e4 121).2.2 = 0 := by
  decide +kernel
theorem e_oks : Ok (newS 0) ∧ Ok e1 ∧ Ok e2 ∧ Ok e3 ∧ Ok e4 := by
  have h0 := new_ok 0 (by decide)
  have h1 : Ok e1 := set_ok h0 _ _ _
  have h2 : Ok e2 := adv_ok h1 _
  have h3 : Ok e3 := adv_ok h2 _
  exact ⟨h0, h1, h2, h3, set_ok h3 _ _ _⟩
theorem e_ords : 0 ≤ e3.now ∧ 0 ≤ e3.ord ∧ e3.ord < 4611686018427387904 := by
  decide +kernel

theorem e1_eq : (setS (newS 0) 1 100 0).1 = e1 := by rw [e1]
theorem e2_eq : (advS e1 64).1 = e2 := by rw [e2]
theorem e3_eq : (advS e2 100).1 = e3 := by rw [e3]
theorem e4_eq : (setS e3 2 110 5).1 = e4 := by rw [e4]
theorem pair2 {α β : Type} {x : α × β} {a : α} {b : β} (h1 : x.1 = a) (h2 : x.2 = b) : x = (a, b) := by
  obtain ⟨_, _⟩ := x
  subst h1 h2
  rfl
theorem pair3 {α β γ : Type} {x : α × β × γ} {a : α} {b : β} {c : γ} (h1 : x.1 = a) (h2 : x.2.1 = b) (h3 : x.2.2 = c) : x = (a, b, c) := by
  obtain ⟨_, _, _⟩ := x
  subst h1 h2 h3
  rfl
theorem e_all : ∃ E0 E1 E2 E3 E4 E5 : Wh, newS 0 = E0 ∧ (0 ≤ E0.now ∧ 0 ≤ E0.ord ∧ E0.ord < 4611686018427387904) ∧ Ok E1 ∧ Ok E2 ∧ Ok E3 ∧ Ok E4 ∧ (0 ≤ E3.now ∧ 0 ≤ E3.ord ∧ E3.ord < 4611686018427387904) ∧
    setS E0 1 100 0 = (E1, 0) ∧ slotS E1 1 = (1, 1, 0) ∧ advS E1 64 = (E2, [], 0) ∧ slotS E2 1 = (0, 36, 0) ∧ advS E2 100 = (E3, [(1, 100)], 0) ∧ setS E3 2 110 5 = (E4, 0) ∧ advS E4 121 = (E5, [(2, 110), (2, 115), (2, 120)], 0) := by
  obtain ⟨q1, q2, q3, q4, q5, q6, q7, q8, q9, q10⟩ := e_facts
  obtain ⟨k0, k1, k2, k3, k4⟩ := e_oks
  refine ⟨newS 0, e1, e2, e3, e4, (advS e4 121).1, rfl, by decide +kernel, k1, k2, k3, k4, e_ords, ?_, q2, ?_, q5, ?_, ?_, ?_⟩
  · exact pair2 e1_eq q1
  · exact pair3 e2_eq q3 q4
  · exact pair3 e3_eq q6 q7
  · exact pair2 e4_eq q8
  · exact pair3 (Eq.refl (advS e4 121).1) q9 q10
theorem form_of_own {w : World} {b n : Nat} {v : Value} {xs : List Value} (h : w.ownsRow b 33 2 v n xs) : ∃ a cap, v = .slice a n cap := own_form h
theorem one_of_own {w : World} {b : Nat} {v : Value} {p q : Int} (h : w.ownsRow b 33 2 v 1 [.int .i64 p, .int .i64 q]) : ∃ g cap, v = .slice (some ⟨g, 0, none⟩) 1 cap ∧ w.cell? ⟨g, 0, none⟩ = some (.int .i64 p) ∧ w.cell? ⟨g, 1, none⟩ = some (.int .i64 q) := by
  obtain ⟨g, cap, rfl, -, hc⟩ := own_form2 h (by decide)
  exact ⟨g, cap, rfl, hc 0 _ rfl, hc 1 _ rfl⟩
theorem max4 (w : World) : (Builtin.max_ #[24, 24, 24, 24] 24 #[.int .i64 0, .int .i64 0, .int .i64 0, .int .i64 0]).run Try.prog w = .ok (.int .i64 0) w := by kernel_rfl
set_option maxRecDepth 100000 in
set_option maxHeartbeats 4000000 in
theorem awake_calls (w : World) : Calls Try.prog 11 #[] w fun e w' => e = .returned (.bool true) ∧ Below w.heap.size w w' := by
  obtain ⟨E0, E1, E2, E3, E4, E5, q0, o1, k1, k2, k3, k4, o3, q1, q2, q3, q4, q5, q6, q7⟩ := e_all
  have n0 := new_calls 0 w (by decide +kernel)
  rw [q0] at n0
  have hmax := max4
  have hneq := neq33
  have K1 := Lib.hid k1
  have K2 := Lib.hid k2
  have K3 := Lib.hid k3
  have K4 := Lib.hid k4
  have Q1 := Lib.hid q1
  have Q2 := Lib.hid q2
  have Q3 := Lib.hid q3
  have Q4 := Lib.hid q4
  have Q5 := Lib.hid q5
  have Q6 := Lib.hid q6
  have Q7 := Lib.hid q7
  clear k1 k2 k3 k4 q0 q1 q2 q3 q4 q5 q6 q7
  go_enter Try.func11, Try.ntmps11
  go_wp2_with fail
  refine n0.mono ?_
  rintro e w1 ⟨R0, rfl, h0, f0, b0⟩
  clear n0
  generalize w.heap.size + 2 = X at *
  go_wp2_with fail
  have c1 := set_calls R0 X _ 1 100 0 _ h0 o1.1 o1.2
  rw [Q1.out] at c1
  refine c1.mono ?_
  rintro e w2 ⟨rfl, R1, h1, s1⟩
  clear c1
  simp only at h1
  go_wp2_with fail
  have c2 := slot_calls R1 X _ 1 _ h1
  rw [Q2.out] at c2
  refine c2.mono ?_
  rintro e w3 ⟨rfl, b3⟩
  clear c2
  replace s1 := s1.trans (Step.of_below b3)
  replace h1 := h1.below b3
  clear b3 w2
  go_wp2_with fail
  have c3 := advance_calls R1 X _ 64 _ h1 K1.out.inv K1.out.len
  rw [Q3.out] at c3
  refine c3.mono ?_
  rintro e w4 ⟨v1, R2, rfl, h2, s2, r2⟩
  clear c3 h1
  simp only at h2 r2
  obtain ⟨a1, c1, rfl⟩ := form_of_own r2
  clear r2
  replace s1 := s1.trans s2
  clear s2 w3 R1
  go_wp2_with fail
  have c4 := slot_calls R2 X _ 1 _ h2
  rw [Q4.out] at c4
  refine c4.mono ?_
  rintro e w5 ⟨rfl, b5⟩
  clear c4
  replace s1 := s1.trans (Step.of_below b5)
  replace h2 := h2.below b5
  clear b5 w4
  go_wp2_with fail
  have c5 := advance_calls R2 X _ 100 _ h2 K2.out.inv K2.out.len
  rw [Q5.out] at c5
  refine c5.mono ?_
  rintro e w6 ⟨v2, R3, rfl, h3, s3, r3⟩
  clear c5
  simp only at h3
  obtain ⟨g2, cap2, rfl, y1, y2⟩ := one_of_own r3
  clear r3 h2
  replace s1 := s1.trans s3
  clear s3 w5 R2
  go_wp2_with fail
  have c6 := set_calls R3 X _ 2 110 5 _ h3 o3.1 o3.2
  rw [Q6.out] at c6
  refine c6.mono ?_
  rintro e w7 ⟨rfl, R4, h4, s4⟩
  clear c6
  simp only at h4
  replace s1 := s1.trans s4
  clear s4 y1 y2 h3 w6 R3
  go_wp2_with fail
  have c7 := advance_calls R4 X _ 121 _ h4 K4.out.inv K4.out.len
  rw [Q7.out] at c7
  refine c7.mono ?_
  rintro e w8 ⟨v3, R5, rfl, h5, s5, r5⟩
  clear c7
  have hr := Lib.hid (RowF.own (L := [(2, 110), (2, 115), (2, 120)]) r5)
  obtain ⟨a5, cap5, rfl⟩ := form_of_own r5
  clear r5 h4 h5
  have B8 := Lib.hid (b0.trans ((s1.trans s5).below b0.size f0))
  clear s1 s5 w7 R4
  go_wp2_with fail
  have hA := Lib.hid ((Below.refl w8.heap.size w8).alloc (Nat.le_refl _) (.cells #[.int .i64 2, .int .i64 110, .int .i64 2, .int .i64 115, .int .i64 2, .int .i64 120] 33))
  refine (equalF_calls _ _ [(2, 110), (2, 115), (2, 120)] [(2, 110), (2, 115), (2, 120)] _ (hr.out.below hA.out) (RowF.three _ _ _ _) (by decide)).mono ?_
  rintro e w9 ⟨rfl, b9⟩
  go_wp2_with fail
  go_ret
  exact ⟨rfl, B8.out.trans ((hA.out.mono B8.out.size).trans (b9.mono (Nat.le_trans B8.out.size hA.out.size)))⟩
end Go.Proofs.Ytddajaikighjlaa
