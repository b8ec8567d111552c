/- The reference's place 81. -/
import Derived.Test.YtddajaikighjlaaRa
import Derived.Test.YtddajaikighjlaaPu
namespace Go.Proofs.Ytddajaikighjlaa
open Go.RowKit Go.Sl Go.Mp Go.Wh

theorem power' {x p : Int} (k : Nat) (hk : k < 7) (hx : x = (k : Int)) (hp : pw k = p) (w : World) : Calls Try.prog 82 #[.int .i64 x] w fun e w' => e = .returned (.int .i64 p) ∧ w' = w := by
  subst hx
  subst hp
  exact power_calls k hk w
set_option maxRecDepth 100000 in
set_option maxHeartbeats 1000000 in
theorem place_calls (when frm : Int) (h0 : 0 ≤ frm) (h1 : frm ≤ when) (h2 : when ≤ 1099511627776) (w : World) : Calls Try.prog 81 #[.int .i64 when, .int .i64 frm] w fun e w' => e = .returned (.tuple #[.int .i64 ((whl (when - frm) : Nat) : Int), .int .i64 ((slotOf (whl (when - frm)) when : Nat) : Int)]) ∧ Below w.heap.size w w' := by
  have fin : ∀ (wr : World) (k : Nat), k = whl (when - frm) → k ≤ 6 → ∃ q s : Int, pw k ≠ 0 ∧ Int.tdiv when (pw k) = q ∧ IntKind.i64.wrap q = q ∧ Int.tmod q 64 = s ∧ IntKind.i64.wrap s = s ∧ s = (slotOf (whl (when - frm)) when : Int) := by
    intro wr k hk h6
    obtain ⟨hp1, hp2⟩ := pw_le k h6
    have hq0 : 0 ≤ when / pw k := Int.ediv_nonneg (by omega) (by omega)
    have hqw : when / pw k ≤ when := Int.ediv_le_self _ (by omega)
    refine ⟨when / pw k, when / pw k % 64, by omega, Int.tdiv_eq_ediv_of_nonneg (by omega), IntWalk.i64_in _ (by omega), Int.tmod_eq_emod_of_nonneg hq0, IntWalk.i64_in _ (by omega), ?_⟩
    rw [← hk]
    unfold slotOf
    omega
  have FIN := Lib.hid fin
  clear fin
  have hd : 0 ≤ when - frm ∧ when - frm ≤ 1099511627776 := by omega
  go_enter Try.func81, Try.ntmps81
  go_wp2_with fail
  go_loopw [6] (fun i wr => ∃ k : Nat, k ≤ whl (when - frm) ∧ i = .int .i64 (k : Int) ∧ Below w.heap.size w wr) (fun i _ => 6 - (intOf i).toNat)
  case atStart => exact ⟨0, Nat.zero_le _, rfl, Below.refl _ _⟩
  case round =>
    obtain ⟨k, hk, rfl, hbel⟩ := hrel
    have HB := Lib.hid hbel
    have h6 := whl_le (when - frm)
    clear hbel
    by_cases hk6 : k < 6
    · have hk6' : (k : Int) < 6 := by omega
      obtain ⟨hp1, hp2⟩ := pw_le (k + 1) (by omega)
      obtain ⟨p, hp⟩ : ∃ p, pw (k + 1) = p := ⟨_, rfl⟩
      rw [hp] at hp1 hp2
      by_cases hc : p ≤ when - frm
      · have hs := whl_step (when - frm) k hk6 hk (by rw [← pw_step, hp]; exact hc)
        have HS := Lib.hid hs
        have HK := Lib.hid hk
        clear hs hk h6
        go_wp2_with (go_at_call 82; refine (power' (k + 1) (by omega) (by push_cast; rfl) hp _).mono ?_; rintro e w' ⟨rfl, rfl⟩)
        go_roundw
        case rel => exact ⟨k + 1, HS.out, by go_num, HB.out⟩
        case measure => simp [intOf]; omega
      · have he := whl_end (when - frm) k hk6 hk (by rw [← pw_step, hp]; omega)
        obtain ⟨q, s, f1, f2, f3, f4, f5, f6⟩ := FIN.out wr k he (by omega)
        have HE := Lib.hid he
        have F6 := Lib.hid f6
        clear he f6 hk h6
        obtain ⟨p2, hp2⟩ : ∃ p2, pw k = p2 := ⟨_, rfl⟩
        rw [hp2] at f1 f2
        go_wp2_with (go_at_call 82; refine (power' (k + 1) (by omega) (by push_cast; rfl) hp _).mono ?_; rintro e w' ⟨rfl, rfl⟩)
        go_quiet ((go_at_call 82; exact Calls.quiet_of_same (power' k (by omega) rfl hp2 _)))
        go_wp2_with fail
        go_ret2
        exact ⟨by rw [← F6.out, ← HE.out]; rfl, HB.out.trans (below_drewN _ _ _)⟩
    · have hk6' : ¬ (k : Int) < 6 := by omega
      have he : k = whl (when - frm) := by omega
      obtain ⟨q, s, f1, f2, f3, f4, f5, f6⟩ := FIN.out wr k he (by omega)
      have HE := Lib.hid he
      have F6 := Lib.hid f6
      obtain ⟨p2, hp2⟩ : ∃ p2, pw k = p2 := ⟨_, rfl⟩
      rw [hp2] at f1 f2
      have k7 : k < 7 := by omega
      clear he f6 hk h6
      go_wp2_with fail
      go_quiet ((go_at_call 82; exact Calls.quiet_of_same (power' k k7 rfl hp2 _)))
      go_wp2_with fail
      go_ret2
      exact ⟨by rw [← F6.out, ← HE.out]; rfl, HB.out.trans (below_drewN _ _ _)⟩
end Go.Proofs.Ytddajaikighjlaa
