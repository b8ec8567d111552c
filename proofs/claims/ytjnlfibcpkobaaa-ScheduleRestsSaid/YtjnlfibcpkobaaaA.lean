/- Package schedule: what a worker and a state read as; the contracts of the functions that only read a worker. -/
import Derived.Test.YtjnlfibcpkobaaaProg
import Derived.Test.YtjnlfibcpkobaaaSl
import Derived.Test.YtjnlfibcpkobaaaPure
import Derived.Outline
import Derived.BigQuiet
import Derived.LoopN
import Derived.LoopTactic
import Derived.RegionTactic
import Derived.Deep.QuietTactic
import Derived.Deep.LoopGhost
import Derived.WalkSpells
import Derived.Maps.AppendAt
namespace Go.Proofs.Ytjnlfibcpkobaaa
open Go.RowKit Go.Sl Go.Sched

theorem ret_bool {a b : Bool} (h : a = b) : Ending.returned (.bool a) = Ending.returned (.bool b) := by rw [h]
theorem ret_int {k : IntKind} {a b : Int} (h : a = b) : Ending.returned (.int k a) = Ending.returned (.int k b) := by rw [h]

/-- A worker's value. -/
def wkV (qv : Value) (k : Wk) : Value := .agg #[qv, .int .i64 k.ph, .int .i64 k.tk, .int .i64 k.lk]

set_option maxHeartbeats 400000 in
theorem asleep_calls (qv : Value) (q : List Int) (ph tk lk : Int) (w : World) : Calls Try.prog 53 #[.agg #[qv, .int .i64 ph, .int .i64 tk, .int .i64 lk]] w fun e w' => e = .returned (.bool (asleep ⟨q, ph, tk, lk⟩)) ∧ Below w.heap.size w w' := by
  go_enter Try.func53, Try.ntmps53
  go_wp2
  all_goals
    go_ret
    refine ⟨ret_bool (by simp_all [asleep]), ?_⟩
    exact (Below.refl _ _).alloc (Nat.le_refl _) _

set_option maxRecDepth 100000 in
set_option maxHeartbeats 1000000 in
theorem formed_calls (qv : Value) (q : List Int) (ph tk lk n : Int) (hn : 0 ≤ n) (hn' : n ≤ 1000000) (w : World) : Calls Try.prog 50 #[.agg #[qv, .int .i64 ph, .int .i64 tk, .int .i64 lk], .int .i64 n] w fun e w' => e = .returned (.bool (formed n ⟨q, ph, tk, lk⟩)) ∧ Below w.heap.size w w' := by
  by_cases h0 : ph = 0
  · subst h0
    go_enter Try.func50, Try.ntmps50
    go_wp2
    all_goals
      go_ret
      refine ⟨ret_bool ?_, (Below.refl _ _).alloc (Nat.le_refl _) _⟩
      first | rfl | (rw [Bool.eq_iff_iff]; simp [formed, most]; omega) | (simp [formed, most]; omega)
  by_cases h1 : ph = 1
  · subst h1
    go_enter Try.func50, Try.ntmps50
    go_wp2
    all_goals
      go_ret
      refine ⟨ret_bool ?_, (Below.refl _ _).alloc (Nat.le_refl _) _⟩
      first | rfl | (rw [Bool.eq_iff_iff]; simp [formed, most]; omega) | (simp [formed, most]; omega)
  by_cases h2 : ph = 2
  · subst h2
    go_enter Try.func50, Try.ntmps50
    go_wp2
    all_goals
      go_ret
      refine ⟨ret_bool ?_, (Below.refl _ _).alloc (Nat.le_refl _) _⟩
      first | rfl | (rw [Bool.eq_iff_iff]; simp [formed, most]; omega) | (simp [formed, most]; omega)
  by_cases h3 : ph = 3
  · subst h3
    go_enter Try.func50, Try.ntmps50
    go_wp2
    all_goals
      go_ret
      refine ⟨ret_bool ?_, (Below.refl _ _).alloc (Nat.le_refl _) _⟩
      first | rfl | (rw [Bool.eq_iff_iff]; simp [formed, most]; omega) | (simp [formed, most]; omega)
  have b0 : (ph == 0) = false := by simp [h0]
  have b1 : (ph == 1) = false := by simp [h1]
  have b2 : (ph == 2) = false := by simp [h2]
  have b3 : (ph == 3) = false := by simp [h3]
  have hF : formed n ⟨q, ph, tk, lk⟩ = false := by simp [formed, h0, h1, h2, h3]
  have HF := Lib.hid hF
  clear h0 h1 h2 h3 hF
  go_enter Try.func50, Try.ntmps50
  go_wp2
  go_ret
  exact ⟨ret_bool HF.out.symm, (Below.refl _ _).alloc (Nat.le_refl _) _⟩
end Go.Proofs.Ytjnlfibcpkobaaa
