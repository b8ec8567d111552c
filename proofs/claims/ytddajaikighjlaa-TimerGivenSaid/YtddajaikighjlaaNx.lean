/- Next 14. -/
import Derived.Test.YtddajaikighjlaaTi
namespace Go.Proofs.Ytddajaikighjlaa
open Go.RowKit Go.Mp Go.Wh

def nextS (W : Wh) : Int × Bool := match timersS W with
  | [] => (0, false)
  | t :: _ => (t.when, true)
theorem own_form {w : World} {base size n : Nat} {e : TypeId} {v : Value} {xs : List Value} (h : w.ownsRow base e size v n xs) : ∃ a cap, v = .slice a n cap := by
  rcases h.2 with ⟨rfl, rfl⟩ | ⟨g, cap, cur, rfl, _⟩
  · exact ⟨none, 0, rfl⟩
  · exact ⟨_, cap, rfl⟩
theorem own_form2 {w : World} {base size n : Nat} {e : TypeId} {v : Value} {xs : List Value} (h : w.ownsRow base e size v n xs) (hn : 0 < n) : ∃ g cap, v = .slice (some ⟨g, 0, none⟩) n cap ∧ base ≤ g ∧ (∀ j u, xs[j]? = some u → w.cell? ⟨g, j, none⟩ = some u) := by
  rcases h.2 with ⟨rfl, h0⟩ | ⟨g, cap, cur, rfl, hg, hc, h1, h2, h3, h4⟩
  · omega
  · refine ⟨g, cap, rfl, hg, fun j u hj => ?_⟩
    have hlt : j < n * size := by
      have := (List.getElem?_eq_some_iff.1 hj).1
      rw [h.1] at this
      exact this
    unfold World.cell?
    simp only [hc, Option.isSome_none, Bool.false_eq_true, if_false]
    rw [← h4, List.getElem?_take_of_lt hlt, Array.getElem?_toList] at hj
    exact hj

set_option maxRecDepth 100000 in
set_option maxHeartbeats 1000000 in
theorem next_calls (R : Refs) (X : Nat) (W : Wh) (w : World) (h : WhAt R w X W) (hi : Inv W) (hl : W.tm.length ≤ 1000) :
    Calls Try.prog 14 #[.pointer (some ⟨X, 0, none⟩)] w fun e w' => e = .returned (.tuple #[.int .i64 (nextS W).1, .bool (nextS W).2]) ∧ Below w.heap.size w w' := by
  have hcon := timers_calls R X W w h hi hl
  have hlen : (timersS W).length = W.tm.length := by unfold timersS; rw [(srt_perm _).length_eq]; simp
  have eN : nextS W = match timersS W with | [] => (0, false) | t :: _ => (t.when, true) := rfl
  rw [eN]
  clear eN h hi
  generalize timersS W = L at hcon hlen ⊢
  rw [← hlen] at hcon
  clear hlen hl
  cases L with
  | nil =>
    go_enter Try.func14, Try.ntmps14
    go_wp2_with (go_at_call 45; refine hcon.mono ?_; rintro e w2 ⟨v, rfl, ho, hb⟩; have hfm := own_form ho; obtain ⟨oa, oc, rfl⟩ := hfm; have HB := Lib.hid hb; clear hb)
    go_ret2
    exact ⟨rfl, HB.out⟩
  | cons t L =>
    obtain ⟨ti, tw, tv, to_⟩ := t
    go_enter Try.func14, Try.ntmps14
    go_wp2_with (go_at_call 45; refine hcon.mono ?_; rintro e w2 ⟨v, rfl, ho, hb⟩; have hfm := own_form2 ho (by simp); obtain ⟨g, oc, rfl, hg, hcell⟩ := hfm; have c1 := hcell 1 (.int .i64 tw) rfl; have HB := Lib.hid hb; clear hb hcell; simp only [List.length_cons] at *)
    go_ret2
    exact ⟨rfl, HB.out⟩
end Go.Proofs.Ytddajaikighjlaa
