/- New. -/
import Derived.Test.YtddajaikighjlaaA
import Derived.Carry
namespace Go.Proofs.Ytddajaikighjlaa
open Go.RowKit Go.Mp Go.Wh

theorem zc142 : Try.zeroCells142 = #[.int .i64 0, .int .i64 0] ++ Array.replicate 448 (.map none) ++ #[.map none, .map none] := by kernel_rfl
theorem zc_size : Try.zeroCells142.size = 452 := by rw [zc142]; simp
theorem zc_slot (i : Nat) (hi : i < 448) : Try.zeroCells142[2 + i]? = some (.map none) := by
  rw [zc142]
  rw [Array.getElem?_append_left (by simp; omega), Array.getElem?_append_right (by simp)]
  simp [hi]
theorem zc_one : Try.zeroCells142[1]? = some (.int .i64 0) := by kernel_rfl

theorem new_at (w : World) (n : Int) : WhAt ⟨w.heap.size, w.heap.size + 1, fun _ => none⟩ (((w.alloc (.map #[] 0)).alloc (.map #[] 0)).alloc (.cells (((Try.zeroCells142.setIfInBounds 0 (.int .i64 n)).setIfInBounds 450 (.map (some w.heap.size))).setIfInBounds 451 (.map (some (w.heap.size + 1)))) 142)) (w.heap.size + 2) (newS n) := by
  have hX : (((w.alloc (.map #[] 0)).alloc (.map #[] 0)).alloc (.cells (((Try.zeroCells142.setIfInBounds 0 (.int .i64 n)).setIfInBounds 450 (.map (some w.heap.size))).setIfInBounds 451 (.map (some (w.heap.size + 1)))) 142)).heap[w.heap.size + 2]? = some (.cells (((Try.zeroCells142.setIfInBounds 0 (.int .i64 n)).setIfInBounds 450 (.map (some w.heap.size))).setIfInBounds 451 (.map (some (w.heap.size + 1)))) 142 (0, 0)) := by
    have := heap_alloc_new ((w.alloc (.map #[] 0)).alloc (.map #[] 0)) (.cells (((Try.zeroCells142.setIfInBounds 0 (.int .i64 n)).setIfInBounds 450 (.map (some w.heap.size))).setIfInBounds 451 (.map (some (w.heap.size + 1)))) 142)
    simpa using this
  have h1 : MapI (w.alloc (.map #[] 0)) w.heap.size [] := MapI.made w
  have h2 : MapI ((w.alloc (.map #[] 0)).alloc (.map #[] 0)) (w.heap.size + 1) [] := by have := MapI.made (w.alloc (.map #[] 0)); rwa [World.size_alloc] at this
  have b2 : Below (w.alloc (.map #[] 0)).heap.size (w.alloc (.map #[] 0)) ((w.alloc (.map #[] 0)).alloc (.map #[] 0)) := (Below.refl _ _).alloc (Nat.le_refl _) _
  have b3 := fun o => (Below.refl ((w.alloc (.map #[] 0)).alloc (.map #[] 0)).heap.size ((w.alloc (.map #[] 0)).alloc (.map #[] 0))).alloc (Nat.le_refl _) o
  have m1 := (h1.below b2).below (b3 (.cells (((Try.zeroCells142.setIfInBounds 0 (.int .i64 n)).setIfInBounds 450 (.map (some w.heap.size))).setIfInBounds 451 (.map (some (w.heap.size + 1)))) 142))
  have m2 := h2.below (b3 (.cells (((Try.zeroCells142.setIfInBounds 0 (.int .i64 n)).setIfInBounds 450 (.map (some w.heap.size))).setIfInBounds 451 (.map (some (w.heap.size + 1)))) 142))
  generalize ((w.alloc (.map #[] 0)).alloc (.map #[] 0)).alloc (.cells (((Try.zeroCells142.setIfInBounds 0 (.int .i64 n)).setIfInBounds 450 (.map (some w.heap.size))).setIfInBounds 451 (.map (some (w.heap.size + 1)))) 142) = W at hX m1 m2 ⊢
  have hc : ∀ j, W.cell? ⟨w.heap.size + 2, j, none⟩ = (((Try.zeroCells142.setIfInBounds 0 (.int .i64 n)).setIfInBounds 450 (.map (some w.heap.size))).setIfInBounds 451 (.map (some (w.heap.size + 1))))[j]? := fun j => by simp [World.cell?, hX]
  have hz := zc_size
  refine ⟨⟨_, hX, by simp [hz]⟩, ?_, ?_, fun i hi => ?_, ?_, ?_, List.length_replicate, fun i hi => ?_, m1, m2, by simp, fun i hi => by simp, fun i j r hi hj h => by simp at h⟩
  · rw [hc, Array.getElem?_setIfInBounds_ne (by omega), Array.getElem?_setIfInBounds_ne (by omega), Array.getElem?_setIfInBounds_self_of_lt (by omega)]
    rfl
  · rw [hc]
    rw [Array.getElem?_setIfInBounds_ne (by omega), Array.getElem?_setIfInBounds_ne (by omega), Array.getElem?_setIfInBounds_ne (by omega)]
    exact zc_one
  · rw [hc]
    rw [Array.getElem?_setIfInBounds_ne (by omega), Array.getElem?_setIfInBounds_ne (by omega), Array.getElem?_setIfInBounds_ne (by omega)]
    exact zc_slot i hi
  · rw [hc]; rw [Array.getElem?_setIfInBounds_ne (by omega)]; simp [hz]
  · rw [hc]; simp [hz]
  · show (newS n).sl.getD i [] = []
    show ((List.replicate 448 ([] : List (Int × Bool)))[i]?).getD [] = []
    rw [List.getElem?_replicate, if_pos hi]
    rfl

set_option maxRecDepth 100000 in
set_option maxHeartbeats 400000 in
theorem new_calls (n : Int) (w : World) (hn : timeB n = true) : Calls Try.prog 10 #[.int .i64 n] w fun e w' => ∃ R, e = .returned (.tuple #[.pointer (some ⟨w.heap.size + 2, 0, none⟩), .int .i64 0]) ∧ WhAt R w' (w.heap.size + 2) (newS n) ∧ (∀ k, Foot R (w.heap.size + 2) k → w.heap.size ≤ k) ∧ Below w.heap.size w w' := by
  have hmm := @run_makeMap Try.prog
  have ht := time_calls n
  rw [hn] at ht
  clear hn
  have HW := Lib.hid (new_at w n)
  go_enter Try.func10, Try.ntmps10
  go_wp2_with (go_at_call 54; refine (ht _).mono ?_; rintro e w' ⟨rfl, rfl⟩)
  go_ret2
  refine ⟨_, rfl, HW.out, ?_, (((Below.refl _ _).alloc (Nat.le_refl _) _).alloc (by simp) _).alloc (by simp; omega) _⟩
  rintro k (rfl | rfl | rfl | ⟨i, hi, h⟩)
  · omega
  · exact Nat.le_refl _
  · show w.heap.size ≤ w.heap.size + 1
    omega
  · cases h
theorem new_no (n : Int) (w : World) (hn : timeB n = false) : Calls Try.prog 10 #[.int .i64 n] w fun e w' => e = .returned (.tuple #[.pointer none, .int .i64 3]) ∧ w = w' := by
  have ht := time_calls n
  rw [hn] at ht
  clear hn
  go_enter Try.func10, Try.ntmps10
  go_wp2_with (go_at_call 54; refine (ht _).mono ?_; rintro e w' ⟨rfl, rfl⟩)
  go_ret2
  exact ⟨rfl, rfl⟩
end Go.Proofs.Ytddajaikighjlaa
