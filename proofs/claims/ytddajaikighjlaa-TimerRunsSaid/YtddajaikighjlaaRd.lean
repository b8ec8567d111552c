/- The reference's add 60. -/
import Derived.Test.YtddajaikighjlaaRc
namespace Go.Proofs.Ytddajaikighjlaa
open Go.RowKit Go.Sl Go.Mp Go.Wh

theorem take_flat {α : Type} (enc : α → List Value) (L : List α) (k : Nat) (i : Nat) (u : Value) (h : ((L.take k).flatMap enc)[i]? = some u) : (L.flatMap enc)[i]? = some u := by
  have e : L.flatMap enc = (L.take k).flatMap enc ++ (L.drop k).flatMap enc := by rw [← List.flatMap_append, List.take_append_drop]
  rw [e, List.getElem?_append_left (List.getElem?_eq_some_iff.1 h).1]
  exact h
theorem drop_flat {α : Type} (enc : α → List Value) (m : Nat) (hk : ∀ x, (enc x).length = m) (L : List α) (k : Nat) (hkn : k ≤ L.length) (i : Nat) (u : Value) (h : ((L.drop k).flatMap enc)[i]? = some u) : (L.flatMap enc)[k * m + i]? = some u := by
  have e : L.flatMap enc = (L.take k).flatMap enc ++ (L.drop k).flatMap enc := by rw [← List.flatMap_append, List.take_append_drop]
  have hl : ((L.take k).flatMap enc).length = k * m := by rw [flat_len enc m hk, List.length_take, Nat.min_eq_left hkn]
  rw [e, List.getElem?_append_right (by omega), hl, show k * m + i - k * m = i by omega]
  exact h
theorem SlR.cap {w : World} {a : Option Addr} {n c : Nat} {L : List Rt} (h : SlR w (.slice a n c) L) : L.length = n ∧ n ≤ c := by
  obtain ⟨a', c', e, h2⟩ := h.2
  simp only [Value.slice.injEq] at e
  obtain ⟨-, rfl, rfl⟩ := e
  exact ⟨rfl, h2⟩
theorem slR_to {w : World} {a : Option Addr} {n c : Nat} {L : List Rt} (h : SlR w (.slice a n c) L) {k : Nat} (hk : k ≤ n) : SlV w (.slice a k c) k 5 ((L.take k).flatMap encR) := by
  obtain ⟨hn, hc0⟩ := h.cap
  refine ⟨by rw [flat_len encR 5 encR_len, List.length_take, Nat.min_eq_left (by omega)], ?_⟩
  rcases h.1.2 with ⟨h0, hv⟩ | ⟨h0, g, o, cap, hv, hc⟩
  · left
    have : k = 0 := by omega
    subst this
    refine ⟨rfl, ?_⟩
    rcases hv with hv | ⟨ad, cap, hv⟩
    · simp only [Value.slice.injEq] at hv
      obtain ⟨rfl, -, rfl⟩ := hv
      exact Or.inl rfl
    · simp only [Value.slice.injEq] at hv
      obtain ⟨rfl, -, rfl⟩ := hv
      exact Or.inr ⟨_, _, rfl⟩
  · simp only [Value.slice.injEq] at hv
    obtain ⟨rfl, -, rfl⟩ := hv
    by_cases k0 : k = 0
    · subst k0
      exact Or.inl ⟨rfl, Or.inr ⟨_, _, rfl⟩⟩
    · exact Or.inr ⟨by omega, g, o, c, rfl, fun i u hu => hc i u (take_flat encR L k i u hu)⟩
theorem slR_from {w : World} {a : Option Addr} {n c : Nat} {L : List Rt} (h : SlR w (.slice a n c) L) {k : Nat} (hk : k ≤ n) : SlV w (.slice (if c = k then a else a.map fun x => x.add (k * 5)) (n - k) (c - k)) (n - k) 5 ((L.drop k).flatMap encR) := by
  obtain ⟨hn, hc0⟩ := h.cap
  refine ⟨by rw [flat_len encR 5 encR_len, List.length_drop, hn], ?_⟩
  rcases h.1.2 with ⟨h0, hv⟩ | ⟨h0, g, o, cap, hv, hc⟩
  · left
    have : k = 0 := by omega
    subst this
    refine ⟨by omega, ?_⟩
    rcases hv with hv | ⟨ad, cap, hv⟩
    · simp only [Value.slice.injEq] at hv
      obtain ⟨rfl, rfl, rfl⟩ := hv
      exact Or.inl rfl
    · simp only [Value.slice.injEq] at hv
      obtain ⟨rfl, rfl, rfl⟩ := hv
      right
      split
      · exact ⟨_, _, rfl⟩
      · exact ⟨_, _, rfl⟩
  · simp only [Value.slice.injEq] at hv
    obtain ⟨rfl, -, rfl⟩ := hv
    by_cases k0 : n - k = 0
    · left
      refine ⟨k0, Or.inr ?_⟩
      rw [k0]
      split
      · exact ⟨_, _, rfl⟩
      · exact ⟨_, _, rfl⟩
    · right
      refine ⟨by omega, g, o + k * 5, c - k, ?_, fun i u hu => ?_⟩
      · rw [if_neg (by omega), Option.map_some, Go.WideShapes.add_plain]
      · rw [Nat.add_assoc]
        exact hc _ _ (drop_flat encR 5 encR_len L k (by omega) i u hu)
theorem elem38 : Try.prog.elem 38 = 151 := by kernel_rfl
theorem und38 : Try.prog.underlying 38 = some (.slice (Try.prog.elem 38)) := by rw [elem38]; exact Try.underlying38
theorem run_to (w : World) (a : Option Addr) (n c k : Nat) (h : k ≤ c) : (Instr.sliceAt 38 (.slice a n c) none (some (.int .i64 (k : Int))) none).run Try.prog w = .ok (.slice a k c) w := by
  rw [run_sliceAt_slice (t := 38) (h := und38), run_slice_h (t := 38) (ht := und38) (h0 := by omega) (h2 := by omega), elem38]
  simp [go_sem, sliced, Addr.add]
theorem run_from (w : World) (a : Option Addr) (n c k : Nat) (h : k ≤ n) : (Instr.sliceAt 38 (.slice a n c) (some (.int .i64 (k : Int))) none none).run Try.prog w = .ok (.slice (if c = k then a else a.map fun x => x.add (k * 5)) (n - k) (c - k)) w := by
  rw [run_sliceAt_slice (t := 38) (h := und38), run_slice_l (t := 38) (ht := und38) (h0 := by omega) (h1 := by omega), elem38]
  simp [go_sem, sliced]
end Go.Proofs.Ytddajaikighjlaa
