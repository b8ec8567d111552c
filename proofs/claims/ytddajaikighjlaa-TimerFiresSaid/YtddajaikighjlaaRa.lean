/- The reference's wheels: values; New 15, Next 64, power 82. -/
import Derived.Test.YtddajaikighjlaaQa
import Derived.Test.YtddajaikighjlaaPa
namespace Go.Proofs.Ytddajaikighjlaa
open Go.RowKit Go.Sl Go.Mp Go.Wh

def encR (e : Rt) : List Value := [.int .i64 e.t.id, .int .i64 e.t.when, .int .i64 e.t.iv, .int .i64 e.t.ord, .int .i64 e.set]
theorem encR_len (e : Rt) : (encR e).length = 5 := rfl
/-- A slice of the reference's timers. -/
def SlR (w : World) (v : Value) (L : List Rt) : Prop := SlV w v L.length 5 (L.flatMap encR) ∧ ∃ a c, v = .slice a L.length c ∧ L.length ≤ c
theorem SlR.below {w w' : World} {v : Value} {L : List Rt} (h : SlR w v L) (hb : Below w.heap.size w w') : SlR w' v L := ⟨SlV.below h.1 hb, h.2⟩
theorem SlR.form {w : World} {v : Value} {L : List Rt} (h : SlR w v L) : ∃ a c, v = .slice a L.length c := SlV.form h.1
theorem SlR.nil (w : World) : SlR w (.slice none 0 0) [] := ⟨SlV.nil w 5, none, 0, rfl, Nat.le_refl _⟩
theorem SlR.of_owns {w : World} {base : Nat} {e : TypeId} {v : Value} {n : Nat} {L : List Rt} (h : w.ownsRow base e 5 v n (L.flatMap encR)) : SlR w v L := by
  have hl := h.1
  rw [flat_len encR 5 encR_len] at hl
  have hn : n = L.length := by omega
  subst hn
  refine ⟨SlV.of_owns h, ?_⟩
  rcases h.2 with ⟨rfl, h0⟩ | ⟨g, cap, cur, rfl, _, _, hc, _⟩
  · rw [h0]
    exact ⟨none, 0, rfl, Nat.le_refl _⟩
  · exact ⟨_, cap, rfl, hc⟩
theorem SlR.at {w : World} {v : Value} {L : List Rt} (h : SlR w v L) {k : Nat} {e : Rt} (hk : L[k]? = some e) : ∃ g o cap, v = .slice (some ⟨g, o, none⟩) L.length cap ∧ w.cell? ⟨g, o + k * 5, none⟩ = some (.int .i64 e.t.id) ∧ w.cell? ⟨g, o + k * 5 + 1, none⟩ = some (.int .i64 e.t.when) ∧
    w.cell? ⟨g, o + k * 5 + 2, none⟩ = some (.int .i64 e.t.iv) ∧ w.cell? ⟨g, o + k * 5 + 3, none⟩ = some (.int .i64 e.t.ord) ∧ w.cell? ⟨g, o + k * 5 + 4, none⟩ = some (.int .i64 e.set) := by
  have hlt := (List.getElem?_eq_some_iff.1 hk).1
  rcases h.1.2 with ⟨h0, -⟩ | ⟨h0, g, o, cap, rfl, hc⟩
  · omega
  · have hg : ∀ j, j < 5 → (L.flatMap encR)[k * 5 + j]? = (encR e)[j]? := fun j hj => by
      rw [flat_get encR 5 encR_len (by omega), show (k * 5 + j) / 5 = k by omega, show (k * 5 + j) % 5 = j by omega, hk]
      rfl
    refine ⟨g, o, cap, rfl, hc (k * 5) _ (hg 0 (by omega)), ?_, ?_, ?_, ?_⟩
    · rw [Nat.add_assoc]; exact hc (k * 5 + 1) _ (hg 1 (by omega))
    · rw [Nat.add_assoc]; exact hc (k * 5 + 2) _ (hg 2 (by omega))
    · rw [Nat.add_assoc]; exact hc (k * 5 + 3) _ (hg 3 (by omega))
    · rw [Nat.add_assoc]; exact hc (k * 5 + 4) _ (hg 4 (by omega))
def rwV (time : Int) (v : Value) (ord : Int) : Value := .agg #[.int .i64 time, v, .int .i64 ord]
theorem size40 : (Try.prog.info? 40).map (·.size) = some 3 := by kernel_rfl

theorem rnew_calls (n : Int) (w : World) : Calls Try.prog 15 #[.int .i64 n] w fun e w' => e = .returned (.tuple #[rwV (if timeB n = true then n else 0) (.slice none 0 0) 0, .int .i64 (if timeB n = true then 0 else 3)]) ∧ Below w.heap.size w w' := by
  obtain ⟨w1, hw1⟩ : ∃ w1, w.alloc (.cells #[.int .i64 0, .slice none 0 0, .int .i64 0] 40) = w1 := ⟨_, rfl⟩
  have hb1 : Below w.heap.size w w1 := by rw [← hw1]; exact (Below.refl w.heap.size w).alloc (Nat.le_refl _) _
  have g0 : w1.heap[w.heap.size]? = some (.cells #[.int .i64 0, .slice none 0 0, .int .i64 0] 40 (0, 0)) := by rw [← hw1]; exact heap_alloc_new _ _
  have B1 := Lib.hid hb1
  have G0 := Lib.hid g0
  obtain ⟨x0, x1, x2, xf⟩ := row3 g0
  clear hb1 g0
  unfold timeB rwV
  by_cases h1 : n < 0
  · rw [show (decide (0 ≤ n) && decide (n ≤ 1099511627776)) = false by rw [decide_eq_false (by omega)]; rfl]
    go_enter Try.func15, Try.ntmps15
    go_wp2_with fail
    refine bodyPost_ret (results_cell2 rfl _ _ w.heap.size 40 _ (0, 0) _ rfl (fill3 G0.out _ _ _).1 Try.underlying40 size40) rfl ?_
    exact ⟨rfl, below_fill3 B1.out (Nat.le_refl _) _ _ _⟩
  by_cases h2 : 1099511627776 < n
  · rw [show (decide (0 ≤ n) && decide (n ≤ 1099511627776)) = false by rw [decide_eq_true (by omega), decide_eq_false (by omega)]; rfl]
    go_enter Try.func15, Try.ntmps15
    go_wp2_with fail
    refine bodyPost_ret (results_cell2 rfl _ _ w.heap.size 40 _ (0, 0) _ rfl (fill3 G0.out _ _ _).1 Try.underlying40 size40) rfl ?_
    exact ⟨rfl, below_fill3 B1.out (Nat.le_refl _) _ _ _⟩
  · rw [show (decide (0 ≤ n) && decide (n ≤ 1099511627776)) = true by rw [decide_eq_true (by omega), decide_eq_true (by omega)]; rfl]
    go_enter Try.func15, Try.ntmps15
    go_wp2_with fail
    refine bodyPost_ret (results_cell2 rfl _ _ w.heap.size 40 _ (0, 0) _ rfl (fill3 G0.out _ _ _).1 Try.underlying40 size40) rfl ?_
    exact ⟨rfl, below_fill3 B1.out (Nat.le_refl _) _ _ _⟩
theorem rnext_calls (time : Int) (v : Value) (ord : Int) (L : List Rt) (w : World) (h : SlR w v L) : Calls Try.prog 64 #[rwV time v ord] w fun e w' => e = .returned (.tuple #[.int .i64 (rnextS L).1, .bool (rnextS L).2]) ∧ Below w.heap.size w w' := by
  obtain ⟨a, c, rfl⟩ := h.form
  unfold rwV
  have hb := Lib.hid ((Below.refl w.heap.size w).alloc (Nat.le_refl _) (.cells #[.int .i64 time, .slice a L.length c, .int .i64 ord] 40))
  cases L with
  | nil =>
    unfold rnextS
    simp only [List.length_nil] at hb ⊢
    clear h
    go_enter Try.func64, Try.ntmps64
    go_wp2
    go_ret2
    exact ⟨rfl, hb.out⟩
  | cons e L =>
    obtain ⟨g, o, cap, hf, -, x1, -⟩ := h.at (k := 0) rfl
    rw [Nat.zero_mul, Nat.add_zero] at x1
    simp only [Value.slice.injEq] at hf
    obtain ⟨rfl, -, rfl⟩ := hf
    have gl := World.block_lt_of_cell? w _ x1
    have gn : ¬ g = w.heap.size := Nat.ne_of_lt gl
    unfold rnextS
    simp only [List.length_cons] at hb ⊢
    clear h
    generalize L.length = n at *
    have hn : ¬ ((n + 1 : Nat) : Int) = 0 := by omega
    have hn2 : (0 : Int) < ((n + 1 : Nat) : Int) := by omega
    go_enter Try.func64, Try.ntmps64
    go_wp2
    go_ret2
    exact ⟨rfl, hb.out⟩
theorem power_calls (k : Nat) (hk : k < 7) (w : World) : Calls Try.prog 82 #[.int .i64 (k : Int)] w fun e w' => e = .returned (.int .i64 (pw k)) ∧ w' = w := by
  revert k
  refine seven ?_ ?_ ?_ ?_ ?_ ?_ ?_ <;> (
    go_enter Try.func82, Try.ntmps82
    go_wp2
    go_ret
    exact ⟨rfl, rfl⟩)
end Go.Proofs.Ytddajaikighjlaa
