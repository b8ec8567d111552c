/- Slices of ints as lists; slices.Equal, Index, Contains at int; the members of a capability. -/
import Derived.Test.YtlagofkcddhigaaDoorK
import Derived.LoopTactic
import Derived.RegionTactic
import Derived.Deep.QuietTactic
namespace Go.Proofs.YtlagofkcddhigaaDoor
open Go.RowKit

/-- A slice of ints that reads as a list. -/
def SlI (w : World) (v : Value) (xs : List Int) : Prop :=
  (xs = [] ∧ ∃ a cap, v = .slice a 0 cap) ∨
  (0 < xs.length ∧ ∃ b o cap, v = .slice (some ⟨b, o, none⟩) xs.length cap ∧ ∀ i, i < xs.length → w.cell? ⟨b, o + i, none⟩ = some (.int .i64 (xs.getD i 0)))

theorem SlI.below {w w' : World} {v : Value} {xs : List Int} (h : SlI w v xs) (hb : Below w.heap.size w w') : SlI w' v xs := by
  rcases h with h | ⟨h0, b, o, cap, hv, hc⟩
  · exact Or.inl h
  · exact Or.inr ⟨h0, b, o, cap, hv, fun i hi => (hb.cell (World.block_lt_of_cell? w _ (hc i hi))).trans (hc i hi)⟩
theorem SlI.form {w : World} {v : Value} {xs : List Int} (h : SlI w v xs) : ∃ a cap, v = .slice a xs.length cap := by
  rcases h with ⟨rfl, a, c, rfl⟩ | ⟨_, b, o, c, rfl, _⟩
  · exact ⟨_, _, rfl⟩
  · exact ⟨_, _, rfl⟩
theorem SlI.of_owns {w : World} {base : Nat} {e : TypeId} {v : Value} {n : Nat} {xs : List Int} (h : w.ownsRow base e 1 v n (xs.map (Value.int .i64))) : SlI w v xs := by
  have hl := h.1
  simp only [List.length_map, Nat.mul_one] at hl
  rcases h.2 with ⟨rfl, rfl⟩ | ⟨g, cap, cur, rfl, _, _, _, _, _, _⟩
  · have : xs = [] := List.eq_nil_of_length_eq_zero hl
    exact Or.inl ⟨this, _, _, rfl⟩
  · cases hx : xs with
    | nil => subst hx; simp at hl; subst hl; exact Or.inl ⟨rfl, _, _, rfl⟩
    | cons x xs' =>
      rw [← hx]
      refine Or.inr ⟨by rw [hx]; simp, g, 0, cap, by rw [hl], fun i hi => ?_⟩
      have := h.cellAt i (by omega)
      rw [Nat.zero_add, this]
      simp [List.getD, hi]
theorem below_of_drewN {w : World} (n : Nat) : Below w.heap.size w (w.drewN n) := by
  induction n with
  | zero => exact Below.refl _ _
  | succ n ih => rw [← World.drew_drewN]; exact ih.drew

theorem list_eq_of_getD {xs ys : List Int} (hl : xs.length = ys.length) (h : ∀ j, j < xs.length → xs.getD j 0 = ys.getD j 0) : xs = ys := by
  apply List.ext_getElem hl
  intro i h1 h2
  have := h i h1
  simpa [List.getD, h1, h2] using this

set_option maxHeartbeats 1000000 in
theorem equal_calls (v1 v2 : Value) (xs ys : List Int) (w : World) (h1 : SlI w v1 xs) (h2 : SlI w v2 ys) (hb1 : xs.length ≤ 1000000) (hb2 : ys.length ≤ 1000000) :
    Calls Tryd.prog 35 #[v1, v2] w fun e w' => e = .returned (.bool (decide (xs = ys))) ∧ Below w.heap.size w w' := by
  by_cases hl : xs.length = ys.length
  · rcases h1 with ⟨rfl, a, c, rfl⟩ | ⟨h0, b1, o1, c1, rfl, hc1⟩
    · obtain ⟨a2, c2, rfl⟩ := h2.form
      have hy : ys = [] := List.eq_nil_of_length_eq_zero (by simpa using hl.symm)
      subst hy
      clear h2 hl
      go_enter Tryd.func35, Tryd.ntmps35
      go_wp2
      refine wp_loop_rounds 1 ?_
      rw [rounds_succ]
      go_wp2
      go_ret
      exact ⟨ret_bool (by simp), Below.refl _ _⟩
    · rcases h2 with ⟨rfl, a, c, rfl⟩ | ⟨h0', b2, o2, c2, rfl, hc2⟩
      · exfalso; rw [hl] at h0; simp at h0
      · rw [hl] at hc1 h0 hb1
        have X := Lib.hid hl
        rw [hl]
        clear hl
        generalize hn : ys.length = n at *
        have N := Lib.hid hn
        clear hn
        go_enter Tryd.func35, Tryd.ntmps35
        go_wp2
        go_loopw [13] (fun i wr => ∃ k q : Nat, k ≤ n ∧ i = .int .i64 k ∧ wr = w.drewN q ∧ ∀ j, j < k → xs.getD j 0 = ys.getD j 0) (fun i _ => n - (intOf i).toNat)
        case atStart => exact ⟨0, 0, Nat.zero_le _, rfl, rfl, fun j hj => by omega⟩
        case round =>
          obtain ⟨k, q, hk, rfl, rfl, heq⟩ := hrel
          have A := Lib.hid heq
          clear heq
          by_cases hlt : k < n
          · have g1 : w.cell? ⟨b1, o1 + k, none⟩ = some (.int .i64 (xs.getD k 0)) := hc1 k hlt
            have g2 : w.cell? ⟨b2, o2 + k, none⟩ = some (.int .i64 (ys.getD k 0)) := hc2 k hlt
            clear hc1 hc2
            generalize hx : xs.getD k 0 = x at g1
            generalize hy : ys.getD k 0 = y at g2
            have B := Lib.hid (And.intro hx hy)
            clear hx hy
            cases hxy : (x == y) with
            | true =>
              have hxy' : (x != y) = false := by simp [bne, hxy]
              have E := Lib.hid (beq_iff_eq.1 hxy)
              clear hxy
              go_wp2_with fail
              go_quiet (fail)
              go_wp2
              go_roundw
              case rel =>
                refine ⟨k + 1, _, by omega, by go_num, rfl, fun j hj => ?_⟩
                by_cases e : j = k
                · subst e
                  rw [B.out.1, B.out.2, E.out]
                · exact A.out j (by omega)
              case measure => simp [intOf]; omega
            | false =>
              have hxy' : (x != y) = true := by simp [bne, hxy]
              have E := Lib.hid (beq_eq_false_iff_ne.1 hxy)
              clear hxy
              go_wp2_with fail
              go_quiet (fail)
              go_wp2
              go_ret
              refine ⟨ret_bool ?_, by rw [World.drewN_drewN]; exact below_of_drewN _⟩
              rw [decide_eq_false]
              intro h
              apply E.out
              rw [← B.out.1, ← B.out.2, h]
          · have hkn : k = n := by omega
            subst hkn
            clear hc1 hc2
            go_wp2
            go_ret
            refine ⟨ret_bool ?_, below_of_drewN _⟩
            rw [decide_eq_true]
            exact list_eq_of_getD (X.out.trans N.out.symm) (fun j hj => A.out j (by rw [X.out] at hj; exact hj))
  · obtain ⟨a1, c1, rfl⟩ := h1.form
    obtain ⟨a2, c2, rfl⟩ := h2.form
    have hne : ¬ (xs.length : Int) = (ys.length : Int) := by omega
    have hx : decide (xs = ys) = false := decide_eq_false (fun h => hl (by rw [h]))
    clear h1 h2 hl
    have X := Lib.hid hx
    clear hx
    go_enter Tryd.func35, Tryd.ntmps35
    go_wp2
    go_ret
    exact ⟨ret_bool X.out.symm, Below.refl _ _⟩

theorem mem_getD {xs : List Int} {k : Nat} (h : k < xs.length) : xs.getD k 0 ∈ xs := by
  simp [List.getD, h]
theorem mem_at {xs : List Int} {x : Int} (h : x ∈ xs) : ∃ k, k < xs.length ∧ xs.getD k 0 = x := by
  obtain ⟨k, hk, e⟩ := List.getElem_of_mem h
  exact ⟨k, hk, by simp [List.getD, hk, e]⟩

set_option maxHeartbeats 1000000 in
theorem index_calls (v : Value) (xs : List Int) (x : Int) (w : World) (h : SlI w v xs) (hb : xs.length ≤ 1000000) :
    Calls Tryd.prog 68 #[v, .int .i64 x] w fun e w' => (∃ r : Int, e = .returned (.int .i64 r) ∧ decide (0 ≤ r) = decide (x ∈ xs)) ∧ w = w' := by
  rcases h with ⟨rfl, a, c, rfl⟩ | ⟨h0, b, o, c, rfl, hc⟩
  · go_enter Tryd.func68, Tryd.ntmps68
    go_wp2
    refine wp_loop_rounds 1 ?_
    rw [rounds_succ]
    go_wp2
    go_ret
    exact ⟨⟨-1, rfl, by simp⟩, rfl⟩
  · generalize hn : xs.length = n at *
    have N := Lib.hid hn
    clear hn
    go_enter Tryd.func68, Tryd.ntmps68
    go_wp2
    go_loop [8] (fun i => ∃ k : Nat, k ≤ n ∧ i = .int .i64 k ∧ ∀ j, j < k → xs.getD j 0 ≠ x) (fun i => n - (intOf i).toNat)
    case atStart => exact ⟨0, Nat.zero_le _, rfl, fun j hj => by omega⟩
    case round =>
      obtain ⟨k, hk, rfl, hne⟩ := hrel
      have A := Lib.hid hne
      clear hne
      by_cases hlt : k < n
      · have g : w.cell? ⟨b, o + k, none⟩ = some (.int .i64 (xs.getD k 0)) := hc k hlt
        clear hc
        have M := Lib.hid (mem_getD (xs := xs) (k := k) (by rw [N.out]; exact hlt))
        generalize hy : xs.getD k 0 = y at *
        have Y := Lib.hid hy
        clear hy
        cases hxy : (x == y) with
        | true =>
          have E := Lib.hid (beq_iff_eq.1 hxy)
          go_wp2
          go_ret
          refine ⟨⟨(k : Int), rfl, ?_⟩, rfl⟩
          exact ⟨fun _ => by rw [E.out]; exact M.out, fun _ => by omega⟩
        | false =>
          have E := Lib.hid (beq_eq_false_iff_ne.1 hxy)
          go_wp2
          go_round
          case rel =>
            refine ⟨k + 1, by omega, by go_num, fun j hj => ?_⟩
            by_cases e : j = k
            · subst e
              rw [Y.out]; exact fun h => E.out h.symm
            · exact A.out j (by omega)
          case measure => simp [intOf]; omega
      · have hkn : k = n := by omega
        subst hkn
        clear hc
        go_wp2
        go_ret
        refine ⟨⟨-1, rfl, ?_⟩, rfl⟩
        refine ⟨fun h => by omega, fun hm => ?_⟩
        obtain ⟨j, hj, e⟩ := mem_at hm
        exact absurd e (A.out j (by rw [N.out] at hj; exact hj))
set_option maxHeartbeats 400000 in
theorem contains_calls (v : Value) (xs : List Int) (x : Int) (w : World) (h : SlI w v xs) (hb : xs.length ≤ 1000000) :
    Calls Tryd.prog 51 #[v, .int .i64 x] w fun e w' => e = .returned (.bool (decide (x ∈ xs))) ∧ w = w' := by
  go_enter Tryd.func51, Tryd.ntmps51
  go_wp2_with fail
  refine (index_calls v xs x w h hb).mono ?_
  rintro e w' ⟨⟨r, rfl, hr⟩, rfl⟩
  have R := Lib.hid hr
  clear hr h hb
  go_wp2
  go_ret
  exact ⟨ret_bool R.out, rfl⟩
end Go.Proofs.YtlagofkcddhigaaDoor
