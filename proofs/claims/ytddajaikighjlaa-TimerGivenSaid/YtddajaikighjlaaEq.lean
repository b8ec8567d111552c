/- slices.Equal 52 at []Fired. -/
import Derived.Test.YtddajaikighjlaaFx
namespace Go.Proofs.Ytddajaikighjlaa
open Go.RowKit Go.Mp Go.Wh

/-- A slice that holds the list. -/
def RowF (w : World) (v : Value) (L : List (Int × Int)) : Prop := ∃ a cap, v = .slice a L.length cap ∧ ∀ i p, L[i]? = some p → ∃ g o, a = some ⟨g, o, none⟩ ∧ w.cell? ⟨g, o + i * 2, none⟩ = some (.int .i64 p.1) ∧ w.cell? ⟨g, o + i * 2 + 1, none⟩ = some (.int .i64 p.2)
theorem RowF.same {w w' : World} {v : Value} {L : List (Int × Int)} (h : RowF w v L) (hc : ∀ p u, w.cell? p = some u → w'.cell? p = some u) : RowF w' v L := by
  obtain ⟨a, cap, h1, h2⟩ := h
  refine ⟨a, cap, h1, fun i p hp => ?_⟩
  obtain ⟨g, o, e1, e2, e3⟩ := h2 i p hp
  exact ⟨g, o, e1, hc _ _ e2, hc _ _ e3⟩
theorem RowF.below {w w' : World} {v : Value} {L : List (Int × Int)} (h : RowF w v L) (hb : Below w.heap.size w w') : RowF w' v L := h.same fun _ _ hp => (hb.cell (World.block_lt_of_cell? w _ hp)).trans hp
theorem RowF.own {w : World} {b : Nat} {v : Value} {L : List (Int × Int)} (h : w.ownsRow b 33 2 v L.length (L.flatMap encF)) : RowF w v L := by
  by_cases h0 : 0 < L.length
  · obtain ⟨g, cap, rfl, -, hc⟩ := own_form2 h h0
    refine ⟨_, cap, rfl, fun i p hp => ⟨g, 0, rfl, ?_, ?_⟩⟩
    · refine (congrArg _ (by simp)).trans (hc (i * 2) _ ?_)
      rw [flat_get encF 2 encF_len (by omega), show i * 2 / 2 = i by omega, show i * 2 % 2 = 0 by omega, hp]
      rfl
    · refine (congrArg _ (by simp)).trans (hc (i * 2 + 1) _ ?_)
      rw [flat_get encF 2 encF_len (by omega), show (i * 2 + 1) / 2 = i by omega, show (i * 2 + 1) % 2 = 1 by omega, hp]
      rfl
  · have hL : L = [] := List.eq_nil_of_length_eq_zero (by omega)
    subst hL
    obtain ⟨a, cap, rfl⟩ := own_form h
    exact ⟨a, cap, rfl, fun i p hp => by simp at hp⟩
theorem RowF.three (w : World) (p q r : Int × Int) : RowF (w.alloc (.cells #[.int .i64 p.1, .int .i64 p.2, .int .i64 q.1, .int .i64 q.2, .int .i64 r.1, .int .i64 r.2] 33)) (.slice (some ⟨w.heap.size, 0, none⟩) 3 3) [p, q, r] := by
  have hn := heap_alloc_new w (.cells #[.int .i64 p.1, .int .i64 p.2, .int .i64 q.1, .int .i64 q.2, .int .i64 r.1, .int .i64 r.2] 33)
  refine ⟨_, 3, rfl, fun i x hx => ⟨w.heap.size, 0, rfl, ?_⟩⟩
  have : i = 0 ∨ i = 1 ∨ i = 2 := by have := (List.getElem?_eq_some_iff.1 hx).1; simp at this; omega
  rcases this with rfl | rfl | rfl <;> simp at hx <;> subst hx <;> constructor <;> (unfold World.cell?; simp only [hn]; rfl)

set_option maxRecDepth 100000 in
theorem neq33 (w : World) (a b c d : Int) : (binOp .neq 33 (.agg #[.int .i64 a, .int .i64 b]) (.agg #[.int .i64 c, .int .i64 d])).run Try.prog w = .ok (.bool (!(a == c && b == d))) w := by
  rw [run_neq_struct, run_equalIn_agg w 9999 33 _ _ (by simp only [Program.fieldsOf, Try.underlying33]) Try.stoodInHeld33]
  by_cases h1 : a = c <;> by_cases h2 : b = d <;> simp [h1, h2, Op.eqFields, Program.fieldsOf, Try.underlying33, part, run_equalIn_int w 9998 3 .i64 .i64 _ _ Try.underlying3, run_equalIn_int w 9998 2 .i64 .i64 _ _ Try.underlying2]
set_option maxHeartbeats 1000000 in
theorem equalF_calls (v1 v2 : Value) (L1 L2 : List (Int × Int)) (w : World) (h1 : RowF w v1 L1) (h2 : RowF w v2 L2) (hb1 : L1.length ≤ 1000000000000) :
    Calls Try.prog 52 #[v1, v2] w fun e w' => e = .returned (.bool (L1 == L2)) ∧ Below w.heap.size w w' := by
  obtain ⟨a1, k1, rfl, hc1⟩ := h1
  obtain ⟨a2, k2, rfl, hc2⟩ := h2
  by_cases hl : L1.length = L2.length
  · have HL := Lib.hid hl
    have HC1 := Lib.hid hc1
    have HC2 := Lib.hid hc2
    rw [← hl]
    have hne := neq33
    obtain ⟨n, hn⟩ : ∃ n, L1.length = n := ⟨_, rfl⟩
    rw [hn] at hb1 ⊢
    have HN := Lib.hid hn
    clear hl hc1 hc2 hn
    go_enter Try.func52, Try.ntmps52
    go_wp2
    go_loopw [13] (fun i wr => ∃ kk : Nat, kk ≤ n ∧ i = .int .i64 (kk : Int) ∧ L1.take kk = L2.take kk ∧ Below w.heap.size w wr) (fun i _ => n - (intOf i).toNat)
    case atStart => exact ⟨0, Nat.zero_le _, rfl, rfl, Below.refl _ _⟩
    case round =>
      obtain ⟨kk, hk, rfl, htake, hbel⟩ := hrel
      have HT := Lib.hid htake
      clear htake
      by_cases hlt : kk < n
      · obtain ⟨p, e1⟩ : ∃ p, L1[kk]? = some p := ⟨_, List.getElem?_eq_getElem (by have := HN.out; omega)⟩
        obtain ⟨q, e2⟩ : ∃ q, L2[kk]? = some q := ⟨_, List.getElem?_eq_getElem (by have := HN.out; have := HL.out; omega)⟩
        obtain ⟨g1, o1, rfl, x1, y1⟩ := HC1.out kk p e1
        obtain ⟨g2, o2, rfl, x2, y2⟩ := HC2.out kk q e2
        replace x1 := (hbel.cell (World.block_lt_of_cell? w _ x1)).trans x1
        replace y1 := (hbel.cell (World.block_lt_of_cell? w _ y1)).trans y1
        replace x2 := (hbel.cell (World.block_lt_of_cell? w _ x2)).trans x2
        replace y2 := (hbel.cell (World.block_lt_of_cell? w _ y2)).trans y2
        have E1 := Lib.hid e1
        have E2 := Lib.hid e2
        clear e1 e2
        have hlt' : (kk : Int) < (n : Int) := by omega
        obtain ⟨p1, p2⟩ := p
        obtain ⟨q1, q2⟩ := q
        simp only at x1 y1 x2 y2
        by_cases hpq : p1 = q1 ∧ p2 = q2
        · obtain ⟨rfl, rfl⟩ := hpq
          have ht2 := Lib.hid (show L1.take (kk + 1) = L2.take (kk + 1) by rw [List.take_add_one, List.take_add_one, HT.out, E1.out, E2.out])
          go_upto_region 6 with (fail)
          go_quiet (fail)
          go_wp2
          go_roundw
          case rel => exact ⟨kk + 1, by omega, by go_num, ht2.out, hbel.trans (below_drewN _ _ _)⟩
          case measure => simp [intOf]; omega
        · have hf : (L1 == L2) = false := by
            simp only [beq_eq_false_iff_ne]
            intro e
            have h1 := E1.out
            rw [e, E2.out] at h1
            simp only [Option.some.injEq, Prod.mk.injEq] at h1
            exact hpq ⟨h1.1.symm, h1.2.symm⟩
          have HF := Lib.hid hf
          have HPQ := Lib.hid hpq
          clear hf hpq
          go_upto_region 6 with (fail)
          go_quiet (fail)
          have hb : (!p1 == q1 || !p2 == q2) = true := by
            have := HPQ.out
            by_cases h : p1 = q1
            · have h2 : ¬ p2 = q2 := fun e => this ⟨h, e⟩
              simp [h, h2]
            · simp [h]
          go_wp2
          go_ret
          · exact ⟨by rw [HF.out]; rfl, hbel.trans (below_drewN _ _ _)⟩
          · rename_i hno
            exfalso
            rw [hno.1, hno.2] at hb
            exact absurd hb (by decide)
      · have hke : kk = n := by omega
        subst hke
        have he : L1 = L2 := by
          have := HT.out
          rw [List.take_of_length_le (by rw [HN.out]; exact Nat.le_refl _), List.take_of_length_le (by rw [← HL.out, HN.out]; exact Nat.le_refl _)] at this
          exact this
        have hf : (L1 == L2) = true := by rw [he]; exact beq_self_eq_true L2
        have HF := Lib.hid hf
        clear he hf
        go_wp2
        go_ret
        exact ⟨by rw [HF.out]; rfl, hbel⟩
  · have : (L1 == L2) = false := by
      simp only [beq_eq_false_iff_ne]
      exact fun e => hl (by rw [e])
    rw [this]
    have hl' : ¬ (L1.length : Int) = (L2.length : Int) := by omega
    generalize L1.length = n1 at hl hl' ⊢
    generalize L2.length = n2 at hl hl' ⊢
    clear hc1 hc2 this
    go_enter Try.func52, Try.ntmps52
    go_wp2
    go_ret
    exact ⟨rfl, Below.refl _ _⟩
end Go.Proofs.Ytddajaikighjlaa
