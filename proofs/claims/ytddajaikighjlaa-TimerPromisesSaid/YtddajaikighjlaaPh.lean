/- What the law TimerPromises compares with: closures 27, 25, 28, slices.EqualFunc 26. -/
import Derived.Test.YtddajaikighjlaaPg
import Derived.Test.YtddajaikighjlaaJo
namespace Go.Proofs.Ytddajaikighjlaa
open Go.RowKit Go.Sl Go.Mp

set_option maxRecDepth 100000 in
theorem eq72 (w : World) (a b c d e f : Int) : (binOp .eql 72 (.agg #[.int .i64 a, .int .i64 b, .int .i64 c]) (.agg #[.int .i64 d, .int .i64 e, .int .i64 f])).run Try.prog w = .ok (.bool (a == d && (b == e && c == f))) w := by
  rw [run_eql_struct, run_equalIn_agg w 9999 72 _ _ (by simp only [Program.fieldsOf, Try.underlying72]) Try.stoodInHeld72]
  by_cases h1 : a = d <;> by_cases h2 : b = e <;> by_cases h3 : c = f <;> simp [h1, h2, h3, Op.eqFields, Program.fieldsOf, Try.underlying72, part, run_equalIn_int w 9998 3 .i64 .i64 _ _ Try.underlying3]
theorem cf25 (args : Array Value) (w : World) : (callFunc 25 args).run Try.prog w = .ok (.enter 25 args) w := by kernel_rfl
theorem cf27 (args : Array Value) (w : World) : (callFunc 27 args).run Try.prog w = .ok (.enter 27 args) w := by kernel_rfl
theorem cf28 (args : Array Value) (w : World) : (callFunc 28 args).run Try.prog w = .ok (.enter 28 args) w := by kernel_rfl

theorem f27_calls (a b c : Int) (w : World) : Calls Try.prog 27 #[.agg #[.int .i64 a, .int .i64 b, .int .i64 c], .agg #[.int .i64 a, .int .i64 b, .int .i64 c]] w fun e w' => e = .returned (.bool true) ∧ Below w.heap.size w w' := by
  have heq := eq72
  have hb := Lib.hid (((Below.refl w.heap.size w).alloc (Nat.le_refl _) (.cells #[.int .i64 a, .int .i64 b, .int .i64 c] 67)).alloc (by simp) (.cells #[.int .i64 a, .int .i64 b, .int .i64 c] 72))
  go_enter Try.func27, Try.ntmps27
  go_wp2
  go_ret
  exact ⟨rfl, hb.out⟩

/-- A slice of those that were told. -/
def SlT (w : World) (v : Value) (L : List (Int × Int × Int)) : Prop := SlV w v L.length 3 (L.flatMap encP)
theorem SlT.at {w : World} {v : Value} {L : List (Int × Int × Int)} (h : SlT w v L) {k : Nat} {a b c : Int} (hk : L[k]? = some (a, b, c)) : ∃ g o cap, v = .slice (some ⟨g, o, none⟩) L.length cap ∧ w.cell? ⟨g, o + k * 3, none⟩ = some (.int .i64 a) ∧ w.cell? ⟨g, o + k * 3 + 1, none⟩ = some (.int .i64 b) ∧ w.cell? ⟨g, o + k * 3 + 2, none⟩ = some (.int .i64 c) := by
  have hlt := (List.getElem?_eq_some_iff.1 hk).1
  rcases h.2 with ⟨h0, -⟩ | ⟨h0, g, o, cap, rfl, hc⟩
  · omega
  · refine ⟨g, o, cap, rfl, hc (k * 3) _ ?_, ?_, ?_⟩
    · rw [flat_get encP 3 encP_len (by omega), show k * 3 / 3 = k by omega, show k * 3 % 3 = 0 by omega, hk]
      rfl
    · rw [Nat.add_assoc]
      refine hc (k * 3 + 1) _ ?_
      rw [flat_get encP 3 encP_len (by omega), show (k * 3 + 1) / 3 = k by omega, show (k * 3 + 1) % 3 = 1 by omega, hk]
      rfl
    · rw [Nat.add_assoc]
      refine hc (k * 3 + 2) _ ?_
      rw [flat_get encP 3 encP_len (by omega), show (k * 3 + 2) / 3 = k by omega, show (k * 3 + 2) % 3 = 2 by omega, hk]
      rfl

set_option maxRecDepth 100000 in
set_option maxHeartbeats 1000000 in
theorem equal26_calls (v1 v2 : Value) (L : List (Int × Int × Int)) (w : World) (h1 : SlT w v1 L) (h2 : SlT w v2 L) (hb1 : L.length ≤ 1000000000000) :
    Calls Try.prog 26 #[v1, v2, .func (.func 27) #[] #[]] w fun e w' => e = .returned (.bool true) ∧ Below w.heap.size w w' := by
  obtain ⟨a1, k1, rfl⟩ := SlV.form h1
  obtain ⟨a2, k2, rfl⟩ := SlV.form h2
  have H1 := Lib.hid h1
  have H2 := Lib.hid h2
  obtain ⟨n, hn⟩ : ∃ n, L.length = n := ⟨_, rfl⟩
  rw [hn] at hb1 ⊢
  have HN := Lib.hid hn
  have hcf := cf27
  clear h1 h2 hn
  go_enter Try.func26, Try.ntmps26
  go_wp2_with fail
  go_loopw [17] (fun i wr => ∃ kk : Nat, kk ≤ n ∧ i = .int .i64 (kk : Int) ∧ Below w.heap.size w wr) (fun i _ => n - (intOf i).toNat)
  case atStart => exact ⟨0, Nat.zero_le _, rfl, Below.refl _ _⟩
  case round =>
    obtain ⟨kk, hk, rfl, hbel⟩ := hrel
    by_cases hlt : kk < n
    · obtain ⟨⟨a, b, c⟩, e1⟩ : ∃ p, L[kk]? = some p := ⟨_, List.getElem?_eq_getElem (by have := HN.out; omega)⟩
      obtain ⟨g1, o1, c1, hf1, x1, y1, z1⟩ := H1.out.at e1
      obtain ⟨g2, o2, c2, hf2, x2, y2, z2⟩ := H2.out.at e1
      rw [HN.out] at hf1 hf2
      simp only [Value.slice.injEq] at hf1 hf2
      obtain ⟨rfl, -, rfl⟩ := hf1
      obtain ⟨rfl, -, rfl⟩ := hf2
      replace x1 := hbel.at_cell x1
      replace y1 := hbel.at_cell y1
      replace z1 := hbel.at_cell z1
      replace x2 := hbel.at_cell x2
      replace y2 := hbel.at_cell y2
      replace z2 := hbel.at_cell z2
      have l1 := World.block_lt_of_cell? wr _ x1
      have l2 := World.block_lt_of_cell? wr _ x2
      have n1 : ¬ g1 = wr.heap.size := Nat.ne_of_lt l1
      have n2 : ¬ g2 = wr.heap.size := Nat.ne_of_lt l2
      have n3 : ¬ g2 = wr.heap.size + 1 := Nat.ne_of_lt (Nat.lt_succ_of_lt l2)
      have HB := Lib.hid hbel
      clear e1 hbel
      have hlt' : (kk : Int) < (n : Int) := by omega
      go_wp2_with fail
      refine (f27_calls a b c _).mono ?_
      rintro e w5 ⟨rfl, hb5⟩
      have B5 := Lib.hid (((HB.out.alloc HB.out.size (.cells #[.int .i64 a, .int .i64 b, .int .i64 c] 67)).alloc (by have := HB.out.size; simp; omega) (.cells #[.int .i64 a, .int .i64 b, .int .i64 c] 72)).then hb5)
      clear hb5
      go_wp2_with fail
      go_roundw
      case rel => exact ⟨kk + 1, by omega, by go_num, B5.out⟩
      case measure => simp [intOf]; omega
    · have hke : kk = n := by omega
      subst hke
      have hlt' : ¬ (kk : Int) < (kk : Int) := by omega
      go_wp2_with fail
      go_ret
      exact ⟨rfl, hbel⟩
theorem f25_calls (v1 v2 : Value) (L : List (Int × Int × Int)) (w : World) (h1 : SlT w v1 L) (h2 : SlT w v2 L) (hb1 : L.length ≤ 1000000000000) :
    Calls Try.prog 25 #[v1, v2] w fun e w' => e = .returned (.bool true) ∧ Below w.heap.size w w' := by
  have hc := equal26_calls v1 v2 L w h1 h2 hb1
  have HC := Lib.hid hc
  clear h1 h2 hc
  go_enter Try.func25, Try.ntmps25
  go_wp2_with fail
  refine HC.out.mono ?_
  rintro e w5 ⟨rfl, hb5⟩
  go_wp2_with fail
  go_ret
  exact ⟨rfl, hb5⟩
theorem equalI_calls (v1 v2 : Value) (l : List Int) (w : World) (h1 : SlI w v1 l) (h2 : SlI w v2 l) (hb : l.length ≤ 1000000) : Calls Try.prog 29 #[v1, v2] w fun e w' => e = .returned (.bool true) ∧ Below w.heap.size w w' := by
  rcases h1.cases with ⟨rfl, a, c, rfl⟩ | ⟨h0, b, o, c, rfl, hc⟩
  · obtain ⟨a2, c2, rfl⟩ := h2.form
    refine (Try.slices_Equal_int_empty a a2 c 0 c2 w (by omega)).mono ?_
    rintro e w' ⟨rfl, rfl⟩
    exact ⟨rfl, Below.refl _ _⟩
  · rcases h2.cases with ⟨rfl, a2, c2, rfl⟩ | ⟨_, b2, o2, c2, rfl, hc2⟩
    · simp at h0
    · refine (Try.slices_Equal_int b o l.length c b2 o2 l.length c2 l l w (Nat.le_refl _) (Nat.le_refl _) (by omega) (by omega) hc hc2).mono ?_
      rintro e w' ⟨rfl, q, rfl⟩
      exact ⟨by simp, below_drewN _ _ _⟩
set_option maxHeartbeats 1000000 in
theorem f28_calls (p : Pr) (v1 v2 : Value) (w : World) (h1 : SlI w v1 p.wt) (h2 : SlI w v2 p.wt) (hb : p.wt.length ≤ 1000000) : Calls Try.prog 28 #[prV p v1, prV p v2] w fun e w' => e = .returned (.bool true) ∧ Below w.heap.size w w' := by
  obtain ⟨ph, val, l⟩ := p
  unfold prV
  simp only at h1 h2 hb ⊢
  have hb0 := ((Below.refl w.heap.size w).alloc (Nat.le_refl _) (.cells #[.int .i64 ph, .int .i64 val, v1] 60)).alloc (by simp) (.cells #[.int .i64 ph, .int .i64 val, v2] 75)
  have HC := Lib.hid (equalI_calls v1 v2 l _ (h1.below hb0) (h2.below hb0) hb)
  have HB := Lib.hid hb0
  obtain ⟨a1, k1, rfl⟩ := SlI.form h1
  obtain ⟨a2, k2, rfl⟩ := SlI.form h2
  generalize l.length = n at *
  clear h1 h2 hb hb0
  go_enter Try.func28, Try.ntmps28
  go_wp2_with fail
  refine HC.out.mono ?_
  rintro e w5 ⟨rfl, hb5⟩
  go_wp2_with fail
  go_ret
  exact ⟨rfl, HB.out.then hb5⟩
end Go.Proofs.Ytddajaikighjlaa
