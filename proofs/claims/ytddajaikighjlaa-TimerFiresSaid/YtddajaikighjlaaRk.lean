/- What the law TimerRuns compares what fired with: fired 20, slices.EqualFunc 61, closure 62. -/
import Derived.Test.YtddajaikighjlaaRa
import Derived.Test.YtddajaikighjlaaFx
namespace Go.Proofs.Ytddajaikighjlaa
open Go.RowKit Go.Sl Go.Mp Go.Wh

set_option maxRecDepth 100000 in
theorem eq153 (w : World) (a b c d : Int) : (binOp .eql 153 (.agg #[.int .i64 a, .int .i64 b]) (.agg #[.int .i64 c, .int .i64 d])).run Try.prog w = .ok (.bool (a == c && b == d)) w := by
  rw [run_eql_struct, run_equalIn_agg w 9999 153 _ _ (by simp only [Program.fieldsOf, Try.underlying153]) Try.stoodInHeld153]
  by_cases h1 : a = c <;> by_cases h2 : b = d <;> simp [h1, h2, Op.eqFields, Program.fieldsOf, Try.underlying153, part, run_equalIn_int w 9998 3 .i64 .i64 _ _ Try.underlying3, run_equalIn_int w 9998 2 .i64 .i64 _ _ Try.underlying2]
theorem cf62 (args : Array Value) (w : World) : (callFunc 62 args).run Try.prog w = .ok (.enter 62 args) w := by kernel_rfl
theorem f62_calls (a b : Int) (w : World) : Calls Try.prog 62 #[.agg #[.int .i64 a, .int .i64 b], .agg #[.int .i64 a, .int .i64 b]] w fun e w' => e = .returned (.bool true) ∧ Below w.heap.size w w' := by
  have heq := eq153
  have hb := Lib.hid (((Below.refl w.heap.size w).alloc (Nat.le_refl _) (.cells #[.int .i64 a, .int .i64 b] 33)).alloc (by simp) (.cells #[.int .i64 a, .int .i64 b] 153))
  go_enter Try.func62, Try.ntmps62
  go_wp2
  go_ret
  exact ⟨rfl, hb.out⟩
/-- A slice of those that fired. -/
def SlF (w : World) (v : Value) (L : List (Int × Int)) : Prop := SlV w v L.length 2 (L.flatMap encF)
theorem SlF.at {w : World} {v : Value} {L : List (Int × Int)} (h : SlF w v L) {k : Nat} {a b : Int} (hk : L[k]? = some (a, b)) : ∃ g o cap, v = .slice (some ⟨g, o, none⟩) L.length cap ∧ w.cell? ⟨g, o + k * 2, none⟩ = some (.int .i64 a) ∧ w.cell? ⟨g, o + k * 2 + 1, none⟩ = some (.int .i64 b) := by
  have hlt := (List.getElem?_eq_some_iff.1 hk).1
  rcases h.2 with ⟨h0, -⟩ | ⟨h0, g, o, cap, rfl, hc⟩
  · omega
  · refine ⟨g, o, cap, rfl, hc (k * 2) _ ?_, ?_⟩
    · rw [flat_get encF 2 encF_len (by omega), show k * 2 / 2 = k by omega, show k * 2 % 2 = 0 by omega, hk]
      rfl
    · rw [Nat.add_assoc]
      refine hc (k * 2 + 1) _ ?_
      rw [flat_get encF 2 encF_len (by omega), show (k * 2 + 1) / 2 = k by omega, show (k * 2 + 1) % 2 = 1 by omega, hk]
      rfl

set_option maxRecDepth 100000 in
set_option maxHeartbeats 1000000 in
theorem equal61_calls (v1 v2 : Value) (L : List (Int × Int)) (w : World) (h1 : SlF w v1 L) (h2 : SlF w v2 L) (hb1 : L.length ≤ 1000000000000) :
    Calls Try.prog 61 #[v1, v2, .func (.func 62) #[] #[]] w fun e w' => e = .returned (.bool true) ∧ Below w.heap.size w w' := by
  obtain ⟨a1, k1, rfl⟩ := SlV.form h1
  obtain ⟨a2, k2, rfl⟩ := SlV.form h2
  have H1 := Lib.hid h1
  have H2 := Lib.hid h2
  obtain ⟨n, hn⟩ : ∃ n, L.length = n := ⟨_, rfl⟩
  rw [hn] at hb1 ⊢
  have HN := Lib.hid hn
  have hcf := cf62
  clear h1 h2 hn
  go_enter Try.func61, Try.ntmps61
  go_wp2_with fail
  go_loopw [17] (fun i wr => ∃ kk : Nat, kk ≤ n ∧ i = .int .i64 (kk : Int) ∧ Below w.heap.size w wr) (fun i _ => n - (intOf i).toNat)
  case atStart => exact ⟨0, Nat.zero_le _, rfl, Below.refl _ _⟩
  case round =>
    obtain ⟨kk, hk, rfl, hbel⟩ := hrel
    by_cases hlt : kk < n
    · obtain ⟨⟨a, b⟩, e1⟩ : ∃ p, L[kk]? = some p := ⟨_, List.getElem?_eq_getElem (by have := HN.out; omega)⟩
      obtain ⟨g1, o1, c1, hf1, x1, y1⟩ := H1.out.at e1
      obtain ⟨g2, o2, c2, hf2, x2, y2⟩ := H2.out.at e1
      rw [HN.out] at hf1 hf2
      simp only [Value.slice.injEq] at hf1 hf2
      obtain ⟨rfl, -, rfl⟩ := hf1
      obtain ⟨rfl, -, rfl⟩ := hf2
      replace x1 := hbel.at_cell x1
      replace y1 := hbel.at_cell y1
      replace x2 := hbel.at_cell x2
      replace y2 := hbel.at_cell y2
      have l1 := World.block_lt_of_cell? wr _ x1
      have l2 := World.block_lt_of_cell? wr _ x2
      have n1 : ¬ g1 = wr.heap.size := Nat.ne_of_lt l1
      have n2 : ¬ g2 = wr.heap.size := Nat.ne_of_lt l2
      have n3 : ¬ g2 = wr.heap.size + 1 := Nat.ne_of_lt (Nat.lt_succ_of_lt l2)
      have HB := Lib.hid hbel
      clear e1 hbel
      have hlt' : (kk : Int) < (n : Int) := by omega
      go_wp2_with fail
      refine (f62_calls a b _).mono ?_
      rintro e w5 ⟨rfl, hb5⟩
      have B5 := Lib.hid (((HB.out.alloc HB.out.size (.cells #[.int .i64 a, .int .i64 b] 33)).alloc (by have := HB.out.size; simp; omega) (.cells #[.int .i64 a, .int .i64 b] 153)).then hb5)
      clear hb5
      go_wp2_with fail
      go_roundw
      case rel => exact ⟨kk + 1, by omega, by go_num, B5.out⟩
      case measure => simp [intOf]; omega
    · have hke : kk = n := by omega
      subst hke
      have hlt' : ¬ (kk : Int) < (kk : Int) := by omega
      go_wp2_with fail
      go_ret
      exact ⟨rfl, hbel⟩
theorem fired_calls (v1 v2 : Value) (L : List (Int × Int)) (w : World) (h1 : SlF w v1 L) (h2 : SlF w v2 L) (hb1 : L.length ≤ 1000000000000) :
    Calls Try.prog 20 #[v1, v2] w fun e w' => e = .returned (.bool true) ∧ Below w.heap.size w w' := by
  have hc := equal61_calls v1 v2 L w h1 h2 hb1
  have HC := Lib.hid hc
  clear h1 h2 hc
  go_enter Try.func20, Try.ntmps20
  go_wp2_with fail
  refine HC.out.mono ?_
  rintro e w5 ⟨rfl, hb5⟩
  go_wp2_with fail
  go_ret
  exact ⟨rfl, hb5⟩
end Go.Proofs.Ytddajaikighjlaa
