/- Set 12, Slot 22, Cancel 18, Now 44. -/
import Derived.Test.YtddajaikighjlaaTa
import Derived.Test.YtddajaikighjlaaPu
namespace Go.Proofs.Ytddajaikighjlaa
open Go.RowKit Go.Mp Go.Wh

theorem putS_ord (W : Wh) (t : Tm) : (putS W t).ord = W.ord := rfl
theorem putS_now (W : Wh) (t : Tm) : (putS W t).now = W.now := rfl

theorem look_tm {R : Refs} {w : World} {X : Nat} {W : Wh} (h : WhAt R w X W) (id : Int) : (Instr.lookup 136 (.map (some R.rt)) (.int .i64 id) true).run Try.prog w = .ok (.tuple #[tmV (getA W.tm id tm0).1, .bool (getA W.tm id tm0).2]) w := by
  have := run_lookup (P := Try.prog) Try.underlying136 Try.underlying3 (z := tmV tm0) Try.zeroValue129 (Or.inr ⟨_, rfl, h.mt⟩) id true
  rw [mv_got] at this
  exact this
theorem look_pl {R : Refs} {w : World} {X : Nat} {W : Wh} (h : WhAt R w X W) (id : Int) : (Instr.lookup 137 (.map (some R.rp)) (.int .i64 id) true).run Try.prog w = .ok (.tuple #[plV (getA W.pl id (0, 0)).1, .bool (getA W.pl id (0, 0)).2]) w := by
  have := run_lookup (P := Try.prog) Try.underlying137 Try.underlying3 (z := plV (0, 0)) Try.zeroValue159 (Or.inr ⟨_, rfl, h.mp⟩) id true
  rw [mv_got] at this
  exact this
theorem len_tm {R : Refs} {w : World} {X : Nat} {W : Wh} (h : WhAt R w X W) (ty : TypeId) : (Builtin.len_ #[136] ty #[.map (some R.rt)]).run Try.prog w = .ok (.int .i64 (W.tm.length : Int)) w := by
  have := run_len (P := Try.prog) (w := w) Try.underlying136 (Or.inr ⟨_, rfl, h.mt⟩) ty
  rw [mv_len] at this
  exact this

set_option maxHeartbeats 1000000 in
set_option maxRecDepth 100000 in
theorem set_calls (R : Refs) (X : Nat) (W : Wh) (id when iv : Int) (w : World) (h : WhAt R w X W) (h1 : 0 ≤ W.now) (h2 : 0 ≤ W.ord ∧ W.ord < 4611686018427387904) :
    Calls Try.prog 12 #[.pointer (some ⟨X, 0, none⟩), .int .i64 id, .int .i64 when, .int .i64 iv] w fun e w' => e = .returned (.int .i64 (setS W id when iv).2) ∧ ∃ R', WhAt R' w' X (setS W id when iv).1 ∧ Step R R' X w w' := by
  have H := Lib.hid h
  have c0 := h.c0
  have c1 := h.c1
  have ct := h.ct
  have hX : X < w.heap.size := h.foot_lt (Or.inl rfl)
  have hl := look_tm h id
  have qT : ∀ (w : World) (r : Option Nat), (binOp .eql 136 (.map r) (.map none)).run Try.prog w = .ok (.bool r.isNone) w := fun w r => run_eql_map_nil w _ _ _ r Try.underlying136
  obtain ⟨u, hu⟩ : ∃ u, (getA W.tm id tm0).1 = u := ⟨_, rfl⟩
  obtain ⟨b, hb⟩ : ∃ b, (getA W.tm id tm0).2 = b := ⟨_, rfl⟩
  rw [hu, hb] at hl
  obtain ⟨n, hn⟩ : ∃ n, W.tm.length = n := ⟨_, rfl⟩
  obtain ⟨now, hnow⟩ : ∃ n, W.now = n := ⟨_, rfl⟩
  obtain ⟨ord, hord⟩ : ∃ n, W.ord = n := ⟨_, rfl⟩
  have eS : ∀ r, r = setS W id when iv → r = if id < 0 ∨ iv < 0 then (W, 1) else if 1099511627776 < when ∨ 1099511627776 < iv then (W, 3) else if b then (W, 6) else if (n : Int) = 1000 then (W, 8) else if when ≤ now then (W, 330) else ({ putS W ⟨id, when, iv, ord⟩ with ord := ord + 1 }, 0) := by
    intro r hr; rw [hr]; unfold setS; rw [hb, hn, hnow, hord]; simp only [show ((n : Int) = 1000) = (n = 1000) from propext ⟨fun h => by omega, fun h => by omega⟩]
  obtain ⟨r, hr⟩ : ∃ r, setS W id when iv = r := ⟨_, rfl⟩
  replace eS := eS r hr.symm
  rw [hr]
  have ES := Lib.hid eS
  rw [hnow] at c0 h1
  rw [hord] at c1 h2
  obtain ⟨ui, uw, uv, uo⟩ := u
  simp only [show tmV ⟨ui, uw, uv, uo⟩ = .agg #[.int .i64 ui, .int .i64 uw, .int .i64 uv, .int .i64 uo] from rfl] at hl
  have hba : Below w.heap.size w (w.alloc (.cells #[.int .i64 ui, .int .i64 uw, .int .i64 uv, .int .i64 uo] 129)) := (Below.refl _ _).alloc (Nat.le_refl _) _
  have H1 := h.below hba
  have hlen := len_tm H1 3
  rw [hn] at hlen
  have HB := Lib.hid hba
  have HH1 := Lib.hid H1
  clear h eS hr hb hu hba H1
  go_enter Try.func12, Try.ntmps12
  go_wp2_with (go_at_call 55; refine (put_calls R X W ⟨id, when, iv, ord⟩ _ HH1.out (by rw [hnow]; omega) (by simp only; omega)).mono ?_; rintro e w' ⟨rfl, R', H', st'⟩; have c1' := H'.c1; rw [putS_ord, hord] at c1'; have f1 := H'.free 1; have g1 : IntKind.i64.wrap (ord + 1) = ord + 1 := IntWalk.i64_in _ (by omega); have H9 := Lib.hid (H'.setOrd (ord + 1)); have ST := Lib.hid (((Step.of_below HB.out).trans st').trans (Step.of_cell (j := 1) (.int .i64 (ord + 1)))); clear H' st')
  all_goals
    go_ret
    have e := ES.out
    (repeat' split at e) <;> first
      | (exfalso; omega)
      | (rw [e]; exact ⟨rfl, R, H.out, Step.refl _ _ _⟩)
      | (rw [e]; exact ⟨rfl, R, HH1.out, Step.of_below HB.out⟩)
      | (rw [e]; exact ⟨rfl, R', H9.out, ST.out⟩)
      | (exfalso; simp_all; done)
end Go.Proofs.Ytddajaikighjlaa
