/- take 59. -/
import Derived.Test.YtddajaikighjlaaB
import Derived.Test.YtddajaikighjlaaWs
import Derived.Deep.CutRange
import Derived.Deep.RegionHeld3
import Derived.Deep.RegionHeldLaw
namespace Go.Proofs.Ytddajaikighjlaa
open Go.RowKit Go.Mp Go.Wh

theorem size129 : (Try.prog.info? 129).map (·.size) = some 4 := by kernel_rfl
theorem run_delete_nil {P : Program} {w : World} {t k e : TypeId} (ht : P.underlying t = some (.map k e)) (hk : P.underlying k = some (.int .i64)) (x : Int) (ty : TypeId) :
    (Builtin.delete_ #[t, k] ty #[.map none, .int .i64 x]).run P w = .ok (.tuple #[]) w := by
  unfold Builtin.delete_
  simp [Sem.run_bind, run_underlying ht, Result.andThen, checkKey_int hk]

theorem put4_heap {w : World} {R t : Nat} {a b c d : Value} (x0 x1 x2 x3 : Value) (hR : w.heap[R]? = some (.cells #[a, b, c, d] t (0, 0))) : ((((w.setCell ⟨R, 0, none⟩ x0).setCell ⟨R, 1, none⟩ x1).setCell ⟨R, 2, none⟩ x2).setCell ⟨R, 3, none⟩ x3).heap[R]? = some (.cells #[x0, x1, x2, x3] t (0, 0)) := by
  have h1 := heap_setCell_same w R 0 _ t x0 hR
  have h2 := heap_setCell_same _ R 1 _ t x1 h1
  have h3 := heap_setCell_same _ R 2 _ t x2 h2
  have h4 := heap_setCell_same _ R 3 _ t x3 h3
  rw [h4]
  rfl
theorem set_self {α : Type} {l : List (List α)} {i : Nat} (hi : i < l.length) (h : l.getD i [] = []) : l.set i [] = l := by
  apply List.ext_getElem?
  intro j
  rw [List.getElem?_set]
  by_cases e : i = j
  · subst e
    rw [List.getD, List.getElem?_eq_getElem hi] at h
    simp only [Option.getD_some] at h
    rw [if_pos rfl, if_pos hi, List.getElem?_eq_getElem hi, h]
  · rw [if_neg e]
theorem step_delete_nil {P : Program} {ops : Array Oper} {o : Oper} {a : Act} {w : World} {K : Act → World → Prop} {Q : Exit → Act → World → Prop} {E : Prop} (hg : o.guard = none) (m x : Operand) (t k e : TypeId) (ht : P.underlying t = some (.map k e)) (hk : P.underlying k = some (.int .i64)) (hop : o.op = Op.call { callee := Callee.builtin Builtin.delete, args := #[m, x], argTypes := #[t, k] }) (hm : a.eval m = .map none) (xi : Int) (hx : a.eval x = .int .i64 xi)
    (hK : K (a.put o.dst (.tuple #[])) w) : if Region.wanted o (yielded ops a.tmps) = true then Oper.wp P o a w K Q else E := by
  have hw : Region.wanted o (yielded ops a.tmps) = true := by simp [Region.wanted, hg]
  rw [if_pos hw]
  have hrun := run_delete_nil (P := P) (w := w) ht hk xi o.type
  unfold Oper.wp
  simp [execOp, hop, resolve, invoke, builtin, hm, hx, hrun, Result.andThen]
  exact hK
set_option maxRecDepth 100000 in
set_option maxHeartbeats 1000000 in
theorem take_calls (R : Refs) (X : Nat) (W : Wh) (id : Int) (w : World) (h : WhAt R w X W) (k s : Nat) (hk : k < 7) (hs : s < 64) (hp : (getA W.pl id (0, 0)).1 = ((k : Int), (s : Int))) :
    Calls Try.prog 59 #[.pointer (some ⟨X, 0, none⟩), .int .i64 id] w fun e w' => e = .returned (tmV (takeS W id).2) ∧ WhAt R w' X (takeS W id).1 ∧ Step R R X w w' := by
  have H := Lib.hid h
  have c0 := h.ct
  have c1 := h.cp
  have hX : X < w.heap.size := h.foot_lt (Or.inl rfl)
  clear h
  go_enter Try.func59, Try.ntmps59
  have hlT : ∀ w', MapI w' R.rt (mv tmV W.tm) → (Instr.lookup 136 (.map (some R.rt)) (.int .i64 id) false).run Try.prog w' = .ok (tmV (takeS W id).2) w' := by
    intro w' hm
    have := run_lookup (P := Try.prog) Try.underlying136 Try.underlying3 (z := tmV tm0) Try.zeroValue129 (Or.inr ⟨_, rfl, hm⟩) id false
    rw [mv_got] at this
    exact this
  have hlP : ∀ w', MapI w' R.rp (mv plV W.pl) → (Instr.lookup 137 (.map (some R.rp)) (.int .i64 id) false).run Try.prog w' = .ok (plV ((k : Int), (s : Int))) w' := by
    intro w' hm
    have := run_lookup (P := Try.prog) Try.underlying137 Try.underlying3 (z := plV (0, 0)) Try.zeroValue159 (Or.inr ⟨_, rfl, hm⟩) id false
    rw [mv_got, hp] at this
    exact this
  generalize (takeS W id).2 = t at hlT ⊢
  obtain ⟨tid, twhen, tiv, tord⟩ := t
  simp only [show tmV ⟨tid, twhen, tiv, tord⟩ = .agg #[.int .i64 tid, .int .i64 twhen, .int .i64 tiv, .int .i64 tord] from rfl] at hlT ⊢
  simp only [show plV ((k : Int), (s : Int)) = .agg #[.int .i64 (k : Int), .int .i64 (s : Int)] from rfl] at hlP
  go_upto_region 1 with (fail)
  obtain ⟨w1, hw1⟩ : ∃ w1, w.alloc (.cells #[.int .i64 0, .int .i64 0, .int .i64 0, .int .i64 0] 129) = w1 := ⟨_, rfl⟩
  have hb1 : Below w.heap.size w w1 := by rw [← hw1]; exact (Below.refl _ _).alloc (Nat.le_refl _) _
  have hs1 : w1.heap.size = w.heap.size + 1 := by rw [← hw1]; simp
  have hZ : w1.heap[w.heap.size]? = some (.cells #[.int .i64 0, .int .i64 0, .int .i64 0, .int .i64 0] 129 (0, 0)) := by rw [← hw1]; exact heap_alloc_new _ _
  rw [hw1]
  have H1 := H.out.below hb1
  have hSB : ∀ w', Below w1.heap.size w1 w' → w'.cell? ⟨X, 450, none⟩ = some (.map (some R.rt)) ∧ w'.cell? ⟨X, 451, none⟩ = some (.map (some R.rp)) ∧ (Instr.lookup 136 (.map (some R.rt)) (.int .i64 id) false).run Try.prog w' = .ok (.agg #[.int .i64 tid, .int .i64 twhen, .int .i64 tiv, .int .i64 tord]) w' ∧ (Instr.lookup 137 (.map (some R.rp)) (.int .i64 id) false).run Try.prog w' = .ok (.agg #[.int .i64 (k : Int), .int .i64 (s : Int)]) w' := fun w' hb => ⟨(H1.below hb).ct, (H1.below hb).cp, hlT _ (H1.below hb).mt, hlP _ (H1.below hb).mp⟩
  refine wp_region_held_drew (S := fun w' => w'.cell? ⟨X, 450, none⟩ = some (.map (some R.rt)) ∧ w'.cell? ⟨X, 451, none⟩ = some (.map (some R.rp)) ∧ (Instr.lookup 136 (.map (some R.rt)) (.int .i64 id) false).run Try.prog w' = .ok (.agg #[.int .i64 tid, .int .i64 twhen, .int .i64 tiv, .int .i64 tord]) w' ∧ (Instr.lookup 137 (.map (some R.rp)) (.int .i64 id) false).run Try.prog w' = .ok (.agg #[.int .i64 (k : Int), .int .i64 (s : Int)]) w') (by kernel_rfl) (hSB _ (below_drew _ _)) (fun hHeld => ?_)
  refine wpAnyH_take (i := 0) (v := ?v0) rfl (by kernel_rfl) (by kernel_rfl) (by kernel_rfl) (fun _ _ _ h => h) (Or.inl ⟨by rfl, ?y0⟩) hHeld ?r0
  case y0 => (intro w hSw; (try dsimp only at hSw); go_simp; try with_reducible rfl)
  refine wpAnyH_take (i := 1) (v := ?v1) rfl (by kernel_rfl) (by kernel_rfl) (by kernel_rfl) (fun _ _ _ h => h) (Or.inl ⟨by rfl, ?y1⟩) hHeld ?r1
  case y1 => (intro w hSw; (try dsimp only at hSw); go_simp; try with_reducible rfl)
  refine wpAnyH_take (i := 2) (v := ?v2) rfl (by kernel_rfl) (by kernel_rfl) (by kernel_rfl) (fun _ _ _ h => h) (Or.inl ⟨by rfl, ?y2⟩) hHeld ?r2
  case y2 => (intro w hSw; (try dsimp only at hSw); go_simp; try with_reducible rfl)
  refine wpAnyH_take (i := 3) (v := ?v3) rfl (by kernel_rfl) (by kernel_rfl) (by kernel_rfl) (fun _ _ _ h => h) (Or.inl ⟨by rfl, ?y3⟩) hHeld ?r3
  case y3 => (intro w hSw; (try dsimp only at hSw); go_simp; try with_reducible rfl)
  refine wpAnyH_take (i := 4) (v := ?v4) rfl (by kernel_rfl) (by kernel_rfl) (by kernel_rfl) (fun _ _ _ h => h) (Or.inl ⟨by rfl, ?y4⟩) hHeld ?r4
  case y4 => (intro w hSw; (try dsimp only at hSw); go_simp; try with_reducible rfl)
  refine wpAnyH_take (i := 5) (v := ?v5) rfl (by kernel_rfl) (by kernel_rfl) (by kernel_rfl) (fun _ _ _ h => h) (Or.inl ⟨by rfl, ?y5⟩) hHeld ?r5
  case y5 => (intro w hSw; (try dsimp only at hSw); go_simp; try with_reducible rfl)
  refine wpAnyH_take (i := 6) (v := ?v6) rfl (by kernel_rfl) (by kernel_rfl) (by kernel_rfl) (fun _ _ _ h => h) (Or.inl ⟨by rfl, ?y6⟩) hHeld ?r6
  case y6 => (intro w hSw; (try dsimp only at hSw); go_simp; try with_reducible rfl)
  refine wpAnyH_take (i := 7) (v := ?v7) rfl (by kernel_rfl) (by kernel_rfl) (by kernel_rfl) (fun _ _ _ h => h) (Or.inl ⟨by rfl, ?y7⟩) hHeld ?r7
  case y7 => (intro w hSw; (try dsimp only at hSw); go_simp; try with_reducible rfl)
  refine wpAnyH_take (i := 8) (v := ?v8) rfl (by kernel_rfl) (by kernel_rfl) (by kernel_rfl) (fun _ _ _ h => h) (Or.inl ⟨by rfl, ?y8⟩) hHeld ?r8
  case y8 => (intro w hSw; (try dsimp only at hSw); go_simp; try with_reducible rfl)
  refine wpAnyH_take (i := 9) (v := ?v9) rfl (by kernel_rfl) (by kernel_rfl) (by kernel_rfl) (fun _ _ _ h => h) (Or.inl ⟨by rfl, ?y9⟩) hHeld ?r9
  case y9 => (intro w hSw; (try dsimp only at hSw); go_simp; try with_reducible rfl)
  refine wpAnyH_take (i := 10) (v := ?v10) rfl (by kernel_rfl) (by kernel_rfl) (by kernel_rfl) (fun _ _ _ h => h) (Or.inl ⟨by rfl, ?y10⟩) hHeld ?r10
  case y10 => (intro w hSw; (try dsimp only at hSw); go_simp; try with_reducible rfl)
  refine wpAnyH_take (i := 11) (v := ?v11) rfl (by kernel_rfl) (by kernel_rfl) (by kernel_rfl) (fun _ _ _ h => h) (Or.inl ⟨by rfl, ?y11⟩) hHeld ?r11
  case y11 => (intro w hSw; (try dsimp only at hSw); go_simp; try with_reducible rfl)
  refine wpAnyH_ready (rs := [12, 13]) (by kernel_rfl) (by simp) ?_
  refine AllReadyH.cons rfl (fun K hK => ?_) (AllReadyH.cons rfl (fun K hK => ?_) AllReadyH.nil)
  · go_simp
    refine hK.out _ _ (hSB _ (((Below.refl _ _).alloc (Nat.le_refl _) _).drew)) (fun hHeld => ?_)
    clear hK K
    refine wpAnyH_ready (rs := [13]) (by kernel_rfl) (by simp) ?_
    refine AllReadyH.cons rfl (fun K hK => ?_) AllReadyH.nil
    go_simp
    refine hK.out _ _ (hSB _ ((((Below.refl _ _).alloc (Nat.le_refl _) _).alloc (by simp) _).drew)) (fun hHeld => ?_)
    clear hK K
    refine wpAnyH_ready (rs := [14]) (by kernel_rfl) (by simp) ?_
    refine AllReadyH.cons rfl (fun K hK => ?_) AllReadyH.nil
    go_simp
    refine hK.out _ _ (hSB _ ((((Below.refl _ _).alloc (Nat.le_refl _) _).alloc (by simp) _).drew)) (fun hHeld => ?_)
    clear hK K
    refine wpAnyH_ready (rs := [15]) (by kernel_rfl) (by simp) ?_
    refine AllReadyH.cons rfl (fun K hK => ?_) AllReadyH.nil
    go_simp
    refine hK.out _ _ (hSB _ ((((Below.refl _ _).alloc (Nat.le_refl _) _).alloc (by simp) _).drew)) (fun hHeld => ?_)
    clear hK K
    refine wpAnyH_done (by kernel_rfl) ?_ _
    obtain ⟨w2, hw2⟩ : ∃ w2, ((w1.alloc (.cells #[.int .i64 tid, .int .i64 twhen, .int .i64 tiv, .int .i64 tord] 129)).alloc (.cells #[.int .i64 (k : Int), .int .i64 (s : Int)] 159)).drew = w2 := ⟨_, rfl⟩
    have hb2 : Below w1.heap.size w1 w2 := by rw [← hw2]; exact ((((Below.refl _ _).alloc (Nat.le_refl _) _).alloc (by simp) _).drew)
    have hA : w2.heap[w.heap.size + 1]? = some (.cells #[.int .i64 tid, .int .i64 twhen, .int .i64 tiv, .int .i64 tord] 129 (0, 0)) := by
      rw [← hw2, ← hs1]
      exact (Below.heap_alloc _ _ _ (by simp)).trans (heap_alloc_new _ _)
    have hB : w2.heap[w.heap.size + 1 + 1]? = some (.cells #[.int .i64 (k : Int), .int .i64 (s : Int)] 159 (0, 0)) := by
      rw [← hw2, ← hs1]
      exact by have := heap_alloc_new (w1.alloc (.cells #[.int .i64 tid, .int .i64 twhen, .int .i64 tiv, .int .i64 tord] 129)) (.cells #[.int .i64 (k : Int), .int .i64 (s : Int)] 159); rwa [World.size_alloc] at this
    rw [hw2]
    obtain ⟨A, hAe⟩ : ∃ A, w.heap.size + 1 = A := ⟨_, rfl⟩
    obtain ⟨B, hBe⟩ : ∃ B, w.heap.size + 1 + 1 = B := ⟨_, rfl⟩
    have hAl : w1.heap.size ≤ A := by omega
    have hBl : w1.heap.size ≤ B := by omega
    rw [hBe] at hB ⊢
    rw [hAe] at hA ⊢
    clear hw2 hAe hBe hHeld
    have hne : X ≠ B := by omega
    have H2 := H1.below hb2
    have b0 : w2.cell? ⟨B, 0, none⟩ = some (.int .i64 (k : Int)) := by simp [World.cell?, hB]
    have b1 : w2.cell? ⟨B, 1, none⟩ = some (.int .i64 (s : Int)) := by simp [World.cell?, hB]
    obtain ⟨i, hi⟩ : ∃ i, k * 64 + s = i := ⟨_, rfl⟩
    have hi4 : i < 448 := by omega
    have hcs := H2.cs i hi4
    rw [← hi, ← Nat.add_assoc] at hcs
    rw [hi] at hcs
    have gk : (k : Int) < 7 := by omega
    have gs : (s : Int) < 64 := by omega
    have hZ2 := (hb2.block w.heap.size (by omega)).trans hZ
    have hst2 : Step R R X w w2 := Step.of_below (hb1.trans (hb2.mono (by omega)))
    have hbB : B < w2.heap.size := (Array.getElem?_eq_some_iff.1 hB).1
    have hbA : A < w2.heap.size := (Array.getElem?_eq_some_iff.1 hA).1
    have hZA : w.heap.size ≠ A := by omega
    have hAX : A ≠ X := by omega
    have hZX : w.heap.size ≠ X := by omega
    clear hlT hlP hSB hZ
    have H2 := Lib.hid H2
    cases ho : R.sl i
    case' none =>
      rw [ho] at hcs
      go_upto_region 2 with (fail)
      go_region_held_law (fun w' => w'.cell? ⟨B, 0, none⟩ = some (.int .i64 (k : Int)) ∧ w'.cell? ⟨B, 1, none⟩ = some (.int .i64 (s : Int)) ∧ w'.cell? ⟨X, 2 + k * 64 + s, none⟩ = some (.map none)) (go_keep) (refine step_delete_nil rfl (.tmp 28) (.tmp 29) 138 3 4 Try.underlying138 Try.underlying3 rfl rfl id rfl ?_)
      go_upto_region 3 with (fail)
      obtain ⟨w3, hw3⟩ : ∃ w3, w2.drew = w3 := ⟨_, rfl⟩
      have e0 : W.sl.getD i [] = [] := by have := H2.out.ms i hi4; rw [ho] at this; exact this
      have e1 : W.sl.set i (delA (W.sl.getD i []) id) = W.sl := by
        rw [e0]
        exact set_self (by rw [H2.out.len]; omega) e0
      have H3 : WhAt R w3 X { W with sl := W.sl.set i (delA (W.sl.getD i []) id) } := by rw [e1, ← hw3]; exact H2.out.below (below_drew _ _)
      have hst3 : Step R R X w w3 := by rw [← hw3]; exact hst2.trans (Step.of_below (below_drew _ _))
      have hA3 : w3.heap[A]? = some (.cells #[.int .i64 tid, .int .i64 twhen, .int .i64 tiv, .int .i64 tord] 129 (0, 0)) := by rw [← hw3]; exact hA
      have hZ3 : w3.heap[w.heap.size]? = some (.cells #[.int .i64 0, .int .i64 0, .int .i64 0, .int .i64 0] 129 (0, 0)) := by rw [← hw3]; exact hZ2
      rw [hw3]
      clear hw3 e0 e1
    case' some r =>
      rw [ho] at hcs
      have hms := (H2.out.below (below_drew _ _)).slotAt hi4 ho
      have hBr : B ≠ r := fun e => hms.ne_cells (show w2.drew.heap[B]? = _ from hB) e.symm
      have hAr : A ≠ r := fun e => hms.ne_cells (show w2.drew.heap[A]? = _ from hA) e.symm
      have hZr : w.heap.size ≠ r := fun e => hms.ne_cells (show w2.drew.heap[w.heap.size]? = _ from hZ2) e.symm
      have hXr : X ≠ r := H2.out.slot_ne hi4 ho
      have d0 : w2.drew.cell? ⟨B, 0, none⟩ = some (.int .i64 (k : Int)) := b0
      have d1 : w2.drew.cell? ⟨B, 1, none⟩ = some (.int .i64 (s : Int)) := b1
      have d2 : w2.drew.cell? ⟨X, 2 + k * 64 + s, none⟩ = some (.map (some r)) := hcs
      go_upto_region 2 with (fail)
      go_region_held_law (fun w' => w'.cell? ⟨B, 0, none⟩ = some (.int .i64 (k : Int)) ∧ w'.cell? ⟨B, 1, none⟩ = some (.int .i64 (s : Int)) ∧ w'.cell? ⟨X, 2 + k * 64 + s, none⟩ = some (.map (some r))) (first | exact ⟨d0, d1, d2⟩ | exact ⟨grown_cell hg3 d0 hBr, grown_cell hg3 d1 hBr, grown_cell hg3 d2 hXr⟩) ((refine step_delete_i rfl (.tmp 28) (.tmp 29) 138 3 4 Try.underlying138 Try.underlying3 rfl r _ rfl hms id rfl ?_; intro w3 hm3 hg3 hz3))
      go_upto_region 3 with (fail)
      have H3 := (H2.out.below (below_drew _ _)).turnS hi4 ho (by rw [← mv_del]; exact hm3) hg3
      have hst3 := hst2.trans ((Step.of_below (below_drew _ _)).trans (Step.of_grown hg3 (Foot.slot hi4 ho)))
      have hA3 : w3.heap[A]? = some (.cells #[.int .i64 tid, .int .i64 twhen, .int .i64 tiv, .int .i64 tord] 129 (0, 0)) := (hg3.block A hbA (fun e => hAr (by simpa using e))).trans hA
      have hZ3 : w3.heap[w.heap.size]? = some (.cells #[.int .i64 0, .int .i64 0, .int .i64 0, .int .i64 0] 129 (0, 0)) := (hg3.block w.heap.size (by show w.heap.size < w2.heap.size; omega) (fun e => hZr (by simpa using e))).trans hZ2
      clear hms hBr hAr hZr hXr d0 d1 d2 hm3 hg3 hz3
    all_goals
      clear hA hB hZ2 hst2 H2 b0 b1 hcs H1 hb2
      have f0 := H3.ct
      have hAt : A ≠ R.rt := fun e => H3.mt.ne_cells hA3 e.symm
      have hZt : w.heap.size ≠ R.rt := fun e => H3.mt.ne_cells hZ3 e.symm
      have hAp : A ≠ R.rp := fun e => H3.mp.ne_cells hA3 e.symm
      have hZp : w.heap.size ≠ R.rp := fun e => H3.mp.ne_cells hZ3 e.symm
      have hbA : A < w3.heap.size := (Array.getElem?_eq_some_iff.1 hA3).1
      have hbZ : w.heap.size < w3.heap.size := (Array.getElem?_eq_some_iff.1 hZ3).1
      obtain ⟨w4, run4, hm4, hg4, hz4⟩ := run_delete Try.underlying136 Try.underlying3 H3.mt id 0
      have H4 := H3.turnT (by rw [← mv_del]; exact hm4) hg4
      obtain ⟨w5, run5, hm5, hg5, hz5⟩ := run_delete Try.underlying137 Try.underlying3 H4.mp id 0
      have H5 := Lib.hid (H4.turnP (by rw [← mv_del]; exact hm5) hg5)
      have hst5 := Lib.hid (hst3.trans ((Step.of_grown hg4 (Or.inr (Or.inl rfl))).trans (Step.of_grown hg5 (Or.inr (Or.inr (Or.inl rfl))))))
      have f1 := H4.cp
      have hA5 := (hg5.block A (by omega) (fun e => hAp (by simpa using e))).trans ((hg4.block A hbA (fun e => hAt (by simpa using e))).trans hA3)
      have hZ5 := (hg5.block w.heap.size (by omega) (fun e => hZp (by simpa using e))).trans ((hg4.block w.heap.size hbZ (fun e => hZt (by simpa using e))).trans hZ3)
      have a0 : w5.cell? ⟨A, 0, none⟩ = some (.int .i64 tid) := by simp [World.cell?, hA5]
      have a1 : w5.cell? ⟨A, 1, none⟩ = some (.int .i64 twhen) := by simp [World.cell?, hA5]
      have a2 : w5.cell? ⟨A, 2, none⟩ = some (.int .i64 tiv) := by simp [World.cell?, hA5]
      have a3 : w5.cell? ⟨A, 3, none⟩ = some (.int .i64 tord) := by simp [World.cell?, hA5]
      have z0 : w5.cell? ⟨w.heap.size, 0, none⟩ = some (.int .i64 0) := by simp [World.cell?, hZ5]
      have z1 : w5.cell? ⟨w.heap.size, 1, none⟩ = some (.int .i64 0) := by simp [World.cell?, hZ5]
      have z2 : w5.cell? ⟨w.heap.size, 2, none⟩ = some (.int .i64 0) := by simp [World.cell?, hZ5]
      have z3 : w5.cell? ⟨w.heap.size, 3, none⟩ = some (.int .i64 0) := by simp [World.cell?, hZ5]
      have zf : ∀ j, w5.frozen? ⟨w.heap.size, j, none⟩ = false := fun j => by simp [World.frozen?, hZ5]
      clear hm4 hm5 hg4 hg5 H3 H4 hst3 hA3 hA5 hZ3
      go_wp2
      have hR := put4_heap (.int .i64 tid) (.int .i64 twhen) (.int .i64 tiv) (.int .i64 tord) hZ5
      have hnf := H5.out.apart hZ5 hZX
      have H9 := (((H5.out.put (a := ⟨w.heap.size, 0, none⟩) hnf (.int .i64 tid)).put (a := ⟨w.heap.size, 1, none⟩) hnf (.int .i64 twhen)).put (a := ⟨w.heap.size, 2, none⟩) hnf (.int .i64 tiv)).put (a := ⟨w.heap.size, 3, none⟩) hnf (.int .i64 tord)
      have hst9 := (((hst5.out.put (a := ⟨w.heap.size, 0, none⟩) (Nat.le_refl _) (.int .i64 tid)).put (a := ⟨w.heap.size, 1, none⟩) (Nat.le_refl _) (.int .i64 twhen)).put (a := ⟨w.heap.size, 2, none⟩) (Nat.le_refl _) (.int .i64 tiv)).put (a := ⟨w.heap.size, 3, none⟩) (Nat.le_refl _) (.int .i64 tord)
      refine bodyPost_ret (results_cell_row rfl _ _ w.heap.size 129 _ (0, 0) _ rfl hR Try.underlying129 rfl size129) rfl ?_
      refine ⟨rfl, ?_, hst9⟩
      have eW : (takeS W id).1 = { W with sl := W.sl.set i (delA (W.sl.getD i []) id), tm := delA W.tm id, pl := delA W.pl id } := by
        unfold takeS
        simp only
        rw [hp]
        simp only
        rw [show ((k : Int) * 64 + (s : Int)).toNat = i by omega]
      rw [eW]
      exact H9
  · go_simp
    refine hK.out _ _ (hSB _ (((Below.refl _ _).alloc (Nat.le_refl _) _).drew)) (fun hHeld => ?_)
    clear hK K
    refine wpAnyH_ready (rs := [12]) (by kernel_rfl) (by simp) ?_
    refine AllReadyH.cons rfl (fun K hK => ?_) AllReadyH.nil
    go_simp
    refine hK.out _ _ (hSB _ ((((Below.refl _ _).alloc (Nat.le_refl _) _).alloc (by simp) _).drew)) (fun hHeld => ?_)
    clear hK K
    refine wpAnyH_ready (rs := [14]) (by kernel_rfl) (by simp) ?_
    refine AllReadyH.cons rfl (fun K hK => ?_) AllReadyH.nil
    go_simp
    refine hK.out _ _ (hSB _ ((((Below.refl _ _).alloc (Nat.le_refl _) _).alloc (by simp) _).drew)) (fun hHeld => ?_)
    clear hK K
    refine wpAnyH_ready (rs := [15]) (by kernel_rfl) (by simp) ?_
    refine AllReadyH.cons rfl (fun K hK => ?_) AllReadyH.nil
    go_simp
    refine hK.out _ _ (hSB _ ((((Below.refl _ _).alloc (Nat.le_refl _) _).alloc (by simp) _).drew)) (fun hHeld => ?_)
    clear hK K
    refine wpAnyH_done (by kernel_rfl) ?_ _
    obtain ⟨w2, hw2⟩ : ∃ w2, ((w1.alloc (.cells #[.int .i64 (k : Int), .int .i64 (s : Int)] 159)).alloc (.cells #[.int .i64 tid, .int .i64 twhen, .int .i64 tiv, .int .i64 tord] 129)).drew = w2 := ⟨_, rfl⟩
    have hb2 : Below w1.heap.size w1 w2 := by rw [← hw2]; exact ((((Below.refl _ _).alloc (Nat.le_refl _) _).alloc (by simp) _).drew)
    have hA : w2.heap[w.heap.size + 1 + 1]? = some (.cells #[.int .i64 tid, .int .i64 twhen, .int .i64 tiv, .int .i64 tord] 129 (0, 0)) := by
      rw [← hw2, ← hs1]
      exact by have := heap_alloc_new (w1.alloc (.cells #[.int .i64 (k : Int), .int .i64 (s : Int)] 159)) (.cells #[.int .i64 tid, .int .i64 twhen, .int .i64 tiv, .int .i64 tord] 129); rwa [World.size_alloc] at this
    have hB : w2.heap[w.heap.size + 1]? = some (.cells #[.int .i64 (k : Int), .int .i64 (s : Int)] 159 (0, 0)) := by
      rw [← hw2, ← hs1]
      exact (Below.heap_alloc _ _ _ (by simp)).trans (heap_alloc_new _ _)
    rw [hw2]
    obtain ⟨A, hAe⟩ : ∃ A, w.heap.size + 1 + 1 = A := ⟨_, rfl⟩
    obtain ⟨B, hBe⟩ : ∃ B, w.heap.size + 1 = B := ⟨_, rfl⟩
    have hAl : w1.heap.size ≤ A := by omega
    have hBl : w1.heap.size ≤ B := by omega
    rw [hAe] at hA ⊢
    rw [hBe] at hB ⊢
    clear hw2 hAe hBe hHeld
    have hne : X ≠ B := by omega
    have H2 := H1.below hb2
    have b0 : w2.cell? ⟨B, 0, none⟩ = some (.int .i64 (k : Int)) := by simp [World.cell?, hB]
    have b1 : w2.cell? ⟨B, 1, none⟩ = some (.int .i64 (s : Int)) := by simp [World.cell?, hB]
    obtain ⟨i, hi⟩ : ∃ i, k * 64 + s = i := ⟨_, rfl⟩
    have hi4 : i < 448 := by omega
    have hcs := H2.cs i hi4
    rw [← hi, ← Nat.add_assoc] at hcs
    rw [hi] at hcs
    have gk : (k : Int) < 7 := by omega
    have gs : (s : Int) < 64 := by omega
    have hZ2 := (hb2.block w.heap.size (by omega)).trans hZ
    have hst2 : Step R R X w w2 := Step.of_below (hb1.trans (hb2.mono (by omega)))
    have hbB : B < w2.heap.size := (Array.getElem?_eq_some_iff.1 hB).1
    have hbA : A < w2.heap.size := (Array.getElem?_eq_some_iff.1 hA).1
    have hZA : w.heap.size ≠ A := by omega
    have hAX : A ≠ X := by omega
    have hZX : w.heap.size ≠ X := by omega
    clear hlT hlP hSB hZ
    have H2 := Lib.hid H2
    cases ho : R.sl i
    case' none =>
      rw [ho] at hcs
      go_upto_region 2 with (fail)
      go_region_held_law (fun w' => w'.cell? ⟨B, 0, none⟩ = some (.int .i64 (k : Int)) ∧ w'.cell? ⟨B, 1, none⟩ = some (.int .i64 (s : Int)) ∧ w'.cell? ⟨X, 2 + k * 64 + s, none⟩ = some (.map none)) (go_keep) (refine step_delete_nil rfl (.tmp 28) (.tmp 29) 138 3 4 Try.underlying138 Try.underlying3 rfl rfl id rfl ?_)
      go_upto_region 3 with (fail)
      obtain ⟨w3, hw3⟩ : ∃ w3, w2.drew = w3 := ⟨_, rfl⟩
      have e0 : W.sl.getD i [] = [] := by have := H2.out.ms i hi4; rw [ho] at this; exact this
      have e1 : W.sl.set i (delA (W.sl.getD i []) id) = W.sl := by
        rw [e0]
        exact set_self (by rw [H2.out.len]; omega) e0
      have H3 : WhAt R w3 X { W with sl := W.sl.set i (delA (W.sl.getD i []) id) } := by rw [e1, ← hw3]; exact H2.out.below (below_drew _ _)
      have hst3 : Step R R X w w3 := by rw [← hw3]; exact hst2.trans (Step.of_below (below_drew _ _))
      have hA3 : w3.heap[A]? = some (.cells #[.int .i64 tid, .int .i64 twhen, .int .i64 tiv, .int .i64 tord] 129 (0, 0)) := by rw [← hw3]; exact hA
      have hZ3 : w3.heap[w.heap.size]? = some (.cells #[.int .i64 0, .int .i64 0, .int .i64 0, .int .i64 0] 129 (0, 0)) := by rw [← hw3]; exact hZ2
      rw [hw3]
      clear hw3 e0 e1
    case' some r =>
      rw [ho] at hcs
      have hms := (H2.out.below (below_drew _ _)).slotAt hi4 ho
      have hBr : B ≠ r := fun e => hms.ne_cells (show w2.drew.heap[B]? = _ from hB) e.symm
      have hAr : A ≠ r := fun e => hms.ne_cells (show w2.drew.heap[A]? = _ from hA) e.symm
      have hZr : w.heap.size ≠ r := fun e => hms.ne_cells (show w2.drew.heap[w.heap.size]? = _ from hZ2) e.symm
      have hXr : X ≠ r := H2.out.slot_ne hi4 ho
      have d0 : w2.drew.cell? ⟨B, 0, none⟩ = some (.int .i64 (k : Int)) := b0
      have d1 : w2.drew.cell? ⟨B, 1, none⟩ = some (.int .i64 (s : Int)) := b1
      have d2 : w2.drew.cell? ⟨X, 2 + k * 64 + s, none⟩ = some (.map (some r)) := hcs
      go_upto_region 2 with (fail)
      go_region_held_law (fun w' => w'.cell? ⟨B, 0, none⟩ = some (.int .i64 (k : Int)) ∧ w'.cell? ⟨B, 1, none⟩ = some (.int .i64 (s : Int)) ∧ w'.cell? ⟨X, 2 + k * 64 + s, none⟩ = some (.map (some r))) (first | exact ⟨d0, d1, d2⟩ | exact ⟨grown_cell hg3 d0 hBr, grown_cell hg3 d1 hBr, grown_cell hg3 d2 hXr⟩) ((refine step_delete_i rfl (.tmp 28) (.tmp 29) 138 3 4 Try.underlying138 Try.underlying3 rfl r _ rfl hms id rfl ?_; intro w3 hm3 hg3 hz3))
      go_upto_region 3 with (fail)
      have H3 := (H2.out.below (below_drew _ _)).turnS hi4 ho (by rw [← mv_del]; exact hm3) hg3
      have hst3 := hst2.trans ((Step.of_below (below_drew _ _)).trans (Step.of_grown hg3 (Foot.slot hi4 ho)))
      have hA3 : w3.heap[A]? = some (.cells #[.int .i64 tid, .int .i64 twhen, .int .i64 tiv, .int .i64 tord] 129 (0, 0)) := (hg3.block A hbA (fun e => hAr (by simpa using e))).trans hA
      have hZ3 : w3.heap[w.heap.size]? = some (.cells #[.int .i64 0, .int .i64 0, .int .i64 0, .int .i64 0] 129 (0, 0)) := (hg3.block w.heap.size (by show w.heap.size < w2.heap.size; omega) (fun e => hZr (by simpa using e))).trans hZ2
      clear hms hBr hAr hZr hXr d0 d1 d2 hm3 hg3 hz3
    all_goals
      clear hA hB hZ2 hst2 H2 b0 b1 hcs H1 hb2
      have f0 := H3.ct
      have hAt : A ≠ R.rt := fun e => H3.mt.ne_cells hA3 e.symm
      have hZt : w.heap.size ≠ R.rt := fun e => H3.mt.ne_cells hZ3 e.symm
      have hAp : A ≠ R.rp := fun e => H3.mp.ne_cells hA3 e.symm
      have hZp : w.heap.size ≠ R.rp := fun e => H3.mp.ne_cells hZ3 e.symm
      have hbA : A < w3.heap.size := (Array.getElem?_eq_some_iff.1 hA3).1
      have hbZ : w.heap.size < w3.heap.size := (Array.getElem?_eq_some_iff.1 hZ3).1
      obtain ⟨w4, run4, hm4, hg4, hz4⟩ := run_delete Try.underlying136 Try.underlying3 H3.mt id 0
      have H4 := H3.turnT (by rw [← mv_del]; exact hm4) hg4
      obtain ⟨w5, run5, hm5, hg5, hz5⟩ := run_delete Try.underlying137 Try.underlying3 H4.mp id 0
      have H5 := Lib.hid (H4.turnP (by rw [← mv_del]; exact hm5) hg5)
      have hst5 := Lib.hid (hst3.trans ((Step.of_grown hg4 (Or.inr (Or.inl rfl))).trans (Step.of_grown hg5 (Or.inr (Or.inr (Or.inl rfl))))))
      have f1 := H4.cp
      have hA5 := (hg5.block A (by omega) (fun e => hAp (by simpa using e))).trans ((hg4.block A hbA (fun e => hAt (by simpa using e))).trans hA3)
      have hZ5 := (hg5.block w.heap.size (by omega) (fun e => hZp (by simpa using e))).trans ((hg4.block w.heap.size hbZ (fun e => hZt (by simpa using e))).trans hZ3)
      have a0 : w5.cell? ⟨A, 0, none⟩ = some (.int .i64 tid) := by simp [World.cell?, hA5]
      have a1 : w5.cell? ⟨A, 1, none⟩ = some (.int .i64 twhen) := by simp [World.cell?, hA5]
      have a2 : w5.cell? ⟨A, 2, none⟩ = some (.int .i64 tiv) := by simp [World.cell?, hA5]
      have a3 : w5.cell? ⟨A, 3, none⟩ = some (.int .i64 tord) := by simp [World.cell?, hA5]
      have z0 : w5.cell? ⟨w.heap.size, 0, none⟩ = some (.int .i64 0) := by simp [World.cell?, hZ5]
      have z1 : w5.cell? ⟨w.heap.size, 1, none⟩ = some (.int .i64 0) := by simp [World.cell?, hZ5]
      have z2 : w5.cell? ⟨w.heap.size, 2, none⟩ = some (.int .i64 0) := by simp [World.cell?, hZ5]
      have z3 : w5.cell? ⟨w.heap.size, 3, none⟩ = some (.int .i64 0) := by simp [World.cell?, hZ5]
      have zf : ∀ j, w5.frozen? ⟨w.heap.size, j, none⟩ = false := fun j => by simp [World.frozen?, hZ5]
      clear hm4 hm5 hg4 hg5 H3 H4 hst3 hA3 hA5 hZ3
      go_wp2
      have hR := put4_heap (.int .i64 tid) (.int .i64 twhen) (.int .i64 tiv) (.int .i64 tord) hZ5
      have hnf := H5.out.apart hZ5 hZX
      have H9 := (((H5.out.put (a := ⟨w.heap.size, 0, none⟩) hnf (.int .i64 tid)).put (a := ⟨w.heap.size, 1, none⟩) hnf (.int .i64 twhen)).put (a := ⟨w.heap.size, 2, none⟩) hnf (.int .i64 tiv)).put (a := ⟨w.heap.size, 3, none⟩) hnf (.int .i64 tord)
      have hst9 := (((hst5.out.put (a := ⟨w.heap.size, 0, none⟩) (Nat.le_refl _) (.int .i64 tid)).put (a := ⟨w.heap.size, 1, none⟩) (Nat.le_refl _) (.int .i64 twhen)).put (a := ⟨w.heap.size, 2, none⟩) (Nat.le_refl _) (.int .i64 tiv)).put (a := ⟨w.heap.size, 3, none⟩) (Nat.le_refl _) (.int .i64 tord)
      refine bodyPost_ret (results_cell_row rfl _ _ w.heap.size 129 _ (0, 0) _ rfl hR Try.underlying129 rfl size129) rfl ?_
      refine ⟨rfl, ?_, hst9⟩
      have eW : (takeS W id).1 = { W with sl := W.sl.set i (delA (W.sl.getD i []) id), tm := delA W.tm id, pl := delA W.pl id } := by
        unfold takeS
        simp only
        rw [hp]
        simp only
        rw [show ((k : Int) * 64 + (s : Int)).toNat = i by omega]
      rw [eW]
      exact H9
end Go.Proofs.Ytddajaikighjlaa
