/- Await 23. -/
import Derived.Test.YtddajaikighjlaaPa
import Derived.Deep.RegionHeld3
namespace Go.Proofs.Ytddajaikighjlaa
open Go.RowKit Go.Sl Go.Mp

theorem own_block {w : World} {base g n sz : Nat} {t : TypeId} {cs : List Value} (h : w.heap[g]? = some (.cells cs.toArray t (0, 0))) (hl : cs.length = n * sz) (hb : base ≤ g) (hn : n ≤ maxLen) : w.ownsRow base t sz (.slice (some ⟨g, 0, none⟩) n n) n cs :=
  ⟨hl, Or.inr ⟨g, n, cs.toArray, rfl, hb, h, Nat.le_refl _, hn, by simp [hl], by rw [← hl]; simp⟩⟩
theorem aw_own {w3 w4 : World} {b n base : Nat} {v' : Value} {xs : List Value} (h : w3.ownsRow base 3 1 v' n xs) (hb : b < base) (hk : ∀ k, k ≠ b → w4.heap[k]? = w3.heap[k]?) : w4.ownsRow base 3 1 v' n xs :=
  own_same h fun g hg => hk g (by have := (h.lt g hg).1; omega)
theorem own_ne {w : World} {base size n b : Nat} {e t : TypeId} {v : Value} {xs : List Value} {cs : Array Value} {f : Nat × Nat} (h : w.ownsRow base e size v n xs) (hb : w.heap[b]? = some (.cells cs t f)) (hne : t ≠ e) : ∀ g, v.ownBlock = some g → g ≠ b := by
  rintro g hg rfl
  obtain ⟨cs', hc, -⟩ := own_cells h hg
  rw [hb] at hc
  simp only [Option.some.injEq, Obj.cells.injEq] at hc
  exact hne hc.2.1
theorem info3 : (Try.prog.info? 3).map (fun i => (i.zero, i.size, i.bytes)) = some (some (.int .i64 0), 1, 8) := by kernel_rfl

set_option maxRecDepth 100000 in
set_option maxHeartbeats 2000000 in
theorem await_calls (p : Pr) (v : Value) (who : Int) (w : World) (h : SlI w v p.wt) : Calls Try.prog 23 #[prV p v, .int .i64 who] w fun e w' => ∃ v' s, e = .returned (.tuple #[prV (awaitS p who).1 v', s, .int .i64 (awaitS p who).2.2]) ∧
    w'.ownsRow w.heap.size 3 1 v' (awaitS p who).1.wt.length ((awaitS p who).1.wt.map (Value.int .i64)) ∧ w'.ownsRow w.heap.size 67 3 s (awaitS p who).2.1.length ((awaitS p who).2.1.flatMap encP) ∧ Below w.heap.size w w' := by
  obtain ⟨a, c, rfl⟩ := h.form
  obtain ⟨w1, hw1⟩ : ∃ w1, (w.alloc (.cells #[.int .i64 p.ph, .int .i64 p.val, .slice a p.wt.length c] 60)).alloc (.cells #[.int .i64 0, .int .i64 0, .slice none 0 0] 60) = w1 := ⟨_, rfl⟩
  have hb1 : Below w.heap.size w w1 := by rw [← hw1]; exact ((Below.refl w.heap.size w).alloc (Nat.le_refl _) _).alloc (by simp) _
  have hz : w1.heap.size = w.heap.size + 2 := by rw [← hw1]; simp
  have g0 : w1.heap[w.heap.size]? = some (.cells #[.int .i64 p.ph, .int .i64 p.val, .slice a p.wt.length c] 60 (0, 0)) := by
    rw [← hw1, heap_alloc_old _ _ (by simp)]
    exact heap_alloc_new _ _
  have g1 : w1.heap[w.heap.size + 1]? = some (.cells #[.int .i64 0, .int .i64 0, .slice none 0 0] 60 (0, 0)) := by
    rw [← hw1]
    exact heap_alloc_new (w.alloc (.cells #[.int .i64 p.ph, .int .i64 p.val, .slice a p.wt.length c] 60)) _ |> fun h => by simpa using h
  have hck := check_calls p (.slice a p.wt.length c) w1 ⟨_, _, rfl⟩
  have B1 := Lib.hid hb1
  have Z1 := Lib.hid hz
  have G0 := Lib.hid g0
  have G1 := Lib.hid g1
  have H1 := Lib.hid (SlI.below h hb1)
  obtain ⟨x0, x1, x2, -⟩ := row3 g0
  clear h hb1 hz g0 g1
  obtain ⟨E, hE⟩ : ∃ E, okP p = E := ⟨_, rfl⟩
  obtain ⟨r, hr⟩ : ∃ r, awaitS p who = r := ⟨_, rfl⟩
  rw [hE] at hck
  rw [hr]
  by_cases h0 : E = 0
  case neg =>
    have er : r = (pr0, [], E) := by rw [← hr]; unfold awaitS; rw [hE, if_pos h0]
    subst er
    clear hr
    unfold prV at hck ⊢
    go_enter Try.func23, Try.ntmps23
    go_wp2_with fail
    refine hck.mono ?_
    rintro e w2 ⟨rfl, hb2⟩
    have z1 := (hb2.block (w.heap.size + 1) (by have := Z1.out; omega)).trans G1.out
    have B2 := B1.out.trans (hb2.mono B1.out.size)
    obtain ⟨e0, e1, e2, f1⟩ := row3 z1
    obtain ⟨r1, r2, r3⟩ := fill3 z1 (.int .i64 0) (.int .i64 0) (.slice none 0 0)
    have R1 := Lib.hid r1
    have B3 := Lib.hid (below_fill3 B2 (b := w.heap.size + 1) (by omega) (.int .i64 0) (.int .i64 0) (.slice none 0 0))
    clear z1 B2 hck hw1 x0 x1 x2 r1 r2 r3 hb2
    go_wp2_with fail
    refine bodyPost_ret (results_cell3 rfl _ _ (w.heap.size + 1) 60 _ (0, 0) _ rfl R1.out Try.underlying60 size60) rfl ?_
    exact ⟨_, _, rfl, own_none _ _ _ _, own_none _ _ _ _, B3.out⟩
  subst h0
  have hph := okP_phase hE
  by_cases hp0 : p.ph = 0
  case neg =>
    have hwt := okP_empty hE hp0
    have er : r = (p, [(who, p.ph, p.val)], 0) := by rw [← hr]; unfold awaitS; rw [hE, if_neg (by simp), if_pos hp0]
    subst er
    clear hr
    have hcl := fun (w2 : World) (hb : Below w1.heap.size w1 w2) => clone_calls p (.slice a p.wt.length c) w2 (H1.out.below hb) (by rw [hwt]; simp)
    have HW := Lib.hid hwt
    obtain ⟨ph, val, wt⟩ := p
    unfold prV at hck hcl ⊢
    simp only at *
    have HCL := Lib.hid hcl
    clear hcl hwt
    go_enter Try.func23, Try.ntmps23
    go_wp2_with fail
    refine hck.mono ?_
    rintro e w2 ⟨rfl, hb2⟩
    have z0 := (hb2.block w.heap.size (by have := Z1.out; omega)).trans G0.out
    have z1 := (hb2.block (w.heap.size + 1) (by have := Z1.out; omega)).trans G1.out
    obtain ⟨y0, y1, y2, -⟩ := row3 z0
    obtain ⟨e0, e1, e2, f1⟩ := row3 z1
    have HB2 := Lib.hid hb2
    clear hck hw1 x0 x1 x2 z0 z1 hb2
    go_wp2_with fail
    have HBD := Lib.hid (HB2.out.trans (below_drew _ w2))
    have HBA := Lib.hid ((HB2.out.alloc HB2.out.size (.cells #[.int .i64 who, .int .i64 ph, .int .i64 val] 67)).trans (below_drew _ _))
    go_region_held3 (fun w' => w'.cell? ⟨w.heap.size, 0, none⟩ = some (.int .i64 ph) ∧ w'.cell? ⟨w.heap.size, 1, none⟩ = some (.int .i64 val) ∧ w'.cell? ⟨w.heap.size, 2, none⟩ = some (.slice a wt.length c)) (go_keep) (first
      | (go_at_call 66; refine (HCL.out _ HBD.out).mono ?_; rintro e w3 ⟨v', rfl, ho, hb3⟩; have hbb := HBD.out.trans (hb3.mono HBD.out.size); obtain ⟨av, cv, rfl⟩ := own_form ho; have z1 := (hbb.block (w.heap.size + 1) (by have := Z1.out; omega)).trans G1.out; obtain ⟨y0, y1, y2, -⟩ := row3 ((hbb.block w.heap.size (by have := Z1.out; omega)).trans G0.out); obtain ⟨e0, e1, e2, f1⟩ := row3 z1; have Z3 := Lib.hid z1; have q1 : w.heap.size + 1 < w3.heap.size := World.block_lt_of_cell? w3 ⟨w.heap.size + 1, 0, none⟩ e0; have q2 : ¬ w.heap.size + 1 = w3.heap.size := Nat.ne_of_lt q1; have q3 : ¬ w3.heap.size = w.heap.size + 1 := Nat.ne_of_gt q1; have HO := Lib.hid (own_le ho HBD.out.size); have HBB := Lib.hid hbb; clear ho hb3 hbb z1)
      | (go_at_call 66; refine (HCL.out _ HBA.out).mono ?_; rintro e w3 ⟨v', rfl, ho, hb3⟩; have hbb := HBA.out.trans (hb3.mono HBA.out.size); have HS := Lib.hid ((hb3.block w2.heap.size (by simp)).trans (heap_alloc_new w2 (.cells #[.int .i64 who, .int .i64 ph, .int .i64 val] 67))); obtain ⟨av, cv, rfl⟩ := own_form ho; have z1 := (hbb.block (w.heap.size + 1) (by have := Z1.out; omega)).trans G1.out; obtain ⟨y0, y1, y2, -⟩ := row3 ((hbb.block w.heap.size (by have := Z1.out; omega)).trans G0.out); obtain ⟨e0, e1, e2, f1⟩ := row3 z1; have Z3 := Lib.hid z1; have q1 : w.heap.size + 1 < w3.heap.size := World.block_lt_of_cell? w3 ⟨w.heap.size + 1, 0, none⟩ e0; have q2 : ¬ w.heap.size + 1 = w3.heap.size := Nat.ne_of_lt q1; have q3 : ¬ w3.heap.size = w.heap.size + 1 := Nat.ne_of_gt q1; have HO := Lib.hid (own_le ho HBA.out.size); have HBB := Lib.hid hbb; clear ho hb3 hbb z1))
    case' refine_2.refine_3.refine_3.refine_3.refine_3.refine_3.refine_3.refine_3.refine_2.refine_1.refine_2.refine_1.refine_2.refine_1.refine_2.refine_3.refine_3 =>
      go_wp2_with fail
      refine bodyPost_ret (results_cell3 rfl _ _ (w.heap.size + 1) 60 _ (0, 0) _ rfl (fill3 Z3.out _ _ _).1 Try.underlying60 size60) rfl ?_
      exact ⟨_, _, rfl, own_le (aw_own HO.out (by have := Z1.out; omega) (fill3 Z3.out _ _ _).2.2) B1.out.size, own_block (cs := [.int .i64 who, .int .i64 ph, .int .i64 val]) (((fill3 Z3.out _ _ _).2.2 _ (by have := HB2.out.size; have := Z1.out; omega)).trans HS.out) rfl (Nat.le_trans B1.out.size HB2.out.size) (by decide), below_fill3 (B1.out.trans (HBB.out.mono B1.out.size)) (by omega) _ _ _⟩
    all_goals
      go_wp2_with fail
      refine bodyPost_ret (results_cell3 rfl _ _ (w.heap.size + 1) 60 _ (0, 0) _ rfl ((heap_alloc_old _ _ (by rw [(fill3 Z3.out _ _ _).2.1]; exact q1)).trans (fill3 Z3.out _ _ _).1) Try.underlying60 size60) rfl ?_
      refine ⟨_, _, rfl, ?_, ?_, ?_⟩
      · refine own_same (own_le (aw_own HO.out (by have := Z1.out; omega) (fill3 Z3.out (.int .i64 ph) (.int .i64 val) (.slice av wt.length cv)).2.2) B1.out.size) fun g hg => heap_alloc_old _ _ ?_
        rw [(fill3 Z3.out _ _ _).2.1]
        exact (HO.out.lt g hg).2
      · refine own_block (t := 67) (cs := [.int .i64 who, .int .i64 ph, .int .i64 val]) ?_ rfl (Nat.le_trans B1.out.size HBB.out.size) (by decide)
        rw [← (fill3 Z3.out (.int .i64 ph) (.int .i64 val) (.slice av wt.length cv)).2.1]
        exact heap_alloc_new _ _
      · have hB := below_fill3 (B1.out.trans (HBB.out.mono B1.out.size)) (b := w.heap.size + 1) (by omega) (.int .i64 ph) (.int .i64 val) (.slice av wt.length cv)
        exact hB.alloc hB.size _
  by_cases hfull : 1000 ≤ p.wt.length
  · have er : r = (pr0, [], 8) := by rw [← hr]; unfold awaitS; rw [hE, if_neg (by simp), if_neg (by simp [hp0]), if_pos hfull]
    subst er
    clear hr
    obtain ⟨ph, val, wt⟩ := p
    unfold prV at hck ⊢
    simp only at *
    subst hp0
    generalize wt.length = n at *
    have hfull2 : 1000 ≤ (n : Int) := by omega
    go_enter Try.func23, Try.ntmps23
    go_wp2_with fail
    refine hck.mono ?_
    rintro e w2 ⟨rfl, hb2⟩
    have z0 := (hb2.block w.heap.size (by have := Z1.out; omega)).trans G0.out
    have z1 := (hb2.block (w.heap.size + 1) (by have := Z1.out; omega)).trans G1.out
    have B2 := B1.out.trans (hb2.mono B1.out.size)
    obtain ⟨y0, y1, y2, -⟩ := row3 z0
    obtain ⟨e0, e1, e2, f1⟩ := row3 z1
    obtain ⟨r1, r2, r3⟩ := fill3 z1 (.int .i64 0) (.int .i64 0) (.slice none 0 0)
    have R1 := Lib.hid r1
    have B3 := Lib.hid (below_fill3 B2 (b := w.heap.size + 1) (by omega) (.int .i64 0) (.int .i64 0) (.slice none 0 0))
    clear z1 z0 B2 hck hw1 x0 x1 x2 r1 r2 r3 hb2
    go_wp2_with fail
    refine bodyPost_ret (results_cell3 rfl _ _ (w.heap.size + 1) 60 _ (0, 0) _ rfl R1.out Try.underlying60 size60) rfl ?_
    exact ⟨_, _, rfl, own_none _ _ _ _, own_none _ _ _ _, B3.out⟩
  · have er : r = (⟨p.ph, p.val, p.wt ++ [who]⟩, [], 0) := by rw [← hr]; unfold awaitS; rw [hE, if_neg (by simp), if_neg (by simp [hp0]), if_neg hfull]
    subst er
    clear hr
    have hcl := fun (w2 : World) (hb : Below w1.heap.size w1 w2) => clone_calls p (.slice a p.wt.length c) w2 (H1.out.below hb) (by omega)
    obtain ⟨ph, val, wt⟩ := p
    unfold prV at hck hcl ⊢
    simp only at *
    subst hp0
    have HCL := Lib.hid hcl
    clear hcl
    have hfull2 : ¬ 1000 ≤ (wt.length : Int) := by omega
    go_enter Try.func23, Try.ntmps23
    go_wp2_with fail
    refine hck.mono ?_
    rintro e w2 ⟨rfl, hb2⟩
    have z0 := (hb2.block w.heap.size (by have := Z1.out; omega)).trans G0.out
    obtain ⟨y0, y1, y2, -⟩ := row3 z0
    have HB2 := Lib.hid hb2
    clear hck hw1 x0 x1 x2 z0 hb2
    go_wp2_with fail
    refine (HCL.out w2 HB2.out).mono ?_
    rintro e w3 ⟨v', rfl, ho, hb3⟩
    obtain ⟨av, cv, rfl⟩ := own_form ho
    have HB3 := Lib.hid (HB2.out.trans (hb3.mono HB2.out.size))
    have Z4 := Lib.hid ((HB3.out.block (w.heap.size + 1) (by have := Z1.out; omega)).trans G1.out)
    have HO := Lib.hid ho
    obtain ⟨W, hW⟩ : ∃ W, (w3.alloc (.cells #[.int .i64 0, .int .i64 val, .slice av wt.length cv] 60)).alloc (.cells #[.int .i64 who] 3) = W := ⟨_, rfl⟩
    have k0 : ∀ k, k < w3.heap.size → W.heap[k]? = w3.heap[k]? := fun k hk => by rw [← hW, heap_alloc_old _ _ (by simp; omega), heap_alloc_old _ _ hk]
    have hWz : W.heap.size = w3.heap.size + 2 := by rw [← hW]; simp
    have hown : W.ownsRow w.heap.size 3 1 (.slice av wt.length cv) wt.length (wt.map (Value.int .i64)) := own_le (own_same ho fun g hg => k0 g (ho.lt g hg).2) (Nat.le_trans B1.out.size HB2.out.size)
    have hcl := cell_one_new (w3.alloc (.cells #[.int .i64 0, .int .i64 val, .slice av wt.length cv] 60)) (.int .i64 who) 3
    have h8 : W.heap[w3.heap.size]? = some (.cells #[.int .i64 0, .int .i64 val, .slice av wt.length cv] 60 (0, 0)) := by rw [← hW, heap_alloc_old _ _ (by simp)]; exact heap_alloc_new _ _
    have hz4 : W.heap[w.heap.size + 1]? = some (.cells #[.int .i64 0, .int .i64 0, .slice none 0 0] 60 (0, 0)) := (k0 _ (by have := HB3.out.size; have := Z1.out; omega)).trans Z4.out
    rw [hW, show (w3.alloc (.cells #[.int .i64 0, .int .i64 val, .slice av wt.length cv] 60)).heap.size = w3.heap.size + 1 by simp] at hcl
    obtain ⟨i0, hif, hz0, hz1, hz2⟩ := info_parts info3
    have Hfull := Lib.hid hfull
    clear ho hb3
    go_wp2_with (at_builtin; refine wpList_append_own _ rfl (.tmp 38) (.tmp 40) 58 rfl w.heap.size 3 i0 (.int .i64 0) 1 8 Try.underlying58 hif hz0 hz1 hz2 rfl (by decide) _ _ _ rfl hown ⟨w3.heap.size + 1, 0, none⟩ 1 1 [.int .i64 who] rfl rfl hcl ?d2 ?d3 ?d4 ?d5 ?_)
    case d2 =>
      intro u hu
      rw [List.mem_singleton] at hu
      subst hu
      rfl
    case d3 =>
      have := Hfull.out
      unfold maxLen
      omega
    case d4 =>
      have := Hfull.out
      omega
    case d5 =>
      have := HB3.out.size
      have := B1.out.size
      omega
    intro v' w5 hown2 hgrow _
    obtain ⟨av2, cv2, rfl⟩ := own_form hown2
    have kw : ∀ k, k < W.heap.size → (∀ cs t f, W.heap[k]? = some (.cells cs t f) → t ≠ 3) → w5.heap[k]? = W.heap[k]? := fun k hk ht => hgrow.block k hk fun e => by
      obtain ⟨cs, hc, -⟩ := own_cells hown e.symm
      exact ht cs 3 _ hc rfl
    have a1 := (kw w3.heap.size (by omega) (fun cs t f h => by rw [h8] at h; simp only [Option.some.injEq, Obj.cells.injEq] at h; exact fun e => absurd (h.2.1.trans e) (by decide))).trans h8
    have a2 := (kw (w.heap.size + 1) (by have := HB3.out.size; have := Z1.out; omega) (fun cs t f h => by rw [hz4] at h; simp only [Option.some.injEq, Obj.cells.injEq] at h; exact fun e => absurd (h.2.1.trans e) (by decide))).trans hz4
    have hne := own_ne hown2 a1 (by decide)
    have hne2 := own_ne hown2 a2 (by decide)
    have B5 : Below w.heap.size w w5 := by
      have h1 : Below w.heap.size w W := by rw [← hW]; exact ((B1.out.trans (HB3.out.mono B1.out.size)).alloc (Nat.le_trans B1.out.size HB3.out.size) _).alloc (by simp; have := Nat.le_trans B1.out.size HB3.out.size; omega) _
      exact h1.grown hgrow h1.size fun k hk => (hown.lt k hk).1
    obtain ⟨w6, hw6⟩ : ∃ w6, w5.setCell ⟨w3.heap.size, 2, none⟩ (.slice av2 (wt.length + 1) cv2) = w6 := ⟨_, rfl⟩
    have a3 : w6.heap[w3.heap.size]? = some (.cells #[.int .i64 0, .int .i64 val, .slice av2 (wt.length + 1) cv2] 60 (0, 0)) := by rw [← hw6]; exact heap_setCell_same w5 w3.heap.size 2 _ 60 _ a1
    have a4 : w6.heap[w.heap.size + 1]? = some (.cells #[.int .i64 0, .int .i64 0, .slice none 0 0] 60 (0, 0)) := by rw [← hw6]; exact (Below.heap_setCell w5 ⟨w3.heap.size, 2, none⟩ _ (w.heap.size + 1) (by have := HB3.out.size; have := Z1.out; simp only; omega)).trans a2
    have O6 : w6.ownsRow w.heap.size 3 1 (.slice av2 (wt.length + 1) cv2) (wt.length + 1) (wt.map (Value.int .i64) ++ [.int .i64 who]) := by rw [← hw6]; exact own_same hown2 fun g hg => Below.heap_setCell _ ⟨w3.heap.size, 2, none⟩ _ _ (hne g hg)
    have B6 : Below w.heap.size w w6 := by rw [← hw6]; exact B5.setCell (p := ⟨w3.heap.size, 2, none⟩) (by have := HB3.out.size; have := Z1.out; simp only; omega) _
    obtain ⟨-, -, b2, bf⟩ := row3 a1
    obtain ⟨c0, c1, c2, -⟩ := row3 a3
    obtain ⟨d0, d1, d2, df⟩ := row3 a4
    have A4 := Lib.hid a4
    have O7 := Lib.hid O6
    have B7 := Lib.hid B6
    have N2 := Lib.hid hne2
    clear hne hne2 kw hown2 hgrow hown hcl h8 hz4 hW k0 hWz a1 a2 a3 a4 B5 O6 B6 hif hz0 hz1 hz2 y0 y1 y2
    go_wp2_with fail
    refine bodyPost_ret (results_cell3 rfl _ _ (w.heap.size + 1) 60 _ (0, 0) _ rfl (fill3 A4.out _ _ _).1 Try.underlying60 size60) rfl ?_
    refine ⟨_, _, rfl, ?_, own_none _ _ _ _, below_fill3 B7.out (by omega) _ _ _⟩
    rw [List.length_append, List.map_append]
    exact own_same O7.out fun g hg => (fill3 A4.out _ _ _).2.2 g (N2.out g hg)
end Go.Proofs.Ytddajaikighjlaa
