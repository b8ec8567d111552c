/- The reference's Await 31. -/
import Derived.Test.YtddajaikighjlaaPc
namespace Go.Proofs.Ytddajaikighjlaa
open Go.RowKit Go.Sl Go.Mp

theorem slI_any' {w w' : World} {v : Value} (h : SlI w v []) : SlI w' v [] := by
  rcases h.2 with ⟨h0, hv⟩ | ⟨h0, -⟩
  · exact ⟨rfl, Or.inl ⟨rfl, hv⟩⟩
  · simp at h0
theorem slI_any2 {w w' : World} {v : Value} {l : List Int} (h : SlI w v l) (hl : l = []) : SlI w' v l := by
  subst hl
  exact slI_any' h
theorem slV_block {w : World} {g n sz c : Nat} {t : TypeId} {f : Nat × Nat} {cs : List Value} (h : w.heap[g]? = some (.cells cs.toArray t f)) (hl : cs.length = n * sz) (hn : 0 < n) : SlV w (.slice (some ⟨g, 0, none⟩) n c) n sz cs := by
  refine ⟨hl, Or.inr ⟨hn, g, 0, c, rfl, fun i u hu => ?_⟩⟩
  rw [Nat.zero_add]
  exact cells_of_row h i u (by simpa using hu)

set_option maxRecDepth 100000 in
set_option maxHeartbeats 2000000 in
theorem rawait_calls (p : Pr) (v : Value) (who : Int) (w : World) (h : SlI w v p.wt) : Calls Try.prog 31 #[prV p v, .int .i64 who] w fun e w' => ∃ v' s, e = .returned (.tuple #[prV (awaitS p who).1 v', s, .int .i64 (awaitS p who).2.2]) ∧
    SlI w' v' (awaitS p who).1.wt ∧ SlV w' s (awaitS p who).2.1.length 3 ((awaitS p who).2.1.flatMap encP) ∧ Below w.heap.size w w' := by
  obtain ⟨a, c, rfl⟩ := h.form
  obtain ⟨w1, hw1⟩ : ∃ w1, (w.alloc (.cells #[.int .i64 p.ph, .int .i64 p.val, .slice a p.wt.length c] 75)).alloc (.cells #[.int .i64 0, .int .i64 0, .slice none 0 0] 75) = w1 := ⟨_, rfl⟩
  have hb1 : Below w.heap.size w w1 := by rw [← hw1]; exact ((Below.refl w.heap.size w).alloc (Nat.le_refl _) _).alloc (by simp) _
  have hz : w1.heap.size = w.heap.size + 2 := by rw [← hw1]; simp
  have g0 : w1.heap[w.heap.size]? = some (.cells #[.int .i64 p.ph, .int .i64 p.val, .slice a p.wt.length c] 75 (0, 0)) := by
    rw [← hw1, heap_alloc_old _ _ (by simp)]
    exact heap_alloc_new _ _
  have g1 : w1.heap[w.heap.size + 1]? = some (.cells #[.int .i64 0, .int .i64 0, .slice none 0 0] 75 (0, 0)) := by
    rw [← hw1]
    exact heap_alloc_new (w.alloc (.cells #[.int .i64 p.ph, .int .i64 p.val, .slice a p.wt.length c] 75)) _ |> fun h => by simpa using h
  have hck := right_calls p (.slice a p.wt.length c) w1 ⟨_, _, rfl⟩
  have B1 := Lib.hid hb1
  have Z1 := Lib.hid hz
  have G0 := Lib.hid g0
  have G1 := Lib.hid g1
  have H1 := Lib.hid (SlI.below h hb1)
  obtain ⟨x0, x1, x2, -⟩ := row3 g0
  clear h hb1 hz g0 g1
  obtain ⟨E, hE⟩ : ∃ E, okP p = E := ⟨_, rfl⟩
  obtain ⟨r, hr⟩ : ∃ r, awaitS p who = r := ⟨_, rfl⟩
  rw [hE] at hck
  rw [hr]
  by_cases h0 : E = 0
  case neg =>
    have er : r = (pr0, [], E) := by rw [← hr]; unfold awaitS; rw [hE, if_pos h0]
    subst er
    clear hr
    unfold prV at hck ⊢
    go_enter Try.func31, Try.ntmps31
    go_wp2_with fail
    refine hck.mono ?_
    rintro e w2 ⟨rfl, hb2⟩
    have z1 := (hb2.block (w.heap.size + 1) (by have := Z1.out; omega)).trans G1.out
    have B2 := B1.out.trans (hb2.mono B1.out.size)
    obtain ⟨e0, e1, e2, f1⟩ := row3 z1
    obtain ⟨r1, r2, r3⟩ := fill3 z1 (.int .i64 0) (.int .i64 0) (.slice none 0 0)
    have R1 := Lib.hid r1
    have B3 := Lib.hid (below_fill3 B2 (b := w.heap.size + 1) (by omega) (.int .i64 0) (.int .i64 0) (.slice none 0 0))
    clear z1 B2 hck hw1 x0 x1 x2 r1 r2 r3 hb2
    go_wp2_with fail
    refine bodyPost_ret (results_cell3 rfl _ _ (w.heap.size + 1) 75 _ (0, 0) _ rfl R1.out Try.underlying75 size75) rfl ?_
    exact ⟨_, _, rfl, SlI.nil _, SlV.nil _ _, B3.out⟩
  subst h0
  have hph := okP_phase hE
  by_cases hp0 : p.ph = 0
  case neg =>
    have hwt := okP_empty hE hp0
    have er : r = (p, [(who, p.ph, p.val)], 0) := by rw [← hr]; unfold awaitS; rw [hE, if_neg (by simp), if_pos hp0]
    subst er
    clear hr
    have HW := Lib.hid hwt
    have hpos : 0 < p.ph := by omega
    obtain ⟨ph, val, wt⟩ := p
    unfold prV at hck ⊢
    simp only at *
    clear hwt
    go_enter Try.func31, Try.ntmps31
    go_wp2_with fail
    refine hck.mono ?_
    rintro e w2 ⟨rfl, hb2⟩
    have z0 := (hb2.block w.heap.size (by have := Z1.out; omega)).trans G0.out
    have z1 := (hb2.block (w.heap.size + 1) (by have := Z1.out; omega)).trans G1.out
    obtain ⟨y0, y1, y2, -⟩ := row3 z0
    obtain ⟨e0, e1, e2, f1⟩ := row3 z1
    have Y1 := Lib.hid z1
    have q1 : w.heap.size + 1 < w2.heap.size := World.block_lt_of_cell? w2 ⟨w.heap.size + 1, 0, none⟩ e0
    have q2 : ¬ w.heap.size + 1 = w2.heap.size := Nat.ne_of_lt q1
    have q3 : ¬ w2.heap.size = w.heap.size + 1 := Nat.ne_of_gt q1
    have HB2 := Lib.hid hb2
    clear hck hw1 x0 x1 x2 z0 z1 hb2
    go_wp2_with fail
    go_region_held3 (fun w' => w'.cell? ⟨w.heap.size, 0, none⟩ = some (.int .i64 ph) ∧ w'.cell? ⟨w.heap.size, 1, none⟩ = some (.int .i64 val) ∧ w'.cell? ⟨w.heap.size, 2, none⟩ = some (.slice a wt.length c)) (go_keep) (fail)
    all_goals
      have hf3 := fill3 Y1.out (.int .i64 ph) (.int .i64 val) (.slice a wt.length c)
      have hB := below_fill3 (B1.out.trans (HB2.out.mono B1.out.size)) (b := w.heap.size + 1) (by omega) (.int .i64 ph) (.int .i64 val) (.slice a wt.length c)
      have HF := Lib.hid (show (((((w2.setCell ⟨w.heap.size + 1, 0, none⟩ (.int .i64 ph)).setCell ⟨w.heap.size + 1, 1, none⟩ (.int .i64 val)).setCell ⟨w.heap.size + 1, 2, none⟩ (.slice a wt.length c)).alloc (.cells #[.int .i64 who, .int .i64 ph, .int .i64 val] 72)).drew).heap[w.heap.size + 1]? = some (.cells #[.int .i64 ph, .int .i64 val, .slice a wt.length c] 75 (0, 0)) from (heap_alloc_old _ _ (by rw [hf3.2.1]; exact q1)).trans hf3.1)
      have HS := Lib.hid (show (((((w2.setCell ⟨w.heap.size + 1, 0, none⟩ (.int .i64 ph)).setCell ⟨w.heap.size + 1, 1, none⟩ (.int .i64 val)).setCell ⟨w.heap.size + 1, 2, none⟩ (.slice a wt.length c)).alloc (.cells #[.int .i64 who, .int .i64 ph, .int .i64 val] 72)).drew).heap[w2.heap.size]? = some (.cells #[.int .i64 who, .int .i64 ph, .int .i64 val] 72 (0, 0)) from by rw [← hf3.2.1]; exact heap_alloc_new _ _)
      have HBE := Lib.hid ((hB.alloc hB.size (.cells #[.int .i64 who, .int .i64 ph, .int .i64 val] 72)).trans (below_drew _ _))
      clear hf3 hB
      go_wp2_with fail
      refine bodyPost_ret (results_cell3 rfl _ _ (w.heap.size + 1) 75 _ (0, 0) _ rfl HF.out Try.underlying75 size75) rfl ?_
      exact ⟨_, _, rfl, slI_any2 H1.out HW.out, slV_block (t := 72) (f := (0, 0)) (cs := [.int .i64 who, .int .i64 ph, .int .i64 val]) HS.out rfl (by decide), HBE.out⟩
  by_cases hfull : 1000 ≤ p.wt.length
  · have er : r = (pr0, [], 8) := by rw [← hr]; unfold awaitS; rw [hE, if_neg (by simp), if_neg (by simp [hp0]), if_pos hfull]
    subst er
    clear hr
    obtain ⟨ph, val, wt⟩ := p
    unfold prV at hck ⊢
    simp only at *
    subst hp0
    generalize wt.length = n at *
    have hfull2 : 1000 ≤ (n : Int) := by omega
    go_enter Try.func31, Try.ntmps31
    go_wp2_with fail
    refine hck.mono ?_
    rintro e w2 ⟨rfl, hb2⟩
    have z0 := (hb2.block w.heap.size (by have := Z1.out; omega)).trans G0.out
    have z1 := (hb2.block (w.heap.size + 1) (by have := Z1.out; omega)).trans G1.out
    have B2 := B1.out.trans (hb2.mono B1.out.size)
    obtain ⟨y0, y1, y2, -⟩ := row3 z0
    obtain ⟨e0, e1, e2, f1⟩ := row3 z1
    obtain ⟨r1, r2, r3⟩ := fill3 z1 (.int .i64 0) (.int .i64 0) (.slice none 0 0)
    have R1 := Lib.hid r1
    have B3 := Lib.hid (below_fill3 B2 (b := w.heap.size + 1) (by omega) (.int .i64 0) (.int .i64 0) (.slice none 0 0))
    clear z1 z0 B2 hck hw1 x0 x1 x2 r1 r2 r3 hb2
    go_wp2_with fail
    refine bodyPost_ret (results_cell3 rfl _ _ (w.heap.size + 1) 75 _ (0, 0) _ rfl R1.out Try.underlying75 size75) rfl ?_
    exact ⟨_, _, rfl, SlI.nil _, SlV.nil _ _, B3.out⟩
  · have er : r = (⟨p.ph, p.val, p.wt ++ [who]⟩, [], 0) := by rw [← hr]; unfold awaitS; rw [hE, if_neg (by simp), if_neg (by simp [hp0]), if_neg hfull]
    subst er
    clear hr
    obtain ⟨ph, val, wt⟩ := p
    unfold prV at hck ⊢
    simp only at *
    subst hp0
    have Hfull := Lib.hid hfull
    obtain ⟨n, hn⟩ : ∃ n, wt.length = n := ⟨_, rfl⟩
    have HN := Lib.hid hn
    have HS1 := H1.out
    have G0' := G0.out
    rw [hn] at hck hw1 x2 G0' hfull HS1
    have HS := Lib.hid (show SlV w1 (.slice a n c) n 1 (wt.map (Value.int .i64)) by rw [← hn]; rw [← hn] at HS1; exact HS1)
    have G0 := Lib.hid G0'
    rw [hn]
    clear hn G0' HS1 H1
    have hfull2 : ¬ 1000 ≤ (n : Int) := by omega
    go_enter Try.func31, Try.ntmps31
    go_wp2_with fail
    refine hck.mono ?_
    rintro e w2 ⟨rfl, hb2⟩
    have z0 := (hb2.block w.heap.size (by have := Z1.out; omega)).trans G0.out
    have z1 := (hb2.block (w.heap.size + 1) (by have := Z1.out; omega)).trans G1.out
    obtain ⟨y0, y1, y2, yf⟩ := row3 z0
    have HB2 := Lib.hid hb2
    have Y0 := Lib.hid z0
    have Y1 := Lib.hid z1
    have hs2 := SlV.below (HS.out.below hb2) ((Below.refl w2.heap.size w2).alloc (Nat.le_refl _) (.cells #[] 3))
    have ho := owns_empty w2 3 1
    have q1 : w.heap.size < w2.heap.size := World.block_lt_of_cell? w2 ⟨w.heap.size, 0, none⟩ y0
    have q2 : ¬ w.heap.size = w2.heap.size := Nat.ne_of_lt q1
    obtain ⟨i0, hif, hz0, hz1, hz2⟩ := info_parts info3
    clear hck hw1 x0 x1 x2 z0 z1 hb2
    go_wp2_with (at_builtin; refine wpList_append_sl rfl (.tmp 30) (.tmp 32) 58 rfl w2.heap.size 3 i0 (.int .i64 0) 1 8 Try.underlying58 hif hz0 hz1 hz2 rfl (by decide) _ _ _ rfl ho _ n _ rfl hs2 ?d1 ?d2 ?d3 ?d4 ?_)
    case d1 => exact oneCell_ints wt
    case d2 =>
      unfold maxLen
      omega
    case d3 => omega
    case d4 => simp
    intro v3 w3 hown3 hg3
    have hb3 : Below w2.heap.size w2 w3 := ((Below.refl w2.heap.size w2).alloc (Nat.le_refl _) _).grown hg3 (by simp) (fun k hk => (ho.lt k hk).1)
    obtain ⟨av3, cv3, rfl⟩ := own_form hown3
    obtain ⟨w4, hw4⟩ : ∃ w4, w3.alloc (.cells #[.int .i64 who] 3) = w4 := ⟨_, rfl⟩
    have hcl := cell_one_new w3 (.int .i64 who) 3
    have hb4 : Below w3.heap.size w3 w4 := by rw [← hw4]; exact (Below.refl _ _).alloc (Nat.le_refl _) _
    have hown4 : w4.ownsRow w2.heap.size 3 1 (.slice av3 n cv3) n (wt.map (Value.int .i64)) := own_same hown3 fun g hg => hb4.block g (hown3.lt g hg).2
    rw [hw4] at hcl
    have H3 := Lib.hid hb3
    have H4 := Lib.hid hb4
    clear ho hg3 hown3 hb3 hb4 hs2
    go_wp2_with (at_builtin; refine wpList_append_own _ rfl (.tmp 33) (.tmp 35) 58 rfl w2.heap.size 3 i0 (.int .i64 0) 1 8 Try.underlying58 hif hz0 hz1 hz2 rfl (by decide) _ _ _ rfl hown4 ⟨w3.heap.size, 0, none⟩ 1 1 [.int .i64 who] rfl rfl hcl ?e2 ?e3 ?e4 ?e5 ?_)
    case e2 =>
      intro u hu
      rw [List.mem_singleton] at hu
      subst hu
      rfl
    case e3 =>
      unfold maxLen
      omega
    case e4 => omega
    case e5 => exact Nat.le_trans H3.out.size H4.out.size
    intro v5 w5 hown5 hg5 _
    have hb5 : Below w2.heap.size w2 w5 := (H3.out.trans (H4.out.mono H3.out.size)).grown hg5 (Nat.le_trans H3.out.size H4.out.size) (fun k hk => (hown4.lt k hk).1)
    obtain ⟨av5, cv5, rfl⟩ := own_form hown5
    have a1 := (hb5.block w.heap.size q1).trans Y0.out
    have a2 := (hb5.block (w.heap.size + 1) (Array.getElem?_eq_some_iff.1 Y1.out).1).trans Y1.out
    have hs5 : w2.heap.size ≤ w5.heap.size := hb5.size
    obtain ⟨w6, hw6⟩ : ∃ w6, w5.setCell ⟨w.heap.size, 2, none⟩ (.slice av5 (n + 1) cv5) = w6 := ⟨_, rfl⟩
    have a3 : w6.heap[w.heap.size]? = some (.cells #[.int .i64 0, .int .i64 val, .slice av5 (n + 1) cv5] 75 (0, 0)) := by rw [← hw6]; exact heap_setCell_same w5 w.heap.size 2 _ 75 _ a1
    have a4 : w6.heap[w.heap.size + 1]? = some (.cells #[.int .i64 0, .int .i64 0, .slice none 0 0] 75 (0, 0)) := by rw [← hw6]; exact (Below.heap_setCell w5 ⟨w.heap.size, 2, none⟩ _ (w.heap.size + 1) (by simp)).trans a2
    have O6 : w6.ownsRow w2.heap.size 3 1 (.slice av5 (n + 1) cv5) (n + 1) (wt.map (Value.int .i64) ++ [.int .i64 who]) := by rw [← hw6]; exact own_same hown5 fun g hg => Below.heap_setCell _ ⟨w.heap.size, 2, none⟩ _ _ (by have := (hown5.lt g hg).1; simp only; omega)
    have B6 : Below w.heap.size w w6 := by rw [← hw6]; exact ((B1.out.trans (HB2.out.mono B1.out.size)).trans (hb5.mono (by omega))).setCell (p := ⟨w.heap.size, 2, none⟩) (Nat.le_refl _) _
    obtain ⟨-, -, b2, bf⟩ := row3 a1
    obtain ⟨c0, c1, c2, -⟩ := row3 a3
    obtain ⟨d0, d1, d2, df⟩ := row3 a4
    have A4 := Lib.hid a4
    have O7 := Lib.hid O6
    have B7 := Lib.hid B6
    have Q3 := Lib.hid (show w.heap.size + 1 < w2.heap.size from (Array.getElem?_eq_some_iff.1 Y1.out).1)
    clear hown5 hg5 hown4 hcl hb5 hs5 hw4 a1 a2 a3 a4 O6 B6 hif hz0 hz1 hz2 y0 y1 y2 yf
    go_wp2_with fail
    refine bodyPost_ret (results_cell3 rfl _ _ (w.heap.size + 1) 75 _ (0, 0) _ rfl (fill3 A4.out _ _ _).1 Try.underlying75 size75) rfl ?_
    refine ⟨_, _, rfl, ?_, SlV.nil _ _, below_fill3 B7.out (by omega) _ _ _⟩
    refine SlI.of_owns (base := w2.heap.size) (e := 3) (n := n + 1) ?_
    rw [List.map_append]
    exact own_same O7.out fun g hg => (fill3 A4.out _ _ _).2.2 g (by have := (O7.out.lt g hg).1; have := Q3.out; omega)
end Go.Proofs.Ytddajaikighjlaa
