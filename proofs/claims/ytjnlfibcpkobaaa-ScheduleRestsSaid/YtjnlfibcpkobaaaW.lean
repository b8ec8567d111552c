/- Push. -/
import Derived.Test.YtjnlfibcpkobaaaV
namespace Go.Proofs.Ytjnlfibcpkobaaa
open Go.RowKit Go.Sl Go.Sched

/-- What Push does. -/
def pushS (s : St) (x t : Int) : St × Int × Int :=
  if valid s = false then (⟨[], []⟩, 0, 14) else if x < 0 ∨ (s.ws.length : Int) ≤ x ∨ t < 0 then (⟨[], []⟩, 0, 1)
  else if (s.ws.getD x.toNat wk0).ph ≠ 3 then (⟨[], []⟩, 0, 310) else if putE s t ≠ 0 then (⟨[], []⟩, 0, putE s t)
  else ((wake (upd s x.toNat fun k => { k with q := k.q ++ [t] })).1, (wake (upd s x.toNat fun k => { k with q := k.q ++ [t] })).2, 0)

set_option maxRecDepth 100000 in
set_option maxHeartbeats 4000000 in
theorem push_calls (wsV injV : Value) (qs : List Value) (s : St) (w : World) (h : StV w wsV injV qs s) (hs : small s) (x t : Int) :
    Calls Try.prog 11 #[.agg #[wsV, injV], .int .i64 x, .int .i64 t] w fun e w' => ∃ a b qs', e = .returned (.tuple #[.agg #[a, b], .int .i64 (pushS s x t).2.1, .int .i64 (pushS s x t).2.2]) ∧ StT (w.heap.size ≤ ·) w' a b qs' (pushS s x t).1 ∧ Below w.heap.size w w' := by
  have hb2 : Below w.heap.size w ((w.alloc (.cells #[wsV, injV] 26)).alloc z26) := ((Below.refl _ _).alloc (Nat.le_refl _) _).alloc (by simp) _
  have hr0 : ((w.alloc (.cells #[wsV, injV] 26)).alloc z26).heap[w.heap.size + 1]? = some z26 := by
    have := heap_alloc_new (w.alloc (.cells #[wsV, injV] 26)) z26
    simpa using this
  have c0 : ((w.alloc (.cells #[wsV, injV] 26)).alloc z26).cell? ⟨w.heap.size, 0, none⟩ = some wsV := by
    rw [World.cell?_alloc_past _ _ _ (by simp), World.cell?_alloc_at _ _ _ _ (by simp)]; rfl
  have c1 : ((w.alloc (.cells #[wsV, injV] 26)).alloc z26).cell? ⟨w.heap.size, 1, none⟩ = some injV := by
    rw [World.cell?_alloc_past _ _ _ (by simp), World.cell?_alloc_at _ _ _ _ (by simp)]; rfl
  have hval := valid_calls wsV injV qs s _ (h.below hb2) hs
  have nR : ¬ w.heap.size + 1 = w.heap.size := by omega
  have nR2 : ¬ w.heap.size = w.heap.size + 1 := by omega
  by_cases hv : valid s = false
  · have hC : pushS s x t = (⟨[], []⟩, 0, 14) := by unfold pushS; rw [if_pos hv]
    rw [hC]
    rw [hv] at hval
    simp only [Bool.false_eq_true, if_false] at hval
    clear hC hv h hs
    go_enter Try.func11, Try.ntmps11
    go_wp2_with fail
    refine hval.mono ?_
    rintro e w1 ⟨rfl, hb1⟩
    obtain ⟨hr1, p0, p1, pf⟩ := keep26 hb1 hr0
    replace c0 := hb1.at_cell c0
    replace c1 := hb1.at_cell c1
    have R1 := Lib.hid hr1
    have B1 := Lib.hid (hb2.then hb1)
    clear hr1 hr0 hb1 hb2 hval
    go_wp2_with fail
    have z1 := heap_setCell_same w1 (w.heap.size + 1) 0 _ 26 (.slice none 0 0) R1.out
    have z2 := heap_setCell_same _ (w.heap.size + 1) 1 _ 26 (.slice none 0 0) z1
    refine bodyPost_ret (results_ctt rfl _ _ (w.heap.size + 1) 26 _ (0, 0) _ rfl z2 Try.underlying26 rfl size26) rfl ?_
    exact ⟨.slice none 0 0, .slice none 0 0, [], rfl, StT.empty _ _, (B1.out.setCell (show w.heap.size ≤ w.heap.size + 1 by omega) _).setCell (show w.heap.size ≤ w.heap.size + 1 by omega) _⟩
  have hv2 : valid s = true := by simpa using hv
  rw [hv2] at hval
  simp only [if_true] at hval
  obtain ⟨wa, wc, hwf⟩ := h.ws.form
  by_cases hx : x < 0 ∨ (s.ws.length : Int) ≤ x ∨ t < 0
  · have hC : pushS s x t = (⟨[], []⟩, 0, 1) := by unfold pushS; rw [if_neg hv, if_pos hx]
    rw [hC]
    subst hwf
    generalize s.ws.length = n at *
    clear hC hv hv2 h hs
    by_cases h1 : x < 0
    · clear hx
      go_enter Try.func11, Try.ntmps11
      go_wp2_with fail
      refine hval.mono ?_
      rintro e w1 ⟨rfl, hb1⟩
      obtain ⟨hr1, p0, p1, pf⟩ := keep26 hb1 hr0
      replace c0 := hb1.at_cell c0
      replace c1 := hb1.at_cell c1
      have R1 := Lib.hid hr1
      have B1 := Lib.hid (hb2.then hb1)
      clear hr1 hr0 hb1 hb2 hval
      go_wp2_with fail
      have z1 := heap_setCell_same w1 (w.heap.size + 1) 0 _ 26 (.slice none 0 0) R1.out
      have z2 := heap_setCell_same _ (w.heap.size + 1) 1 _ 26 (.slice none 0 0) z1
      refine bodyPost_ret (results_ctt rfl _ _ (w.heap.size + 1) 26 _ (0, 0) _ rfl z2 Try.underlying26 rfl size26) rfl ?_
      exact ⟨.slice none 0 0, .slice none 0 0, [], rfl, StT.empty _ _, (B1.out.setCell (show w.heap.size ≤ w.heap.size + 1 by omega) _).setCell (show w.heap.size ≤ w.heap.size + 1 by omega) _⟩
    by_cases h2 : (n : Int) ≤ x
    · clear hx
      go_enter Try.func11, Try.ntmps11
      go_wp2_with fail
      refine hval.mono ?_
      rintro e w1 ⟨rfl, hb1⟩
      obtain ⟨hr1, p0, p1, pf⟩ := keep26 hb1 hr0
      replace c0 := hb1.at_cell c0
      replace c1 := hb1.at_cell c1
      have R1 := Lib.hid hr1
      have B1 := Lib.hid (hb2.then hb1)
      clear hr1 hr0 hb1 hb2 hval
      go_wp2_with fail
      have z1 := heap_setCell_same w1 (w.heap.size + 1) 0 _ 26 (.slice none 0 0) R1.out
      have z2 := heap_setCell_same _ (w.heap.size + 1) 1 _ 26 (.slice none 0 0) z1
      refine bodyPost_ret (results_ctt rfl _ _ (w.heap.size + 1) 26 _ (0, 0) _ rfl z2 Try.underlying26 rfl size26) rfl ?_
      exact ⟨.slice none 0 0, .slice none 0 0, [], rfl, StT.empty _ _, (B1.out.setCell (show w.heap.size ≤ w.heap.size + 1 by omega) _).setCell (show w.heap.size ≤ w.heap.size + 1 by omega) _⟩
    have h3 : t < 0 := by omega
    clear hx
    go_enter Try.func11, Try.ntmps11
    go_wp2_with fail
    refine hval.mono ?_
    rintro e w1 ⟨rfl, hb1⟩
    obtain ⟨hr1, p0, p1, pf⟩ := keep26 hb1 hr0
    replace c0 := hb1.at_cell c0
    replace c1 := hb1.at_cell c1
    have R1 := Lib.hid hr1
    have B1 := Lib.hid (hb2.then hb1)
    clear hr1 hr0 hb1 hb2 hval
    go_wp2_with fail
    have z1 := heap_setCell_same w1 (w.heap.size + 1) 0 _ 26 (.slice none 0 0) R1.out
    have z2 := heap_setCell_same _ (w.heap.size + 1) 1 _ 26 (.slice none 0 0) z1
    refine bodyPost_ret (results_ctt rfl _ _ (w.heap.size + 1) 26 _ (0, 0) _ rfl z2 Try.underlying26 rfl size26) rfl ?_
    exact ⟨.slice none 0 0, .slice none 0 0, [], rfl, StT.empty _ _, (B1.out.setCell (show w.heap.size ≤ w.heap.size + 1 by omega) _).setCell (show w.heap.size ≤ w.heap.size + 1 by omega) _⟩
  obtain ⟨i, rfl⟩ : ∃ i : Nat, x = (i : Int) := ⟨x.toNat, by omega⟩
  have hlt : i < s.ws.length := by omega
  have ht : ¬ t < 0 := by omega
  have hst := h
  have hpu : pushS s (i : Int) t = if (s.ws.getD i wk0).ph ≠ 3 then (⟨[], []⟩, 0, 310) else if putE s t ≠ 0 then (⟨[], []⟩, 0, putE s t)
      else ((wake (upd s i fun k => { k with q := k.q ++ [t] })).1, (wake (upd s i fun k => { k with q := k.q ++ [t] })).2, 0) := by
    unfold pushS
    rw [if_neg hv, if_neg hx, Int.toNat_natCast]
  rw [hpu]
  have hok := (valid_iff s).1 hv2
  have h0 : 0 < s.ws.length := hok.n1
  have h64 := hok.n64
  have hfew := hok.few
  have g1 : (i : Int) < (s.ws.length : Int) := by omega
  have g2 : (0 : Int) ≤ (i : Int) := by omega
  have g3 : ¬ (i : Int) < 0 := by omega
  have g4 : ¬ (s.ws.length : Int) ≤ (i : Int) := by omega
  obtain ⟨hnil, _⟩ | ⟨_, b, o, cp0, hwv, hcell⟩ := h.ws.cases
  · rw [hnil] at hlt; simp at hlt
  obtain ⟨-, hcp, -, -⟩ := hcell i hlt
  subst hwv
  have PE0 := q_le_tasks s i hlt
  clear hpu hv hv2 h hok hx hcell hwf
  by_cases hph : (s.ws.getD i wk0).ph ≠ 3
  · rw [if_pos hph]
    have hph2 : ((s.ws.getD i wk0).ph == 3) = false := by simpa using hph
    generalize (s.ws.getD i wk0).ph = ph at *
    generalize hnn : s.ws.length = n at *
    clear hs hnn PE0
    go_enter Try.func11, Try.ntmps11
    go_wp2_with fail
    refine hval.mono ?_
    rintro e w1 ⟨rfl, hb1⟩
    obtain ⟨hr1, p0, p1, pf⟩ := keep26 hb1 hr0
    replace c0 := hb1.at_cell c0
    replace c1 := hb1.at_cell c1
    have cp := (hb2.then hb1).at_cell hcp
    have ST := Lib.hid (hst.below (hb2.then hb1))
    have R1 := Lib.hid hr1
    have B1 := Lib.hid (hb2.then hb1)
    clear hr1 hr0 hb1 hb2 hval hst hcp
    clear ST
    go_wp2_with fail
    have z1 := heap_setCell_same w1 (w.heap.size + 1) 0 _ 26 (.slice none 0 0) R1.out
    have z2 := heap_setCell_same _ (w.heap.size + 1) 1 _ 26 (.slice none 0 0) z1
    refine bodyPost_ret (results_ctt rfl _ _ (w.heap.size + 1) 26 _ (0, 0) _ rfl z2 Try.underlying26 rfl size26) rfl ?_
    exact ⟨.slice none 0 0, .slice none 0 0, [], rfl, StT.empty _ _, (B1.out.setCell (show w.heap.size ≤ w.heap.size + 1 by omega) _).setCell (show w.heap.size ≤ w.heap.size + 1 by omega) _⟩
  rw [if_neg hph]
  have hph3 : (s.ws.getD i wk0).ph = 3 := by simpa using hph
  rw [hph3] at hcp
  clear hph
  by_cases hp : putE s t ≠ 0
  · rw [if_pos hp]
    generalize hpe : putE s t = pe at *
    have PE := Lib.hid hpe
    clear hpe PE0
    generalize hnn : s.ws.length = n at *
    clear hnn
    go_enter Try.func11, Try.ntmps11
    go_wp2_with fail
    refine hval.mono ?_
    rintro e w1 ⟨rfl, hb1⟩
    obtain ⟨hr1, p0, p1, pf⟩ := keep26 hb1 hr0
    replace c0 := hb1.at_cell c0
    replace c1 := hb1.at_cell c1
    have cp := (hb2.then hb1).at_cell hcp
    have ST := Lib.hid (hst.below (hb2.then hb1))
    have R1 := Lib.hid hr1
    have B1 := Lib.hid (hb2.then hb1)
    clear hr1 hr0 hb1 hb2 hval hst hcp
    clear p0 p1 pf hph3
    go_wp2_with fail
    refine (put_calls _ injV qs s _ ST.out hs t).mono ?_
    rintro e w2 ⟨rfl, hb3⟩
    obtain ⟨hr1, p0, p1, pf⟩ := keep26 hb3 R1.out
    replace R1 := Lib.hid hr1
    replace B1 := Lib.hid (B1.out.then hb3)
    rw [PE.out]
    clear hr1 hb3 c0 c1 ST hs cp
    go_wp2_with fail
    have z1 := heap_setCell_same w2 (w.heap.size + 1) 0 _ 26 (.slice none 0 0) R1.out
    have z2 := heap_setCell_same _ (w.heap.size + 1) 1 _ 26 (.slice none 0 0) z1
    refine bodyPost_ret (results_ctt rfl _ _ (w.heap.size + 1) 26 _ (0, 0) _ rfl z2 Try.underlying26 rfl size26) rfl ?_
    exact ⟨.slice none 0 0, .slice none 0 0, [], rfl, StT.empty _ _, (B1.out.setCell (show w.heap.size ≤ w.heap.size + 1 by omega) _).setCell (show w.heap.size ≤ w.heap.size + 1 by omega) _⟩
  rw [if_neg hp]
  have hp0 : putE s t = 0 := by simpa using hp
  have PE := Lib.hid hp0
  clear hp hp0
  obtain ⟨i0, hif, hz0, hz1, hz2⟩ := info_parts info3
  generalize hnn : s.ws.length = n at c0 c1 hb2 hr0 hval g1 g4 hlt hst h0 h64 ⊢
  have NN := Lib.hid hnn
  clear hnn
  go_enter Try.func11, Try.ntmps11
  go_wp2_with fail
  refine hval.mono ?_
  rintro e w1 ⟨rfl, hb1⟩
  replace c0 := hb1.at_cell c0
  replace c1 := hb1.at_cell c1
  have cp := (hb2.then hb1).at_cell hcp
  have ST := Lib.hid (hst.below (hb2.then hb1))
  have R1 := Lib.hid (keep26 hb1 hr0).1
  have B1 := Lib.hid (hb2.then hb1)
  clear hr0 hb1 hb2 hval hst hcp hph3
  go_wp2_with fail
  refine (put_calls _ injV qs s _ ST.out hs t).mono ?_
  rintro e w2 ⟨rfl, hb3⟩
  replace R1 := Lib.hid (keep26 hb3 R1.out).1
  replace B1 := Lib.hid (B1.out.then hb3)
  replace ST := Lib.hid (ST.out.below hb3)
  replace c0 := hb3.at_cell c0
  replace c1 := hb3.at_cell c1
  rw [PE.out]
  clear hb3 cp
  go_wp2_with fail
  refine (copied_calls _ injV qs s _ ST.out hs (by rw [NN.out]; exact h0)).mono ?_
  rintro e w3 ⟨P, g, cap, qs', injV', rfl, hF, hb4⟩
  rw [NN.out]
  obtain ⟨ja, jc, rfl⟩ := (SlI.of_owns hF.injO).form
  have hi2 : i < s.ws.length := by rw [NN.out]; exact hlt
  obtain ⟨qa, qc, hqf⟩ := (SlI.of_owns (hF.quO i hi2)).form
  have hF4 := hF.rebox
  rw [NN.out] at hF4
  obtain ⟨k0, -, -, -⟩ := hF4.own.cells i hi2
  obtain ⟨x0, -, -⟩ := hF4.own.boxed
  rw [NN.out] at x0
  rw [hqf] at k0
  have hown := (hF4.quO i hi2).alloc (.cells #[.int .i64 t] 3)
  rw [hqf] at hown
  have hF5 := hF4.below ((Below.refl _ _).alloc (Nat.le_refl _) (.cells #[.int .i64 t] 3))
  have hcl := cell_one_at (w3.alloc (.cells #[.slice (some ⟨g, 0, none⟩) n cap, .slice ja s.inj.length jc] 26)) (w3.heap.size + 1) (by simp) (.int .i64 t) 3
  have hb5 : Below w2.heap.size w2 ((w3.alloc (.cells #[.slice (some ⟨g, 0, none⟩) n cap, .slice ja s.inj.length jc] 26)).alloc (.cells #[.int .i64 t] 3)) := (hb4.alloc hb4.size _).alloc (by have := hb4.size; simp; omega) _
  have F5 := Lib.hid hF5
  have B5 := Lib.hid hb5
  have L2 := (Array.getElem?_eq_some_iff.1 R1.out).1
  have L3 := hb4.size
  have L4 := hF4.own.block.1
  have QF := Lib.hid hqf
  generalize hml : (s.ws.getD i wk0).q.length = m at hown k0 PE0
  have ML := Lib.hid hml
  clear c0 c1 hF hF4 hF5 hb4 ST hb5 hqf hml
  go_wp2_with (at_builtin; refine wpList_append_own _ rfl _ _ 24 rfl w2.heap.size 3 i0 (.int .i64 0) 1 8 Try.underlying24 hif hz0 hz1 hz2 rfl (by decide) _ _ _ rfl hown ⟨w3.heap.size + 1, 0, none⟩ 1 1 [.int .i64 t] rfl rfl hcl ?d2 ?d3 ?d4 ?d5 ?_)
  case d2 => intro u hu; simp at hu; subst hu; rfl
  case d3 => unfold maxLen; omega
  case d4 => omega
  case d5 => exact B5.out.size
  intro v4 w4 hown4 hgrow4 _
  have hown5 : w4.ownsRow w2.heap.size 3 1 v4 (m + 1) (((s.ws.getD i wk0).q ++ [t]).map (Value.int .i64)) := by simpa [hi2] using hown4
  obtain ⟨va, vc, rfl⟩ : ∃ a c, v4 = .slice a (m + 1) c := by
    have := (SlI.of_owns hown5).form
    rw [List.length_append, ML.out] at this
    exact this
  have hqi := F5.out.quO i hi2
  rw [QF.out, ML.out] at hqi
  have hX4 : w4.heap[w3.heap.size]? = some (.cells #[.slice (some ⟨g, 0, none⟩) s.ws.length cap, .slice ja s.inj.length jc] 26 (0, 0)) := by
    have hbx := F5.out.own.box
    rw [hgrow4.block _ (Array.getElem?_eq_some_iff.1 hbx).1 (fun e => owns_far hqi hbx (by decide) e.symm)]
    exact hbx
  obtain ⟨-, cur, hg5⟩ := F5.out.own.block
  have hG4 := hgrow4.block _ (Array.getElem?_eq_some_iff.1 hg5).1 (fun e => owns_far hqi hg5 (by decide) e.symm)
  have gc : w4.cell? ⟨g, i * 4, none⟩ = some (.slice qa m qc) := (World.cell?_of_block hG4).trans (((Below.refl _ _).alloc (Nat.le_refl _) _).at_cell k0)
  have gf : ∀ j, w4.frozen? ⟨g, j, none⟩ = false := fun j => (World.frozen?_of_block hG4).trans (F5.out.own.free j)
  have hO5 := F5.out.pushQ hi2 (by rw [QF.out, ML.out]; exact hgrow4) hown5
  have hB4 : Below w2.heap.size w2 (w4.setCell ⟨g, i * 4, none⟩ (.slice va (m + 1) vc)) :=
    (B5.out.grown hgrow4 B5.out.size (fun k hk => (hown.lt k hk).1)).setCell L4 _
  have hus : (upd s i fun k => { k with q := (s.ws.getD i wk0).q ++ [t] }) = upd s i fun k => { k with q := k.q ++ [t] } := rfl
  rw [hus] at hO5
  have hw := wake_calls hO5 (by rw [upd_len, NN.out]; omega)
  have hwl : (wake (upd s i fun k => { k with q := k.q ++ [t] })).1.ws.length = n := by rw [wake_len, upd_len, NN.out]
  generalize hW : wake (upd s i fun k => { k with q := k.q ++ [t] }) = W at *
  clear hown hcl hown4 hown5 hgrow4 hif hz0 hz1 hz2 F5 hX4 hg5 hG4 hO5 hqi k0 x0 hus
  go_wp2_with fail
  refine hw.mono ?_
  rintro e w6 ⟨rfl, hO6, hb6⟩
  have hb7 := hB4.trans hb6
  obtain ⟨hr1, p0, p1, pf⟩ := keep26 hb7 R1.out
  obtain ⟨y0, y1, -⟩ := hO6.boxed
  rw [hwl] at y0
  have nX : ¬ w3.heap.size = w.heap.size + 1 := by omega
  have nX2 : ¬ w.heap.size + 1 = w3.heap.size := by omega
  replace R1 := Lib.hid hr1
  have O6 := Lib.hid hO6
  have L1 : w.heap.size ≤ w2.heap.size := B1.out.size
  have B7 := Lib.hid (B1.out.then hb7)
  have WL := Lib.hid hwl
  have HW := Lib.hid hW
  clear hr1 hO6 hb6 hb7 hB4 hw hwl hW B1 B5 gc gf
  go_wp2_with fail
  have z1 := heap_setCell_same w6 (w.heap.size + 1) 0 _ 26 (.slice (some ⟨g, 0, none⟩) n cap) R1.out
  have z2 := heap_setCell_same _ (w.heap.size + 1) 1 _ 26 (.slice ja s.inj.length jc) z1
  refine bodyPost_ret (results_ctt rfl _ _ (w.heap.size + 1) 26 _ (0, 0) _ rfl z2 Try.underlying26 rfl size26) rfl ?_
  refine ⟨.slice (some ⟨g, 0, none⟩) n cap, .slice ja s.inj.length jc, qs'.set i (.slice va (m + 1) vc), by rw [HW.out]; rfl, ?_, (B7.out.setCell (show w.heap.size ≤ w.heap.size + 1 by omega) _).setCell (show w.heap.size ≤ w.heap.size + 1 by omega) _⟩
  have o1 := O6.out.elsewhere26 (a := ⟨w.heap.size + 1, 0, none⟩) (.slice (some ⟨g, 0, none⟩) n cap) R1.out (fun e => nX e)
  have o2 := o1.elsewhere26 (a := ⟨w.heap.size + 1, 1, none⟩) (.slice ja s.inj.length jc) z1 (fun e => nX e)
  have := o2.stT
  rw [WL.out] at this
  rw [HW.out]
  exact this.imp fun g _ hg => Nat.le_trans L1 hg
end Go.Proofs.Ytjnlfibcpkobaaa
