/- Decide 24. -/
import Derived.Test.YtddajaikighjlaaPb
namespace Go.Proofs.Ytddajaikighjlaa
open Go.RowKit Go.Sl Go.Mp

theorem info67 : (Try.prog.info? 67).map (fun i => (i.zero, i.size, i.bytes)) = some (some (.agg #[.int .i64 0, .int .i64 0, .int .i64 0]), 3, 24) := by kernel_rfl
theorem cells_three (w : World) (a b c : Value) (t : TypeId) : ∀ (j : Nat) (u : Value), [a, b, c][j]? = some u → (w.alloc (.cells #[a, b, c] t)).cell? (Addr.add ⟨w.heap.size, 0, none⟩ j) = some u := by
  intro j u h
  have e := heap_alloc_new w (.cells #[a, b, c] t)
  rw [Go.WideShapes.add_plain]
  unfold World.cell?
  simp only [e, Option.isSome_none, Bool.false_eq_true, if_false, Nat.zero_add]
  rw [← h]
  simp
theorem encP_len (t : Int × Int × Int) : (encP t).length = 3 := rfl
def tellS (ph x : Int) (l : List Int) : List (Int × Int × Int) := l.map fun who => (who, ph, x)
theorem tell_take (ph x : Int) (l : List Int) (k : Nat) (y : Int) (h : l[k]? = some y) : (tellS ph x (l.take (k + 1))).flatMap encP = (tellS ph x (l.take k)).flatMap encP ++ [.int .i64 y, .int .i64 ph, .int .i64 x] := by
  rw [List.take_add_one, h]
  simp [tellS, encP]
theorem own_step {base k : Nat} {v : Value} {xs : List Value} {W w5 : World} (hown : W.ownsRow base 67 3 v k xs) (hg : W.grownBy w5 v.ownBlock) {b : Nat} {cs : Array Value} {t : TypeId} {f : Nat × Nat} (hb : W.heap[b]? = some (.cells cs t f)) (ht : t ≠ 67) : w5.heap[b]? = some (.cells cs t f) :=
  (hg.block b (Array.getElem?_eq_some_iff.1 hb).1 fun e => own_ne hown hb ht b e.symm rfl).trans hb

set_option maxRecDepth 100000 in
set_option maxHeartbeats 4000000 in
theorem decideT_calls (p : Pr) (v : Value) (x : Int) (w : World) (h : SlI w v p.wt) (hn : p.wt.length ≤ 1000000) : Calls Try.prog 24 #[prV p v, .bool true, .int .i64 x] w fun e w' => ∃ v' s, e = .returned (.tuple #[prV (decideS p true x).1 v', s, .int .i64 (decideS p true x).2.2]) ∧
    w'.ownsRow w.heap.size 3 1 v' (decideS p true x).1.wt.length ((decideS p true x).1.wt.map (Value.int .i64)) ∧ w'.ownsRow w.heap.size 67 3 s (decideS p true x).2.1.length ((decideS p true x).2.1.flatMap encP) ∧ Below w.heap.size w w' := by
  obtain ⟨a, c, rfl⟩ := h.form
  obtain ⟨w1, hw1⟩ : ∃ w1, (w.alloc (.cells #[.int .i64 p.ph, .int .i64 p.val, .slice a p.wt.length c] 60)).alloc (.cells #[.int .i64 0, .int .i64 0, .slice none 0 0] 60) = w1 := ⟨_, rfl⟩
  have hb1 : Below w.heap.size w w1 := by rw [← hw1]; exact ((Below.refl w.heap.size w).alloc (Nat.le_refl _) _).alloc (by simp) _
  have hz : w1.heap.size = w.heap.size + 2 := by rw [← hw1]; simp
  have g0 : w1.heap[w.heap.size]? = some (.cells #[.int .i64 p.ph, .int .i64 p.val, .slice a p.wt.length c] 60 (0, 0)) := by
    rw [← hw1, heap_alloc_old _ _ (by simp)]
    exact heap_alloc_new _ _
  have g1 : w1.heap[w.heap.size + 1]? = some (.cells #[.int .i64 0, .int .i64 0, .slice none 0 0] 60 (0, 0)) := by
    rw [← hw1]
    exact heap_alloc_new (w.alloc (.cells #[.int .i64 p.ph, .int .i64 p.val, .slice a p.wt.length c] 60)) _ |> fun h => by simpa using h
  have hck := check_calls p (.slice a p.wt.length c) w1 ⟨_, _, rfl⟩
  have B1 := Lib.hid hb1
  have Z1 := Lib.hid hz
  have G0 := Lib.hid g0
  have G1 := Lib.hid g1
  have H1 := Lib.hid (SlI.below h hb1)
  obtain ⟨x0, x1, x2, -⟩ := row3 g0
  clear h hb1 hz g0 g1
  obtain ⟨E, hE⟩ : ∃ E, okP p = E := ⟨_, rfl⟩
  obtain ⟨r, hr⟩ : ∃ r, decideS p true x = r := ⟨_, rfl⟩
  rw [hE] at hck
  rw [hr]
  by_cases h0 : E = 0
  case neg =>
    have er : r = (pr0, [], E) := by rw [← hr]; unfold decideS; rw [hE, if_pos h0]
    subst er
    clear hr
    unfold prV at hck ⊢
    go_enter Try.func24, Try.ntmps24
    go_wp2_with fail
    refine hck.mono ?_
    rintro e w2 ⟨rfl, hb2⟩
    have z1 := (hb2.block (w.heap.size + 1) (by have := Z1.out; omega)).trans G1.out
    have B2 := B1.out.trans (hb2.mono B1.out.size)
    obtain ⟨e0, e1, e2, f1⟩ := row3 z1
    obtain ⟨r1, r2, r3⟩ := fill3 z1 (.int .i64 0) (.int .i64 0) (.slice none 0 0)
    have R1 := Lib.hid r1
    have B3 := Lib.hid (below_fill3 B2 (b := w.heap.size + 1) (by omega) (.int .i64 0) (.int .i64 0) (.slice none 0 0))
    clear z1 B2 hck hw1 x0 x1 x2 r1 r2 r3 hb2
    go_wp2_with fail
    refine bodyPost_ret (results_cell3 rfl _ _ (w.heap.size + 1) 60 _ (0, 0) _ rfl R1.out Try.underlying60 size60) rfl ?_
    exact ⟨_, _, rfl, own_none _ _ _ _, own_none _ _ _ _, B3.out⟩
  subst h0
  have hph := okP_phase hE
  by_cases hp0 : p.ph = 0
  case neg =>
    have er : r = (p, [], 0) := by rw [← hr]; unfold decideS; rw [hE, if_neg (by simp), if_pos hp0]
    subst er
    clear hr
    have hcl := fun (w2 : World) (hb : Below w1.heap.size w1 w2) => clone_calls p (.slice a p.wt.length c) w2 (H1.out.below hb) (by omega)
    obtain ⟨ph, val, wt⟩ := p
    unfold prV at hck hcl ⊢
    simp only at *
    have HCL := Lib.hid hcl
    clear hcl
    go_enter Try.func24, Try.ntmps24
    go_wp2_with fail
    refine hck.mono ?_
    rintro e w2 ⟨rfl, hb2⟩
    have z0 := (hb2.block w.heap.size (by have := Z1.out; omega)).trans G0.out
    obtain ⟨y0, y1, y2, -⟩ := row3 z0
    have HB2 := Lib.hid hb2
    clear hck hw1 x0 x1 x2 z0 hb2
    go_wp2_with fail
    refine (HCL.out w2 HB2.out).mono ?_
    rintro e w3 ⟨v', rfl, ho, hb3⟩
    obtain ⟨av, cv, rfl⟩ := own_form ho
    have HB3 := Lib.hid (HB2.out.trans (hb3.mono HB2.out.size))
    have z3 := (HB3.out.block (w.heap.size + 1) (by have := Z1.out; omega)).trans G1.out
    obtain ⟨e0, e1, e2, f1⟩ := row3 z3
    have Z3 := Lib.hid z3
    have HO := Lib.hid ho
    have HL2 := Lib.hid HB2.out.size
    clear ho hb3 z3
    go_wp2_with fail
    refine bodyPost_ret (results_cell3 rfl _ _ (w.heap.size + 1) 60 _ (0, 0) _ rfl (fill3 Z3.out _ _ _).1 Try.underlying60 size60) rfl ?_
    exact ⟨_, _, rfl, own_le (aw_own HO.out (by have := Z1.out; have := HL2.out; omega) (fill3 Z3.out _ _ _).2.2) (Nat.le_trans B1.out.size HL2.out), own_none _ _ _ _, below_fill3 (B1.out.trans (HB3.out.mono B1.out.size)) (by omega) _ _ _⟩
  have er : r = (⟨1, x, []⟩, tellS 1 x p.wt, 0) := by rw [← hr]; unfold decideS; rw [hE, if_neg (by simp), if_neg (by simp [hp0])]; rfl
  subst er
  clear hr
  obtain ⟨ph, val, wt⟩ := p
  unfold prV at hck ⊢
  simp only at *
  subst hp0
  have HL := Lib.hid hn
  obtain ⟨n, hn2⟩ : ∃ n, wt.length = n := ⟨_, rfl⟩
  have HN := Lib.hid hn2
  rw [hn2] at hck x2 hn
  have G0' := G0.out
  rw [hn2] at G0'
  have hc1 := H1.out.cases
  have HC1 := Lib.hid hc1
  rw [hn2] at hw1
  clear hn2 hc1
  have G0 := Lib.hid G0'
  clear G0'
  rw [HN.out]
  go_enter Try.func24, Try.ntmps24
  go_wp2_with fail
  refine hck.mono ?_
  rintro e w2 ⟨rfl, hb2⟩
  have z0 := (hb2.block w.heap.size (by have := Z1.out; omega)).trans G0.out
  have z1 := (hb2.block (w.heap.size + 1) (by have := Z1.out; omega)).trans G1.out
  obtain ⟨y0, y1, y2, -⟩ := row3 z0
  have HB2 := Lib.hid hb2
  have Y0 := Lib.hid z0
  have Y1 := Lib.hid z1
  have ZS := Lib.hid hb2.size
  obtain ⟨w4, hw4⟩ : ∃ w4, w2.alloc (.cells #[.int .i64 1, .int .i64 x, .slice none 0 0] 60) = w4 := ⟨_, rfl⟩
  have hb4 : Below w2.heap.size w2 w4 := by rw [← hw4]; exact (Below.refl _ _).alloc (Nat.le_refl _) _
  have z4 := (hb4.block w.heap.size (by have := Z1.out; have := ZS.out; omega)).trans z0
  have z5 := (hb4.block (w.heap.size + 1) (by have := Z1.out; have := ZS.out; omega)).trans z1
  have z6 : w4.heap[w2.heap.size]? = some (.cells #[.int .i64 1, .int .i64 x, .slice none 0 0] 60 (0, 0)) := by rw [← hw4]; exact heap_alloc_new _ _
  obtain ⟨-, -, y3, -⟩ := row3 z4
  have q1 : w.heap.size < w2.heap.size := by have := Z1.out; have := ZS.out; omega
  have q2 : ¬ w.heap.size = w2.heap.size := Nat.ne_of_lt q1
  have Y4 := Lib.hid z5
  have Y5 := Lib.hid z6
  have HB4 := Lib.hid (HB2.out.trans (hb4.mono HB2.out.size))
  have HS4 := Lib.hid (show w4.heap.size = w2.heap.size + 1 by rw [← hw4]; simp)
  have HW4 := Lib.hid hw4
  have HY3 := Lib.hid y3
  clear hck hw1 x0 x1 x2 z0 z1 z4 z5 z6 hb4 hb2 hw4 y3
  go_wp2_with fail
  rw [HW4.out]
  go_loopw [34, 11] (fun i vo wr => ∃ kk : Nat, kk ≤ n ∧ i = .int .i64 (kk : Int) ∧ wr.ownsRow w4.heap.size 67 3 vo kk ((tellS 1 x (wt.take kk)).flatMap encP) ∧ Below w4.heap.size w4 wr) (fun i _ _ => n - (intOf i).toNat)
  case atStart => exact ⟨0, Nat.zero_le _, rfl, own_none _ _ _ _, Below.refl _ _⟩
  case round =>
    obtain ⟨kk, hk, rfl, hown, hbel⟩ := hrel
    obtain ⟨av, cv, rfl⟩ := own_form hown
    have HOW := Lib.hid hown
    have HBE := Lib.hid hbel
    have HBW := Lib.hid (HB4.out.trans (hbel.mono HB4.out.size))
    by_cases hlt : kk < n
    · rcases HC1.out with ⟨h0, -⟩ | ⟨h0, g, o, cap, hf, hc⟩
      · exact absurd hlt (by have := HN.out; rw [h0] at this; simp at this; omega)
      · simp only [Value.slice.injEq] at hf
        obtain ⟨rfl, -, rfl⟩ := hf
        obtain ⟨y, hy⟩ : ∃ y, wt[kk]? = some y := ⟨_, List.getElem?_eq_getElem (by have := HN.out; omega)⟩
        have hcc := HBW.out.at_cell (hc kk (by have := HN.out; omega))
        rw [show wt.getD kk 0 = y by simp [List.getD, hy]] at hcc
        have b0 := hbel.block w2.heap.size (by have := HS4.out; omega) |>.trans Y5.out
        obtain ⟨p0, p1, p2, -⟩ := row3 b0
        have hW := Lib.hid (tell_take 1 x wt kk y hy)
        obtain ⟨W, hWW⟩ : ∃ W, wr.alloc (.cells #[.int .i64 y, .int .i64 1, .int .i64 x] 67) = W := ⟨_, rfl⟩
        have k0 : ∀ k, k < wr.heap.size → W.heap[k]? = wr.heap[k]? := fun k hk => by rw [← hWW, heap_alloc_old _ _ hk]
        have hown1 : W.ownsRow w4.heap.size 67 3 (.slice av kk cv) kk ((tellS 1 x (wt.take kk)).flatMap encP) := own_same hown fun g hg => k0 g (hown.lt g hg).2
        have hcl := cells_three wr (.int .i64 y) (.int .i64 1) (.int .i64 x) 67
        rw [hWW] at hcl
        obtain ⟨i0, hif, hz0, hz1, hz2⟩ := info_parts info67
        have hbW : Below w4.heap.size w4 W := by rw [← hWW]; exact hbel.alloc hbel.size _
        have HWS := Lib.hid (show W.heap.size = wr.heap.size + 1 by rw [← hWW]; simp)
        have HY := Lib.hid hy
        have HBX := Lib.hid hbW
        have hlt' : (kk : Int) < (n : Int) := by omega
        clear hc b0 hy hbW hown hbel
        go_wp2_with (at_builtin; refine wpList_append_own _ rfl (.tmp 38) (.tmp 44) 62 rfl w4.heap.size 67 i0 (.agg #[.int .i64 0, .int .i64 0, .int .i64 0]) 3 24 Try.underlying62 hif hz0 hz1 hz2 rfl (by decide) _ _ _ rfl hown1 ⟨wr.heap.size, 0, none⟩ 1 1 [.int .i64 y, .int .i64 1, .int .i64 x] rfl rfl hcl ?d2 ?d3 ?d4 ?d5 ?_)
        case d2 =>
          intro u hu
          simp only [List.mem_cons, List.not_mem_nil, or_false] at hu
          rcases hu with rfl | rfl | rfl <;> rfl
        case d3 =>
          unfold maxLen
          omega
        case d4 => omega
        case d5 => exact HBX.out.size
        intro v' w5 hown2 hgrow _
        obtain ⟨av2, cv2, rfl⟩ := own_form hown2
        have O2 := Lib.hid hown2
        have B5 := Lib.hid (HBX.out.grown hgrow HBX.out.size fun k hk => (hown1.lt k hk).1)
        clear hown1 hown2 hgrow hcl hif hz0 hz1 hz2 hWW k0 p0 p1 p2 hcc
        go_wp2_with fail
        go_roundw
        case rel => exact ⟨kk + 1, by omega, by go_num, by rw [hW.out]; exact O2.out, B5.out⟩
        case measure => simp [intOf]; omega
    · have hke : kk = n := by omega
      subst hke
      have b0 := (hbel.block w2.heap.size (by have := HS4.out; omega)).trans Y5.out
      have b1 := (hbel.block (w.heap.size + 1) (by have := HS4.out; have := ZS.out; have := Z1.out; omega)).trans Y4.out
      obtain ⟨p0, p1, p2, -⟩ := row3 b0
      obtain ⟨e0, e1, e2, f1⟩ := row3 b1
      have HB := Lib.hid b1
      have hlt' : ¬ (kk : Int) < (kk : Int) := by omega
      clear b0 b1 hown hbel
      go_wp2_with fail
      refine bodyPost_ret (results_cell3 rfl _ _ (w.heap.size + 1) 60 _ (0, 0) _ rfl (fill3 HB.out _ _ _).1 Try.underlying60 size60) rfl ?_
      refine ⟨_, _, rfl, own_none _ _ _ _, ?_, below_fill3 (B1.out.trans (HBW.out.mono B1.out.size)) (by omega) _ _ _⟩
      have ho := own_same HOW.out fun g hg => (fill3 HB.out (.int .i64 1) (.int .i64 x) (.slice none 0 0)).2.2 g (by have := (HOW.out.lt g hg).1; have := HS4.out; have := ZS.out; have := Z1.out; omega)
      rw [show (tellS 1 x wt).length = kk by simp [tellS, HN.out]]
      rw [List.take_of_length_le (by rw [HN.out]; exact Nat.le_refl _)] at ho
      exact own_le ho (by have := HS4.out; have := ZS.out; have := Z1.out; omega)

set_option maxRecDepth 100000 in
set_option maxHeartbeats 4000000 in
theorem decideF_calls (p : Pr) (v : Value) (x : Int) (w : World) (h : SlI w v p.wt) (hn : p.wt.length ≤ 1000000) : Calls Try.prog 24 #[prV p v, .bool false, .int .i64 x] w fun e w' => ∃ v' s, e = .returned (.tuple #[prV (decideS p false x).1 v', s, .int .i64 (decideS p false x).2.2]) ∧
    w'.ownsRow w.heap.size 3 1 v' (decideS p false x).1.wt.length ((decideS p false x).1.wt.map (Value.int .i64)) ∧ w'.ownsRow w.heap.size 67 3 s (decideS p false x).2.1.length ((decideS p false x).2.1.flatMap encP) ∧ Below w.heap.size w w' := by
  obtain ⟨a, c, rfl⟩ := h.form
  obtain ⟨w1, hw1⟩ : ∃ w1, (w.alloc (.cells #[.int .i64 p.ph, .int .i64 p.val, .slice a p.wt.length c] 60)).alloc (.cells #[.int .i64 0, .int .i64 0, .slice none 0 0] 60) = w1 := ⟨_, rfl⟩
  have hb1 : Below w.heap.size w w1 := by rw [← hw1]; exact ((Below.refl w.heap.size w).alloc (Nat.le_refl _) _).alloc (by simp) _
  have hz : w1.heap.size = w.heap.size + 2 := by rw [← hw1]; simp
  have g0 : w1.heap[w.heap.size]? = some (.cells #[.int .i64 p.ph, .int .i64 p.val, .slice a p.wt.length c] 60 (0, 0)) := by
    rw [← hw1, heap_alloc_old _ _ (by simp)]
    exact heap_alloc_new _ _
  have g1 : w1.heap[w.heap.size + 1]? = some (.cells #[.int .i64 0, .int .i64 0, .slice none 0 0] 60 (0, 0)) := by
    rw [← hw1]
    exact heap_alloc_new (w.alloc (.cells #[.int .i64 p.ph, .int .i64 p.val, .slice a p.wt.length c] 60)) _ |> fun h => by simpa using h
  have hck := check_calls p (.slice a p.wt.length c) w1 ⟨_, _, rfl⟩
  have B1 := Lib.hid hb1
  have Z1 := Lib.hid hz
  have G0 := Lib.hid g0
  have G1 := Lib.hid g1
  have H1 := Lib.hid (SlI.below h hb1)
  obtain ⟨x0, x1, x2, -⟩ := row3 g0
  clear h hb1 hz g0 g1
  obtain ⟨E, hE⟩ : ∃ E, okP p = E := ⟨_, rfl⟩
  obtain ⟨r, hr⟩ : ∃ r, decideS p false x = r := ⟨_, rfl⟩
  rw [hE] at hck
  rw [hr]
  by_cases h0 : E = 0
  case neg =>
    have er : r = (pr0, [], E) := by rw [← hr]; unfold decideS; rw [hE, if_pos h0]
    subst er
    clear hr
    unfold prV at hck ⊢
    go_enter Try.func24, Try.ntmps24
    go_wp2_with fail
    refine hck.mono ?_
    rintro e w2 ⟨rfl, hb2⟩
    have z1 := (hb2.block (w.heap.size + 1) (by have := Z1.out; omega)).trans G1.out
    have B2 := B1.out.trans (hb2.mono B1.out.size)
    obtain ⟨e0, e1, e2, f1⟩ := row3 z1
    obtain ⟨r1, r2, r3⟩ := fill3 z1 (.int .i64 0) (.int .i64 0) (.slice none 0 0)
    have R1 := Lib.hid r1
    have B3 := Lib.hid (below_fill3 B2 (b := w.heap.size + 1) (by omega) (.int .i64 0) (.int .i64 0) (.slice none 0 0))
    clear z1 B2 hck hw1 x0 x1 x2 r1 r2 r3 hb2
    go_wp2_with fail
    refine bodyPost_ret (results_cell3 rfl _ _ (w.heap.size + 1) 60 _ (0, 0) _ rfl R1.out Try.underlying60 size60) rfl ?_
    exact ⟨_, _, rfl, own_none _ _ _ _, own_none _ _ _ _, B3.out⟩
  subst h0
  have hph := okP_phase hE
  by_cases hp0 : p.ph = 0
  case neg =>
    have er : r = (p, [], 0) := by rw [← hr]; unfold decideS; rw [hE, if_neg (by simp), if_pos hp0]
    subst er
    clear hr
    have hcl := fun (w2 : World) (hb : Below w1.heap.size w1 w2) => clone_calls p (.slice a p.wt.length c) w2 (H1.out.below hb) (by omega)
    obtain ⟨ph, val, wt⟩ := p
    unfold prV at hck hcl ⊢
    simp only at *
    have HCL := Lib.hid hcl
    clear hcl
    go_enter Try.func24, Try.ntmps24
    go_wp2_with fail
    refine hck.mono ?_
    rintro e w2 ⟨rfl, hb2⟩
    have z0 := (hb2.block w.heap.size (by have := Z1.out; omega)).trans G0.out
    obtain ⟨y0, y1, y2, -⟩ := row3 z0
    have HB2 := Lib.hid hb2
    clear hck hw1 x0 x1 x2 z0 hb2
    go_wp2_with fail
    refine (HCL.out w2 HB2.out).mono ?_
    rintro e w3 ⟨v', rfl, ho, hb3⟩
    obtain ⟨av, cv, rfl⟩ := own_form ho
    have HB3 := Lib.hid (HB2.out.trans (hb3.mono HB2.out.size))
    have z3 := (HB3.out.block (w.heap.size + 1) (by have := Z1.out; omega)).trans G1.out
    obtain ⟨e0, e1, e2, f1⟩ := row3 z3
    have Z3 := Lib.hid z3
    have HO := Lib.hid ho
    have HL2 := Lib.hid HB2.out.size
    clear ho hb3 z3
    go_wp2_with fail
    refine bodyPost_ret (results_cell3 rfl _ _ (w.heap.size + 1) 60 _ (0, 0) _ rfl (fill3 Z3.out _ _ _).1 Try.underlying60 size60) rfl ?_
    exact ⟨_, _, rfl, own_le (aw_own HO.out (by have := Z1.out; have := HL2.out; omega) (fill3 Z3.out _ _ _).2.2) (Nat.le_trans B1.out.size HL2.out), own_none _ _ _ _, below_fill3 (B1.out.trans (HB3.out.mono B1.out.size)) (by omega) _ _ _⟩
  have er : r = (⟨2, x, []⟩, tellS 2 x p.wt, 0) := by rw [← hr]; unfold decideS; rw [hE, if_neg (by simp), if_neg (by simp [hp0])]; rfl
  subst er
  clear hr
  obtain ⟨ph, val, wt⟩ := p
  unfold prV at hck ⊢
  simp only at *
  subst hp0
  have HL := Lib.hid hn
  obtain ⟨n, hn2⟩ : ∃ n, wt.length = n := ⟨_, rfl⟩
  have HN := Lib.hid hn2
  rw [hn2] at hck x2 hn
  have G0' := G0.out
  rw [hn2] at G0'
  have hc1 := H1.out.cases
  have HC1 := Lib.hid hc1
  rw [hn2] at hw1
  clear hn2 hc1
  have G0 := Lib.hid G0'
  clear G0'
  rw [HN.out]
  go_enter Try.func24, Try.ntmps24
  go_wp2_with fail
  refine hck.mono ?_
  rintro e w2 ⟨rfl, hb2⟩
  have z0 := (hb2.block w.heap.size (by have := Z1.out; omega)).trans G0.out
  have z1 := (hb2.block (w.heap.size + 1) (by have := Z1.out; omega)).trans G1.out
  obtain ⟨y0, y1, y2, -⟩ := row3 z0
  have HB2 := Lib.hid hb2
  have Y0 := Lib.hid z0
  have Y1 := Lib.hid z1
  have ZS := Lib.hid hb2.size
  obtain ⟨w4, hw4⟩ : ∃ w4, w2.alloc (.cells #[.int .i64 2, .int .i64 x, .slice none 0 0] 60) = w4 := ⟨_, rfl⟩
  have hb4 : Below w2.heap.size w2 w4 := by rw [← hw4]; exact (Below.refl _ _).alloc (Nat.le_refl _) _
  have z4 := (hb4.block w.heap.size (by have := Z1.out; have := ZS.out; omega)).trans z0
  have z5 := (hb4.block (w.heap.size + 1) (by have := Z1.out; have := ZS.out; omega)).trans z1
  have z6 : w4.heap[w2.heap.size]? = some (.cells #[.int .i64 2, .int .i64 x, .slice none 0 0] 60 (0, 0)) := by rw [← hw4]; exact heap_alloc_new _ _
  obtain ⟨-, -, y3, -⟩ := row3 z4
  have q1 : w.heap.size < w2.heap.size := by have := Z1.out; have := ZS.out; omega
  have q2 : ¬ w.heap.size = w2.heap.size := Nat.ne_of_lt q1
  have Y4 := Lib.hid z5
  have Y5 := Lib.hid z6
  have HB4 := Lib.hid (HB2.out.trans (hb4.mono HB2.out.size))
  have HS4 := Lib.hid (show w4.heap.size = w2.heap.size + 1 by rw [← hw4]; simp)
  have HW4 := Lib.hid hw4
  have HY3 := Lib.hid y3
  clear hck hw1 x0 x1 x2 z0 z1 z4 z5 z6 hb4 hb2 hw4 y3
  go_wp2_with fail
  rw [HW4.out]
  go_loopw [34, 11] (fun i vo wr => ∃ kk : Nat, kk ≤ n ∧ i = .int .i64 (kk : Int) ∧ wr.ownsRow w4.heap.size 67 3 vo kk ((tellS 2 x (wt.take kk)).flatMap encP) ∧ Below w4.heap.size w4 wr) (fun i _ _ => n - (intOf i).toNat)
  case atStart => exact ⟨0, Nat.zero_le _, rfl, own_none _ _ _ _, Below.refl _ _⟩
  case round =>
    obtain ⟨kk, hk, rfl, hown, hbel⟩ := hrel
    obtain ⟨av, cv, rfl⟩ := own_form hown
    have HOW := Lib.hid hown
    have HBE := Lib.hid hbel
    have HBW := Lib.hid (HB4.out.trans (hbel.mono HB4.out.size))
    by_cases hlt : kk < n
    · rcases HC1.out with ⟨h0, -⟩ | ⟨h0, g, o, cap, hf, hc⟩
      · exact absurd hlt (by have := HN.out; rw [h0] at this; simp at this; omega)
      · simp only [Value.slice.injEq] at hf
        obtain ⟨rfl, -, rfl⟩ := hf
        obtain ⟨y, hy⟩ : ∃ y, wt[kk]? = some y := ⟨_, List.getElem?_eq_getElem (by have := HN.out; omega)⟩
        have hcc := HBW.out.at_cell (hc kk (by have := HN.out; omega))
        rw [show wt.getD kk 0 = y by simp [List.getD, hy]] at hcc
        have b0 := hbel.block w2.heap.size (by have := HS4.out; omega) |>.trans Y5.out
        obtain ⟨p0, p1, p2, -⟩ := row3 b0
        have hW := Lib.hid (tell_take 2 x wt kk y hy)
        obtain ⟨W, hWW⟩ : ∃ W, wr.alloc (.cells #[.int .i64 y, .int .i64 2, .int .i64 x] 67) = W := ⟨_, rfl⟩
        have k0 : ∀ k, k < wr.heap.size → W.heap[k]? = wr.heap[k]? := fun k hk => by rw [← hWW, heap_alloc_old _ _ hk]
        have hown1 : W.ownsRow w4.heap.size 67 3 (.slice av kk cv) kk ((tellS 2 x (wt.take kk)).flatMap encP) := own_same hown fun g hg => k0 g (hown.lt g hg).2
        have hcl := cells_three wr (.int .i64 y) (.int .i64 2) (.int .i64 x) 67
        rw [hWW] at hcl
        obtain ⟨i0, hif, hz0, hz1, hz2⟩ := info_parts info67
        have hbW : Below w4.heap.size w4 W := by rw [← hWW]; exact hbel.alloc hbel.size _
        have HWS := Lib.hid (show W.heap.size = wr.heap.size + 1 by rw [← hWW]; simp)
        have HY := Lib.hid hy
        have HBX := Lib.hid hbW
        have hlt' : (kk : Int) < (n : Int) := by omega
        clear hc b0 hy hbW hown hbel
        go_wp2_with (at_builtin; refine wpList_append_own _ rfl (.tmp 38) (.tmp 44) 62 rfl w4.heap.size 67 i0 (.agg #[.int .i64 0, .int .i64 0, .int .i64 0]) 3 24 Try.underlying62 hif hz0 hz1 hz2 rfl (by decide) _ _ _ rfl hown1 ⟨wr.heap.size, 0, none⟩ 1 1 [.int .i64 y, .int .i64 2, .int .i64 x] rfl rfl hcl ?d2 ?d3 ?d4 ?d5 ?_)
        case d2 =>
          intro u hu
          simp only [List.mem_cons, List.not_mem_nil, or_false] at hu
          rcases hu with rfl | rfl | rfl <;> rfl
        case d3 =>
          unfold maxLen
          omega
        case d4 => omega
        case d5 => exact HBX.out.size
        intro v' w5 hown2 hgrow _
        obtain ⟨av2, cv2, rfl⟩ := own_form hown2
        have O2 := Lib.hid hown2
        have B5 := Lib.hid (HBX.out.grown hgrow HBX.out.size fun k hk => (hown1.lt k hk).1)
        clear hown1 hown2 hgrow hcl hif hz0 hz1 hz2 hWW k0 p0 p1 p2 hcc
        go_wp2_with fail
        go_roundw
        case rel => exact ⟨kk + 1, by omega, by go_num, by rw [hW.out]; exact O2.out, B5.out⟩
        case measure => simp [intOf]; omega
    · have hke : kk = n := by omega
      subst hke
      have b0 := (hbel.block w2.heap.size (by have := HS4.out; omega)).trans Y5.out
      have b1 := (hbel.block (w.heap.size + 1) (by have := HS4.out; have := ZS.out; have := Z1.out; omega)).trans Y4.out
      obtain ⟨p0, p1, p2, -⟩ := row3 b0
      obtain ⟨e0, e1, e2, f1⟩ := row3 b1
      have HB := Lib.hid b1
      have hlt' : ¬ (kk : Int) < (kk : Int) := by omega
      clear b0 b1 hown hbel
      go_wp2_with fail
      refine bodyPost_ret (results_cell3 rfl _ _ (w.heap.size + 1) 60 _ (0, 0) _ rfl (fill3 HB.out _ _ _).1 Try.underlying60 size60) rfl ?_
      refine ⟨_, _, rfl, own_none _ _ _ _, ?_, below_fill3 (B1.out.trans (HBW.out.mono B1.out.size)) (by omega) _ _ _⟩
      have ho := own_same HOW.out fun g hg => (fill3 HB.out (.int .i64 2) (.int .i64 x) (.slice none 0 0)).2.2 g (by have := (HOW.out.lt g hg).1; have := HS4.out; have := ZS.out; have := Z1.out; omega)
      rw [show (tellS 2 x wt).length = kk by simp [tellS, HN.out]]
      rw [List.take_of_length_le (by rw [HN.out]; exact Nat.le_refl _)] at ho
      exact own_le ho (by have := HS4.out; have := ZS.out; have := Z1.out; omega)

theorem decide_calls (p : Pr) (v : Value) (f : Bool) (x : Int) (w : World) (h : SlI w v p.wt) (hn : p.wt.length ≤ 1000000) : Calls Try.prog 24 #[prV p v, .bool f, .int .i64 x] w fun e w' => ∃ v' s, e = .returned (.tuple #[prV (decideS p f x).1 v', s, .int .i64 (decideS p f x).2.2]) ∧
    w'.ownsRow w.heap.size 3 1 v' (decideS p f x).1.wt.length ((decideS p f x).1.wt.map (Value.int .i64)) ∧ w'.ownsRow w.heap.size 67 3 s (decideS p f x).2.1.length ((decideS p f x).2.1.flatMap encP) ∧ Below w.heap.size w w' := by
  cases f
  · exact decideF_calls p v x w h hn
  · exact decideT_calls p v x w h hn
end Go.Proofs.Ytddajaikighjlaa
