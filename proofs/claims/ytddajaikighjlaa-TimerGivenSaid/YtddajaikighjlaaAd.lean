/- Advance 13. -/
import Derived.Test.YtddajaikighjlaaFx
import Derived.Maps.OwnIn
namespace Go.Proofs.Ytddajaikighjlaa
open Go.RowKit Go.Mp Go.Wh
attribute [local go_sem] Oper.semAt_some

theorem info33 : (Try.prog.info? 33).map (fun i => (i.zero, i.size, i.bytes)) = some (some (.agg #[.int .i64 0, .int .i64 0]), 2, 16) := by kernel_rfl
theorem adv_if (W : Wh) (u : Int) : advS W u = if u < 0 ∨ 1099511627776 < u ∨ W.now + 1000000 < u then (W, [], 3) else if u < W.now then (W, [], 330) else if 5000 < manyS W u then (W, [], 16)
  else ((ticks (u - W.now).toNat W []).1, (ticks (u - W.now).toNat W []).2, 0) := rfl
theorem slot0 (n : Int) : slotOf 0 n = (n % 64).toNat := by unfold slotOf pw; rw [Int.ediv_one]

theorem cells_two (w : World) (a b : Value) (t : TypeId) : ∀ (j : Nat) (u : Value), [a, b][j]? = some u → (w.alloc (.cells #[a, b] t)).cell? (Addr.add ⟨w.heap.size, 0, none⟩ j) = some u := by
  intro j u h
  have e := heap_alloc_new w (.cells #[a, b] t)
  rw [Go.WideShapes.add_plain]
  unfold World.cell?
  simp only [e, Option.isSome_none, Bool.false_eq_true, if_false, Nat.zero_add]
  rw [← h]
  simp
theorem step_more {R R' : Refs} {X : Nat} {w w' w'' : World} (h : Step R R' X w w') (hb : Below w.heap.size w' w'') : Step R R' X w w'' :=
  ⟨hb.os.trans h.os, hb.tape.trans h.tape, hb.output.trans h.output, Nat.le_trans h.size hb.size, fun k hk hf => (hb.block k hk).trans (h.block k hk hf), h.foot⟩

set_option maxRecDepth 100000 in
set_option maxHeartbeats 2000000 in
theorem advance_calls (R : Refs) (X : Nat) (W : Wh) (u : Int) (w : World) (h : WhAt R w X W) (hi : Inv W) (hl : W.tm.length ≤ 1000) :
    Calls Try.prog 13 #[.pointer (some ⟨X, 0, none⟩), .int .i64 u] w fun e w' => ∃ v R', e = .returned (.tuple #[v, .int .i64 (advS W u).2.2]) ∧ WhAt R' w' X (advS W u).1 ∧ Step R R' X w w' ∧ w'.ownsRow w.heap.size 33 2 v (advS W u).2.1.length ((advS W u).2.1.flatMap encF) := by
  have H := Lib.hid h
  have HI := Lib.hid hi
  have HL := Lib.hid hl
  have hX : X < w.heap.size := h.foot_lt (Or.inl rfl)
  obtain ⟨n0, hn0⟩ : ∃ n, W.now = n := ⟨_, rfl⟩
  have hnb := hi.now
  have c0 := h.c0
  have eA := adv_if W u
  rw [hn0] at c0 hnb eA
  have hb1 : Below w.heap.size w (w.alloc (.cells #[.pointer (some ⟨X, 0, none⟩)] 23)) := (Below.refl _ _).alloc (Nat.le_refl _) _
  have hc1 : (w.alloc (.cells #[.pointer (some ⟨X, 0, none⟩)] 23)).cell? ⟨X, 0, none⟩ = some (.int .i64 n0) := (hb1.cell (p := ⟨X, 0, none⟩) hX).trans c0
  have hB := heap_alloc_new w (.cells #[.pointer (some ⟨X, 0, none⟩)] 23)
  have hcB : (w.alloc (.cells #[.pointer (some ⟨X, 0, none⟩)] 23)).cell? ⟨w.heap.size, 0, none⟩ = some (.pointer (some ⟨X, 0, none⟩)) := by unfold World.cell?; simp only [hB]; rfl
  have ht := time_calls u
  have hmany := fun (hu : 0 ≤ u ∧ u ≤ 1099511627776) => many_calls R X W u _ (h.below hb1) hi hl hu
  obtain ⟨M, hM⟩ : ∃ M, manyS W u = M := ⟨_, rfl⟩
  rw [hM] at eA hmany
  obtain ⟨r, hr⟩ : ∃ r, advS W u = r := ⟨_, rfl⟩
  rw [hr] at eA ⊢
  have EA := Lib.hid eA
  have HMY := Lib.hid hmany
  have HB1 := Lib.hid hb1
  have HBx := Lib.hid hB
  have g0 : IntKind.i64.wrap (n0 + 1000000) = n0 + 1000000 := IntWalk.i64_in _ (by omega)
  clear h hi hl c0 eA hr hmany hb1 hB
  refine (callsIn_wide (n := 5)).1 (callsIn_of_wp_marks Try.func13 rfl trivial ((wpIn_wide (n := 5)).2 ?_) rfl)
  simp only [Try.ntmps13, List.size_toArray, List.length_cons, List.length_nil, Nat.reduceAdd, Nat.reduceSub, Array.replicate_succ, Array.replicate_zero, List.push_toArray, List.append_toArray, List.nil_append, List.cons_append]
  by_cases ht1 : 0 ≤ u ∧ u ≤ 1099511627776
  case neg =>
    have htt : timeB u = false := by simp only [timeB]; by_cases h0 : 0 ≤ u <;> simp [h0]; omega
    rw [htt] at ht
    have er : r = (W, [], 3) := by rw [EA.out, if_pos (by omega)]
    clear htt
    go_wp2_with (go_at_call 54; refine (ht _).mono ?_; rintro e w' ⟨rfl, rfl⟩)
    refine ⟨_, results_tmp2 rfl _ _ _, .slice none 0 0, R, ?_, ?_, Step.of_below HB1.out, ?_⟩
    · rw [er]; rfl
    · rw [er]; exact H.out.below HB1.out
    · rw [er]; exact World.ownsRow_nil _ _ _ _
  have htt : timeB u = true := by simp [timeB, ht1.1, ht1.2]
  rw [htt] at ht
  have hm2 := HMY.out ht1
  clear htt
  by_cases hA : n0 + 1000000 < u
  · have er : r = (W, [], 3) := by rw [EA.out, if_pos (by omega)]
    go_wp2_with (go_at_call 54; refine (ht _).mono ?_; rintro e w' ⟨rfl, rfl⟩)
    refine ⟨_, results_tmp2 rfl _ _ _, .slice none 0 0, R, ?_, ?_, Step.of_below HB1.out, ?_⟩
    · rw [er]; rfl
    · rw [er]; exact H.out.below HB1.out
    · rw [er]; exact World.ownsRow_nil _ _ _ _
  by_cases hB : u < n0
  · have er : r = (W, [], 330) := by rw [EA.out, if_neg (by omega), if_pos hB]
    go_wp2_with (go_at_call 54; refine (ht _).mono ?_; rintro e w' ⟨rfl, rfl⟩)
    refine ⟨_, results_tmp2 rfl _ _ _, .slice none 0 0, R, ?_, ?_, Step.of_below HB1.out, ?_⟩
    · rw [er]; rfl
    · rw [er]; exact H.out.below HB1.out
    · rw [er]; exact World.ownsRow_nil _ _ _ _
  by_cases hC : 5000 < M
  · have er : r = (W, [], 16) := by rw [EA.out, if_neg (by omega), if_neg hB, if_pos hC]
    go_wp2_with (first | (go_at_call 54; refine (ht _).mono ?_; rintro e w' ⟨rfl, rfl⟩) | (go_at_call 56; refine hm2.mono ?_; rintro e w' ⟨rfl, hbm⟩; have HBM := Lib.hid (HB1.out.trans (hbm.mono HB1.out.size)); clear hbm))
    refine ⟨_, results_tmp2 rfl _ _ _, .slice none 0 0, R, ?_, ?_, Step.of_below HBM.out, ?_⟩
    · rw [er]; rfl
    · rw [er]; exact H.out.below HBM.out
    · rw [er]; exact World.ownsRow_nil _ _ _ _
  have er : r = ((ticks (u - n0).toNat W []).1, (ticks (u - n0).toNat W []).2, 0) := by rw [EA.out, if_neg (by omega), if_neg hB, if_neg hC]
  go_wp2_with (first | (go_at_call 54; refine (ht _).mono ?_; rintro e w' ⟨rfl, rfl⟩) | (go_at_call 56; refine hm2.mono ?_; rintro e w' ⟨rfl, hbm⟩; have HBM := Lib.hid (HB1.out.trans (hbm.mono HB1.out.size)); have HBX := Lib.hid ((hbm.block w.heap.size (by simp)).trans HBx.out); have hszm := hbm.size; clear hbm))
  obtain ⟨Bo, hBo⟩ : ∃ Bo, w'.heap.size = Bo := ⟨_, rfl⟩
  rw [hBo] at hszm
  have hBoB : w.heap.size < Bo := by simp at hszm; omega
  obtain ⟨w0, hw0⟩ : ∃ w0, w'.alloc (.cells #[.slice none 0 0] 29) = w0 := ⟨_, rfl⟩
  have hb0 : Below w'.heap.size w' w0 := by rw [← hw0]; exact (Below.refl _ _).alloc (Nat.le_refl _) _
  have HW0 := Lib.hid (H.out.below (HBM.out.trans (hb0.mono HBM.out.size)))
  have HS0 := Lib.hid (Step.of_below (R := R) (X := X) (HBM.out.trans (hb0.mono HBM.out.size)))
  have HF0 : Fx w.heap.size X w.heap.size Bo (.slice none 0 0) [] [] w0 := ⟨(hb0.block _ (by omega)).trans HBX.out, by rw [← hw0, ← hBo]; exact heap_alloc_new _ _, World.ownsRow_nil _ _ _ _, List.nodup_nil, fun D hD => by simp at hD⟩
  have HF := Lib.hid HF0
  obtain ⟨N, hN⟩ : ∃ N : Nat, (u - n0).toNat = N := ⟨_, rfl⟩
  have hNu : n0 + (N : Int) = u := by omega
  have hN6 : N ≤ 1000000 := by omega
  rw [hN] at er
  have ER := Lib.hid er
  rw [hBo, hw0]
  clear hw0 hb0 HF0 er hm2 ht HBM HBX HB1 HBx HMY EA hc1 hcB hA hB hC hM g0 hN hszm
  refine loop_hide (fun C hC => ?_)
  refine wp_loop_ghost_k (fun gk a' wr => ∃ (V : List Value) (ds : List Nat) (W' : Wh) (R' : Refs) (out : List (Int × Int)) (vo : Value), a' = { tmps := V.toArray, defers := ds.map Go.Mp.mark } ∧ V.length = 106 ∧ V[1]? = some (.int .i64 u) ∧ V[2]? = some (.pointer (some ⟨w.heap.size, 0, none⟩)) ∧ V[6]? = some (.pointer (some ⟨Bo, 0, none⟩)) ∧ ticks gk W' out = ticks N W [] ∧ W'.now + (gk : Int) = u ∧ Inv W' ∧ W'.tm.length ≤ 1000 ∧ out.length + 1000 * gk ≤ 1000 * N ∧ WhAt R' wr X W' ∧ Step R R' X w wr ∧ Fx w.heap.size X w.heap.size Bo vo out ds wr) N ⟨_, [], W, R, [], _, rfl, rfl, rfl, rfl, rfl, rfl, by rw [hn0]; exact hNu, HI.out, HL.out, by simp, HW0.out, HS0.out, HF.out⟩ ?_
  intro gk a' wx hI J K hJ hK
  obtain ⟨V, ds, W', R', out, vo, rfl, hV, hV1, hV2, hV6, htk, hnu, hiv, hln, hol, hwh, hst, hfx⟩ := hI
  revert hV1 hV2 hV6
  revert V
  refine len106 (fun v0 v1 v2 v3 v4 v5 v6 v7 v8 v9 v10 v11 v12 v13 v14 v15 v16 v17 v18 v19 v20 v21 v22 v23 v24 v25 v26 v27 v28 v29 v30 v31 v32 v33 v34 v35 v36 v37 v38 v39 v40 v41 v42 v43 v44 v45 v46 v47 v48 v49 v50 v51 v52 v53 v54 v55 v56 v57 v58 v59 v60 v61 v62 v63 v64 v65 v66 v67 v68 v69 v70 v71 v72 v73 v74 v75 v76 v77 v78 v79 v80 v81 v82 v83 v84 v85 v86 v87 v88 v89 v90 v91 v92 v93 v94 v95 v96 v97 v98 v99 v100 v101 v102 v103 v104 v105 => ?_)
  intro hV1 hV2 hV6
  simp only [List.getElem?_cons_succ, List.getElem?_cons_zero, Option.some.injEq] at hV1 hV2 hV6
  subst hV1 hV2 hV6
  subst hC
  obtain ⟨n, hn⟩ : ∃ n, W'.now = n := ⟨_, rfl⟩
  rw [hn] at hnu
  have hnb' := hiv.now
  rw [hn] at hnb'
  have cX := hwh.c0
  rw [hn] at cX
  have cBx : wx.cell? ⟨w.heap.size, 0, none⟩ = some (.pointer (some ⟨X, 0, none⟩)) := by unfold World.cell?; simp only [hfx.bx]; rfl
  have cBo : wx.cell? ⟨Bo, 0, none⟩ = some vo := by unfold World.cell?; simp only [hfx.bo]; rfl
  cases gk with
  | zero =>
    have hlt : ¬ n < u := by omega
    have HW := Lib.hid hwh
    have HST := Lib.hid hst
    have HFX := Lib.hid hfx
    have htk' : (W', out) = ticks N W [] := htk
    have HTK := Lib.hid htk'
    clear hJ hK htk htk' hwh hst hfx hiv hln hol
    go_wp2
    refine leaves_marks (F := Fence.wide) (n := 5) (fn := Try.f13) ds wx (fun D hD => (HFX.out.ds D hD).2) HFX.out.nd ?_
    refine ⟨_, results_tmp2 rfl _ _ _, vo, ?_, R', ?_, ?_, ?_⟩
    · rw [ER.out]; rfl
    · rw [ER.out, ← HTK.out]
      exact HW.out.same fun k hk => shut_other ds wx k (fun hD => HW.out.not_def hk (HFX.out.ds k hD).2)
    · exact HST.out.trans_shut ds (fun D hD => (HFX.out.ds D hD).1)
    · rw [ER.out, ← HTK.out]
      exact own_same HFX.out.own fun g hg => shut_other ds wx g (HFX.out.ne.2.1 g hg).2.2
  | succ gk =>
    have hlt : n < u := by omega
    have hw1n : IntKind.i64.wrap (n + 1) = n + 1 := IntWalk.i64_in _ (by omega)
    have hW1 := hwh.setNow (n + 1)
    have hI1 := now_inv hiv (n + 1) (by omega)
    have hfx1 : Fx w.heap.size X w.heap.size Bo vo out ds (wx.setCell ⟨X, 0, none⟩ (.int .i64 (n + 1))) := hfx.step hwh hX (Nat.le_refl _) (by omega) (Step.of_cell (R := R') _)
    have hst1 := hst.trans (Step.of_cell (R := R') (X := X) (j := 0) (w := wx) (.int .i64 (n + 1)))
    have hfr := hwh.free 0
    have htick : ticks gk (tickS W' out).1 (tickS W' out).2 = ticks N W [] := htk
    have hts : tickS W' out = fireS (if (n + 1) % 64 = 0 then cascS { W' with now := n + 1 } (topOf (n + 1)) else { W' with now := n + 1 }) out (dueS (if (n + 1) % 64 = 0 then cascS { W' with now := n + 1 } (topOf (n + 1)) else { W' with now := n + 1 }) (slotOf 0 (if (n + 1) % 64 = 0 then cascS { W' with now := n + 1 } (topOf (n + 1)) else { W' with now := n + 1 }).now)) := by
      rw [← hn]; rfl
    rw [hts] at htick
    obtain ⟨W1, hW1e⟩ : ∃ W1, ({ W' with now := n + 1 } : Wh) = W1 := ⟨_, rfl⟩
    have hn1 : W1.now = n + 1 := by rw [← hW1e]
    have hl1 : W1.tm.length ≤ 1000 := by rw [← hW1e]; exact hln
    rw [hW1e] at hW1 hI1 htick
    obtain ⟨w1, hw1⟩ : ∃ w1, wx.setCell ⟨X, 0, none⟩ (.int .i64 (n + 1)) = w1 := ⟨_, rfl⟩
    have HTICK := Lib.hid htick
    have HOL := Lib.hid hol
    have HHn := Lib.hid hnu
    clear htk hts hwh hiv hln htick hol hfx hst hW1e
    go_upto_region 12 with (fail)
    rw [hw1] at hW1 hfx1 hst1
    have HC := cascade_calls R' X W1 w1 hW1 hI1 hl1
    have cX1 := hW1.c0
    rw [hn1] at cX1 HC
    have cBx1 : w1.cell? ⟨w.heap.size, 0, none⟩ = some (.pointer (some ⟨X, 0, none⟩)) := by unfold World.cell?; simp only [hfx1.bx]; rfl
    obtain ⟨s, hs⟩ : ∃ s : Nat, (n + 1) % 64 = (s : Int) := ⟨((n + 1) % 64).toNat, by omega⟩
    have hs64 : s < 64 := by omega
    have g1 : Int.tmod (n + 1) 64 = (s : Int) := by rw [Int.tmod_eq_emod_of_nonneg (by omega)]; exact hs
    have g2 : IntKind.i64.wrap (s : Int) = (s : Int) := IntWalk.i64_in _ (by omega)
    have HI1 := Lib.hid hI1
    have HL1 := Lib.hid hl1
    have HW1 := Lib.hid hW1
    have HST1 := Lib.hid hst1
    have HFX1 := Lib.hid hfx1
    clear hw1 cX cBx cBo hfr hI1 hl1 hW1 hst1 hfx1 hlt hnu
    by_cases h64 : (s : Int) = 0
    case' pos =>
      have g10 : Int.tmod (n + 1) 64 = 0 := g1.trans h64
      have HG1 := Lib.hid g1
      have HH64 := Lib.hid h64
      clear g1 h64 g2
      go_upto_region 14 with (go_at_call 57; refine HC.mono ?_; rintro e w2 ⟨rfl, R2, h2, st2⟩; have H2 := Lib.hid h2; have ST2 := Lib.hid st2; clear h2 st2 HC)
      have hci := casc_inv (topOf (n + 1)) W1 (by have := top_le (n + 1); omega) HI1.out
      have g1 := HG1.out
      have g2 : IntKind.i64.wrap (s : Int) = (s : Int) := IntWalk.i64_in _ (by omega)
      have hti := HTICK.out
      rw [if_pos (by have := HH64.out; omega)] at hti
      clear g10
      have hst2 := HST1.out.trans ST2.out
      have hfx2 := HFX1.out.step HW1.out hX (Nat.le_refl _) (by omega) ST2.out
      have hW2 := H2.out
      have hI2 := hci.1
      have hl2 : (cascS W1 (topOf (n + 1))).tm.length ≤ 1000 := by rw [hci.2.1]; exact HL1.out
      have hn2 : (cascS W1 (topOf (n + 1))).now = n + 1 := by rw [hci.2.2.1]; exact hn1
      clear hci H2 ST2
      generalize cascS W1 (topOf (n + 1)) = W2 at hti hW2 hI2 hl2 hn2
    case' neg =>
      go_upto_region 14 with (fail)
      have hti := HTICK.out
      rw [if_neg (by omega)] at hti
      have hst2 := HST1.out
      have hfx2 := HFX1.out
      have hW2 := HW1.out
      have hI2 := HI1.out
      have hl2 := HL1.out
      have hn2 := hn1
      clear HC
      generalize W1 = W2 at hti hW2 hI2 hl2 hn2
      obtain ⟨R2, rfl⟩ : ∃ R2, R2 = R' := ⟨_, rfl⟩
      obtain ⟨w2, rfl⟩ : ∃ w2, w2 = w1 := ⟨_, rfl⟩
    all_goals
      clear HTICK HI1 HL1 HW1 HST1 HFX1 cX1 cBx1 hn1
      have eS : slotOf 0 W2.now = s := by rw [slot0, hn2, hs]; simp
      rw [eS] at hti
      have cX2 := hW2.c0
      rw [hn2] at cX2
      have cBx2 : w2.cell? ⟨w.heap.size, 0, none⟩ = some (.pointer (some ⟨X, 0, none⟩)) := by unfold World.cell?; simp only [hfx2.bx]; rfl
      have hi4 : s < 448 := by omega
      have hcs := hW2.cs s hi4
      have hsv := (hW2.ms s hi4).val
      have hlen := run_len (P := Try.prog) (w := w2) Try.underlying138 hsv 3
      rw [mv_len] at hlen
      have gs64 : (s : Int) < 64 := by omega
      by_cases hz : (W2.sl.getD s []).length = 0
      · have hnil : W2.sl.getD s [] = [] := List.eq_nil_of_length_eq_zero hz
        have hdue : dueS W2 s = [] := by rw [due_srt]; unfold atS; rw [hnil]; rfl
        rw [hdue] at hti
        have hti2 : ticks gk W2 out = ticks N W [] := hti
        rw [hz] at hlen
        have HTI := Lib.hid hti2
        have HW := Lib.hid hW2
        have HST := Lib.hid hst2
        have HFX := Lib.hid hfx2
        have HIV := Lib.hid hI2
        have HLN := Lib.hid hl2
        have HNW := Lib.hid hn2
        clear hti hti2 hW2 hst2 hfx2 hI2 hl2 hn2 hnil hdue hsv hz hs eS
        go_wp2
        exact Handed.intro gk (Nat.lt_succ_self gk) (hJ _ _ _ ⟨_, ds, W2, R2, out, vo, rfl, rfl, rfl, rfl, rfl, HTI.out, by rw [HNW.out]; have := HHn.out; omega, HIV.out, HLN.out, by have := HOL.out; omega, HW.out, HST.out, HFX.out⟩)
      · obtain ⟨r, hr⟩ : ∃ r, R2.sl s = some r := by
          cases ho : R2.sl s with
          | none =>
            have := hW2.ms s hi4
            rw [ho] at this
            exact absurd (by rw [show W2.sl.getD s [] = [] from this]; rfl) hz
          | some r => exact ⟨r, rfl⟩
        rw [hr] at hcs hlen
        have hzi : ¬ ((W2.sl.getD s []).length : Int) = 0 := by omega
        have hll : (W2.sl.getD s []).length ≤ 1000 := Nat.le_trans (slot_len hI2 hi4) hl2
        have hdl : (dueS W2 s).length ≤ 1000 := by rw [due_srt, (srt_perm _).length_eq, at_len]; exact hll
        obtain ⟨LL, hLL⟩ : ∃ n, (W2.sl.getD s []).length = n := ⟨_, rfl⟩
        rw [hLL] at hlen hzi
        have hdmem : ∀ t ∈ dueS W2 s, (t.id, t) ∈ W2.tm := fun t ht => due_mem hI2 hi4 ht
        have hdn := due_ids hI2 hi4
        have hgiv := fun (B : Nat) (w3 : World) (hb : Below w2.heap.size w2 w3) => due1_gives R2 X W2 0 s B r w3 2 (hW2.below hb) hI2 (by omega) hs64 (by rw [Nat.zero_mul, Nat.zero_add]; exact hr) (by rw [Nat.zero_mul, Nat.zero_add]; exact hll)
        simp only [Nat.zero_mul, Nat.zero_add] at hgiv
        have hfire : ticks gk (firedS W2 (dueS W2 s)) (out ++ (dueS W2 s).map fun t => (t.id, t.when)) = ticks N W [] := by rw [← hti, fire_eq]
        have HG := Lib.hid hgiv
        have HDM := Lib.hid hdmem
        have HDN := Lib.hid hdn
        have HFI := Lib.hid hfire
        have HW := Lib.hid hW2
        have HST := Lib.hid hst2
        have HFX := Lib.hid hfx2
        have HIV := Lib.hid hI2
        have HLN := Lib.hid hl2
        have HNW := Lib.hid hn2
        have HDL := Lib.hid hdl
        clear hti hW2 hst2 hfx2 hI2 hl2 hn2 hsv hz hs eS hr hLL hll hgiv hdmem hdn hfire hdl
        have hdc := due_calls X 0 (s : Int) w2
        go_wp2_with (go_at_call 58; refine hdc.mono ?_; rintro e w3 ⟨rfl, hw3⟩)
        have hb3 : Below w2.heap.size w2 w3 := by rw [hw3]; exact (((Below.refl _ _).alloc (Nat.le_refl _) _).alloc (by simp) _).alloc (by simp; omega) _
        have hs3 : w3.heap.size = w2.heap.size + 3 := by rw [hw3]; simp
        obtain ⟨d0, d1, d2⟩ := alloc3 w2 (.cells #[.pointer (some ⟨X, 0, none⟩)] 23) (.cells #[.int .i64 0] 3) (.cells #[.int .i64 (s : Int)] 3)
        rw [← hw3] at d0 d1 d2 ⊢
        clear hw3 hdc
        have HGw := HG.out w2.heap.size w3 hb3 (by unfold World.cell?; simp only [d0]; rfl) (by unfold World.cell?; simp only [d1]; rfl) (by unfold World.cell?; simp only [d2]; rfl)
        have HW3 := Lib.hid (HW.out.below hb3)
        have HF3 := Lib.hid (HFX.out.below hb3)
        have HS3 := Lib.hid (HST.out.trans (Step.of_below (R := R2) (X := X) hb3))
        have hlt3 := HF3.out.lt
        refine (wpIn_wide (n := 5)).1 (range_gives (gf := 80) (enc := fun t : Tm => #[tmV t]) (xs := dueS W2 s) rfl (by omega) rfl trivial (enters_of Try.func80 (by kernel_rfl) rfl) HGw (fun _ => rfl)
          (fun n1 pre W3 => ∃ R3 vo3, WhAt R3 W3 X (firedS W2 pre) ∧ Step R R3 X w W3 ∧ (∀ k, Foot R3 X k → k < w3.heap.size ∨ n1 ≤ k) ∧ n1 ≤ W3.heap.size ∧ Fx w.heap.size X w.heap.size Bo vo3 (out ++ pre.map fun t => (t.id, t.when)) ds W3 ∧ w3.heap.size ≤ n1 ∧ ∀ g, vo3.ownBlock = some g → g < w3.heap.size ∨ n1 ≤ g) ?h0 ?hJa ?hJ
          (fun n1 x a' W3 => ∃ (Bv : Nat) (V : List Value), a' = { tmps := V.toArray, defers := [] } ∧ V.length = 106 ∧ V[2]? = some (.pointer (some ⟨w.heap.size, 0, none⟩)) ∧ V[6]? = some (.pointer (some ⟨Bo, 0, none⟩)) ∧ V[8]? = some (.pointer (some ⟨Bv, 0, none⟩)) ∧ Bv ≠ X ∧ n1 ≤ Bv ∧ w3.heap.size ≤ n1 ∧ W3.heap[Bv]? = some (.cells #[.int .i64 x.id, .int .i64 x.when, .int .i64 x.iv, .int .i64 x.ord] 129 (0, 0))) ?hAx ?hassign ?hbody ?hdone)
        case h0 =>
          intro Wz hb hsz
          exact ⟨R2, vo, HW3.out.below hb, HS3.out.trans (Step.of_below hb), fun k hk => Or.inl (HW3.out.foot_lt hk), Nat.le_refl _, by simpa using HF3.out.below hb, hsz, fun g hg => Or.inl (hlt3.2.2.1 g hg).2⟩
        case hJa =>
          rintro n1 pre W3 o ⟨R3, vo3, a1, a2, a3, a4, a5, a7, a6⟩
          have hba : Below W3.heap.size W3 (W3.alloc o) := (Below.refl _ _).alloc (Nat.le_refl _) _
          exact ⟨R3, vo3, a1.below hba, a2.trans (Step.of_below hba), a3, by simp; omega, a5.below hba, a7, a6⟩
        case hJ =>
          rintro n1 pre W3 l o ⟨R3, vo3, a1, a2, a3, a4, a5, a7, a6⟩ h1 h2
          have hnf : ¬ Foot R3 X l := fun h => by rcases a3 l h with h | h <;> omega
          have hw3z : w.heap.size ≤ w3.heap.size := by have := HS3.out.size; omega
          have hds3 := hlt3.2.2.2
          refine ⟨R3, vo3, a1.same fun k hk => World.putObj_heap_other (fun e => hnf (e ▸ hk)), ⟨a2.os, a2.tape, a2.output, by rw [World.putObj_size]; exact a2.size, fun k hk hf => (World.putObj_heap_other (by omega)).trans (a2.block k hk hf), a2.foot⟩, a3, by rw [World.putObj_size]; exact a4, ?_, a7, a6⟩
          exact a5.same (World.putObj_heap_other (by have := hlt3.1; omega)) (World.putObj_heap_other (by have := hlt3.2.1; omega)) (fun g hg => World.putObj_heap_other (by rcases a6 g hg with h | h <;> omega)) (fun D hD => World.putObj_heap_other (by have := hds3 D hD; omega))
        case hAx =>
          rintro n1 x a' W3 l o ⟨Bv, V, e1, e2, e3, e4, e5, e6, e7, e8, e9⟩ ⟨rl, hrl⟩
          refine ⟨Bv, V, e1, e2, e3, e4, e5, e6, e7, e8, (World.putObj_heap_other (fun e => ?_)).trans e9⟩
          rw [e, hrl] at e9
          cases e9
        case hassign =>
          rintro l n1 pre ⟨ti, tw, tv, to_⟩ W3 K2 ⟨R3, vo3, a1, a2, a3, a4, a5, a7, a6⟩ hn1 hK2
          have HK2 := Lib.hid hK2
          have A1 := Lib.hid a1
          have A2 := Lib.hid a2
          have A3 := Lib.hid a3
          have A5 := Lib.hid a5
          have A6 := Lib.hid a6
          clear hK2 a1 a2 a3 a5 a6
          simp only [tmV]
          gi_wp2
          have hba : Below W3.heap.size W3 (W3.alloc (.cells #[.int .i64 ti, .int .i64 tw, .int .i64 tv, .int .i64 to_] 129)) := (Below.refl _ _).alloc (Nat.le_refl _) _
          have hXl := A1.out.foot_lt (Or.inl rfl)
          exact HK2.out _ _ ⟨R3, vo3, A1.out.below hba, A2.out.trans (Step.of_below hba), A3.out, by simp; omega, A5.out.below hba, a7, A6.out⟩ (fun k h1 h2 => Below.heap_alloc _ _ _ (by omega)) (by simp) ⟨W3.heap.size, _, rfl, rfl, rfl, rfl, rfl, by omega, hn1, a7, heap_alloc_new _ _⟩
        case hbody =>
          rintro l n1 pre ⟨ti, tw, tv, to_⟩ a' W3 ⟨R3, vo3, a1, a2, a3, a4, a5, a7, a6⟩ hn1 hpre ⟨Bv, V, rfl, hV, hV2, hV6, hV8, hBvX, hBvn, -, hBv⟩
          simp only at hBv
          obtain ⟨n1i, n1m, -, n1n, -⟩ := fired_next HIV.out HDM.out HDN.out hpre
          have n1t := n1i.tm _ n1m
          simp only at n1t
          obtain ⟨k2, s2, hk2, hs2', hpl⟩ := n1i.place ti
          have hplen : pre.length + 1 ≤ (dueS W2 s).length := by have := hpre.length_le; simpa using this
          obtain ⟨o3, ho3⟩ : ∃ o3, (out ++ pre.map fun t => (t.id, t.when)) = o3 := ⟨_, rfl⟩
          have ho3l : o3.length ≤ 1000 * N := by
            have h1 : o3.length = out.length + pre.length := by rw [← ho3]; simp
            have := HOL.out
            have := HDL.out
            omega
          have eO : (out ++ (pre ++ [(⟨ti, tw, tv, to_⟩ : Tm)]).map fun t => (t.id, t.when)) = o3 ++ [(ti, tw)] := by rw [← ho3]; simp
          rw [ho3] at a5
          have hlt5 := a5.lt
          have hap5 := a5.apart a1 hX (Nat.le_refl _) (by omega)
          have hba : Below W3.heap.size W3 (W3.alloc (.cells #[.int .i64 ti, .int .i64 tw] 33)) := (Below.refl _ _).alloc (Nat.le_refl _) _
          have hfxa := a5.below hba
          have hBva := (hba.block Bv (Array.getElem?_eq_some_iff.1 hBv).1).trans hBv
          have hcl := cells_two W3 (.int .i64 ti) (.int .i64 tw) 33
          obtain ⟨N3, hN3⟩ : ∃ N3, W3.heap.size = N3 := ⟨_, rfl⟩
          rw [hN3] at hcl
          obtain ⟨i0, hif, hz0, hz1, hz2⟩ := info_parts info33
          have c6 : W3.cell? ⟨Bo, 0, none⟩ = some vo3 := by unfold World.cell?; simp only [a5.bo]; rfl
          have c80 : W3.cell? ⟨Bv, 0, none⟩ = some (.int .i64 ti) := by unfold World.cell?; simp only [hBv]; rfl
          have c81 : W3.cell? ⟨Bv, 1, none⟩ = some (.int .i64 tw) := by unfold World.cell?; simp only [hBv]; rfl
          have hown3 := hfxa.own
          have A1 := Lib.hid (a1.below hba)
          have A2 := Lib.hid (a2.trans (Step.of_below hba))
          have A3 := Lib.hid a3
          have A6 := Lib.hid a6
          have FXA := Lib.hid hfxa
          have OWN3 := Lib.hid hown3
          have BVA := Lib.hid hBva
          have AP5 := Lib.hid hap5
          have EO := Lib.hid eO
          have NI := Lib.hid n1i
          clear a1 a2 a3 a5 a6 hfxa hown3 hBva hap5 eO hpl n1n ho3 hba hlt5
          have hfxaN : N3 ≤ (W3.alloc (.cells #[.int .i64 ti, .int .i64 tw] 33)).heap.size := by simp; omega
          revert hV2 hV6 hV8
          revert V
          refine len106 (fun x0 x1 x2 x3 x4 x5 x6 x7 x8 x9 x10 x11 x12 x13 x14 x15 x16 x17 x18 x19 x20 x21 x22 x23 x24 x25 x26 x27 x28 x29 x30 x31 x32 x33 x34 x35 x36 x37 x38 x39 x40 x41 x42 x43 x44 x45 x46 x47 x48 x49 x50 x51 x52 x53 x54 x55 x56 x57 x58 x59 x60 x61 x62 x63 x64 x65 x66 x67 x68 x69 x70 x71 x72 x73 x74 x75 x76 x77 x78 x79 x80 x81 x82 x83 x84 x85 x86 x87 x88 x89 x90 x91 x92 x93 x94 x95 x96 x97 x98 x99 x100 x101 x102 x103 x104 x105 => ?_)
          intro hV2 hV6 hV8
          simp only [List.getElem?_cons_succ, List.getElem?_cons_zero, Option.some.injEq] at hV2 hV6 hV8
          subst hV2 hV6 hV8
          gi_wp2_with (gi_at_builtin; refine wpListIn_append_own_at _ rfl (.tmp 76) (.tmp 82) 29 rfl w.heap.size 33 i0 (.agg #[.int .i64 0, .int .i64 0]) 2 16 Try.underlying29 hif hz0 hz1 hz2 rfl (by decide) _ _ _ rfl OWN3.out ⟨N3, 0, none⟩ 1 1 [.int .i64 ti, .int .i64 tw] rfl rfl hcl ?d2 ?d3 ?d4 ?d5 ?_)
          case d2 => first | exact ⟨rfl, rfl⟩ | (intro x hx; simp at hx; rcases hx with rfl | rfl <;> rfl)
          case d3 => unfold maxLen; omega
          case d4 => omega
          case d5 => have := A2.out.size; simp at this; omega
          intro v' w4 hown4 hgrow4 _ hat4
          obtain ⟨gv, cv, hv'⟩ := ownsRow_succ hown4
          have hz3 : (W3.alloc (.cells #[.int .i64 ti, .int .i64 tw] 33)).heap.size = N3 + 1 := by simp [hN3]
          have hfx5 : Fx w.heap.size X w.heap.size Bo v' (o3 ++ [(ti, tw)]) ds (w4.setCell ⟨Bo, 0, none⟩ v') := FXA.out.appended hgrow4 hown4
          have hneB : ∀ g, vo3.ownBlock = some g → g ≠ Bv := fun g hg e => by
            obtain ⟨cs, hc, -⟩ := own_cells OWN3.out hg
            rw [e, BVA.out] at hc
            simp at hc
          have hBvl : Bv < (W3.alloc (.cells #[.int .i64 ti, .int .i64 tw] 33)).heap.size := (Array.getElem?_eq_some_iff.1 BVA.out).1
          have hBvBo : Bv ≠ Bo := by have := hlt3.2.1; omega
          have bv5 : (w4.setCell ⟨Bo, 0, none⟩ v').heap[Bv]? = some (.cells #[.int .i64 ti, .int .i64 tw, .int .i64 tv, .int .i64 to_] 129 (0, 0)) :=
            (Below.heap_setCell _ ⟨Bo, 0, none⟩ _ _ hBvBo).trans ((hgrow4.block Bv hBvl (fun e => hneB Bv e.symm rfl)).trans BVA.out)
          have wh4 : WhAt R3 w4 X (firedS W2 pre) := A1.out.same fun k hk => hgrow4.block k (A1.out.foot_lt hk) (fun e => AP5.out.2.2.1 k e.symm hk)
          have wh5 := wh4.put (a := ⟨Bo, 0, none⟩) AP5.out.2.1 v'
          have st5 : Step R R3 X w (w4.setCell ⟨Bo, 0, none⟩ v') := step_more (step_more A2.out ((Below.refl _ _).grown hgrow4 A2.out.size (fun k e => (OWN3.out.lt k e).1))) ((Below.refl _ _).setCell (p := ⟨Bo, 0, none⟩) (by show w.heap.size ≤ Bo; omega) v')
          have own5 : ∀ g, v'.ownBlock = some g → g < w3.heap.size ∨ n1 ≤ g := fun g hg => by
            rcases hat4 with h | h
            · exact A6.out g (by rw [← h]; exact hg)
            · rw [h] at hg
              simp only [Option.some.injEq] at hg
              right; omega
          have fr5 : ∀ k, w3.heap.size ≤ k → k < n1 → (w4.setCell ⟨Bo, 0, none⟩ v').heap[k]? = W3.heap[k]? := fun k h1 h2 => by
            have hkB : k ≠ Bo := by have := hlt3.2.1; omega
            exact (Below.heap_setCell _ ⟨Bo, 0, none⟩ _ _ hkB).trans ((hgrow4.block k (by omega) (fun e => by rcases A6.out k e.symm with h | h <;> omega)).trans (Below.heap_alloc _ _ _ (by omega)))
          have sz5 : W3.heap.size ≤ (w4.setCell ⟨Bo, 0, none⟩ v').heap.size := by rw [size_setCell]; have := hgrow4.size; omega
          obtain ⟨w5, hw5⟩ : ∃ w5, w4.setCell ⟨Bo, 0, none⟩ v' = w5 := ⟨_, rfl⟩
          have cBo4 : w4.cell? ⟨Bo, 0, none⟩ = some vo3 := by
            have : w4.heap[Bo]? = _ := (hgrow4.block Bo FXA.out.lt.2.1 (fun e => (FXA.out.ne.2.1 Bo e.symm).2.1 rfl)).trans FXA.out.bo
            unfold World.cell?; simp only [this]; rfl
          have fBo4 : w4.frozen? ⟨Bo, 0, none⟩ = false := by
            have : w4.heap[Bo]? = _ := (hgrow4.block Bo FXA.out.lt.2.1 (fun e => (FXA.out.ne.2.1 Bo e.symm).2.1 rfl)).trans FXA.out.bo
            unfold World.frozen?; simp [this]
          rw [hw5] at hfx5 bv5 wh5 st5 fr5 sz5
          have hnfB := wh5.apart bv5 hBvX
          obtain ⟨k2, s2, hk2, hs2', hpl⟩ := NI.out.place ti
          have HT := take_calls R3 X (firedS W2 pre) ti w5 wh5 k2 s2 hk2 hs2' hpl
          have eF : firedS W2 (pre ++ [(⟨ti, tw, tv, to_⟩ : Tm)]) = if 0 < tv ∧ tw + tv ≤ 1099511627776 then putS (takeS (firedS W2 pre) ti).1 ⟨ti, tw + tv, tv, to_⟩ else (takeS (firedS W2 pre) ti).1 := by rw [fired_one]; rfl
          have hWn : (takeS (firedS W2 pre) ti).1.now = (firedS W2 pre).now := rfl
          have hWb := NI.out.now
          rw [← hWn] at hWb
          generalize (takeS (firedS W2 pre) ti).1 = Wt at HT eF hWn hWb
          generalize (takeS (firedS W2 pre) ti).2 = tt at HT
          obtain ⟨t0, t1, t2, t3⟩ := tt
          simp only [tmV] at HT
          have c5x : w5.cell? ⟨w.heap.size, 0, none⟩ = some (.pointer (some ⟨X, 0, none⟩)) := by unfold World.cell?; simp only [hfx5.bx]; rfl
          have c5b : w5.cell? ⟨Bv, 0, none⟩ = some (.int .i64 ti) := by unfold World.cell?; simp only [bv5]; rfl
          have bl5 := (Array.getElem?_eq_some_iff.1 bv5).1
          have gw : IntKind.i64.wrap (tw + tv) = tw + tv := IntWalk.i64_in _ (by omega)
          have EF := Lib.hid eF
          have FX5 := Lib.hid hfx5
          have WH5 := Lib.hid wh5
          have ST5 := Lib.hid st5
          have OW5 := Lib.hid own5
          have FR5 := Lib.hid fr5
          have NB := Lib.hid hnfB
          have BV5 := Lib.hid bv5
          have WB := Lib.hid hWb
          clear eF hfx5 wh4 wh5 st5 own5 fr5 hnfB bv5 hown4 hgrow4 hat4 hpl hWn hWb hneB hif hz0 hz1 hz2 hcl
          have key : ∀ w6, WhAt R3 w6 X Wt → Step R3 R3 X w5 w6 → WhAt R3 (w6.setCell ⟨Bv, 1, none⟩ (.int .i64 (tw + tv))) X Wt ∧ Step R R3 X w (w6.setCell ⟨Bv, 1, none⟩ (.int .i64 (tw + tv))) ∧ Fx w.heap.size X w.heap.size Bo v' (o3 ++ [(ti, tw)]) ds (w6.setCell ⟨Bv, 1, none⟩ (.int .i64 (tw + tv))) ∧
              (w6.setCell ⟨Bv, 1, none⟩ (.int .i64 (tw + tv))).heap[Bv]? = some (.cells #[.int .i64 ti, .int .i64 (tw + tv), .int .i64 tv, .int .i64 to_] 129 (0, 0)) ∧ (∀ k, w3.heap.size ≤ k → k < n1 → (w6.setCell ⟨Bv, 1, none⟩ (.int .i64 (tw + tv))).heap[k]? = W3.heap[k]?) ∧ W3.heap.size ≤ (w6.setCell ⟨Bv, 1, none⟩ (.int .i64 (tw + tv))).heap.size ∧ w6.heap[Bv]? = some (.cells #[.int .i64 ti, .int .i64 tw, .int .i64 tv, .int .i64 to_] 129 (0, 0)) := by
            intro w6 h6 st6
            have bv6 := (st6.block Bv bl5 NB.out).trans BV5.out
            have fx6 := FX5.out.step WH5.out hX (Nat.le_refl _) (by omega) st6
            have hwz : w.heap.size ≤ Bv := by have := HS3.out.size; omega
            have e7 := heap_setCell_same w6 Bv 1 _ 129 (.int .i64 (tw + tv)) bv6
            have h7 := h6.put (a := ⟨Bv, 1, none⟩) (h6.apart bv6 hBvX) (.int .i64 (tw + tv))
            have s7 := (ST5.out.trans st6).put (a := ⟨Bv, 1, none⟩) hwz (.int .i64 (tw + tv))
            have n7 := fun k (hk : k ≠ Bv) => Below.heap_setCell w6 ⟨Bv, 1, none⟩ (.int .i64 (tw + tv)) k hk
            refine ⟨h7, s7, fx6.same (n7 _ (by have := hlt3.1; omega)) (n7 _ (by have := hlt3.2.1; omega)) (fun g hg => n7 _ (fun e => ?_)) (fun D hD => n7 _ (by have := hlt3.2.2.2 D hD; omega)), by rw [e7]; rfl, fun k h1 h2 => (n7 k (by omega)).trans ((st6.block k (by omega) (fun hf => by rcases A3.out k hf with h | h <;> omega)).trans (FR5.out k h1 h2)), by rw [size_setCell]; have := st6.size; omega, bv6⟩
            obtain ⟨cs, hc, -⟩ := own_cells fx6.own hg
            rw [e, bv6] at hc
            simp at hc
          have KEY := Lib.hid key
          clear key
          subst hv'
          by_cases q1 : 0 < tv
          · by_cases q2 : tw + tv ≤ 1099511627776
            · gi_wp2_with (first
              | (refine ⟨trivial, ?_⟩; gi_at_call 59; refine (CallsIn.inRound l (callsIn_wide.2 HT)).mono ?_; rintro e w6 ⟨rfl, h6, st6⟩; have k7 := KEY.out w6 h6 st6; have bv6 := k7.2.2.2.2.2.2; have bx6 := (FX5.out.step WH5.out hX (Nat.le_refl _) (by omega) st6).bx; have c6x : w6.cell? ⟨w.heap.size, 0, none⟩ = some (.pointer (some ⟨X, 0, none⟩)) := (by unfold World.cell?; simp only [bx6]; rfl); have d60 : w6.cell? ⟨Bv, 0, none⟩ = some (.int .i64 ti) := (by unfold World.cell?; simp only [bv6]; rfl); have d61 : w6.cell? ⟨Bv, 1, none⟩ = some (.int .i64 tw) := (by unfold World.cell?; simp only [bv6]; rfl); have d62 : w6.cell? ⟨Bv, 2, none⟩ = some (.int .i64 tv) := (by unfold World.cell?; simp only [bv6]; rfl); have d63 : w6.cell? ⟨Bv, 3, none⟩ = some (.int .i64 to_) := (by unfold World.cell?; simp only [bv6]; rfl); have f61 : w6.frozen? ⟨Bv, 1, none⟩ = false := (by unfold World.frozen?; simp [bv6]); have hp7 := (fun (hc : 0 < tv ∧ tw + tv ≤ 1099511627776) => put_calls R3 X Wt ⟨ti, tw + tv, tv, to_⟩ _ k7.1 WB.out (by simp only; omega)); simp only [tmV] at hp7; have HP7 := Lib.hid hp7; have K7 := Lib.hid k7; clear h6 st6 HT k7 bv6 bx6 hp7)
              | (refine ⟨trivial, ?_⟩; gi_at_call 55; refine (CallsIn.inRound l (callsIn_wide.2 (HP7.out (by omega)))).mono ?_; rintro e w8 ⟨rfl, R8, h8, st8⟩; have H8 := Lib.hid h8; have ST8 := Lib.hid st8; clear h8 st8))
              have k7 := K7.out
              have stw := k7.2.1.trans ST8.out
              have fx8 := k7.2.2.1.step k7.1 hX (Nat.le_refl _) (by omega) ST8.out
              have sz7 := k7.2.2.2.2.2.1
              have sz8 := ST8.out.size
              have eo := EO.out
              simp only [List.map_append, List.map_cons, List.map_nil] at eo
              refine ⟨⟨R8, by rw [EF.out, if_pos ⟨q1, q2⟩]; exact H8.out, stw, fun k hk => ?_, by omega, _, by rw [eo]; exact fx8, by omega, fun g hg => by rcases OW5.out g hg with h | h <;> omega⟩, by omega, fun k h1 h2 => ?_⟩
              · rcases ST8.out.foot k hk with h | h
                · have := A3.out k h; omega
                · exact Or.inr (by omega)
              · exact (ST8.out.block k (by omega) (fun hf => by have := A3.out k hf; omega)).trans (k7.2.2.2.2.1 k (by omega) h2)
            · gi_wp2_with (first
              | (refine ⟨trivial, ?_⟩; gi_at_call 59; refine (CallsIn.inRound l (callsIn_wide.2 HT)).mono ?_; rintro e w6 ⟨rfl, h6, st6⟩; have k7 := KEY.out w6 h6 st6; have bv6 := k7.2.2.2.2.2.2; have bx6 := (FX5.out.step WH5.out hX (Nat.le_refl _) (by omega) st6).bx; have c6x : w6.cell? ⟨w.heap.size, 0, none⟩ = some (.pointer (some ⟨X, 0, none⟩)) := (by unfold World.cell?; simp only [bx6]; rfl); have d60 : w6.cell? ⟨Bv, 0, none⟩ = some (.int .i64 ti) := (by unfold World.cell?; simp only [bv6]; rfl); have d61 : w6.cell? ⟨Bv, 1, none⟩ = some (.int .i64 tw) := (by unfold World.cell?; simp only [bv6]; rfl); have d62 : w6.cell? ⟨Bv, 2, none⟩ = some (.int .i64 tv) := (by unfold World.cell?; simp only [bv6]; rfl); have d63 : w6.cell? ⟨Bv, 3, none⟩ = some (.int .i64 to_) := (by unfold World.cell?; simp only [bv6]; rfl); have f61 : w6.frozen? ⟨Bv, 1, none⟩ = false := (by unfold World.frozen?; simp [bv6]); have hp7 := (fun (hc : 0 < tv ∧ tw + tv ≤ 1099511627776) => put_calls R3 X Wt ⟨ti, tw + tv, tv, to_⟩ _ k7.1 WB.out (by simp only; omega)); simp only [tmV] at hp7; have HP7 := Lib.hid hp7; have K7 := Lib.hid k7; clear h6 st6 HT k7 bv6 bx6 hp7)
              | (refine ⟨trivial, ?_⟩; gi_at_call 55; refine (CallsIn.inRound l (callsIn_wide.2 (HP7.out (by omega)))).mono ?_; rintro e w8 ⟨rfl, R8, h8, st8⟩; have H8 := Lib.hid h8; have ST8 := Lib.hid st8; clear h8 st8))
              have k7 := K7.out
              have sz7 := k7.2.2.2.2.2.1
              have sz6 := sz7
              rw [size_setCell] at sz6
              have eo := EO.out
              simp only [List.map_append, List.map_cons, List.map_nil] at eo
              have hk7 := k7.2.2.2.2.1
              refine ⟨⟨R3, by rw [EF.out, if_neg (by omega)]; exact k7.1, k7.2.1, fun k hk => by have := A3.out k hk; omega, by omega, _, by rw [eo]; exact k7.2.2.1, by omega, fun g hg => by rcases OW5.out g hg with h | h <;> omega⟩, by omega, fun k h1 h2 => hk7 k (by omega) h2⟩
          · gi_wp2_with (first
            | (refine ⟨trivial, ?_⟩; gi_at_call 59; refine (CallsIn.inRound l (callsIn_wide.2 HT)).mono ?_; rintro e w6 ⟨rfl, h6, st6⟩; have k7 := KEY.out w6 h6 st6; have bv6 := k7.2.2.2.2.2.2; have bx6 := (FX5.out.step WH5.out hX (Nat.le_refl _) (by omega) st6).bx; have c6x : w6.cell? ⟨w.heap.size, 0, none⟩ = some (.pointer (some ⟨X, 0, none⟩)) := (by unfold World.cell?; simp only [bx6]; rfl); have d60 : w6.cell? ⟨Bv, 0, none⟩ = some (.int .i64 ti) := (by unfold World.cell?; simp only [bv6]; rfl); have d61 : w6.cell? ⟨Bv, 1, none⟩ = some (.int .i64 tw) := (by unfold World.cell?; simp only [bv6]; rfl); have d62 : w6.cell? ⟨Bv, 2, none⟩ = some (.int .i64 tv) := (by unfold World.cell?; simp only [bv6]; rfl); have d63 : w6.cell? ⟨Bv, 3, none⟩ = some (.int .i64 to_) := (by unfold World.cell?; simp only [bv6]; rfl); have f61 : w6.frozen? ⟨Bv, 1, none⟩ = false := (by unfold World.frozen?; simp [bv6]); have hp7 := (fun (hc : 0 < tv ∧ tw + tv ≤ 1099511627776) => put_calls R3 X Wt ⟨ti, tw + tv, tv, to_⟩ _ k7.1 WB.out (by simp only; omega)); simp only [tmV] at hp7; have HP7 := Lib.hid hp7; have K7 := Lib.hid k7; clear h6 st6 HT k7 bv6 bx6 hp7)
            | (refine ⟨trivial, ?_⟩; gi_at_call 55; refine (CallsIn.inRound l (callsIn_wide.2 (HP7.out (by omega)))).mono ?_; rintro e w8 ⟨rfl, R8, h8, st8⟩; have H8 := Lib.hid h8; have ST8 := Lib.hid st8; clear h8 st8))
            have k7 := K7.out
            have sz7 := k7.2.2.2.2.2.1
            have sz6 := sz7
            rw [size_setCell] at sz6
            have eo := EO.out
            simp only [List.map_append, List.map_cons, List.map_nil] at eo
            have hk7 := k7.2.2.2.2.1
            refine ⟨⟨R3, by rw [EF.out, if_neg (by omega)]; exact k7.1, k7.2.1, fun k hk => by have := A3.out k hk; omega, by omega, _, by rw [eo]; exact k7.2.2.1, by omega, fun g hg => by rcases OW5.out g hg with h | h <;> omega⟩, by omega, fun k h1 h2 => hk7 k (by omega) h2⟩
        case hdone =>
          rintro n1 W3 hn1 ⟨R3, vo3, a1, a2, a3, a4, a5, a7, a6⟩ hD
          have hfx' : Fx w.heap.size X w.heap.size Bo vo3 (out ++ (dueS W2 s).map fun t => (t.id, t.when)) (w3.heap.size :: ds) W3 := ⟨a5.bx, a5.bo, a5.own, List.nodup_cons.2 ⟨fun h => by have := hlt3.2.2.2 _ h; omega, a5.nd⟩, fun D hDm => by
            rcases List.mem_cons.1 hDm with rfl | hDm
            · exact ⟨by have := HS3.out.size; exact this, hD⟩
            · exact a5.ds D hDm⟩
          obtain ⟨i1, i2, -, i4, -⟩ := fired_inv (dueS W2 s) W2 HIV.out HDM.out HDN.out
          have hn' : (firedS W2 (dueS W2 s)).now = n + 1 := i4.trans HNW.out
          have hl' : (firedS W2 (dueS W2 s)).tm.length ≤ 1000 := Nat.le_trans i2 HLN.out
          have ho' : (out ++ (dueS W2 s).map fun t => (t.id, t.when)).length + 1000 * gk ≤ 1000 * N := by
            rw [List.length_append, List.length_map]
            have := HOL.out
            have := HDL.out
            omega
          have A1 := Lib.hid a1
          have A2 := Lib.hid a2
          have FXp := Lib.hid hfx'
          have I1 := Lib.hid i1
          have NN := Lib.hid hn'
          have LL' := Lib.hid hl'
          have OO := Lib.hid ho'
          clear a1 a2 a3 a4 a5 a6 hfx' i1 i2 i4 hn' hl' ho' hD hn1
          go_wp2
          exact Handed.intro gk (Nat.lt_succ_self gk) (hJ _ _ _ ⟨_, w3.heap.size :: ds, _, R3, _, vo3, rfl, rfl, rfl, rfl, rfl, HFI.out, by rw [NN.out]; have := HHn.out; omega, I1.out, LL'.out, OO.out, A1.out, A2.out, FXp.out⟩)
end Go.Proofs.Ytddajaikighjlaa
