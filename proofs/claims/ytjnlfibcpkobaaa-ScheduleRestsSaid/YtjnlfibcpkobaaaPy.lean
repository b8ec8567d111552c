/- Play. -/
import Derived.Test.YtjnlfibcpkobaaaPp
import Derived.Deep.RegionLaw
namespace Go.Proofs.Ytjnlfibcpkobaaa
open Go.RowKit Go.Sl Go.Sched

/-- Between the rounds of Play. -/
structure PlayR (w : World) (B X g cap : Nat) (s : St) (ps : List (Int × Int)) (ev : Value) (k : Nat) (wr : World) (s' : St) (qs' : List Value) (injV' : Value) (L : List Ev) : Prop where
  own : OwnSt B X g cap qs' injV' s' wr
  ok : Ok s'
  len : s'.ws.length = s.ws.length
  evs : wr.ownsRow w.heap.size 38 4 ev L.length (L.flatMap evC)
  few : L.length ≤ k
  bel : Below w.heap.size w wr
  res : wr.heap[w.heap.size + 1]? = some z26
  is : playS s ps = ((playS s' (ps.drop k)).1, L ++ (playS s' (ps.drop k)).2)

set_option maxRecDepth 100000 in
set_option maxHeartbeats 8000000 in
theorem play_calls (wsV injV sv : Value) (qs : List Value) (s : St) (ps : List (Int × Int)) (w : World) (h : StV w wsV injV qs s) (hok : Ok s) (hp : SlP w sv ps) (hpl : ps.length ≤ 1000000) :
    Calls Try.prog 24 #[.agg #[wsV, injV], sv] w fun e w' => ∃ a b qs' ev, e = .returned (.tuple #[.agg #[a, b], ev, .int .i64 0]) ∧ StT (w.heap.size ≤ ·) w' a b qs' (playS s ps).1 ∧ w'.ownsRow w.heap.size 38 4 ev (playS s ps).2.length ((playS s ps).2.flatMap evC) ∧ Below w.heap.size w w' := by
  have hs := ok_small hok
  have hb2 : Below w.heap.size w ((w.alloc (.cells #[wsV, injV] 26)).alloc z26) := ((Below.refl _ _).alloc (Nat.le_refl _) _).alloc (by simp) _
  have hr0 : ((w.alloc (.cells #[wsV, injV] 26)).alloc z26).heap[w.heap.size + 1]? = some z26 := by
    have := heap_alloc_new (w.alloc (.cells #[wsV, injV] 26)) z26
    simpa using this
  have c0 : ((w.alloc (.cells #[wsV, injV] 26)).alloc z26).cell? ⟨w.heap.size, 0, none⟩ = some wsV := by
    rw [World.cell?_alloc_past _ _ _ (by simp), World.cell?_alloc_at _ _ _ _ (by simp)]; rfl
  have c1 : ((w.alloc (.cells #[wsV, injV] 26)).alloc z26).cell? ⟨w.heap.size, 1, none⟩ = some injV := by
    rw [World.cell?_alloc_past _ _ _ (by simp), World.cell?_alloc_at _ _ _ _ (by simp)]; rfl
  have hval := valid_calls wsV injV qs s _ (h.below hb2) hs
  rw [(valid_iff s).2 hok] at hval
  simp only [if_true] at hval
  have h0 : 0 < s.ws.length := hok.n1
  have h64 := hok.n64
  obtain ⟨wa, wc, hwf⟩ := h.ws.form
  obtain ⟨sa, sc, hsf⟩ := SlV.form hp
  have hst := h
  subst hwf
  subst hsf
  have OK := Lib.hid hok
  have HP := Lib.hid hp
  clear h hok hp
  generalize hnn : s.ws.length = n at c0 c1 hb2 hr0 hval hst h0 h64 ⊢
  have NN := Lib.hid hnn
  clear hnn
  generalize hmm : ps.length = m at hpl ⊢
  have MM := Lib.hid hmm
  clear hmm
  go_enter Try.func24, Try.ntmps24
  go_wp2_with fail
  refine hval.mono ?_
  rintro e w1 ⟨rfl, hb1⟩
  replace c0 := hb1.at_cell c0
  replace c1 := hb1.at_cell c1
  have ST := Lib.hid (hst.below (hb2.then hb1))
  have R1 := Lib.hid (keep26 hb1 hr0).1
  have B1 := Lib.hid (hb2.then hb1)
  clear hr0 hb1 hb2 hval hst
  go_wp2_with fail
  refine (copied_calls _ injV qs s _ ST.out hs (by rw [NN.out]; exact h0)).mono ?_
  rintro e w2 ⟨P, g, cap, qs', injV', rfl, hF, hb4⟩
  rw [NN.out]
  obtain ⟨ja, jc, rfl⟩ := (SlI.of_owns hF.injO).form
  have hO := hF.rebox.own
  rw [NN.out] at hO
  have L1 := (Array.getElem?_eq_some_iff.1 R1.out).1
  have hb5 := hb4.alloc hb4.size (.cells #[.slice (some ⟨g, 0, none⟩) n cap, .slice ja s.inj.length jc] 26)
  have hX : w1.heap.size ≤ w2.heap.size := hb4.size
  have c0' := hb5.at_cell c0
  have hR : PlayR w w1.heap.size w2.heap.size g cap s ps (.slice none 0 0) 0 (w2.alloc (.cells #[.slice (some ⟨g, 0, none⟩) n cap, .slice ja s.inj.length jc] 26)) s qs' (.slice ja s.inj.length jc) [] :=
    ⟨hO, OK.out, rfl, World.ownsRow_nil _ _ _ _, Nat.le_refl _, B1.out.then hb5, (keep26 hb5 R1.out).1, by simp⟩
  have HR := Lib.hid hR
  clear hF hb4 hO hb5 c0 c1 ST hR
  go_wp2_with fail
  go_loopw [9, 28] (fun ev i wr => ∃ k s' qs' injV' L, k ≤ m ∧ i = .int .i64 (k : Int) ∧ PlayR w w1.heap.size w2.heap.size g cap s ps ev k wr s' qs' injV' L) (fun _ i _ => m - (intOf i).toNat)
  case atStart => exact ⟨0, s, qs', _, [], Nat.zero_le _, rfl, HR.out⟩
  case round =>
    obtain ⟨k, s', qs', injV', L, hk, rfl, hR⟩ := hrel
    obtain ⟨ia, ic, rfl⟩ := hR.own.inj.1.form
    obtain ⟨ea, ec, rfl⟩ := (SlV.of_owns hR.evs).form
    have hlen' : s'.ws.length = n := hR.len.trans NN.out
    have nX : ¬ w2.heap.size = w.heap.size + 1 := by omega
    have nX2 : ¬ w.heap.size + 1 = w2.heap.size := by omega
    have hL := hR.few
    by_cases hlt : k < m
    · obtain ⟨sb, so, scc, hse, hcell⟩ := HP.out.at (by rw [MM.out]; omega)
      cases hse
      obtain ⟨p0, p1⟩ := hcell k (by rw [MM.out]; exact hlt)
      replace p0 := hR.bel.at_cell p0
      replace p1 := hR.bel.at_cell p1
      generalize hpk : ps.getD k (0, 0) = pk at p0 p1
      obtain ⟨px, pc⟩ := pk
      have PK := Lib.hid hpk
      have hdrop : ps.drop k = (px, pc) :: ps.drop (k + 1) := by
        rw [List.drop_eq_getElem_cons (by rw [MM.out]; exact hlt)]
        have : ps[k]'(by rw [MM.out]; exact hlt) = (px, pc) := by rw [← PK.out]; simp [List.getD, MM.out, hlt]
        rw [this]
      have IS := Lib.hid hR.is
      have HD := Lib.hid hdrop
      have g1 : (k : Int) < (m : Int) := by omega
      have g2 : (0 : Int) ≤ (k : Int) := by omega
      have hba : Below wr.heap.size wr (wr.alloc (.cells #[.int .i64 px, .int .i64 pc] 62)) := (Below.refl _ _).alloc (Nat.le_refl _) _
      have hOa := hR.own.below hba
      obtain ⟨x0, x1, -⟩ := hOa.boxed
      have hrest := rests_calls _ _ qs' s' _ hOa.stV (ok_small hR.ok)
      rw [hlen'] at x0 hrest
      have t0 : (wr.alloc (.cells #[.int .i64 px, .int .i64 pc] 62)).cell? ⟨wr.heap.size, 0, none⟩ = some (.int .i64 px) := by rw [World.cell?_alloc_at _ _ _ _ (by simp)]; rfl
      have t1 : (wr.alloc (.cells #[.int .i64 px, .int .i64 pc] 62)).cell? ⟨wr.heap.size, 1, none⟩ = some (.int .i64 pc) := by rw [World.cell?_alloc_at _ _ _ _ (by simp)]; rfl
      have HRR := Lib.hid hR
      have HBA := Lib.hid hba
      have HOA := Lib.hid hOa
      clear hR hba hOa hpk hdrop hcell c0'
      go_wp2_with fail
      refine hrest.mono ?_
      rintro e w5 ⟨rfl, hb5⟩
      have hO5 := HOA.out.below hb5
      have hb05 := HBA.out.then hb5
      replace t0 := hb5.at_cell t0
      replace t1 := hb5.at_cell t1
      replace x0 := hb5.at_cell x0
      replace x1 := hb5.at_cell x1
      have hE5 := owns_below HRR.out.evs hb05 (Nat.le_refl _)
      have hR5 := (keep26 hb05 HRR.out.res).1
      have hB5 := HRR.out.bel.then hb05
      clear hrest p0 p1
      cases hr : restS s' with
      | true =>
        have is2 : playS s ps = (s', L) := by
          have := IS.out
          rw [playS_rest s' _ hr] at this
          simpa using this
        replace IS := Lib.hid is2
        clear is2
        clear hr t0 t1 x0 x1
        obtain ⟨y0, y1, -⟩ := hO5.boxed
        rw [hlen'] at y0
        obtain ⟨-, q0, q1, qf⟩ := keep26 (Below.refl _ _) hR5
        have O9 := Lib.hid hO5
        have R9 := Lib.hid hR5
        have E9 := Lib.hid hE5
        have B9 := Lib.hid hB5
        clear hO5 hR5 hE5 hB5 hb5 hb05
        go_wp2_with fail
        have z1 := heap_setCell_same w5 (w.heap.size + 1) 0 _ 26 (.slice (some ⟨g, 0, none⟩) n cap) R9.out
        have z2 := heap_setCell_same _ (w.heap.size + 1) 1 _ 26 (.slice ia s'.inj.length ic) z1
        refine bodyPost_ret (results_ctt rfl _ _ (w.heap.size + 1) 26 _ (0, 0) _ rfl z2 Try.underlying26 rfl size26) rfl ?_
        have o1 := (O9.out.elsewhere26 (a := ⟨w.heap.size + 1, 0, none⟩) (.slice (some ⟨g, 0, none⟩) n cap) R9.out (fun e => nX e)).elsewhere26 (a := ⟨w.heap.size + 1, 1, none⟩) (.slice ia s'.inj.length ic) z1 (fun e => nX e)
        have e1 := ownsRow_setCell_other (ownsRow_setCell_other E9.out (owns_apart E9.out R9.out (by decide)) (a := ⟨w.heap.size + 1, 0, none⟩) (.slice (some ⟨g, 0, none⟩) n cap))
          (a := ⟨w.heap.size + 1, 1, none⟩) (owns_apart (ownsRow_setCell_other E9.out (owns_apart E9.out R9.out (by decide)) (a := ⟨w.heap.size + 1, 0, none⟩) (.slice (some ⟨g, 0, none⟩) n cap)) z1 (by decide)) (.slice ia s'.inj.length ic)
        have st := o1.stT
        rw [hlen'] at st
        refine ⟨.slice (some ⟨g, 0, none⟩) n cap, .slice ia s'.inj.length ic, qs', .slice ea L.length ec, rfl, ?_, ?_, (B9.out.setCell (show w.heap.size ≤ w.heap.size + 1 by omega) _).setCell (show w.heap.size ≤ w.heap.size + 1 by omega) _⟩
        · rw [IS.out]; exact st.imp fun g _ hg => Nat.le_trans B1.out.size hg
        · rw [IS.out]; exact e1
      | false =>
        obtain ⟨xa, xb, ha, ha1, ha2, hb, hbw, hwn⟩ := who_facts s' px (by rw [hlen']; exact h0)
        have hstep : playS s' ((px, pc) :: ps.drop (k + 1)) = _ := playS_step (p := (px, pc)) hr
        have his : playS s ps = _ := IS.out
        rw [HD.out, hstep] at his
        simp only at his
        rw [hlen'] at ha ha1 ha2 hb hwn
        generalize who s' px = i at hbw hwn his
        subst hbw
        have hi : i < s'.ws.length := by rw [hlen']; exact hwn
        have hform := HRR.out.ok.form _ (getD_mem hi)
        have hph : (s'.ws.getD i wk0).ph = 0 ∨ (s'.ws.getD i wk0).ph = 1 ∨ (s'.ws.getD i wk0).ph = 2 ∨ (s'.ws.getD i wk0).ph = 3 := by
          have := ((formed_iff _ _).1 hform).1
          exact this
        have gm : (n : Int) ≠ 0 := by omega
        have g3 : (i : Int) < (n : Int) := by omega
        have g4 : (0 : Int) ≤ (i : Int) := by omega
        obtain ⟨-, c1, -, -⟩ := hO5.cells i hi
        obtain ⟨hXlt, hglt, hbz⟩ := hO5.lt
        have hTlt : wr.heap.size < w5.heap.size := by have := hb5.size; simp at this; omega
        have HIS := Lib.hid his
        have PH := Lib.hid hph
        have HI := Lib.hid hi
        have HO5 := Lib.hid hO5
        have HE5 := Lib.hid hE5
        have HR5 := Lib.hid hR5
        have HB5 := Lib.hid hB5
        have H05 := Lib.hid hb05
        clear his hstep hr hph hi hform hO5 hE5 hR5 hB5 hb05 hb5 IS HD
        go_upto_region 12 with (fail)
        go_cut [14] from 42 to 53 (fun t wx => Stepped w1.heap.size w2.heap.size g cap w5 (stepS s' i pc) t wx)
        case first =>
          have hd := fun {wq : World} (hq : Below w5.heap.size w5 wq) => disp (HO5.out.below hq) HRR.out.ok i HI.out pc _ rfl
          have ix := index_ph _ PH.out
          have cf := call_ph _ PH.out
          generalize phF (s'.ws.getD i wk0).ph = F at hd ix cf
          generalize (s'.ws.getD i wk0).ph = ph at c1 ix
          generalize hr : stepS s' i pc = r at hd
          have HR2 := Lib.hid hr
          clear hr
          have hza : Below w5.heap.size w5 (w5.alloc z38) := (Below.refl _ _).alloc (Nat.le_refl _) _
          have xa0 := hza.at_cell x0
          have ca1 := hza.at_cell c1
          have ta1 := hza.at_cell t1
          have hyz : Below w5.heap.size w5 w5.drew := (Below.refl _ _).drew
          have hyza : Below w5.heap.size w5 (w5.alloc z38).drew := hza.drew
          clear t0 x1
          go_region_law (first
            | (rw [if_pos (by rfl)]; refine oper_value _ _ _ _ _ rfl F rfl cf ?_; refine (hd (by first | exact hy | exact hy.alloc hy.size _)).mono ?_; rintro e wd ⟨rfl, ⟨qs2, inj2, hO2⟩, hFr⟩; dsimp only; unfold evV; clear hd ix cf c1 x0 t1 xa0 ca1 ta1 y0 y1 y2 ya0 ya1 ya2 hya; (first | (have p' := far38 hFr p (by omega) (by omega); obtain ⟨p, p0, p1, p2, p3, pf⟩ := p') | (have p' := far38 hFr (heap_alloc_new _ _) (by omega) (by omega); obtain ⟨p, p0, p1, p2, p3, pf⟩ := p') | skip))
            | (go_simp; go_wp2_with ((go_at_call 38; refine (phases_calls _).mono ?_; rintro e wx ⟨rfl, hbx⟩; have hy : Below w5.heap.size w5 wx := (by first | exact hyz.then hbx | exact hyza.then hbx); have y0 := hy.at_cell x0; have y1 := hy.at_cell c1; have y2 := hy.at_cell t1; have hya := (Below.refl wx.heap.size wx).alloc (Nat.le_refl _) z38; have ya0 := hya.at_cell y0; have ya1 := hya.at_cell y1; have ya2 := hya.at_cell y2; have hys := hy.size; (first | (have p' := keep38 hbx (P := _) (heap_alloc_new _ _); obtain ⟨p, p0, p1, p2, p3, pf⟩ := p') | skip)))))
          all_goals (
            have hbd : Frm w1.heap.size w2.heap.size g w5 wd := (by first | exact (hy.frm hbz).trans hFr | exact ((hy.alloc hy.size _).frm hbz).trans hFr)
            go_wp2_with fail
            go_meet
            case' rel => skip)
          all_goals (rw [HR2.out]; with_reducible (first | exact Stepped.alloc hO2 hbd | exact Stepped.put hO2 hbd p hys hbz | exact Stepped.put hO2 hbd p (Nat.le_refl _) hbz))
        case rest =>
          obtain ⟨R, qs2, inj2, rfl, hRz, hE, hO2, hFrm⟩ := hcut
          have hok2 := ok_step HRR.out.ok HI.out pc
          have hlen2 := (step_eff s' i pc HI.out).len
          obtain ⟨-, gcur, hgc⟩ := HO5.out.block
          have hev := owns_frm HE5.out hFrm HO5.out.box hgc (by decide) (by decide)
          have hbel := HB5.out.trans (hFrm.below.mono B1.out.size)
          have hr6 := (hFrm.below.block _ L1).trans HR5.out
          generalize stepS s' i pc = r at *
          have hlen3 : r.1.ws.length = s.ws.length := hlen2.trans HRR.out.len
          obtain ⟨e0, e1, e2, e3, -⟩ := res_facts hE
          have his := HIS.out
          have hkL := HRR.out.few
          clear t0 t1 x0 x1 c1 HO5 HE5 HB5 HR5 PH HIS HRR HBA HOA hFrm H05 hlen2 hgc
          by_cases hkind : r.2.kind = 0
          · rw [if_pos hkind] at his
            have hk0 : (r.2.kind == 0) = true := by simpa using hkind
            rw [hkind] at e0
            have PR : PlayR w w1.heap.size w2.heap.size g cap s ps (.slice ea L.length ec) (k + 1) wc r.1 qs2 inj2 L :=
              ⟨hO2, hok2, hlen3, hev, by omega, hbel, hr6, by simpa using his⟩
            have PR2 := Lib.hid PR
            clear PR hO2 hok2 hlen3 hev hbel hr6 his hE hkind
            go_wp2_with fail
            go_roundw
            case rel => exact ⟨k + 1, r.1, qs2, inj2, L, by omega, by go_num, PR2.out⟩
            case measure => simp [intOf]; omega
          · rw [if_neg hkind] at his
            have hk0 : (r.2.kind == 0) = false := by simpa using hkind
            have hown := hev.alloc (.cells #[.int .i64 r.2.kind, .int .i64 r.2.worker, .int .i64 r.2.task, .int .i64 r.2.src] 38)
            have hcl := cells4_new wc wc.heap.size rfl (.int .i64 r.2.kind) (.int .i64 r.2.worker) (.int .i64 r.2.task) (.int .i64 r.2.src) 38
            have hba : Below wc.heap.size wc (wc.alloc (.cells #[.int .i64 r.2.kind, .int .i64 r.2.worker, .int .i64 r.2.task, .int .i64 r.2.src] 38)) := (Below.refl _ _).alloc (Nat.le_refl _) _
            have hb6 := hbel.then hba
            have hr7 := (keep26 hba hr6).1
            have O7 := Lib.hid (hO2.below hba)
            have B6 := Lib.hid hb6
            have HIS := Lib.hid his
            have OK2 := Lib.hid hok2
            have LE3 := Lib.hid hlen3
            have R7 := Lib.hid hr7
            obtain ⟨i0, hif, hz0, hz1, hz2⟩ := info_parts info38
            clear hO2 hok2 hlen3 hev hbel hr6 his hE hba hb6 hr7
            go_wp2_with (at_builtin; refine wpList_append_own _ rfl _ _ 63 rfl w.heap.size 38 i0 _ 4 32 Try.underlying63 hif hz0 hz1 hz2 rfl (by decide) _ _ _ rfl hown ⟨wc.heap.size, 0, none⟩ 1 1 [.int .i64 r.2.kind, .int .i64 r.2.worker, .int .i64 r.2.task, .int .i64 r.2.src] rfl rfl hcl ?d2 ?d3 ?d4 ?d5 ?_)
            case d2 => intro u hu; simp at hu; rcases hu with rfl | rfl | rfl | rfl <;> rfl
            case d3 => unfold maxLen; omega
            case d4 => omega
            case d5 => exact B6.out.size
            intro v6 w6 hown6 hgrow6 _
            have hown7 : w6.ownsRow w.heap.size 38 4 v6 (L ++ [r.2]).length ((L ++ [r.2]).flatMap evC) := by
              rw [List.flatMap_append, List.length_append]
              exact hown6
            have PR : PlayR w w1.heap.size w2.heap.size g cap s ps v6 (k + 1) w6 r.1 qs2 inj2 (L ++ [r.2]) :=
              ⟨O7.out.grown38 hown hgrow6, OK2.out, LE3.out, hown7, by simp; omega, B6.out.grown hgrow6 B6.out.size (fun k hk => (hown.lt k hk).1),
                by rw [hgrow6.block _ (Array.getElem?_eq_some_iff.1 R7.out).1 (fun e => owns_apart hown R7.out (by decide) e.symm)]; exact R7.out, by rw [List.append_assoc]; exact HIS.out⟩
            have PR2 := Lib.hid PR
            clear PR hown hcl hown6 hown7 hgrow6 hif hz0 hz1 hz2
            go_wp2_with fail
            go_roundw
            case rel => exact ⟨k + 1, r.1, qs2, inj2, L ++ [r.2], by omega, by go_num, PR2.out⟩
            case measure => simp [intOf]; omega
    · have hkm : k = m := by omega
      subst hkm
      have IS : playS s ps = (s', L) := by
        have := hR.is
        rw [List.drop_of_length_le (by rw [MM.out]; exact Nat.le_refl _)] at this
        simpa [playS] using this
      replace IS := Lib.hid IS
      have hO5 := hR.own
      have hE5 := hR.evs
      have hR5 := hR.res
      have hB5 := hR.bel
      clear hR
      obtain ⟨y0, y1, -⟩ := hO5.boxed
      rw [hlen'] at y0
      obtain ⟨-, q0, q1, qf⟩ := keep26 (Below.refl _ _) hR5
      have O9 := Lib.hid hO5
      have R9 := Lib.hid hR5
      have E9 := Lib.hid hE5
      have B9 := Lib.hid hB5
      clear hO5 hR5 hE5 hB5 c0'
      go_wp2_with fail
      have z1 := heap_setCell_same wr (w.heap.size + 1) 0 _ 26 (.slice (some ⟨g, 0, none⟩) n cap) R9.out
      have z2 := heap_setCell_same _ (w.heap.size + 1) 1 _ 26 (.slice ia s'.inj.length ic) z1
      refine bodyPost_ret (results_ctt rfl _ _ (w.heap.size + 1) 26 _ (0, 0) _ rfl z2 Try.underlying26 rfl size26) rfl ?_
      have o1 := (O9.out.elsewhere26 (a := ⟨w.heap.size + 1, 0, none⟩) (.slice (some ⟨g, 0, none⟩) n cap) R9.out (fun e => nX e)).elsewhere26 (a := ⟨w.heap.size + 1, 1, none⟩) (.slice ia s'.inj.length ic) z1 (fun e => nX e)
      have e1 := ownsRow_setCell_other (ownsRow_setCell_other E9.out (owns_apart E9.out R9.out (by decide)) (a := ⟨w.heap.size + 1, 0, none⟩) (.slice (some ⟨g, 0, none⟩) n cap))
        (a := ⟨w.heap.size + 1, 1, none⟩) (owns_apart (ownsRow_setCell_other E9.out (owns_apart E9.out R9.out (by decide)) (a := ⟨w.heap.size + 1, 0, none⟩) (.slice (some ⟨g, 0, none⟩) n cap)) z1 (by decide)) (.slice ia s'.inj.length ic)
      have st := o1.stT
      rw [hlen'] at st
      refine ⟨.slice (some ⟨g, 0, none⟩) n cap, .slice ia s'.inj.length ic, qs', .slice ea L.length ec, rfl, ?_, ?_, (B9.out.setCell (show w.heap.size ≤ w.heap.size + 1 by omega) _).setCell (show w.heap.size ≤ w.heap.size + 1 by omega) _⟩
      · rw [IS.out]; exact st.imp fun g _ hg => Nat.le_trans B1.out.size hg
      · rw [IS.out]; exact e1
end Go.Proofs.Ytjnlfibcpkobaaa
