/- The law ScheduleWakes: its walk. -/
import Derived.Test.YtjnlfibcpkobaaaVa
import Derived.Test.YtjnlfibcpkobaaaOo
import Derived.IntWalk
import Derived.Deep.QuietTactic
import Derived.BigQuiet
import Derived.Test.YtjnlfibcpkobaaaPd
import Derived.Test.YtjnlfibcpkobaaaLp
namespace Go.Proofs.Ytjnlfibcpkobaaa
open Go.RowKit Go.Sl Go.Sched

set_option maxRecDepth 100000 in
set_option maxHeartbeats 8000000 in
theorem law3_calls (a : Nat) (ha : a < 256) (v : Value) (l : List OpD) (w : World) (h : SlO w v l) (hl : ∀ o ∈ l, o.fits) :
    Calls Try.prog 3 #[.int .u8 a, v] w fun e w' => e = .returned (.bool true) ∧ Below w.heap.size w w' := by
  obtain ⟨a1, c1, rfl⟩ := SlV.form h
  have H := Lib.hid h
  have HL := Lib.hid hl
  obtain ⟨n, hn, n1, n6⟩ : ∃ n : Nat, (1 + (a : Int) % 6) = n ∧ 1 ≤ n ∧ n ≤ 6 := ⟨1 + a % 6, by omega, by omega, by omega⟩
  have hnew := new_calls n w
  have e : newS n = (⟨List.replicate n wkN, []⟩, 0) := by unfold newS; rw [if_neg (by omega), Int.toNat_natCast]
  rw [e] at hnew
  have hw0 := WInv.start n1 (by omega : n ≤ 64)
  have hl0 : (⟨List.replicate n wkN, []⟩ : St).ws.length = n := by simp
  generalize (⟨List.replicate n wkN, []⟩ : St) = s0 at hnew hw0 hl0
  clear h hl e
  have W0 := Lib.hid hw0
  have L0 := Lib.hid hl0
  clear hw0 hl0
  by_cases h100 : 100 < l.length
  · have g1 : (100 : Int) < (l.length : Int) := by omega
    clear h100
    go_enter Try.func3, Try.ntmps3
    go_wp2_with fail
    refine hnew.mono ?_
    rintro e w1 ⟨va, vb, q, rfl, hst, hb1⟩
    obtain ⟨wa, wc, rfl⟩ := hst.st.ws.form
    obtain ⟨ia, ic, rfl⟩ := hst.inj.1.form
    have hb2 := hb1.alloc hb1.size (.cells #[.slice wa s0.ws.length wc, .slice ia s0.inj.length ic] 26)
    have HB := Lib.hid hb2
    clear hst hb1 hb2 hnew
    go_wp2_with fail
    refine (awake_calls _).mono ?_
    rintro e w2 ⟨rfl, hb3⟩
    replace HB := Lib.hid (HB.out.then hb3)
    clear hb3
    go_wp2_with fail
    go_ret
    exact ⟨rfl, HB.out⟩
  have g1 : ¬ (100 : Int) < (l.length : Int) := by omega
  have H100 := Lib.hid h100
  clear h100
  go_enter Try.func3, Try.ntmps3
  go_wp2_with fail
  refine hnew.mono ?_
  rintro e w1 ⟨va, vb, q, rfl, hst, hb1⟩
  obtain ⟨wa, wc, rfl⟩ := hst.st.ws.form
  obtain ⟨ia, ic, rfl⟩ := hst.inj.1.form
  have V0 : Hid (Bd w w1.heap.size _ _ _ _ _ _ (.slice none 0 0) (.slice none 0 0) (.slice none 0 0) [] [] [] (w1.alloc (.cells #[.slice wa s0.ws.length wc, .slice ia s0.inj.length ic] 26))) :=
    Lib.hid ⟨(hst.imp (A' := Ap (.slice none 0 0) (.slice none 0 0) (.slice none 0 0)) fun _ _ _ => Ap.none _).below ((Below.refl _ _).alloc (Nat.le_refl _) _), heap_alloc_new _ _, Rows3.nil _ _, hb1.alloc hb1.size _, hb1.size⟩
  clear hst hb1 hnew
  go_wp2_with fail
  go_loopw [8, 9, 10, 56] (fun v8 v9 v10 i wr => ∃ (k : Nat) (s : St) (va vb : Value) (q' : List Value) (put taken ended : List Int), k ≤ l.length ∧ i = .int .i64 (k : Int) ∧ Bd w w1.heap.size va vb va vb q' s v8 v9 v10 put taken ended wr ∧ s.ws.length = n ∧ WInv k s put taken ended) (fun _ _ _ i _ => l.length - (intOf i).toNat)
  case atStart => exact ⟨0, s0, _, _, q, [], [], [], Nat.zero_le _, rfl, V0.out, L0.out, W0.out⟩
  case round =>
    obtain ⟨k, s, va, vb, q', put, taken, ended, hk, rfl, hV, hln, hW⟩ := hrel
    obtain ⟨wa', wc', hwf⟩ := hV.st.st.ws.form
    rw [hln] at hwf
    subst hwf
    obtain ⟨ia', ic', rfl⟩ := hV.st.inj.1.form
    by_cases hlt : k < l.length
    · rcases H.out.2 with ⟨h0, _⟩ | ⟨h0, sb, so, sc, hse, hcell⟩
      · omega
      cases hse
      obtain ⟨d0, d1, d2, d3⟩ := flatO l k hlt
      have hfit : (l.getD k op0).fits := HL.out _ (by rw [List.getD, List.getElem?_eq_getElem hlt]; exact List.getElem_mem hlt)
      generalize l.getD k op0 = o at d0 d1 d2 d3 hfit
      obtain ⟨ok, ow, ot, oc⟩ := o
      obtain ⟨⟨f1, f2⟩, f3, f4⟩ := hfit
      simp only at d0 d1 d2 d3 f1 f2 f3 f4
      obtain ⟨kn, rfl⟩ : ∃ m : Nat, ok = (m : Int) := ⟨ok.toNat, by omega⟩
      obtain ⟨wn, rfl⟩ : ∃ m : Nat, ow = (m : Int) := ⟨ow.toNat, by omega⟩
      have e0 := hV.bel.at_cell (hcell _ _ d0)
      have e1 := hV.bel.at_cell (hcell _ _ d1)
      have e2 := hV.bel.at_cell (hcell _ _ d2)
      have e3 := hV.bel.at_cell (hcell _ _ d3)
      rw [← Nat.add_assoc] at e1 e2 e3
      obtain ⟨x, hx, hxn⟩ : ∃ x : Nat, (wn : Int) % n = (x : Int) ∧ x < n := ⟨wn % n, by omega, Nat.mod_lt _ (by omega)⟩
      obtain ⟨q8, hq8, hq88⟩ : ∃ q : Nat, (kn : Int) % 8 = (q : Int) ∧ q < 8 := ⟨kn % 8, by omega, by omega⟩
      have g3 : (k : Int) < (l.length : Int) := by omega
      have g4 : (0 : Int) ≤ (k : Int) := by omega
      have gn : (n : Int) ≠ 0 := by omega
      have gw : wn < 256 := by omega
      have gk : kn < 256 := by omega
      have hza : Below wr.heap.size wr (wr.alloc (.cells #[.int .u8 kn, .int .u8 wn, .int .i16 ot, .int .i64 oc] 33)) := (Below.refl _ _).alloc (Nat.le_refl _) _
      obtain ⟨x0, x1, -⟩ := facts26 (hV.then hza).at_
      have HV := Lib.hid (hV.then hza)
      have HW := Lib.hid hW
      have HLN := Lib.hid hln
      clear hV hW hln hcell d0 d1 d2 d3 f1 f2 f3 f4 h0
      go_upto_region 11 with (fail)
      rw [hx]
      go_step; go_step; go_step; go_step; go_step; go_step; go_step
      go_step; go_step; go_step
      first
        | go_cut [8, 9, 10] from 69 to 202 (fun v8 v9 v10 wx => ∃ (s2 : St) (va vb : Value) (q2 : List Value) (put2 taken2 ended2 : List Int), Bd w w1.heap.size va vb va vb q2 s2 v8 v9 v10 put2 taken2 ended2 wx ∧ s2.ws.length = n ∧ WInv (k + 1) s2 put2 taken2 ended2)
        | (go_step; go_cut [8, 9, 10] from 69 to 202 (fun v8 v9 v10 wx => ∃ (s2 : St) (va vb : Value) (q2 : List Value) (put2 taken2 ended2 : List Int), Bd w w1.heap.size va vb va vb q2 s2 v8 v9 v10 put2 taken2 ended2 wx ∧ s2.ws.length = n ∧ WInv (k + 1) s2 put2 taken2 ended2))
        | (go_step; go_step; go_cut [8, 9, 10] from 69 to 202 (fun v8 v9 v10 wx => ∃ (s2 : St) (va vb : Value) (q2 : List Value) (put2 taken2 ended2 : List Int), Bd w w1.heap.size va vb va vb q2 s2 v8 v9 v10 put2 taken2 ended2 wx ∧ s2.ws.length = n ∧ WInv (k + 1) s2 put2 taken2 ended2))
        | (go_step; go_step; go_step; go_cut [8, 9, 10] from 69 to 202 (fun v8 v9 v10 wx => ∃ (s2 : St) (va vb : Value) (q2 : List Value) (put2 taken2 ended2 : List Int), Bd w w1.heap.size va vb va vb q2 s2 v8 v9 v10 put2 taken2 ended2 wx ∧ s2.ws.length = n ∧ WInv (k + 1) s2 put2 taken2 ended2))
      case first => as_aux_lemma =>
        have hzb : Below (wr.alloc (.cells #[.int .u8 kn, .int .u8 wn, .int .i16 ot, .int .i64 oc] 33)).heap.size (wr.alloc (.cells #[.int .u8 kn, .int .u8 wn, .int .i16 ot, .int .i64 oc] 33)) ((wr.alloc (.cells #[.int .u8 kn, .int .u8 wn, .int .i16 ot, .int .i64 oc] 33)).alloc (.cells #[.slice wa' n wc', .slice ia' s.inj.length ic'] 26)) := (Below.refl _ _).alloc (Nat.le_refl _) _
        have HV2 := Lib.hid (HV.out.then hzb)
        obtain ⟨y0, y1, -⟩ := facts26 HV2.out.at_
        clear HV x0 x1 hzb hza
        by_cases h0q : q8 = 0
        · as_aux_lemma =>
          subst h0q
          have hln := HLN.out
          by_cases hph : (s.ws.getD x wk0).ph = 3
          · as_aux_lemma =>
            obtain ⟨e1, hok2, hl2, hq2, hr2⟩ := push_ok HW.out.ok (by rw [hln]; exact hxn) hph (t := (k : Int)) (by omega) HW.out.notin (by have := HW.out.tasks_few; omega)
            have hcall := push_calls _ _ q' s _ HV2.out.st.st (ok_small HW.out.ok) (x : Int) (k : Int)
            rw [e1] at hcall
            have HW2 := Lib.hid (HW.out.put hok2 hq2 hr2)
            have HL2 := Lib.hid (hl2.trans hln)
            generalize (pushS s (x : Int) (k : Int)).1 = s2 at hcall HW2 HL2
            generalize (pushS s (x : Int) (k : Int)).2.1 = r2 at hcall
            clear e1 hok2 hl2 hq2 hr2 hph hln
            go_wp2_with fail
            refine hcall.mono ?_
            rintro e w5 ⟨va, vb, q2, rfl, hst, hb5⟩
            obtain ⟨wa2, wc2, hwf2⟩ := hst.st.ws.form
            rw [HL2.out] at hwf2
            subst hwf2
            obtain ⟨ia2, ic2, rfl⟩ := hst.inj.1.form
            have hB5 := HV2.out.other hb5 hst
            have nX : ¬ w5.heap.size = w1.heap.size := by have := (Array.getElem?_eq_some_iff.1 hB5.at_).1; omega
            have HB := Lib.hid (hB5.then ((Below.refl _ _).alloc (Nat.le_refl _) (.cells #[.slice wa2 n wc2, .slice ia2 s2.inj.length ic2] 26)))
            have hP := heap_alloc_new w5 (.cells #[.slice wa2 n wc2, .slice ia2 s2.inj.length ic2] 26)
            clear hst hb5 hcall y0 y1 HV2 hB5
            go_upto_region 31 with (fail)
            have nX2 : ¬ w1.heap.size = w5.heap.size := fun e => nX e.symm
            generalize w5.alloc (.cells #[.slice wa2 n wc2, .slice ia2 s2.inj.length ic2] 26) = wz at HB hP ⊢
            generalize w5.heap.size = P at hP nX nX2 ⊢
            obtain ⟨p0, p1, -⟩ := facts26 hP
            have hz1 : Below wz.heap.size wz (wz.alloc (.cells #[.int .i64 (k : Int)] 3)) := (Below.refl wz.heap.size wz).alloc (Nat.le_refl _) _
            have pb0 := hz1.at_cell p0
            have pb1 := hz1.at_cell p1
            have hza : Below wz.heap.size wz (wz.alloc (.cells #[.int .i64 (k : Int)] 3)).drew := hz1.drew
            have pa0 := hza.at_cell p0
            have pa1 := hza.at_cell p1
            have HBa := Lib.hid (HB.out.then hza)
            have hcl := fun j u (h : ([Value.int .i64 (k : Int)])[j]? = some u) => ((Below.refl (wz.alloc (.cells #[.int .i64 (k : Int)] 3)).heap.size (wz.alloc (.cells #[.int .i64 (k : Int)] 3))).drew).at_cell (cell_one_at wz wz.heap.size rfl (.int .i64 (k : Int)) 3 j u h)
            have HPa := Lib.hid ((hza.block _ (Array.getElem?_eq_some_iff.1 hP).1).trans hP)
            have HCL := Lib.hid hcl
            obtain ⟨i0, hif, hz0, hz1, hz2⟩ := info_parts info3
            have HIF := Lib.hid hif
            have HZ0 := Lib.hid hz0
            have HZ1 := Lib.hid hz1
            have HZ2 := Lib.hid hz2
            have hfew := HW.out.few
            clear hif hz0 hz1 hz2 hcl hza hP
            go_region_held3 (fun w' => w'.cell? ⟨P, 0, none⟩ = some (.slice wa2 n wc2) ∧ w'.cell? ⟨P, 1, none⟩ = some (.slice ia2 s2.inj.length ic2)) (go_keep)
              ((refine step_append_at rfl (.tmp 183) (.tmp 185) 24 rfl w.heap.size 3 i0 (.int .i64 0) 1 8 Try.underlying24 HIF.out HZ0.out HZ1.out HZ2.out rfl (by decide) _ put.length _ rfl HBa.out.rows.o1 ⟨wz.heap.size, 0, none⟩ 1 1 [.int .i64 (k : Int)] rfl rfl HCL.out (by intro u hu; simp at hu; subst hu; rfl) (by unfold maxLen; omega) (by omega) HBa.out.bel.size ?_; intro v6 w6 ho6 hg6 hv6; have hB6 := HBa.out.grow ho6 hg6 hv6; have x' := facts26 hB6.at_; obtain ⟨x0, x1, xf⟩ := x'; have p' := facts26 (HBa.out.far hg6 HPa.out (by decide)); obtain ⟨q0, q1, -⟩ := p'; have HB6 := Lib.hid hB6; clear hB6 ho6 hg6 hv6))
            go_wp2_with fail
            go_meet
            exact ⟨s2, _, _, q2, put ++ [(k : Int)], taken, ended, HB6.out.put, HL2.out, HW2.out⟩
          · as_aux_lemma =>
            have e1 := push_no HW.out.ok (by rw [hln]; exact hxn) hph (t := (k : Int)) (by omega)
            have hcall := push_calls _ _ q' s _ HV2.out.st.st (ok_small HW.out.ok) (x : Int) (k : Int)
            rw [e1] at hcall
            clear e1 hph hln
            go_wp2_with fail
            refine hcall.mono ?_
            rintro e w5 ⟨va, vb, q2, rfl, hst, hb5⟩
            have HB := Lib.hid ((HV2.out.then hb5).then ((Below.refl _ _).alloc (Nat.le_refl _) (.cells #[va, vb] 26)))
            obtain ⟨wa2, wc2, rfl⟩ := hst.st.ws.form
            obtain ⟨ia2, ic2, rfl⟩ := hst.inj.1.form
            clear hst hb5 hcall y0 y1
            go_wp2_with fail
            go_meet
            exact ⟨s, _, _, q', put, taken, ended, HB.out, HLN.out, HW.out.next⟩
        by_cases h1q : q8 = 1
        · as_aux_lemma =>
          subst h1q
          have hln := HLN.out
          · obtain ⟨e1, hok2, hp2, hl2, hq2, hr2⟩ := submit_ok HW.out.ok (t := (k : Int)) (by omega) HW.out.notin (by have := HW.out.tasks_few; omega)
            have hcall := submit_calls _ _ q' s _ HV2.out.st.st (ok_small HW.out.ok) (k : Int)
            rw [e1] at hcall
            have HW2 := Lib.hid (HW.out.put hok2 hq2 hr2)
            have HL2 := Lib.hid (hl2.trans hln)
            generalize (submitS s (k : Int)).1 = s2 at hcall HW2 HL2
            generalize (submitS s (k : Int)).2.1 = r2 at hcall
            clear e1 hok2 hl2 hq2 hr2 hp2 hln h0q
            go_wp2_with fail
            refine hcall.mono ?_
            rintro e w5 ⟨va, vb, q2, rfl, hst, hb5⟩
            obtain ⟨wa2, wc2, hwf2⟩ := hst.st.ws.form
            rw [HL2.out] at hwf2
            subst hwf2
            obtain ⟨ia2, ic2, rfl⟩ := hst.inj.1.form
            have hB5 := HV2.out.other hb5 hst
            have nX : ¬ w5.heap.size = w1.heap.size := by have := (Array.getElem?_eq_some_iff.1 hB5.at_).1; omega
            have HB := Lib.hid (hB5.then ((Below.refl _ _).alloc (Nat.le_refl _) (.cells #[.slice wa2 n wc2, .slice ia2 s2.inj.length ic2] 26)))
            have hP := heap_alloc_new w5 (.cells #[.slice wa2 n wc2, .slice ia2 s2.inj.length ic2] 26)
            clear hst hb5 hcall y0 y1 HV2 hB5
            go_upto_region 36 with (fail)
            have nX2 : ¬ w1.heap.size = w5.heap.size := fun e => nX e.symm
            generalize w5.alloc (.cells #[.slice wa2 n wc2, .slice ia2 s2.inj.length ic2] 26) = wz at HB hP ⊢
            generalize w5.heap.size = P at hP nX nX2 ⊢
            obtain ⟨p0, p1, -⟩ := facts26 hP
            have hz1 : Below wz.heap.size wz (wz.alloc (.cells #[.int .i64 (k : Int)] 3)) := (Below.refl wz.heap.size wz).alloc (Nat.le_refl _) _
            have pb0 := hz1.at_cell p0
            have pb1 := hz1.at_cell p1
            have hza : Below wz.heap.size wz (wz.alloc (.cells #[.int .i64 (k : Int)] 3)).drew := hz1.drew
            have pa0 := hza.at_cell p0
            have pa1 := hza.at_cell p1
            have HBa := Lib.hid (HB.out.then hza)
            have hcl := fun j u (h : ([Value.int .i64 (k : Int)])[j]? = some u) => ((Below.refl (wz.alloc (.cells #[.int .i64 (k : Int)] 3)).heap.size (wz.alloc (.cells #[.int .i64 (k : Int)] 3))).drew).at_cell (cell_one_at wz wz.heap.size rfl (.int .i64 (k : Int)) 3 j u h)
            have HPa := Lib.hid ((hza.block _ (Array.getElem?_eq_some_iff.1 hP).1).trans hP)
            have HCL := Lib.hid hcl
            obtain ⟨i0, hif, hz0, hz1, hz2⟩ := info_parts info3
            have HIF := Lib.hid hif
            have HZ0 := Lib.hid hz0
            have HZ1 := Lib.hid hz1
            have HZ2 := Lib.hid hz2
            have hfew := HW.out.few
            clear hif hz0 hz1 hz2 hcl hza hP
            go_region_held3 (fun w' => w'.cell? ⟨P, 0, none⟩ = some (.slice wa2 n wc2) ∧ w'.cell? ⟨P, 1, none⟩ = some (.slice ia2 s2.inj.length ic2)) (go_keep)
              ((refine step_append_at rfl (.tmp 199) (.tmp 201) 24 rfl w.heap.size 3 i0 (.int .i64 0) 1 8 Try.underlying24 HIF.out HZ0.out HZ1.out HZ2.out rfl (by decide) _ put.length _ rfl HBa.out.rows.o1 ⟨wz.heap.size, 0, none⟩ 1 1 [.int .i64 (k : Int)] rfl rfl HCL.out (by intro u hu; simp at hu; subst hu; rfl) (by unfold maxLen; omega) (by omega) HBa.out.bel.size ?_; intro v6 w6 ho6 hg6 hv6; have hB6 := HBa.out.grow ho6 hg6 hv6; have x' := facts26 hB6.at_; obtain ⟨x0, x1, xf⟩ := x'; have p' := facts26 (HBa.out.far hg6 HPa.out (by decide)); obtain ⟨q0, q1, -⟩ := p'; have HB6 := Lib.hid hB6; clear hB6 ho6 hg6 hv6))
            go_wp2_with fail
            go_meet
            exact ⟨s2, _, _, q2, put ++ [(k : Int)], taken, ended, HB6.out.put, HL2.out, HW2.out⟩
        have hln := HLN.out
        have hxs : x < s.ws.length := by rw [hln]; exact hxn
        have hstep : stepR s (x : Int) oc = ((stepS s x oc).1, (stepS s x oc).2, 0) := by
          unfold stepR
          rw [if_neg (by rw [(valid_iff s).2 HW.out.ok]; decide), if_neg (by omega), Int.toNat_natCast]
        have hcall := step_calls _ _ q' s _ HV2.out.st.st (ok_small HW.out.ok) (x : Int) oc
        rw [hstep] at hcall
        have HS := Lib.hid (step_says s x hxs oc)
        have HW2 := Lib.hid (HW.out.step hxs oc)
        have HL2 := Lib.hid ((step_eff s x oc hxs).len.trans hln)
        have h0q' : ¬ (q8 : Int) = 0 := by omega
        have h1q' : ¬ (q8 : Int) = 1 := by omega
        have h14 := heap_alloc_new (wr.alloc (.cells #[.int .u8 kn, .int .u8 wn, .int .i16 ot, .int .i64 oc] 33)) (.cells #[.slice wa' n wc', .slice ia' s.inj.length ic'] 26)
        rw [World.size_alloc] at h14
        have H14 := Lib.hid h14
        generalize stepS s x oc = r at hcall HS HW2 HL2
        obtain ⟨s2, ek, ew, et, es⟩ := r
        clear hstep hln hxs h0q h1q h14
        go_wp2_with fail
        refine hcall.mono ?_
        rintro e w5 ⟨va, vb, q2, rfl, hst, hb5⟩
        generalize (wr.alloc (.cells #[.int .u8 kn, .int .u8 wn, .int .i16 ot, .int .i64 oc] 33)).alloc (.cells #[.slice wa' n wc', .slice ia' s.inj.length ic'] 26) = w4 at hcall HV2 hst hb5 H14 y0 y1
        obtain ⟨hew, hsay⟩ := HS.out
        simp only at hew hsay
        subst hew
        obtain ⟨wa2, wc2, hwf2⟩ := hst.st.ws.form
        rw [HL2.out] at hwf2
        subst hwf2
        obtain ⟨ia2, ic2, rfl⟩ := hst.inj.1.form
        unfold evV
        dsimp only
        have hbz : Below w5.heap.size w5 ((w5.alloc (.cells #[.slice wa2 n wc2, .slice ia2 s2.inj.length ic2] 26)).alloc (.cells #[.int .i64 ek, .int .i64 x, .int .i64 et, .int .i64 es] 38)) := ((Below.refl _ _).alloc (Nat.le_refl _) _).alloc (by simp) _
        have HB := Lib.hid ((HV2.out.other hb5 hst).then hbz)
        have HO := Lib.hid ((HV2.out.then hb5).then hbz)
        have h22 := heap_alloc_new (w5.alloc (.cells #[.slice wa2 n wc2, .slice ia2 s2.inj.length ic2] 26)) (.cells #[.int .i64 ek, .int .i64 x, .int .i64 et, .int .i64 es] 38)
        rw [World.size_alloc] at h22
        have H22 := Lib.hid h22
        have H21 := Lib.hid (((Below.refl _ _).alloc (Nat.le_refl _) (.cells #[.int .i64 ek, .int .i64 x, .int .i64 et, .int .i64 es] 38)).block _ (by simp) |>.trans (heap_alloc_new w5 (.cells #[.slice wa2 n wc2, .slice ia2 s2.inj.length ic2] 26)))
        replace H14 := Lib.hid ((hbz.block _ (Nat.lt_of_lt_of_le (Array.getElem?_eq_some_iff.1 H14.out).1 hb5.size)).trans ((hb5.block _ (Array.getElem?_eq_some_iff.1 H14.out).1).trans H14.out))
        have nX : ¬ w5.heap.size = w1.heap.size := by have := (Array.getElem?_eq_some_iff.1 HV2.out.at_).1; have := hb5.size; omega
        have nX2 : ¬ w1.heap.size = w5.heap.size := fun e => nX e.symm
        have gx : (0 : Int) ≤ (x : Int) := by omega
        have hfew2 := HW.out.few
        have hfew : taken.length ≤ put.length := by have := HW.out.fin.2.2.2; omega
        have hfew3 : ended.length ≤ taken.length := by have := HW.out.r.length_eq; rw [List.length_append] at this; omega
        obtain ⟨i0, hif, hz0, hz1, hz2⟩ := info_parts info3
        clear hst hb5 hcall y0 y1 HV2 hbz h22 HS
        rcases hsay with ⟨k1, k2⟩ | ⟨hk, rfl | ⟨j, rfl, hj, hne, hk1, hk2⟩⟩
        · by_cases k3 : ek = 3
          · as_aux_lemma =>
            subst k3
            have hl : (ended).length ≤ 100 := by omega
            go_upto_region 26 with (fail)
            generalize (w5.alloc (.cells #[.slice wa2 n wc2, .slice ia2 s2.inj.length ic2] 26)).alloc (.cells #[.int .i64 3, .int .i64 x, .int .i64 et, .int .i64 es] 38) = wz at HB HO H14 H21 H22 ⊢
            generalize w5.heap.size + 1 = P22 at H22 ⊢
            generalize w5.heap.size = P21 at H21 nX nX2 ⊢
            have hza : Below wz.heap.size wz (wz.alloc (.cells #[.int .i64 et] 3)) := (Below.refl wz.heap.size wz).alloc (Nat.le_refl _) _
            have HBa := Lib.hid (HB.out.then hza)
            have HOa := Lib.hid (HO.out.then hza)
            obtain ⟨-, -, e2, -, -⟩ := res_facts H22.out
            replace H14 := Lib.hid ((hza.block _ (Array.getElem?_eq_some_iff.1 H14.out).1).trans H14.out)
            replace H21 := Lib.hid ((hza.block _ (Array.getElem?_eq_some_iff.1 H21.out).1).trans H21.out)
            replace H22 := Lib.hid ((hza.block _ (Array.getElem?_eq_some_iff.1 H22.out).1).trans H22.out)
            have HCL := Lib.hid (cell_one_at wz wz.heap.size rfl (.int .i64 et) 3)
            clear HB HO hza
            go_wp2_with (at_builtin; refine wpList_append_own_at _ rfl _ _ 24 rfl w.heap.size 3 i0 (.int .i64 0) 1 8 Try.underlying24 hif hz0 hz1 hz2 rfl (by decide) _ ended.length _ rfl HBa.out.turn.rows.o1 ⟨wz.heap.size, 0, none⟩ 1 1 [.int .i64 et] rfl rfl HCL.out ?d2 ?d3 ?d4 ?d5 ?_)
            case d2 => (first | rfl | (intro u hu; simp at hu; subst hu; rfl))
            case d3 => unfold maxLen; omega
            case d4 => omega
            case d5 => have := HBa.out.bel.size; rw [World.size_alloc] at this; exact this
            intro v6 w6 ho6 hg6 _ hv6
            have hv6 : v6.ownBlock = u10.ownBlock ∨ v6.ownBlock = some (wz.alloc (.cells #[.int .i64 et] 3)).heap.size := by rw [World.size_alloc]; exact hv6
            have HB6 := Lib.hid (HBa.out.turn.grow ho6 hg6 hv6).turn
            have HO6 := Lib.hid (HOa.out.turn.grow ho6 hg6 hv6).turn
            obtain ⟨c0, c1, -⟩ := facts26 (HBa.out.turn.far hg6 H14.out (by decide))
            obtain ⟨b0, b1, -⟩ := facts26 (HBa.out.turn.far hg6 H21.out (by decide))
            replace H22 := Lib.hid (HBa.out.turn.far hg6 H22.out (by decide))
            obtain ⟨f0, f1, f2, f3, -⟩ := res_facts H22.out
            obtain ⟨x0, x1, xf⟩ := facts26 HB6.out.at_
            clear ho6 hg6 hv6 HBa HOa HCL hif hz0 hz1 hz2 e2
            go_wp2_with fail
            go_meet
            refine ⟨s2, _, _, q2, put, taken, ended ++ [et], HB6.out.put, HL2.out, ?_⟩
            have := HW2.out
            simpa using this
          · as_aux_lemma =>
            have k1' : (ek == 1) = false := by simpa using k1
            have k2' : (ek == 2) = false := by simpa using k2
            have k3' : (ek == 3) = false := by simpa using k3
            go_upto_region 13 with (fail)
            generalize (w5.alloc (.cells #[.slice wa2 n wc2, .slice ia2 s2.inj.length ic2] 26)).alloc (.cells #[.int .i64 ek, .int .i64 x, .int .i64 et, .int .i64 es] 38) = wz at HB HO H14 H21 H22 ⊢
            generalize w5.heap.size + 1 = P22 at H22 ⊢
            generalize w5.heap.size = P21 at H21 nX nX2 ⊢
            obtain ⟨b0, b1, -⟩ := facts26 H21.out
            obtain ⟨f0, f1, f2, f3, -⟩ := res_facts H22.out
            obtain ⟨x0, x1, xf⟩ := facts26 HB.out.at_
            clear hif hz0 hz1 hz2 HO H14
            go_wp2_with fail
            go_meet
            refine ⟨s2, _, _, q2, put, taken, ended, HB.out.put, HL2.out, ?_⟩
            have := HW2.out
            simpa [k1, k2, k3] using this
        · rcases hk with rfl | rfl
          · as_aux_lemma =>
            have hl : taken.length ≤ 100 := by omega
            have gn2 : ¬ (n : Int) ≤ -1 := by omega
            go_upto_region 18 with (fail)
            generalize (w5.alloc (.cells #[.slice wa2 n wc2, .slice ia2 s2.inj.length ic2] 26)).alloc (.cells #[.int .i64 1, .int .i64 x, .int .i64 et, .int .i64 (-1)] 38) = wz at HB HO H14 H21 H22 ⊢
            generalize w5.heap.size + 1 = P22 at H22 ⊢
            generalize w5.heap.size = P21 at H21 nX nX2 ⊢
            have hza : Below wz.heap.size wz (wz.alloc (.cells #[.int .i64 et] 3)) := (Below.refl wz.heap.size wz).alloc (Nat.le_refl _) _
            have HBa := Lib.hid (HB.out.then hza)
            have HOa := Lib.hid (HO.out.then hza)
            obtain ⟨-, -, e2, -, -⟩ := res_facts H22.out
            replace H14 := Lib.hid ((hza.block _ (Array.getElem?_eq_some_iff.1 H14.out).1).trans H14.out)
            replace H21 := Lib.hid ((hza.block _ (Array.getElem?_eq_some_iff.1 H21.out).1).trans H21.out)
            replace H22 := Lib.hid ((hza.block _ (Array.getElem?_eq_some_iff.1 H22.out).1).trans H22.out)
            have HCL := Lib.hid (cell_one_at wz wz.heap.size rfl (.int .i64 et) 3)
            clear HB HO hza
            go_wp2_with (at_builtin; refine wpList_append_own_at _ rfl _ _ 24 rfl w.heap.size 3 i0 (.int .i64 0) 1 8 Try.underlying24 hif hz0 hz1 hz2 rfl (by decide) _ taken.length _ rfl HBa.out.swap.rows.o1 ⟨wz.heap.size, 0, none⟩ 1 1 [.int .i64 et] rfl rfl HCL.out ?d2 ?d3 ?d4 ?d5 ?_)
            case d2 => (first | rfl | (intro u hu; simp at hu; subst hu; rfl))
            case d3 => unfold maxLen; omega
            case d4 => omega
            case d5 => have := HBa.out.bel.size; rw [World.size_alloc] at this; exact this
            intro v6 w6 ho6 hg6 _ hv6
            have hv6 : v6.ownBlock = u9.ownBlock ∨ v6.ownBlock = some (wz.alloc (.cells #[.int .i64 et] 3)).heap.size := by rw [World.size_alloc]; exact hv6
            have HB6 := Lib.hid (HBa.out.swap.grow ho6 hg6 hv6).swap
            have HO6 := Lib.hid (HOa.out.swap.grow ho6 hg6 hv6).swap
            obtain ⟨c0, c1, -⟩ := facts26 (HBa.out.swap.far hg6 H14.out (by decide))
            obtain ⟨b0, b1, -⟩ := facts26 (HBa.out.swap.far hg6 H21.out (by decide))
            replace H22 := Lib.hid (HBa.out.swap.far hg6 H22.out (by decide))
            obtain ⟨f0, f1, f2, f3, -⟩ := res_facts H22.out
            obtain ⟨x0, x1, xf⟩ := facts26 HB6.out.at_
            clear ho6 hg6 hv6 HBa HOa HCL hif hz0 hz1 hz2 e2
            go_wp2_with fail
            go_meet
            refine ⟨s2, _, _, q2, put, taken ++ [et], ended, HB6.out.put, HL2.out, ?_⟩
            have := HW2.out
            simpa using this
          · as_aux_lemma =>
            have hl : taken.length ≤ 100 := by omega
            have gn2 : ¬ (n : Int) ≤ -1 := by omega
            go_upto_region 18 with (fail)
            generalize (w5.alloc (.cells #[.slice wa2 n wc2, .slice ia2 s2.inj.length ic2] 26)).alloc (.cells #[.int .i64 2, .int .i64 x, .int .i64 et, .int .i64 (-1)] 38) = wz at HB HO H14 H21 H22 ⊢
            generalize w5.heap.size + 1 = P22 at H22 ⊢
            generalize w5.heap.size = P21 at H21 nX nX2 ⊢
            have hza : Below wz.heap.size wz (wz.alloc (.cells #[.int .i64 et] 3)) := (Below.refl wz.heap.size wz).alloc (Nat.le_refl _) _
            have HBa := Lib.hid (HB.out.then hza)
            have HOa := Lib.hid (HO.out.then hza)
            obtain ⟨-, -, e2, -, -⟩ := res_facts H22.out
            replace H14 := Lib.hid ((hza.block _ (Array.getElem?_eq_some_iff.1 H14.out).1).trans H14.out)
            replace H21 := Lib.hid ((hza.block _ (Array.getElem?_eq_some_iff.1 H21.out).1).trans H21.out)
            replace H22 := Lib.hid ((hza.block _ (Array.getElem?_eq_some_iff.1 H22.out).1).trans H22.out)
            have HCL := Lib.hid (cell_one_at wz wz.heap.size rfl (.int .i64 et) 3)
            clear HB HO hza
            go_wp2_with (at_builtin; refine wpList_append_own_at _ rfl _ _ 24 rfl w.heap.size 3 i0 (.int .i64 0) 1 8 Try.underlying24 hif hz0 hz1 hz2 rfl (by decide) _ taken.length _ rfl HBa.out.swap.rows.o1 ⟨wz.heap.size, 0, none⟩ 1 1 [.int .i64 et] rfl rfl HCL.out ?d2 ?d3 ?d4 ?d5 ?_)
            case d2 => (first | rfl | (intro u hu; simp at hu; subst hu; rfl))
            case d3 => unfold maxLen; omega
            case d4 => omega
            case d5 => have := HBa.out.bel.size; rw [World.size_alloc] at this; exact this
            intro v6 w6 ho6 hg6 _ hv6
            have hv6 : v6.ownBlock = u9.ownBlock ∨ v6.ownBlock = some (wz.alloc (.cells #[.int .i64 et] 3)).heap.size := by rw [World.size_alloc]; exact hv6
            have HB6 := Lib.hid (HBa.out.swap.grow ho6 hg6 hv6).swap
            have HO6 := Lib.hid (HOa.out.swap.grow ho6 hg6 hv6).swap
            obtain ⟨c0, c1, -⟩ := facts26 (HBa.out.swap.far hg6 H14.out (by decide))
            obtain ⟨b0, b1, -⟩ := facts26 (HBa.out.swap.far hg6 H21.out (by decide))
            replace H22 := Lib.hid (HBa.out.swap.far hg6 H22.out (by decide))
            obtain ⟨f0, f1, f2, f3, -⟩ := res_facts H22.out
            obtain ⟨x0, x1, xf⟩ := facts26 HB6.out.at_
            clear ho6 hg6 hv6 HBa HOa HCL hif hz0 hz1 hz2 e2
            go_wp2_with fail
            go_meet
            refine ⟨s2, _, _, q2, put, taken ++ [et], ended, HB6.out.put, HL2.out, ?_⟩
            have := HW2.out
            simpa using this
        · rcases hk with rfl | rfl
          · as_aux_lemma =>
            have hl : taken.length ≤ 100 := by omega
            have gj : (0 : Int) ≤ (j : Int) := by omega
            have gj2 : ¬ (n : Int) ≤ (j : Int) := by have := HLN.out; omega
            have gj3 : (j : Int) < (n : Int) := by omega
            have gj4 : ¬ (j : Int) < -1 := by omega
            have hlast := hk1 rfl
            have HJ := Lib.hid hj
            have HNE := Lib.hid hne
            have HLA := Lib.hid hlast
            clear hj hne hk1 hk2 hlast
            go_upto_region 18 with (fail)
            generalize (w5.alloc (.cells #[.slice wa2 n wc2, .slice ia2 s2.inj.length ic2] 26)).alloc (.cells #[.int .i64 1, .int .i64 x, .int .i64 et, .int .i64 j] 38) = wz at HB HO H14 H21 H22 ⊢
            generalize w5.heap.size + 1 = P22 at H22 ⊢
            generalize w5.heap.size = P21 at H21 nX nX2 ⊢
            have hza : Below wz.heap.size wz (wz.alloc (.cells #[.int .i64 et] 3)) := (Below.refl wz.heap.size wz).alloc (Nat.le_refl _) _
            have HBa := Lib.hid (HB.out.then hza)
            have HOa := Lib.hid (HO.out.then hza)
            obtain ⟨-, -, e2, -, -⟩ := res_facts H22.out
            replace H14 := Lib.hid ((hza.block _ (Array.getElem?_eq_some_iff.1 H14.out).1).trans H14.out)
            replace H21 := Lib.hid ((hza.block _ (Array.getElem?_eq_some_iff.1 H21.out).1).trans H21.out)
            replace H22 := Lib.hid ((hza.block _ (Array.getElem?_eq_some_iff.1 H22.out).1).trans H22.out)
            have HCL := Lib.hid (cell_one_at wz wz.heap.size rfl (.int .i64 et) 3)
            clear HB HO hza
            go_wp2_with (at_builtin; refine wpList_append_own_at _ rfl _ _ 24 rfl w.heap.size 3 i0 (.int .i64 0) 1 8 Try.underlying24 hif hz0 hz1 hz2 rfl (by decide) _ taken.length _ rfl HBa.out.swap.rows.o1 ⟨wz.heap.size, 0, none⟩ 1 1 [.int .i64 et] rfl rfl HCL.out ?d2 ?d3 ?d4 ?d5 ?_)
            case d2 => (first | rfl | (intro u hu; simp at hu; subst hu; rfl))
            case d3 => unfold maxLen; omega
            case d4 => omega
            case d5 => have := HBa.out.bel.size; rw [World.size_alloc] at this; exact this
            intro v6 w6 ho6 hg6 _ hv6
            have hv6 : v6.ownBlock = u9.ownBlock ∨ v6.ownBlock = some (wz.alloc (.cells #[.int .i64 et] 3)).heap.size := by rw [World.size_alloc]; exact hv6
            have HB6 := Lib.hid (HBa.out.swap.grow ho6 hg6 hv6).swap
            have HO6 := Lib.hid (HOa.out.swap.grow ho6 hg6 hv6).swap
            obtain ⟨c0, c1, -⟩ := facts26 (HBa.out.swap.far hg6 H14.out (by decide))
            obtain ⟨b0, b1, -⟩ := facts26 (HBa.out.swap.far hg6 H21.out (by decide))
            replace H22 := Lib.hid (HBa.out.swap.far hg6 H22.out (by decide))
            obtain ⟨f0, f1, f2, f3, -⟩ := res_facts H22.out
            obtain ⟨x0, x1, xf⟩ := facts26 HB6.out.at_
            clear ho6 hg6 hv6 HBa HOa HCL hif hz0 hz1 hz2 e2
            obtain ⟨hnil, -⟩ | ⟨-, b, o, cp0, hwv, hcell⟩ := HO6.out.st.st.ws.cases
            · have := HJ.out; rw [hnil] at this; simp at this
            simp only [Value.slice.injEq] at hwv
            obtain ⟨rfl, -, -⟩ := hwv
            obtain ⟨hq0, -⟩ := hcell j HJ.out
            have hqj := HO6.out.st.st.qu j HJ.out
            have hqt := q_le_tasks s j HJ.out
            have hfw := HW.out.ok.few
            generalize (s.ws.getD j wk0).q = qj at hqj hqt HNE HLA
            rcases hqj.cases with ⟨rfl, -⟩ | ⟨-, b2, o2, c2, hqv, hqc⟩
            · exact absurd rfl HNE.out
            obtain ⟨m, hm⟩ : ∃ m, qj.length = m + 1 := ⟨qj.length - 1, by have := List.length_pos_iff.2 HNE.out; omega⟩
            rw [hm] at hqv hqt hqc
            rw [hqv] at hq0
            have hlst := hqc m (by omega)
            have hld : qj.getD m 0 = et := by
              rw [← HLA.out, List.getLastD_eq_getLast?, List.getLast?_eq_getElem?, hm]
              rfl
            rw [hld] at hlst
            have gm0 : (0 : Int) ≤ (m : Int) := by omega
            have gm1 : (m : Int) ≤ 2000 := by omega
            clear hcell hqc hqv hm hqt hfw hld
            go_upto_region 23 with (fail)
            clear hq0 c0 c1 f1 f3
            have gw1 : IntKind.i64.wrap ((m : Int) + 1 - 1) = (m : Int) := by rw [Int.add_sub_cancel]; exact IntWalk.i64_in _ (by omega)
            have gw2 : IntKind.i64.wrap (m : Int) = (m : Int) := IntWalk.i64_in _ (by omega)
            have gw3 : ((m : Int) + 1 == 0) = false := by simp; omega
            go_quiet (fail)
            clear gw1 gw2 gw3
            go_wp2_with fail
            go_meet
            refine ⟨s2, _, _, q2, put, taken ++ [et], ended, by first | exact HB6.out.put | exact HB6.out.put.then ((Below.refl _ _).drewN _) | exact (HB6.out.then ((Below.refl _ _).drewN _)).put, HL2.out, ?_⟩
            have := HW2.out
            simpa using this
          · as_aux_lemma =>
            have hl : taken.length ≤ 100 := by omega
            have gj : (0 : Int) ≤ (j : Int) := by omega
            have gj2 : ¬ (n : Int) ≤ (j : Int) := by have := HLN.out; omega
            have gj3 : (j : Int) < (n : Int) := by omega
            have gj4 : ¬ (j : Int) < -1 := by omega
            have hlast := hk2 rfl
            have HJ := Lib.hid hj
            have HNE := Lib.hid hne
            have HLA := Lib.hid hlast
            clear hj hne hk1 hk2 hlast
            go_upto_region 18 with (fail)
            generalize (w5.alloc (.cells #[.slice wa2 n wc2, .slice ia2 s2.inj.length ic2] 26)).alloc (.cells #[.int .i64 2, .int .i64 x, .int .i64 et, .int .i64 j] 38) = wz at HB HO H14 H21 H22 ⊢
            generalize w5.heap.size + 1 = P22 at H22 ⊢
            generalize w5.heap.size = P21 at H21 nX nX2 ⊢
            have hza : Below wz.heap.size wz (wz.alloc (.cells #[.int .i64 et] 3)) := (Below.refl wz.heap.size wz).alloc (Nat.le_refl _) _
            have HBa := Lib.hid (HB.out.then hza)
            have HOa := Lib.hid (HO.out.then hza)
            obtain ⟨-, -, e2, -, -⟩ := res_facts H22.out
            replace H14 := Lib.hid ((hza.block _ (Array.getElem?_eq_some_iff.1 H14.out).1).trans H14.out)
            replace H21 := Lib.hid ((hza.block _ (Array.getElem?_eq_some_iff.1 H21.out).1).trans H21.out)
            replace H22 := Lib.hid ((hza.block _ (Array.getElem?_eq_some_iff.1 H22.out).1).trans H22.out)
            have HCL := Lib.hid (cell_one_at wz wz.heap.size rfl (.int .i64 et) 3)
            clear HB HO hza
            go_wp2_with (at_builtin; refine wpList_append_own_at _ rfl _ _ 24 rfl w.heap.size 3 i0 (.int .i64 0) 1 8 Try.underlying24 hif hz0 hz1 hz2 rfl (by decide) _ taken.length _ rfl HBa.out.swap.rows.o1 ⟨wz.heap.size, 0, none⟩ 1 1 [.int .i64 et] rfl rfl HCL.out ?d2 ?d3 ?d4 ?d5 ?_)
            case d2 => (first | rfl | (intro u hu; simp at hu; subst hu; rfl))
            case d3 => unfold maxLen; omega
            case d4 => omega
            case d5 => have := HBa.out.bel.size; rw [World.size_alloc] at this; exact this
            intro v6 w6 ho6 hg6 _ hv6
            have hv6 : v6.ownBlock = u9.ownBlock ∨ v6.ownBlock = some (wz.alloc (.cells #[.int .i64 et] 3)).heap.size := by rw [World.size_alloc]; exact hv6
            have HB6 := Lib.hid (HBa.out.swap.grow ho6 hg6 hv6).swap
            have HO6 := Lib.hid (HOa.out.swap.grow ho6 hg6 hv6).swap
            obtain ⟨c0, c1, -⟩ := facts26 (HBa.out.swap.far hg6 H14.out (by decide))
            obtain ⟨b0, b1, -⟩ := facts26 (HBa.out.swap.far hg6 H21.out (by decide))
            replace H22 := Lib.hid (HBa.out.swap.far hg6 H22.out (by decide))
            obtain ⟨f0, f1, f2, f3, -⟩ := res_facts H22.out
            obtain ⟨x0, x1, xf⟩ := facts26 HB6.out.at_
            clear ho6 hg6 hv6 HBa HOa HCL hif hz0 hz1 hz2 e2
            obtain ⟨hnil, -⟩ | ⟨-, b, o, cp0, hwv, hcell⟩ := HO6.out.st.st.ws.cases
            · have := HJ.out; rw [hnil] at this; simp at this
            simp only [Value.slice.injEq] at hwv
            obtain ⟨rfl, -, -⟩ := hwv
            obtain ⟨hq0, -⟩ := hcell j HJ.out
            have hqj := HO6.out.st.st.qu j HJ.out
            have hqt := q_le_tasks s j HJ.out
            have hfw := HW.out.ok.few
            generalize (s.ws.getD j wk0).q = qj at hqj hqt HNE HLA
            rcases hqj.cases with ⟨rfl, -⟩ | ⟨-, b2, o2, c2, hqv, hqc⟩
            · exact absurd rfl HNE.out
            obtain ⟨m, hm⟩ : ∃ m, qj.length = m + 1 := ⟨qj.length - 1, by have := List.length_pos_iff.2 HNE.out; omega⟩
            rw [hm] at hqv hqt hqc
            rw [hqv] at hq0
            have hlst := hqc 0 (by omega)
            have hld : qj.getD 0 0 = et := by
              rw [← HLA.out]
              cases qj <;> rfl
            rw [hld, Nat.add_zero] at hlst
            have gm0 : (0 : Int) ≤ (m : Int) := by omega
            have gm1 : (m : Int) ≤ 2000 := by omega
            clear hcell hqc hqv hm hqt hfw hld
            go_upto_region 23 with (fail)
            clear hq0 c0 c1 f1 f3
            have gw1 : IntKind.i64.wrap ((m : Int) + 1 - 1) = (m : Int) := by rw [Int.add_sub_cancel]; exact IntWalk.i64_in _ (by omega)
            have gw2 : IntKind.i64.wrap (m : Int) = (m : Int) := IntWalk.i64_in _ (by omega)
            have gw3 : ((m : Int) + 1 == 0) = false := by simp; omega
            go_quiet (fail)
            clear gw1 gw2 gw3
            go_wp2_with fail
            go_meet
            refine ⟨s2, _, _, q2, put, taken ++ [et], ended, by first | exact HB6.out.put | exact HB6.out.put.then ((Below.refl _ _).drewN _) | exact (HB6.out.then ((Below.refl _ _).drewN _)).put, HL2.out, ?_⟩
            have := HW2.out
            simpa using this
      case rest => as_aux_lemma =>
        obtain ⟨s2, va, vb, q2, put2, taken2, ended2, hB, hl2, hW⟩ := hcut
        clear x0 x1
        obtain ⟨wa2, wc2, hwf2⟩ := hB.st.st.ws.form
        rw [hl2] at hwf2
        subst hwf2
        obtain ⟨ia2, ic2, rfl⟩ := hB.st.inj.1.form
        have hs8 := SlV.of_owns hB.rows.o1
        obtain ⟨pa, pc, hp8⟩ := hs8.form
        have hs9 := SlV.of_owns hB.rows.o2
        obtain ⟨ta, tc, hp9⟩ := hs9.form
        clear hs8 hs9
        subst hp8
        subst hp9
        obtain ⟨x0, x1, -⟩ := facts26 hB.at_
        have hq := fun m => (Below.refl wc.heap.size wc).drewN m
        have HB := Lib.hid (fun m => hB.then (hq m))
        have HL2 := Lib.hid hl2
        have HW2 := Lib.hid hW
        have hfw := qT_few hW.ok
        have hl0 := leftN_zero s2
        have ha0 := aslN_zero s2
        have HL0 := Lib.hid hl0
        have HA0 := Lib.hid ha0
        clear hB hl2 hW hq hl0 ha0 HW HLN HV hza
        go_upto_region 37 with (fail)
        go_quiet (fail)
        clear x0 x1
        have x' := fun m => facts26 (HB.out m).at_
        go_wp2_with fail
        go_loopw [25, 26, 28, 209] (fun sl lf _ i wy => ∃ j : Nat, j ≤ n ∧ i = .int .i64 (j : Int) ∧ sl = .int .i64 (aslN s2 j : Int) ∧ lf = .int .i64 (leftN s2 j : Int) ∧ Bd w w1.heap.size (.slice wa2 n wc2) (.slice ia2 s2.inj.length ic2) (.slice wa2 n wc2) (.slice ia2 s2.inj.length ic2) q2 s2 (.slice pa put2.length pc) (.slice ta taken2.length tc) u10 put2 taken2 ended2 wy) (fun _ _ _ i _ => n - (intOf i).toNat)
        case atStart => exact ⟨0, Nat.zero_le _, rfl, by rw [HA0.out]; rfl, by rw [HL0.out], HB.out _⟩
        case round =>
          obtain ⟨j, hj, rfl, rfl, rfl, hBj⟩ := hrel
          have hll := leftN_le s2 j
          have hal := aslN_le s2 j
          by_cases hjl : j < n
          · as_aux_lemma =>
            have hjs : j < s2.ws.length := by rw [HL2.out]; exact hjl
            have gj : (j : Int) < (n : Int) := by omega
            have gj0 : (0 : Int) ≤ (j : Int) := by omega
            have LS := Lib.hid (leftN_succ s2 j hjs)
            have AS := Lib.hid (aslN_succ s2 j hjs)
            obtain ⟨hnil, -⟩ | ⟨-, b, o, cp0, hwv, hcell⟩ := hBj.st.st.ws.cases
            · rw [hnil] at hjs; simp at hjs
            simp only [Value.slice.injEq] at hwv
            obtain ⟨rfl, -, -⟩ := hwv
            obtain ⟨r0, r1, r2, r3⟩ := hcell j hjs
            obtain ⟨qa, qc, hqv⟩ := (hBj.st.st.qu j hjs).form
            rw [hqv] at r0
            have hqt := q_le_tasks s2 j hjs
            have hfw2 := HW2.out.ok.few
            have HBj := Lib.hid (hBj.then ((Below.refl _ _).alloc (Nat.le_refl _) (.cells #[.slice qa (s2.ws.getD j wk0).q.length qc, .int .i64 (s2.ws.getD j wk0).ph, .int .i64 (s2.ws.getD j wk0).tk, .int .i64 (s2.ws.getD j wk0).lk] 42)))
            generalize (s2.ws.getD j wk0).q.length = ql at *
            generalize (s2.ws.getD j wk0).ph = ph at *
            generalize (s2.ws.getD j wk0).tk = tk at *
            generalize (s2.ws.getD j wk0).lk = lk at *
            generalize leftN s2 j = lj at *
            generalize aslN s2 j = aj at *
            clear hcell hqv hBj x' hjs
            by_cases hp2 : ph = 2
            · as_aux_lemma =>
              subst hp2
              go_wp2_with fail
              go_roundw
              case rel => exact ⟨j + 1, by omega, by go_num, by rw [AS.out]; rfl, by rw [LS.out]; rfl, HBj.out⟩
              case measure => simp [intOf]; omega
            · as_aux_lemma =>
              have hp3 : (ph == 2) = false := by simpa using hp2
              go_wp2_with fail
              go_roundw
              case rel => exact ⟨j + 1, by omega, by go_num, by rw [AS.out, if_neg hp2]; rfl, by rw [LS.out]; rfl, HBj.out⟩
              case measure => simp [intOf]; omega
          · as_aux_lemma =>
            have hjn : j = n := by omega
            subst hjn
            have hfin := HW2.out.fin.2.2.2
            have hla := leftN_all s2
            rw [HL2.out] at hla
            have hsl : aslN s2 j = j → leftN s2 j = 0 := by
              intro h
              rw [hla, HW2.out.ok.sleep (aslN_all s2 (by rw [HL2.out]; exact h))]
              rfl
            have hpl : put2.length = taken2.length + leftN s2 j := by rw [hla]; exact hfin
            have hfw3 := HW2.out.few
            have HBj := Lib.hid hBj
            generalize leftN s2 j = lj at *
            generalize aslN s2 j = aj at *
            generalize put2.length = pl at *
            generalize taken2.length = tl at *
            subst hpl
            clear hfin hla hBj x'
            by_cases haj : aj = j
            · have hl0 := hsl haj
              subst hl0
              subst haj
              clear hsl
              go_wp2_with fail
              go_roundw
              case rel => exact ⟨k + 1, s2, _, _, q2, put2, taken2, ended2, by omega, by go_num, HBj.out, HL2.out, HW2.out⟩
              case measure => simp [intOf]; omega
            · have haj2 : ((aj : Int) == (j : Int)) = false := by simpa using (by omega : ¬ (aj : Int) = (j : Int))
              clear hsl
              go_wp2_with fail
              go_roundw
              case rel => exact ⟨k + 1, s2, _, _, q2, put2, taken2, ended2, by omega, by go_num, HBj.out, HL2.out, HW2.out⟩
              case measure => simp [intOf]; omega
    · as_aux_lemma =>
      have hkl : k = l.length := by omega
      have hfin := hW.fin
      have hf1 := hW.few
      have hf2 := hfin.2.2.2
      have hf3 := hW.r.length_eq
      rw [List.length_append] at hf3
      have hs9 := SlV.of_owns hV.rows.o2
      obtain ⟨ta, tc, hp9⟩ := hs9.form
      have hs10 := SlV.of_owns hV.rows.o3
      obtain ⟨ea, ec, hp10⟩ := hs10.form
      clear hs9 hs10
      subst hp9
      subst hp10
      have ht1 : taken.length ≤ 100 := by omega
      have ht2 : ended.length ≤ 100 := by omega
      have g7 : ¬ (k : Int) < (l.length : Int) := by omega
      have ND := Lib.hid (And.intro hfin.1 hfin.2.1)
      have SUB := Lib.hid hfin.2.2.1
      have hba := (Below.refl wr.heap.size wr).alloc (Nat.le_refl _) (.cells #[.slice ta taken.length tc, .slice ea ended.length ec] 24)
      have HF0 : Hid (Fin2 w wr.heap.size (.slice ta taken.length tc) (.slice ea ended.length ec) taken ended (wr.alloc (.cells #[.slice ta taken.length tc, .slice ea ended.length ec] 24))) :=
        Lib.hid ⟨own_below hV.rows.o2 hba, own_below hV.rows.o3 hba, hV.rows.a23, heap_alloc_new _ _, hV.bel.then hba⟩
      clear hV hW hfin hf1 hf2 hf3 hba hln hlt hkl
      go_wp2_with fail
      generalize wr.alloc (.cells #[.slice ta taken.length tc, .slice ea ended.length ec] 24) = wq at HF0 ⊢
      generalize wr.heap.size = A at HF0 ⊢
      clear wr
      go_loopw [30, 245] (fun _ i wy => ∃ j : Nat, j ≤ 2 ∧ i = .int .i64 (j : Int) ∧ ∃ L9 L10, L9.Perm taken ∧ L10.Perm ended ∧ Fin2 w A (.slice ta taken.length tc) (.slice ea ended.length ec) L9 L10 wy) (fun _ i _ => 2 - (intOf i).toNat)
      case atStart => exact ⟨0, by omega, rfl, taken, ended, List.Perm.refl _, List.Perm.refl _, HF0.out⟩
      case round =>
        obtain ⟨j, hj, rfl, L9, L10, p9, p10, hF⟩ := hrel
        have hj3 : j = 0 ∨ j = 1 ∨ j = 2 := by omega
        rcases hj3 with rfl | rfl | rfl
        · as_aux_lemma =>
          have tok := trivial -- round 0
          obtain ⟨c0, c1⟩ := hF.cells
          have hsl := p9.length_eq
          have hso := sort_own2 (.slice ta taken.length tc) L9 w.heap.size wr hF.o1 (by rw [hsl]; omega)
          have HF := Lib.hid hF
          have HP := Lib.hid (And.intro p9 p10)
          have HND := Lib.hid (p9.nodup_iff.2 ND.out.1)
          have HSL := Lib.hid hsl
          clear hF p9 p10 hsl
          go_wp2_with fail
          refine hso.mono ?_
          rintro e w3 ⟨rfl, ho3, hg3⟩
          have hF3 := HF.out.sort1 ho3 hg3
          have hcl := clone_calls (.slice ta taken.length tc) (sorted L9) w3 (SlI.of_owns hF3.o1) (by rw [sorted_length, HSL.out]; omega)
          replace HF := Lib.hid hF3
          clear hso ho3 hg3 hF3 c0 c1
          go_wp2_with fail
          refine hcl.mono ?_
          rintro e w4 ⟨vc, rfl, ho4, hb4⟩
          have hco := compact_own vc (sorted L9) w3.heap.size w4 ho4 (by rw [sorted_length, HSL.out]; omega)
          rw [compact_same HND.out, HSL.out] at hco
          obtain ⟨ka, kc, hkf⟩ := (SlV.of_owns ho4).form
          rw [sorted_length, HSL.out] at hkf
          subst hkf
          have HB4 := Lib.hid hb4
          clear hcl ho4 hb4
          go_wp2_with fail
          refine hco.mono ?_
          rintro e w5 ⟨⟨a5, c5, rfl⟩, hb5⟩
          replace HF := Lib.hid (HF.out.then (HB4.out.trans hb5))
          clear hco hb5
          go_wp2_with fail
          go_roundw
          case rel => exact ⟨1, by omega, by go_num, sorted L9, L10, (sorted_perm L9).trans HP.out.1, HP.out.2, HF.out⟩
          case measure => simp [intOf]
        · as_aux_lemma =>
          have tok := trivial -- round 1
          obtain ⟨c0, c1⟩ := hF.cells
          have hsl := p10.length_eq
          have hso := sort_own2 (.slice ea ended.length ec) L10 w.heap.size wr hF.o2 (by rw [hsl]; omega)
          have HF := Lib.hid hF
          have HP := Lib.hid (And.intro p9 p10)
          have HND := Lib.hid (p10.nodup_iff.2 ND.out.2)
          have HSL := Lib.hid hsl
          clear hF p9 p10 hsl
          go_wp2_with fail
          refine hso.mono ?_
          rintro e w3 ⟨rfl, ho3, hg3⟩
          have hF3 := HF.out.sort2 ho3 hg3
          have hcl := clone_calls (.slice ea ended.length ec) (sorted L10) w3 (SlI.of_owns hF3.o2) (by rw [sorted_length, HSL.out]; omega)
          replace HF := Lib.hid hF3
          clear hso ho3 hg3 hF3 c0 c1
          go_wp2_with fail
          refine hcl.mono ?_
          rintro e w4 ⟨vc, rfl, ho4, hb4⟩
          have hco := compact_own vc (sorted L10) w3.heap.size w4 ho4 (by rw [sorted_length, HSL.out]; omega)
          rw [compact_same HND.out, HSL.out] at hco
          obtain ⟨ka, kc, hkf⟩ := (SlV.of_owns ho4).form
          rw [sorted_length, HSL.out] at hkf
          subst hkf
          have HB4 := Lib.hid hb4
          clear hcl ho4 hb4
          go_wp2_with fail
          refine hco.mono ?_
          rintro e w5 ⟨⟨a5, c5, rfl⟩, hb5⟩
          replace HF := Lib.hid (HF.out.then (HB4.out.trans hb5))
          clear hco hb5
          go_wp2_with fail
          go_roundw
          case rel => exact ⟨2, by omega, by go_num, L9, sorted L10, HP.out.1, (sorted_perm L10).trans HP.out.2, HF.out⟩
          case measure => simp [intOf]
        · as_aux_lemma =>
          rw [show ((2 : Nat) : Int) = 2 from rfl]
          have hMEM : ∀ x ∈ L10, x ∈ L9 := fun x hx => p9.mem_iff.2 (SUB.out x (p10.mem_iff.1 hx))
          have HM := Lib.hid hMEM
          have HF := Lib.hid hF
          have H9 := Lib.hid p9.length_eq
          have H10 := Lib.hid p10.length_eq
          clear hMEM hF p9 p10 hj
          go_wp2_with fail
          go_loopw [32, 261] (fun _ i wv => ∃ j : Nat, j ≤ ended.length ∧ i = .int .i64 (j : Int) ∧ Fin2 w A (.slice ta taken.length tc) (.slice ea ended.length ec) L9 L10 wv) (fun _ i _ => ended.length - (intOf i).toNat)
          case atStart => exact ⟨0, by omega, rfl, HF.out⟩
          case round =>
            obtain ⟨j, hj, rfl, hF2⟩ := hrel
            by_cases hjl : j < ended.length
            · as_aux_lemma =>
              have g8 : (j : Int) < (ended.length : Int) := by omega
              have g9 : (0 : Int) ≤ (j : Int) := by omega
              have hcon := contains_own (.slice ta taken.length tc) L9 (L10.getD j 0) wr (SlI.of_owns hF2.o1) (by rw [H9.out]; omega)
              have hjm : L10.getD j 0 ∈ L10 := by rw [List.getD, List.getElem?_eq_getElem (by rw [H10.out]; exact hjl)]; exact List.getElem_mem _
              rw [decide_eq_true (HM.out _ hjm)] at hcon
              rcases (SlI.of_owns hF2.o2).cases with ⟨hn, -⟩ | ⟨-, b2, o2, c2, hv2, hc2⟩
              · have := H10.out; rw [hn] at this; simp at this; omega
              have hcj := hc2 j (by rw [H10.out]; exact hjl)
              simp only [Value.slice.injEq] at hv2
              obtain ⟨rfl, -, -⟩ := hv2
              generalize L10.getD j 0 = t at *
              have HF2 := Lib.hid hF2
              clear hF2 hc2 hjm
              go_wp2_with fail
              refine hcon.mono ?_
              rintro e w3 ⟨rfl, hb3⟩
              replace HF2 := Lib.hid (HF2.out.then hb3)
              clear hb3 hcon hcj
              go_wp2_with fail
              go_roundw
              case rel => exact ⟨j + 1, by omega, by go_num, HF2.out⟩
              case measure => simp [intOf]; omega
            · as_aux_lemma =>
              have g8 : ¬ (j : Int) < (ended.length : Int) := by omega
              have HB := Lib.hid hF2.bel
              clear hF2
              go_wp2_with fail
              refine (awake_calls _).mono ?_
              rintro e w3 ⟨rfl, hb3⟩
              replace HB := Lib.hid (HB.out.then hb3)
              clear hb3
              go_wp2_with fail
              go_ret
              exact ⟨rfl, HB.out⟩
end Go.Proofs.Ytjnlfibcpkobaaa
