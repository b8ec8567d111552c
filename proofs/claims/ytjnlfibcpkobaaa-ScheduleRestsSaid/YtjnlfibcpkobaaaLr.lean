/- The law ScheduleRests: its walk. -/
import Derived.Test.YtjnlfibcpkobaaaFb
import Derived.Test.YtjnlfibcpkobaaaLp
import Derived.Test.YtjnlfibcpkobaaaAq
import Derived.IntWalk
import Derived.Deep.QuietTactic
import Derived.BigQuiet
namespace Go.Proofs.Ytjnlfibcpkobaaa
open Go.RowKit Go.Sl Go.Sched

theorem VarS.far2 {w0 w : World} {X : Nat} {a b : Value} {q : List Value} {s : St} (h : VarS w0 X a b q s w) {P : Nat} {x y : Value} (hP : w.heap[P]? = some (.cells #[x, y] 26 (0, 0))) (hB : w0.heap.size ≤ P) (hne : ¬ X = P) (u v : Value) : VarS w0 X a b q s ((w.setCell ⟨P, 0, none⟩ u).setCell ⟨P, 1, none⟩ v) := by
  have z1 := heap_setCell_same w P 0 _ 26 u hP
  refine ⟨(h.st.setCell (a := ⟨P, 0, none⟩) u hP (by decide) (by decide)).setCell (a := ⟨P, 1, none⟩) v z1 (by decide) (by decide), h.ok, ?_, (h.bel.setCell (p := ⟨P, 0, none⟩) hB _).setCell (p := ⟨P, 1, none⟩) hB _, h.hX⟩
  rw [put_keep w u v hne]
  exact h.at_
theorem cell_two_at (w : World) (x y : Value) (t : TypeId) : ∀ j u, [x, y][j]? = some u → (w.alloc (.cells #[x, y] t)).drew.cell? ((⟨w.heap.size, 0, none⟩ : Addr).add j) = some u := by
  have hb : Below (w.alloc (.cells #[x, y] t)).heap.size (w.alloc (.cells #[x, y] t)) (w.alloc (.cells #[x, y] t)).drew := (Below.refl _ _).drew
  have hn := heap_alloc_new w (.cells #[x, y] t)
  have key : ∀ (W : World) (B : Nat), W.heap[B]? = some (.cells #[x, y] t (0, 0)) → W.cell? ⟨B, 0, none⟩ = some x ∧ W.cell? ⟨B, 1, none⟩ = some y := fun W B h => ⟨by simp [World.cell?, h], by simp [World.cell?, h]⟩
  obtain ⟨k0, k1⟩ := key _ _ hn
  intro j u hu
  refine hb.at_cell ?_
  match j, hu with
  | 0, hu => simp at hu; subst hu; exact k0
  | 1, hu => simp at hu; subst hu; exact k1
/-- How many of the first events are ends. -/
def cntN (L : List Ev) (j : Nat) : Nat := ((L.take j).filter fun e => e.kind == 3).length
theorem cntN_le (L : List Ev) (j : Nat) : cntN L j ≤ j := Nat.le_trans (List.length_filter_le _ _) (by rw [List.length_take]; omega)
theorem cntN_all (L : List Ev) : cntN L L.length = (L.filter fun e => e.kind == 3).length := by simp [cntN]
theorem cntN_succ (L : List Ev) (j : Nat) (hj : j < L.length) : cntN L (j + 1) = cntN L j + if (L.getD j ev0).kind = 3 then 1 else 0 := by
  unfold cntN
  rw [List.take_succ_eq_append_getElem hj, List.filter_append, List.length_append]
  have e : L.getD j ev0 = L[j] := by simp [List.getD, hj]
  rw [e]
  by_cases h : L[j].kind = 3
  · simp [h, List.filter]
  · have h2 : (L[j].kind == 3) = false := by simpa using h
    simp [h, h2, List.filter]
/-- A slice of bytes. -/
def SlU (w : World) (v : Value) (l : List Int) : Prop := SlV w v l.length 1 (l.map (Value.int .u8))

set_option maxRecDepth 100000 in
set_option maxHeartbeats 8000000 in
theorem law5_calls (a : Nat) (ha : a < 256) (v1 v2 : Value) (l c : List Int) (w : World) (h1 : SlU w v1 l) (hl : ∀ x ∈ l, 0 ≤ x ∧ x < 256) (h2 : SlI w v2 c) :
    Calls Try.prog 5 #[.int .u8 a, v1, v2] w fun e w' => e = .returned (.bool true) ∧ Below w.heap.size w w' := by
  obtain ⟨a1, c1, rfl⟩ := SlV.form h1
  obtain ⟨a2, c2, rfl⟩ := SlI.form h2
  have H1 := Lib.hid h1
  have HL := Lib.hid hl
  have H2 := Lib.hid h2
  obtain ⟨n, hn, n1, n6⟩ : ∃ n : Nat, (1 + (a : Int) % 6) = n ∧ 1 ≤ n ∧ n ≤ 6 := ⟨1 + a % 6, by omega, by omega, by omega⟩
  have hnew := new_calls n w
  have e : newS n = (⟨List.replicate n wkN, []⟩, 0) := by unfold newS; rw [if_neg (by omega), Int.toNat_natCast]
  rw [e] at hnew
  have hw0 := RInv.start n1 (by omega : n ≤ 64)
  generalize (⟨List.replicate n wkN, []⟩ : St) = s0 at hnew hw0
  clear h1 h2 hl e
  have W0 := Lib.hid hw0
  clear hw0
  by_cases hbad : 30 < l.length ∨ c.length = 0
  · have HBAD := Lib.hid hbad
    clear hbad
    by_cases h30 : 30 < l.length
    case' pos => have g1 : (30 : Int) < (l.length : Int) := by omega
    case' neg =>
      have g1 : ¬ (30 : Int) < (l.length : Int) := by omega
      have g2 : c.length = 0 := by have := HBAD.out; omega
      rw [g2]
      clear g2
    all_goals (
      clear h30
      go_enter Try.func5, Try.ntmps5
      go_wp2_with fail
      refine hnew.mono ?_
      rintro e w1 ⟨va, vb, q, rfl, hst, hb1⟩
      obtain ⟨wa, wc, rfl⟩ := hst.st.ws.form
      obtain ⟨ia, ic, rfl⟩ := hst.inj.1.form
      have hb2 := hb1.alloc hb1.size (.cells #[.slice wa s0.ws.length wc, .slice ia s0.inj.length ic] 26)
      have HB := Lib.hid hb2
      clear hst hb1 hb2 hnew
      go_wp2_with fail
      refine (awake_calls _).mono ?_
      rintro e w2 ⟨rfl, hb3⟩
      replace HB := Lib.hid (HB.out.then hb3)
      clear hb3
      go_wp2_with fail
      go_ret
      exact ⟨rfl, HB.out⟩)
  have g1 : ¬ (30 : Int) < (l.length : Int) := by omega
  have g2 : ((c.length : Int) == 0) = false := by simpa using (by omega : ¬ (c.length : Int) = 0)
  have hT : l.length ≤ 30 := by omega
  have hC : 0 < c.length := by omega
  have HT := Lib.hid hT
  have HC := Lib.hid hC
  clear hbad hT hC
  go_enter Try.func5, Try.ntmps5
  go_wp2_with fail
  refine hnew.mono ?_
  rintro e w1 ⟨va, vb, q, rfl, hst, hb1⟩
  obtain ⟨wa, wc, hwf⟩ := hst.st.ws.form
  rw [W0.out.len] at hwf
  subst hwf
  obtain ⟨ia, ic, rfl⟩ := hst.inj.1.form
  have V0 := Lib.hid (VarS.new hst W0.out.ok hb1)
  clear hst hb1 hnew
  go_wp2_with fail
  clear g1 g2
  go_loopw [48] (fun i wr => ∃ (k : Nat) (s' : St) (va vb : Value) (q' : List Value), k ≤ l.length ∧ i = .int .i64 (k : Int) ∧ VarS w w1.heap.size va vb q' s' wr ∧ RInv k n s') (fun i _ => l.length - (intOf i).toNat)
  case atStart => exact ⟨0, s0, _, _, q, Nat.zero_le _, rfl, V0.out, W0.out⟩
  case round =>
    obtain ⟨k, s, va, vb, q', hk, rfl, hV, hR⟩ := hrel
    obtain ⟨wa', wc', hwf⟩ := hV.st.st.ws.form
    rw [hR.len] at hwf
    subst hwf
    obtain ⟨ia', ic', rfl⟩ := hV.st.inj.1.form
    obtain ⟨x0, x1, -⟩ := hV.facts
    by_cases hlt : k < l.length
    · have hT := HT.out
      have g5 : (k : Int) < (l.length : Int) := by omega
      have g6 : (0 : Int) ≤ (k : Int) := by omega
      rcases H1.out.2 with ⟨h0, _⟩ | ⟨h0, sb, so, sc, hse, hcell⟩
      · omega
      cases hse
      have hxm : l[k] ∈ l := List.getElem_mem hlt
      obtain ⟨t, hxn⟩ : ∃ t : Nat, l[k] = (t : Int) := ⟨l[k].toNat, by have := HL.out _ hxm; omega⟩
      have ht256 : t < 256 := by have := HL.out _ hxm; omega
      have hc := hV.bel.at_cell (hcell k (.int .u8 (t : Int)) (by simp [hlt, hxn]))
      obtain ⟨x, hx, hxlt⟩ : ∃ x : Nat, (t : Int) % n = (x : Int) ∧ x < n := ⟨t % n, by omega, Nat.mod_lt _ (by omega)⟩
      obtain ⟨e1, hR2⟩ := hR.submit (by omega)
      have hcall := submit_calls _ _ q' s _ hV.st.st (ok_small hV.ok) (k : Int)
      rw [e1] at hcall
      generalize (submitS s (k : Int)).1 = s2 at hcall hR2
      generalize (submitS s (k : Int)).2.1 = r2 at hcall
      have HV := Lib.hid hV
      have HR := Lib.hid hR
      have HR2 := Lib.hid hR2
      clear hV e1 hR hR2 hcell hxm hxn h0 hT
      have gn : (n : Int) ≠ 0 := by omega
      go_wp2_with fail
      refine hcall.mono ?_
      rintro e w5 ⟨va, vb, q2, rfl, hst, hb5⟩
      obtain ⟨wa2, wc2, hwf2⟩ := hst.st.ws.form
      rw [HR2.out.len] at hwf2
      subst hwf2
      obtain ⟨ia2, ic2, rfl⟩ := hst.inj.1.form
      have hV5 := HV.out.then hb5
      have P2 := Lib.hid (VarS.new hst HR2.out.ok hV5.bel)
      have nX : ¬ w5.heap.size = w1.heap.size := by have := (Array.getElem?_eq_some_iff.1 hV5.at_).1; omega
      have nX2 : ¬ w1.heap.size = w5.heap.size := fun e => nX e.symm
      have V5 := Lib.hid (hV5.then ((Below.refl w5.heap.size w5).alloc (Nat.le_refl _) (.cells #[.slice wa2 n wc2, .slice ia2 s2.inj.length ic2] 26)))
      clear hst hb5 hcall x0 x1 HV hc hV5
      have gn : (n : Int) ≠ 0 := by omega
      by_cases h3 : (t : Int) % 3 = 0
      · have h3' : ((t : Int) % 3 == 0) = true := by simpa using h3
        by_cases hk0 : k = 0
        · skip
          have gk1 : ¬ (0 : Int) < (k : Int) := by omega
          clear h3 hk0
          go_upto_if 71 with (fail)
          rw [show decide (0 < k) = false by simp; omega]
          clear gk1
          clear h3'
          generalize w5.alloc (.cells #[.slice wa2 n wc2, .slice ia2 s2.inj.length ic2] 26) = wz at P2 V5 ⊢
          generalize w5.heap.size = P12 at P2 nX nX2 ⊢
          obtain ⟨p0, p1, -⟩ := P2.out.facts
          obtain ⟨x0, x1, xf⟩ := V5.out.facts
          have HZ := Lib.hid (V5.out.put (Below.refl _ _) P2.out.st HR2.out.ok)
          clear V5
          go_upto_region 21 with (fail)
          generalize (wz.setCell ⟨w1.heap.size, 0, none⟩ (.slice wa2 n wc2)).setCell ⟨w1.heap.size, 1, none⟩ (.slice ia2 s2.inj.length ic2) = wy at HZ ⊢
          clear p0 p1 x0 x1 xf P2
          obtain ⟨x0, x1, xf⟩ := HZ.out.facts
          have hcall := fun (wq : World) (hq : Below wy.heap.size wy wq) => step_calls _ _ q2 s2 wq ((HZ.out.then hq).st.st) (ok_small HZ.out.ok) (x : Int) (t : Int)
          rw [HR2.out.stepR hxlt] at hcall
          have HR3 := Lib.hid (HR2.out.step hxlt (t : Int))
          generalize (stepS s2 x (t : Int)).1 = s3 at hcall HR3
          generalize (stepS s2 x (t : Int)).2 = e3 at hcall
          have hxt : Int.tmod (t : Int) (n : Int) = (x : Int) := by rw [Int.tmod_eq_emod_of_nonneg (by omega)]; exact hx
          have hnz : ¬ n = 0 := by omega
          have gtw : IntKind.i64.wrap (t : Int) = (t : Int) := IntWalk.i64_in _ (by omega)
          have gxw : IntKind.i64.wrap (x : Int) = (x : Int) := IntWalk.i64_in _ (by omega)
          have hyd : Below wy.heap.size wy wy.drew := (Below.refl _ _).drew
          go_region_law (first
            | (go_simp; go_wp2_with ((go_at_call 13; refine (hcall _ hyd).mono ?_; rintro e wp ⟨va3, vb3, q3, rfl, hst3, hb3⟩; have hf3 := hst3.st.ws.form; obtain ⟨wa3, wc3, hwf3⟩ := hf3; rw [HR3.out.len] at hwf3; subst hwf3; have hi3 := hst3.inj.1.form; obtain ⟨ia3, ic3, rfl⟩ := hi3; have hyp := hyd.then hb3; have HV3 := Lib.hid ((HZ.out.then hyp).put (Below.refl _ _) hst3 HR3.out.ok); have z' := (HZ.out.then hyp).facts; obtain ⟨z0, z1, zf⟩ := z'; clear hst3 hb3 hyp; unfold evV))))
          clear hcall x0 x1 xf hyd hxt hnz gtw gxw
          go_wp2_with fail
          go_roundw
          case rel => exact ⟨k + 1, s3, _, _, q3, by omega, by go_num, by first | exact HV3.out | exact HV3.out.then ((Below.refl _ _).drew), HR3.out⟩
          case measure => simp [intOf]; omega
        · skip
          have gk1 : (0 : Int) < (k : Int) := by omega
          clear h3
          go_upto_if 71 with (fail)
          rw [show decide (0 < k) = true by simp; omega]
          clear gk1 hk0
          clear h3'
          generalize w5.alloc (.cells #[.slice wa2 n wc2, .slice ia2 s2.inj.length ic2] 26) = wz at P2 V5 ⊢
          generalize w5.heap.size = P12 at P2 nX nX2 ⊢
          go_wp2_with fail
          go_loopw [14, 73] (fun t14 i wr => ∃ j : Nat, j ≤ n ∧ i = .int .i64 (j : Int) ∧ t14 = .int .i64 0 ∧ VarS w w1.heap.size (.slice wa' n wc') (.slice ia' s.inj.length ic') q' s wr ∧ VarS w P12 (.slice wa2 n wc2) (.slice ia2 s2.inj.length ic2) q2 s2 wr) (fun _ i _ => n - (intOf i).toNat)
          case atStart => exact ⟨0, by omega, rfl, rfl, V5.out, P2.out⟩
          case round =>
            obtain ⟨j, hj, rfl, rfl, hV5, hP2⟩ := hrel
            clear P2 V5
            by_cases hjl : j < n
            · have hjs : j < s.ws.length := by rw [HR.out.len]; exact hjl
              have gj : (j : Int) < (n : Int) := by omega
              have gj0 : (0 : Int) ≤ (j : Int) := by omega
              obtain ⟨x0, x1, -⟩ := hV5.facts
              obtain ⟨hnil, -⟩ | ⟨-, b, o, cp0, hwv, hcell⟩ := hV5.st.st.ws.cases
              · rw [hnil] at hjs; simp at hjs
              simp only [Value.slice.injEq] at hwv
              obtain ⟨rfl, -, -⟩ := hwv
              obtain ⟨-, c1j, -, -⟩ := hcell j hjs
              by_cases hp3 : (s.ws.getD j wk0).ph = 3
              · obtain ⟨e1, hR4⟩ := HR.out.push (by have := HT.out; omega) hjl hp3
                have hcall := push_calls _ _ q' s _ hV5.st.st (ok_small hV5.ok) (j : Int) (k : Int)
                rw [e1] at hcall
                rw [hp3] at c1j
                have HP2 := Lib.hid hP2
                have HV5 := Lib.hid hV5
                have HR4 := Lib.hid hR4
                generalize (pushS s (j : Int) (k : Int)).1 = s4 at hcall HR4
                generalize (pushS s (j : Int) (k : Int)).2.1 = r4 at hcall
                clear hcell hV5 hP2 e1 hR4 HR2
                go_wp2_with fail
                refine hcall.mono ?_
                rintro e w6 ⟨va, vb, q4, rfl, hst, hb6⟩
                obtain ⟨wa4, wc4, hwf4⟩ := hst.st.ws.form
                rw [HR4.out.len] at hwf4
                subst hwf4
                obtain ⟨ia4, ic4, rfl⟩ := hst.inj.1.form
                obtain ⟨p0, p1, pf⟩ := (HP2.out.then hb6).facts
                have P2 := Lib.hid (HP2.out.put hb6 hst HR4.out.ok)
                have V5 := Lib.hid ((HV5.out.then hb6).far2 (HP2.out.then hb6).at_ HP2.out.hX nX2 (.slice wa4 n wc4) (.slice ia4 s4.inj.length ic4))
                have HR2 := HR4
                clear hst hb6 hcall x0 x1 c1j HP2 HV5 HR4
                go_upto_region 18 with (fail)
                generalize (w6.setCell ⟨P12, 0, none⟩ (.slice wa4 n wc4)).setCell ⟨P12, 1, none⟩ (.slice ia4 s4.inj.length ic4) = wz at P2 V5 ⊢
                obtain ⟨p0, p1, -⟩ := P2.out.facts
                obtain ⟨x0, x1, xf⟩ := V5.out.facts
                have HZ := Lib.hid (V5.out.put (Below.refl _ _) P2.out.st HR2.out.ok)
                clear V5
                go_upto_region 21 with (fail)
                generalize (wz.setCell ⟨w1.heap.size, 0, none⟩ (.slice wa4 n wc4)).setCell ⟨w1.heap.size, 1, none⟩ (.slice ia4 s4.inj.length ic4) = wy at HZ ⊢
                clear p0 p1 x0 x1 xf P2
                obtain ⟨x0, x1, xf⟩ := HZ.out.facts
                have hcall := fun (wq : World) (hq : Below wy.heap.size wy wq) => step_calls _ _ q4 s4 wq ((HZ.out.then hq).st.st) (ok_small HZ.out.ok) (x : Int) (t : Int)
                rw [HR2.out.stepR hxlt] at hcall
                have HR3 := Lib.hid (HR2.out.step hxlt (t : Int))
                generalize (stepS s4 x (t : Int)).1 = s3 at hcall HR3
                generalize (stepS s4 x (t : Int)).2 = e3 at hcall
                have hxt : Int.tmod (t : Int) (n : Int) = (x : Int) := by rw [Int.tmod_eq_emod_of_nonneg (by omega)]; exact hx
                have hnz : ¬ n = 0 := by omega
                have gtw : IntKind.i64.wrap (t : Int) = (t : Int) := IntWalk.i64_in _ (by omega)
                have gxw : IntKind.i64.wrap (x : Int) = (x : Int) := IntWalk.i64_in _ (by omega)
                have hyd : Below wy.heap.size wy wy.drew := (Below.refl _ _).drew
                go_region_law (first
                  | (go_simp; go_wp2_with ((go_at_call 13; refine (hcall _ hyd).mono ?_; rintro e wp ⟨va3, vb3, q3, rfl, hst3, hb3⟩; have hf3 := hst3.st.ws.form; obtain ⟨wa3, wc3, hwf3⟩ := hf3; rw [HR3.out.len] at hwf3; subst hwf3; have hi3 := hst3.inj.1.form; obtain ⟨ia3, ic3, rfl⟩ := hi3; have hyp := hyd.then hb3; have HV3 := Lib.hid ((HZ.out.then hyp).put (Below.refl _ _) hst3 HR3.out.ok); have z' := (HZ.out.then hyp).facts; obtain ⟨z0, z1, zf⟩ := z'; clear hst3 hb3 hyp; unfold evV))))
                clear hcall x0 x1 xf hyd hxt hnz gtw gxw
                go_wp2_with fail
                go_roundw
                case rel => exact ⟨k + 1, s3, _, _, q3, by omega, by go_num, by first | exact HV3.out | exact HV3.out.then ((Below.refl _ _).drew), HR3.out⟩
                case measure => simp [intOf]; omega
              · have hp4 : ((s.ws.getD j wk0).ph == 3) = false := by simpa using hp3
                have HP2 := Lib.hid hP2
                have HV5 := Lib.hid hV5
                generalize (s.ws.getD j wk0).ph = pj at *
                clear hcell hV5 hP2
                go_wp2_with fail
                go_roundw
                case rel => exact ⟨j + 1, by omega, by go_num, rfl, HV5.out, HP2.out⟩
                case measure => simp [intOf]; omega
            · have gj : ¬ (j : Int) < (n : Int) := by omega
              have P2 := Lib.hid hP2
              have V5 := Lib.hid hV5
              clear hV5 hP2
              go_upto_region 18 with (fail)
              clear wz
              obtain ⟨wz, rfl⟩ : ∃ wo : World, wo = wr := ⟨_, rfl⟩
              obtain ⟨p0, p1, -⟩ := P2.out.facts
              obtain ⟨x0, x1, xf⟩ := V5.out.facts
              have HZ := Lib.hid (V5.out.put (Below.refl _ _) P2.out.st HR2.out.ok)
              clear V5
              go_upto_region 21 with (fail)
              generalize (wz.setCell ⟨w1.heap.size, 0, none⟩ (.slice wa2 n wc2)).setCell ⟨w1.heap.size, 1, none⟩ (.slice ia2 s2.inj.length ic2) = wy at HZ ⊢
              clear p0 p1 x0 x1 xf P2
              obtain ⟨x0, x1, xf⟩ := HZ.out.facts
              have hcall := fun (wq : World) (hq : Below wy.heap.size wy wq) => step_calls _ _ q2 s2 wq ((HZ.out.then hq).st.st) (ok_small HZ.out.ok) (x : Int) (t : Int)
              rw [HR2.out.stepR hxlt] at hcall
              have HR3 := Lib.hid (HR2.out.step hxlt (t : Int))
              generalize (stepS s2 x (t : Int)).1 = s3 at hcall HR3
              generalize (stepS s2 x (t : Int)).2 = e3 at hcall
              have hxt : Int.tmod (t : Int) (n : Int) = (x : Int) := by rw [Int.tmod_eq_emod_of_nonneg (by omega)]; exact hx
              have hnz : ¬ n = 0 := by omega
              have gtw : IntKind.i64.wrap (t : Int) = (t : Int) := IntWalk.i64_in _ (by omega)
              have gxw : IntKind.i64.wrap (x : Int) = (x : Int) := IntWalk.i64_in _ (by omega)
              have hyd : Below wy.heap.size wy wy.drew := (Below.refl _ _).drew
              go_region_law (first
                | (go_simp; go_wp2_with ((go_at_call 13; refine (hcall _ hyd).mono ?_; rintro e wp ⟨va3, vb3, q3, rfl, hst3, hb3⟩; have hf3 := hst3.st.ws.form; obtain ⟨wa3, wc3, hwf3⟩ := hf3; rw [HR3.out.len] at hwf3; subst hwf3; have hi3 := hst3.inj.1.form; obtain ⟨ia3, ic3, rfl⟩ := hi3; have hyp := hyd.then hb3; have HV3 := Lib.hid ((HZ.out.then hyp).put (Below.refl _ _) hst3 HR3.out.ok); have z' := (HZ.out.then hyp).facts; obtain ⟨z0, z1, zf⟩ := z'; clear hst3 hb3 hyp; unfold evV))))
              clear hcall x0 x1 xf hyd hxt hnz gtw gxw
              go_wp2_with fail
              go_roundw
              case rel => exact ⟨k + 1, s3, _, _, q3, by omega, by go_num, by first | exact HV3.out | exact HV3.out.then ((Below.refl _ _).drew), HR3.out⟩
              case measure => simp [intOf]; omega
      · skip
        have h3' : ((t : Int) % 3 == 0) = false := by simpa using h3
        clear h3
        go_upto_if 71 with (fail)
        clear h3'
        generalize w5.alloc (.cells #[.slice wa2 n wc2, .slice ia2 s2.inj.length ic2] 26) = wz at P2 V5 ⊢
        generalize w5.heap.size = P12 at P2 nX nX2 ⊢
        obtain ⟨p0, p1, -⟩ := P2.out.facts
        obtain ⟨x0, x1, xf⟩ := V5.out.facts
        have HZ := Lib.hid (V5.out.put (Below.refl _ _) P2.out.st HR2.out.ok)
        clear V5
        go_upto_region 21 with (fail)
        generalize (wz.setCell ⟨w1.heap.size, 0, none⟩ (.slice wa2 n wc2)).setCell ⟨w1.heap.size, 1, none⟩ (.slice ia2 s2.inj.length ic2) = wy at HZ ⊢
        clear p0 p1 x0 x1 xf P2
        obtain ⟨x0, x1, xf⟩ := HZ.out.facts
        have hcall := fun (wq : World) (hq : Below wy.heap.size wy wq) => step_calls _ _ q2 s2 wq ((HZ.out.then hq).st.st) (ok_small HZ.out.ok) (x : Int) (t : Int)
        rw [HR2.out.stepR hxlt] at hcall
        have HR3 := Lib.hid (HR2.out.step hxlt (t : Int))
        generalize (stepS s2 x (t : Int)).1 = s3 at hcall HR3
        generalize (stepS s2 x (t : Int)).2 = e3 at hcall
        have hxt : Int.tmod (t : Int) (n : Int) = (x : Int) := by rw [Int.tmod_eq_emod_of_nonneg (by omega)]; exact hx
        have hnz : ¬ n = 0 := by omega
        have gtw : IntKind.i64.wrap (t : Int) = (t : Int) := IntWalk.i64_in _ (by omega)
        have gxw : IntKind.i64.wrap (x : Int) = (x : Int) := IntWalk.i64_in _ (by omega)
        have hyd : Below wy.heap.size wy wy.drew := (Below.refl _ _).drew
        go_region_law (first
          | (go_simp; go_wp2_with ((go_at_call 13; refine (hcall _ hyd).mono ?_; rintro e wp ⟨va3, vb3, q3, rfl, hst3, hb3⟩; have hf3 := hst3.st.ws.form; obtain ⟨wa3, wc3, hwf3⟩ := hf3; rw [HR3.out.len] at hwf3; subst hwf3; have hi3 := hst3.inj.1.form; obtain ⟨ia3, ic3, rfl⟩ := hi3; have hyp := hyd.then hb3; have HV3 := Lib.hid ((HZ.out.then hyp).put (Below.refl _ _) hst3 HR3.out.ok); have z' := (HZ.out.then hyp).facts; obtain ⟨z0, z1, zf⟩ := z'; clear hst3 hb3 hyp; unfold evV))))
        clear hcall x0 x1 xf hyd hxt hnz gtw gxw
        go_wp2_with fail
        go_roundw
        case rel => exact ⟨k + 1, s3, _, _, q3, by omega, by go_num, by first | exact HV3.out | exact HV3.out.then ((Below.refl _ _).drew), HR3.out⟩
        case measure => simp [intOf]; omega
    · have hkl : k = l.length := by omega
      subst hkl
      have hT := HT.out
      have hc0 := HC.out
      obtain ⟨A, hA, hA2⟩ : ∃ A : Nat, ((l.length : Int) + 4) * (n : Int) = (A : Int) ∧ A ≤ 204 := ⟨(l.length + 4) * n, by simp, Nat.mul_le_mul (by omega : l.length + 4 ≤ 34) n6⟩
      obtain ⟨B, hB, hB2⟩ : ∃ B : Nat, (A : Int) * ((n : Int) + 4) = (B : Int) ∧ B ≤ 2040 := ⟨A * (n + 4), by simp, Nat.mul_le_mul hA2 (by omega : n + 4 ≤ 10)⟩
      have hN : B * 2 = n * ((l.length + 4) * (n + 4) * 2) := by
        have h1 : A = (l.length + 4) * n := by exact_mod_cast hA.symm
        have h2 : B = A * (n + 4) := by exact_mod_cast hB.symm
        rw [h2, h1]
        simp only [Nat.mul_comm, Nat.mul_left_comm]
      obtain ⟨N, hNB, hN2⟩ : ∃ N : Nat, (B : Int) * 2 = (N : Int) ∧ N = B * 2 := ⟨B * 2, by simp, rfl⟩
      rw [← hN2] at hN
      have hN3 : N ≤ 4080 := by omega
      have HN := Lib.hid hN
      have g5 : ¬ (l.length : Int) < (l.length : Int) := by omega
      have RI := Lib.hid hR
      have HV := Lib.hid hV
      obtain ⟨f, hf⟩ : ∃ f : Nat → Int, f = fun i => c.getD (i % c.length) 0 := ⟨_, rfl⟩
      have HF := Lib.hid hf
      clear hN hN2 hR hV x0 x1 hlt hk hf
      go_wp2_with fail
      obtain ⟨wq, rfl⟩ : ∃ wo : World, wo = wr := ⟨_, rfl⟩
      clear hA hB hNB hA2 hB2 g5
      go_loopw [16, 119] (fun v i wx => ∃ j : Nat, j ≤ N ∧ i = .int .i64 (j : Int) ∧ wx.ownsRow wq.heap.size 62 2 v j ((scr n f j).flatMap prC) ∧ Below wq.heap.size wq wx) (fun _ i _ => N - (intOf i).toNat)
      case atStart => exact ⟨0, Nat.zero_le _, rfl, World.ownsRow_nil _ _ _ _, Below.refl _ _⟩
      case round =>
        obtain ⟨j, hj, rfl, hown, hbq⟩ := hrel
        by_cases hjl : j < N
        · have g7 : (j : Int) < (N : Int) := by omega
          have g8 : (0 : Int) ≤ (j : Int) := by omega
          rcases H2.out.cases with ⟨hcn, -⟩ | ⟨-, cb, co, cc, hcv, hcell⟩
          · rw [hcn] at hc0; simp at hc0
          simp only [Value.slice.injEq] at hcv
          obtain ⟨rfl, -, -⟩ := hcv
          have hjm : j % c.length < c.length := Nat.mod_lt _ hc0
          have hcj := (HV.out.bel.then hbq).at_cell (hcell (j % c.length) hjm)
          have hfj : c.getD (j % c.length) 0 = f j := by rw [HF.out]
          rw [hfj] at hcj
          obtain ⟨jn, hjn⟩ : ∃ x : Nat, j % n = x := ⟨_, rfl⟩
          have hsucc := scr_succ n f j
          rw [hjn] at hsucc
          have e1 : Int.tmod (j : Int) (n : Int) = (jn : Int) := by rw [Int.tmod_eq_emod_of_nonneg (by omega), ← hjn]; simp
          have e2 : Int.tmod (j : Int) (c.length : Int) = ((j % c.length : Nat) : Int) := by rw [Int.tmod_eq_emod_of_nonneg (by omega)]; simp
          generalize j % c.length = jm at *
          have HS := Lib.hid hsucc
          have HO := Lib.hid hown
          have HBQ := Lib.hid hbq
          have hnz : ¬ n = 0 := by omega
          have hmz : ¬ c.length = 0 := by omega
          have gj1 : (jm : Int) < (c.length : Int) := by omega
          have gj2 : (0 : Int) ≤ (jm : Int) := by omega
          obtain ⟨i0, hif, hz0, hz1, hz2⟩ := info_parts info62
          have HIF := Lib.hid hif
          have HZ0 := Lib.hid hz0
          have HZ1 := Lib.hid hz1
          have HZ2 := Lib.hid hz2
          have hza : Below wr.heap.size wr (wr.alloc (.cells #[.int .i64 jn, .int .i64 (f j)] 62)).drew := ((Below.refl _ _).alloc (Nat.le_refl _) _).drew
          have hza0 : Below wr.heap.size wr (wr.alloc (.cells #[.int .i64 jn, .int .i64 (f j)] 62)) := ((Below.refl _ _).alloc (Nat.le_refl _) _)
          have ha := hza.at_cell hcj
          have ha0 := hza0.at_cell hcj
          have HCL := Lib.hid (cell_two_at wr (.int .i64 jn) (.int .i64 (f j)) 62)
          have HOA := Lib.hid (own_below hown hza)
          have HBA := Lib.hid (hbq.trans (hza.mono hbq.size))
          have HHC := Lib.hid (fun (wy : World) (hb : Below wq.heap.size wq wy) => (HV.out.bel.then hb).at_cell (hcell jm hjm))
          rw [hfj] at HHC
          clear hif hz0 hz1 hz2 hown hbq hza hza0 hcell hjm hfj hjn hsucc
          go_upto_region 29 with (fail)
          go_region_held3 (fun w' => w'.cell? ⟨cb, co + jm, none⟩ = some (.int .i64 (f j))) (go_keep)
            ((refine step_append_at rfl (.tmp 122) (.tmp 134) 61 rfl wq.heap.size 62 i0 _ 2 16 Try.underlying61 HIF.out HZ0.out HZ1.out HZ2.out rfl (by decide) _ j _ rfl HOA.out ⟨wr.heap.size, 0, none⟩ 1 1 [.int .i64 jn, .int .i64 (f j)] rfl rfl HCL.out (by intro u hu; simp at hu; rcases hu with rfl | rfl <;> rfl) (by unfold maxLen; omega) (by omega) HBA.out.size ?_; intro v6 w6 ho6 hg6 hv6; have hB6 := HBA.out.grown hg6 HBA.out.size (fun k hk => (World.ownsRow.lt HOA.out k hk).1); have hc6 := HHC.out _ hB6; have HB6 := Lib.hid hB6; have HO6 := Lib.hid ho6; clear hB6 ho6 hg6 hv6))
          go_wp2_with fail
          go_roundw
          case rel => exact ⟨j + 1, by omega, by go_num, by rw [HS.out, List.flatMap_append]; exact HO6.out, HB6.out⟩
          case measure => simp [intOf]; omega
        · have hjN : j = N := by omega
          subst hjN
          have g7 : ¬ (j : Int) < (j : Int) := by omega
          have hVq := HV.out.then hbq
          have hsl : SlP wr u16 (scr n f j) := by
            unfold SlP
            rw [scr_len]
            exact SlV.of_owns hown
          have hplay := play_calls _ _ u16 q' s (scr n f j) wr hVq.st.st hVq.ok hsl (by rw [scr_len]; omega)
          have hrest := RI.out.rests f
          rw [← HN.out] at hrest
          obtain ⟨hpo, hpl⟩ := play_ok (scr n f j) s RI.out.ok
          have hend := play_ends (scr n f j) s RI.out.ok
          have hfw := RI.out.few
          have hpf := play_few (scr n f j) s
          rw [scr_len] at hpf
          rw [RI.out.len] at hpl
          generalize playS s (scr n f j) = R at *
          obtain ⟨s2, L⟩ := R
          simp only at hrest hpo hpl hend hpf hplay
          have hcnt : (L.filter fun e => e.kind == 3).length ≤ l.length := by omega
          have HVQ := Lib.hid hVq
          have HRE := Lib.hid hrest
          have HPO := Lib.hid hpo
          have HCN := Lib.hid hcnt
          have HPL := Lib.hid hpl
          obtain ⟨x0, x1, -⟩ := hVq.facts
          clear hVq hsl hrest hpo hend hcnt hown hbq hpl hfw
          go_wp2_with fail
          refine hplay.mono ?_
          rintro e w5 ⟨va, vb, q5, ev, rfl, hst, hev, hb5⟩
          obtain ⟨wa5, wc5, hwf5⟩ := hst.st.ws.form
          rw [HPL.out] at hwf5
          subst hwf5
          obtain ⟨ia5, ic5, rfl⟩ := hst.inj.1.form
          obtain ⟨ea, ec, rfl⟩ := (SlV.of_owns hev).form
          have hX5 := (HVQ.out.then hb5).at_
          have z1 := heap_setCell_same w5 w1.heap.size 0 _ 26 (.slice wa5 n wc5) hX5
          have e1 := ownsRow_setCell_other hev (owns_apart hev hX5 (by decide)) (a := ⟨w1.heap.size, 0, none⟩) (.slice wa5 n wc5)
          have e2 := ownsRow_setCell_other e1 (owns_apart e1 z1 (by decide)) (a := ⟨w1.heap.size, 1, none⟩) (.slice ia5 s2.inj.length ic5)
          have HE : Hid (SlE ((w5.setCell ⟨w1.heap.size, 0, none⟩ (.slice wa5 n wc5)).setCell ⟨w1.heap.size, 1, none⟩ (.slice ia5 s2.inj.length ic5)) (.slice ea L.length ec) L) := Lib.hid (SlV.of_owns e2)
          have HV5 := Lib.hid (HVQ.out.put hb5 hst HPO.out)
          obtain ⟨y0, y1, yf⟩ := (HVQ.out.then hb5).facts
          clear hplay hst hev hb5 hX5 z1 e1 e2 x0 x1 HVQ HV
          go_wp2_with fail
          clear y0 y1 yf
          go_loopw [18, 21, 146] (fun cn _ i wx => ∃ j : Nat, j ≤ L.length ∧ i = .int .i64 (j : Int) ∧ cn = .int .i64 (cntN L j : Int) ∧ VarS w w1.heap.size (.slice wa5 n wc5) (.slice ia5 s2.inj.length ic5) q5 s2 wx ∧ SlE wx (.slice ea L.length ec) L) (fun _ _ i _ => L.length - (intOf i).toNat)
          case atStart => exact ⟨0, Nat.zero_le _, rfl, rfl, HV5.out, HE.out⟩
          case round =>
            obtain ⟨m, hm, rfl, rfl, hVm, hEm⟩ := hrel
            clear HV5 HE
            have hcm := cntN_le L m
            by_cases hml : m < L.length
            · have g8 : (m : Int) < (L.length : Int) := by omega
              have g9 : (0 : Int) ≤ (m : Int) := by omega
              obtain ⟨b, o, c3, hv3, hce⟩ := hEm.at (by omega)
              simp only [Value.slice.injEq] at hv3
              obtain ⟨rfl, -, -⟩ := hv3
              obtain ⟨f0, f1, f2, f3⟩ := hce m hml
              have CS := Lib.hid (cntN_succ L m hml)
              generalize L.getD m ev0 = e0 at *
              obtain ⟨ek, ew, et, es⟩ := e0
              have hba := (Below.refl wr.heap.size wr).alloc (Nat.le_refl _) (.cells #[.int .i64 ek, .int .i64 ew, .int .i64 et, .int .i64 es] 38)
              have HVm := Lib.hid (hVm.then hba)
              have HEm := Lib.hid (hEm.below hba)
              generalize cntN L m = cm at *
              clear hVm hEm hce hba
              by_cases hk3 : ek = 3
              · subst hk3
                go_wp2_with fail
                go_roundw
                case rel => exact ⟨m + 1, by omega, by go_num, by rw [CS.out]; rfl, HVm.out, HEm.out⟩
                case measure => simp [intOf]; omega
              · have hk4 : (ek == 3) = false := by simpa using hk3
                go_wp2_with fail
                go_roundw
                case rel => exact ⟨m + 1, by omega, by go_num, by rw [CS.out, if_neg hk3]; rfl, HVm.out, HEm.out⟩
                case measure => simp [intOf]; omega
            · have hmL : m = L.length := by omega
              subst hmL
              have hca := cntN_all L
              have hcb := HCN.out
              rw [← hca] at hcb
              have g8 : (cntN L L.length : Int) ≤ (l.length : Int) := by omega
              generalize cntN L L.length = cm at *
              have hres := resting_calls (.slice wa5 n wc5) (.slice ia5 s2.inj.length ic5) q5 s2 wr hVm.st.st (ok_small HPO.out)
              rw [(valid_iff _).2 HPO.out, HRE.out] at hres
              simp only [if_true, Bool.and_self] at hres
              obtain ⟨x0, x1, -⟩ := hVm.facts
              have HVm := Lib.hid hVm
              clear hVm hEm hca hcb
              go_wp2_with fail
              refine hres.mono ?_
              rintro e w6 ⟨rfl, hb6⟩
              have HB := Lib.hid (HVm.out.bel.then hb6)
              clear hb6 hres x0 x1 HVm
              go_wp2_with fail
              refine (awake_calls _).mono ?_
              rintro e w7 ⟨rfl, hb7⟩
              replace HB := Lib.hid (HB.out.then hb7)
              clear hb7
              go_wp2_with fail
              go_ret
              exact ⟨rfl, HB.out⟩
end Go.Proofs.Ytjnlfibcpkobaaa
