/- The law SchedulePlays: its walk. -/
import Derived.Test.YtjnlfibcpkobaaaPy
import Derived.Test.YtjnlfibcpkobaaaPc
import Derived.Test.YtjnlfibcpkobaaaAw
import Derived.Deep.RegionHeld3
import Derived.Deep.CutRange
import Derived.Test.YtjnlfibcpkobaaaAp
namespace Go.Proofs.Ytjnlfibcpkobaaa
open Go.RowKit Go.Sl Go.Sched

/-- The state variable of a law: a block with a state. -/
structure VarS (w0 : World) (X : Nat) (a b : Value) (q : List Value) (s : St) (w : World) : Prop where
  st : StT (fun _ => True) w a b q s
  ok : Ok s
  at_ : w.heap[X]? = some (.cells #[a, b] 26 (0, 0))
  bel : Below w0.heap.size w0 w
  hX : w0.heap.size ≤ X
theorem VarS.then {w0 w w' : World} {X : Nat} {a b : Value} {q : List Value} {s : St} (h : VarS w0 X a b q s w) (hb : Below w.heap.size w w') : VarS w0 X a b q s w' :=
  ⟨h.st.below hb, h.ok, by rw [hb.block _ (Array.getElem?_eq_some_iff.1 h.at_).1]; exact h.at_, h.bel.then hb, h.hX⟩
theorem VarS.new {A : Nat → Prop} {w0 w : World} {a b : Value} {q : List Value} {s : St} (h : StT A w a b q s) (hok : Ok s) (hb : Below w0.heap.size w0 w) : VarS w0 w.heap.size a b q s (w.alloc (.cells #[a, b] 26)) :=
  ⟨(h.below ((Below.refl _ _).alloc (Nat.le_refl _) _)).imp fun _ _ _ => trivial, hok, heap_alloc_new _ _, hb.alloc hb.size _, hb.size⟩

/-- Another state is put in. -/
theorem VarS.put {A : Nat → Prop} {w0 w w' : World} {X : Nat} {a b a2 b2 : Value} {q q2 : List Value} {s s2 : St} (h : VarS w0 X a b q s w) (hb : Below w.heap.size w w') (h2 : StT A w' a2 b2 q2 s2) (hok : Ok s2) :
    VarS w0 X a2 b2 q2 s2 ((w'.setCell ⟨X, 0, none⟩ a2).setCell ⟨X, 1, none⟩ b2) := by
  have h3 := h.then hb
  obtain ⟨p1, p2⟩ := stT_put h2 h3.at_
  exact ⟨p1.imp fun _ _ _ => trivial, hok, p2, (h3.bel.setCell (p := ⟨X, 0, none⟩) h.hX _).setCell (p := ⟨X, 1, none⟩) h.hX _, h.hX⟩
theorem VarS.facts {w0 w : World} {X : Nat} {a b : Value} {q : List Value} {s : St} (h : VarS w0 X a b q s w) : w.cell? ⟨X, 0, none⟩ = some a ∧ w.cell? ⟨X, 1, none⟩ = some b ∧ ∀ j, w.frozen? ⟨X, j, none⟩ = false := facts26 h.at_

theorem grown26 {w w' : World} {B sz n : Nat} {v : Value} {xs : List Value} {P : Nat} (hg : w.grownBy w' v.ownBlock) (ho : w.ownsRow B 62 sz v n xs) (h : w.heap[P]? = some z26) :
    w'.heap[P]? = some z26 ∧ w'.cell? ⟨P, 0, none⟩ = some (.slice none 0 0) ∧ w'.cell? ⟨P, 1, none⟩ = some (.slice none 0 0) ∧ ∀ j, w'.frozen? ⟨P, j, none⟩ = false := by
  have h2 : w'.heap[P]? = some z26 := (hg.block _ (Array.getElem?_eq_some_iff.1 h).1 (fun e => owns_apart ho h (by decide) e.symm)).trans h
  exact ⟨h2, facts26 h2⟩
/-- Behind Play of both scripts. -/
def R17 (w wz : World) (R : St × List Ev) (t19 t20 t21 : Value) (wx : World) : Prop :=
  ∃ X3 a b q ev, t19 = .pointer (some ⟨X3, 0, none⟩) ∧ t20 = ev ∧ t21 = .int .i64 0 ∧ VarS w X3 a b q R.1 wx ∧ SlE wx ev R.2 ∧ Below wz.heap.size wz wx
theorem R17.alloc {A : Nat → Prop} {w wz wp : World} {R : St × List Ev} {a b ev : Value} {q : List Value} (h : StT A wp a b q R.1) (hok : Ok R.1) (hb : Below w.heap.size w wz) (hz : Below wz.heap.size wz wp) (he : SlE wp ev R.2) :
    R17 w wz R (.pointer (some ⟨wp.heap.size, 0, none⟩)) ev (.int .i64 0) (wp.alloc (.cells #[a, b] 26)) :=
  ⟨wp.heap.size, a, b, q, ev, rfl, rfl, rfl, VarS.new h hok (hb.then hz), he.below ((Below.refl _ _).alloc (Nat.le_refl _) _), hz.alloc hz.size _⟩
theorem R17.put {A : Nat → Prop} {w wz wp : World} {R : St × List Ev} {a b ev x y : Value} {q : List Value} {P B : Nat} (h : StT A wp a b q R.1) (hok : Ok R.1) (hb : Below w.heap.size w wz) (hz : Below wz.heap.size wz wp) (he : wp.ownsRow B 38 4 ev R.2.length (R.2.flatMap evC)) (hP : wp.heap[P]? = some (.cells #[x, y] 26 (0, 0))) (hzP : wz.heap.size ≤ P) :
    R17 w wz R (.pointer (some ⟨P, 0, none⟩)) ev (.int .i64 0) ((wp.setCell ⟨P, 0, none⟩ a).setCell ⟨P, 1, none⟩ b) := by
  obtain ⟨p1, p2⟩ := stT_put h hP
  have z1 := heap_setCell_same wp P 0 _ 26 a hP
  have e1 := ownsRow_setCell_other he (owns_apart he hP (by decide)) (a := ⟨P, 0, none⟩) a
  have e2 := ownsRow_setCell_other e1 (owns_apart e1 z1 (by decide)) (a := ⟨P, 1, none⟩) b
  have hz2 := (hz.setCell (p := ⟨P, 0, none⟩) hzP a).setCell (p := ⟨P, 1, none⟩) hzP b
  have hs := hb.size
  exact ⟨P, a, b, q, ev, rfl, rfl, rfl, ⟨p1.imp fun _ _ _ => trivial, hok, p2, hb.then hz2, by omega⟩, SlV.of_owns e2, hz2⟩

set_option maxRecDepth 100000 in
set_option maxHeartbeats 8000000 in
theorem law8_calls (a b : Nat) (ha : a < 256) (hb : b < 256) (v1 v2 : Value) (l1 l2 : List (Int × Int)) (w : World) (h1 : SlP w v1 l1) (h2 : SlP w v2 l2) :
    Calls Try.prog 8 #[.int .u8 a, .int .u8 b, v1, v2] w fun e w' => e = .returned (.bool true) ∧ Below w.heap.size w w' := by
  obtain ⟨a1, c1, rfl⟩ := SlV.form h1
  obtain ⟨a2, c2, rfl⟩ := SlV.form h2
  have H1 := Lib.hid h1
  have H2 := Lib.hid h2
  obtain ⟨n, hn, n1, n6⟩ : ∃ n : Nat, (1 + (a : Int) % 6) = n ∧ 1 ≤ n ∧ n ≤ 6 := ⟨1 + a % 6, by omega, by omega, by omega⟩
  obtain ⟨T, hT, t20⟩ : ∃ T : Nat, (b : Int) % 20 = T ∧ T < 20 := ⟨b % 20, by omega, by omega⟩
  have hnew := new_calls n w
  have e : newS n = (⟨List.replicate n wkN, []⟩, 0) := by unfold newS; rw [if_neg (by omega), Int.toNat_natCast]
  rw [e] at hnew
  have hok0 := new_ok n1 (by omega : n ≤ 64)
  have hl0 : (⟨List.replicate n wkN, []⟩ : St).ws.length = n := by simp
  have ht0 : tasks ⟨List.replicate n wkN, []⟩ = [] := by
    unfold tasks
    simp only [List.nil_append, List.flatMap_eq_nil_iff, List.mem_replicate]
    rintro x ⟨_, rfl⟩
    rfl
  generalize (⟨List.replicate n wkN, []⟩ : St) = s0 at hnew hok0 hl0 ht0
  clear h1 h2 e
  by_cases hl1 : 60 < l1.length ∨ 60 < l2.length
  · have HL := Lib.hid hl1
    clear hl1 hok0 hl0 ht0
    by_cases hA : 60 < l1.length
    case' pos => have g1 : (60 : Int) < (l1.length : Int) := by omega
    case' neg =>
      have g1 : ¬ (60 : Int) < (l1.length : Int) := by omega
      have g2 : (60 : Int) < (l2.length : Int) := by have := HL.out; omega
    all_goals (
      go_enter Try.func8, Try.ntmps8
      go_wp2_with fail
      refine hnew.mono ?_
      rintro e w1 ⟨va, vb, q, rfl, hst, hb1⟩
      obtain ⟨wa, wc, rfl⟩ := hst.st.ws.form
      obtain ⟨ia, ic, rfl⟩ := hst.inj.1.form
      have hb2 := hb1.alloc hb1.size (.cells #[.slice wa s0.ws.length wc, .slice ia s0.inj.length ic] 26)
      have HB := Lib.hid hb2
      clear hst hb1 hb2 hnew
      go_wp2_with fail
      refine (awake_calls _).mono ?_
      rintro e w2 ⟨rfl, hb3⟩
      replace HB := Lib.hid (HB.out.then hb3)
      clear hb3
      go_wp2_with fail
      go_ret
      exact ⟨rfl, HB.out⟩)
  have g1 : ¬ (60 : Int) < (l1.length : Int) := by omega
  have g2 : ¬ (60 : Int) < (l2.length : Int) := by omega
  have OK0 := Lib.hid hok0
  have T0 := Lib.hid ht0
  have L0 := Lib.hid hl0
  have q1 : l1.length ≤ 60 := by omega
  have q2 : l2.length ≤ 60 := by omega
  clear hok0 ht0 hl0 hl1
  go_enter Try.func8, Try.ntmps8
  go_wp2_with fail
  refine hnew.mono ?_
  rintro e w1 ⟨va, vb, q, rfl, hst, hb1⟩
  obtain ⟨wa, wc, rfl⟩ := hst.st.ws.form
  obtain ⟨ia, ic, rfl⟩ := hst.inj.1.form
  have V0 := Lib.hid (VarS.new hst OK0.out hb1)
  have Q1 := Lib.hid q1
  have Q2 := Lib.hid q2
  clear hst hb1 hnew q1 q2
  go_wp2_with fail
  rw [hT]
  clear g1 g2 hT
  go_loopw [55] (fun i wr => ∃ (k : Nat) (s' : St) (va vb : Value) (q' : List Value), k ≤ T ∧ i = .int .i64 (k : Int) ∧ VarS w w1.heap.size va vb q' s' wr ∧ s'.ws.length = n ∧ (∀ x ∈ tasks s', x < k) ∧ (tasks s').length ≤ k) (fun i _ => T - (intOf i).toNat)
  case atStart => exact ⟨0, s0, _, _, q, Nat.zero_le _, rfl, V0.out, L0.out, by rw [T0.out]; simp, by rw [T0.out]; simp⟩
  case round =>
    obtain ⟨k, s', va, vb, q', hk, rfl, hV, hln, htk, htl⟩ := hrel
    obtain ⟨wa', wc', rfl⟩ := hV.st.st.ws.form
    obtain ⟨ia', ic', rfl⟩ := hV.st.inj.1.form
    obtain ⟨x0, x1, -⟩ := hV.facts
    by_cases hlt : k < T
    · have g5 : (k : Int) < (T : Int) := by omega
      obtain ⟨e1, hok2, hp2, hl2', -, -⟩ := submit_ok hV.ok (t := (k : Int)) (by omega) (fun hm => by have := htk _ hm; omega) (by omega)
      have hcall := submit_calls _ _ q' s' _ hV.st.st (ok_small hV.ok) (k : Int)
      rw [e1] at hcall
      generalize (submitS s' (k : Int)).1 = s2 at hcall hok2 hp2 hl2'
      generalize (submitS s' (k : Int)).2.1 = r2 at hcall
      have HV := Lib.hid hV
      have HTK := Lib.hid htk
      have HTL := Lib.hid htl
      have HP2 := Lib.hid hp2
      have HL2 := Lib.hid (hl2'.trans hln)
      have HOK2 := Lib.hid hok2
      clear hV e1 htk htl hp2 hl2' hln hok2
      go_wp2_with fail
      refine hcall.mono ?_
      rintro e w5 ⟨va, vb, q2, rfl, hst, hb5⟩
      obtain ⟨wa2, wc2, rfl⟩ := hst.st.ws.form
      obtain ⟨ia2, ic2, rfl⟩ := hst.inj.1.form
      obtain ⟨y0, y1, yf⟩ := (HV.out.then hb5).facts
      have V2 := Lib.hid (HV.out.put hb5 hst HOK2.out)
      clear hst hb5 hcall x0 x1 HV
      go_wp2_with fail
      go_roundw
      case rel =>
        refine ⟨k + 1, s2, _, _, q2, by omega, by go_num, V2.out, HL2.out, fun x hx => ?_, by rw [HP2.out.length_eq]; have := HTL.out; simp; omega⟩
        rcases List.mem_cons.1 (HP2.out.mem_iff.1 hx) with rfl | hx
        · omega
        · have := HTK.out x hx; omega
      case measure => simp [intOf]; omega
    · have hkT : k = T := by omega
      subst hkT
      have HV := Lib.hid hV
      have hplay := play_calls _ _ _ q' s' l1 wr hV.st.st hV.ok (H1.out.below hV.bel) (by have := Q1.out; omega)
      obtain ⟨hpo, hpl⟩ := play_ok l1 s' hV.ok
      have hfew1 := play_few l1 s'
      have HLN := Lib.hid hln
      clear hV htk htl hlt hln
      have hrs := fun (w5 : World) (a b : Value) (q5 : List Value) (h5 : StV w5 a b q5 (playS s' l1).1) => resting_calls a b q5 (playS s' l1).1 w5 h5 (ok_small hpo)
      rw [(valid_iff _).2 hpo] at hrs
      simp only [if_true, Bool.true_and] at hrs
      have OKS := Lib.hid HV.out.ok
      have HPO := Lib.hid hpo
      have HPL := Lib.hid hpl
      have HF1 := Lib.hid hfew1
      have HPA := Lib.hid (play_append l1 l2 s')
      generalize hP1 : playS s' l1 = P1 at hplay hrs
      have HP1 := Lib.hid hP1
      have HRS := Lib.hid hrs
      clear hpo hpl hfew1 hP1 hrs
      go_wp2_with fail
      refine hplay.mono ?_
      rintro e w5 ⟨va, vb, q5, ev, rfl, hst5, hev5, hb5⟩
      obtain ⟨wa5, wc5, rfl⟩ := hst5.st.ws.form
      obtain ⟨ia5, ic5, rfl⟩ := hst5.inj.1.form
      replace hev5 : SlE w5 ev P1.2 := SlV.of_owns hev5
      obtain ⟨ea, ec, rfl⟩ := SlV.form hev5
      have hV5 := HV.out.then hb5
      have S5 := Lib.hid (VarS.new hst5 (by rw [← HP1.out]; exact HPO.out) hV5.bel)
      have hba : Below w5.heap.size w5 (w5.alloc (.cells #[.slice wa5 P1.1.ws.length wc5, .slice ia5 P1.1.inj.length ic5] 26)) := (Below.refl _ _).alloc (Nat.le_refl _) _
      have V5 := Lib.hid (hV5.then hba)
      have E5 := Lib.hid (hev5.below hba)
      clear hst5 hev5 hb5 hV5 hba hplay x0 x1 HV
      go_wp2_with fail
      refine (HRS.out _ _ _ _ S5.out.st.st).mono ?_
      rintro e w6 ⟨rfl, hb6⟩
      replace S5 := Lib.hid (S5.out.then hb6)
      replace V5 := Lib.hid (V5.out.then hb6)
      replace E5 := Lib.hid (E5.out.below hb6)
      clear hb6 HRS
      cases hr : restS P1.1 with
      | true =>
        clear hr
        go_wp2_with fail
        refine (awake_calls _).mono ?_
        rintro e w7 ⟨rfl, hb7⟩
        have HB := Lib.hid (V5.out.bel.then hb7)
        clear hb7
        go_wp2_with fail
        go_ret
        exact ⟨rfl, HB.out⟩
      | false =>
        have hplay2 := play_calls _ _ _ q5 P1.1 l2 _ S5.out.st.st S5.out.ok (H2.out.below S5.out.bel) (by have := Q2.out; omega)
        obtain ⟨hpo2, hpl2⟩ := play_ok l2 P1.1 S5.out.ok
        have hfew2 := play_few l2 P1.1
        obtain ⟨x0, x1, -⟩ := S5.out.facts
        have HR := Lib.hid hr
        have HPO2 := Lib.hid hpo2
        have HF2 := Lib.hid hfew2
        generalize hP2 : playS P1.1 l2 = P2 at hplay2
        have HP2 := Lib.hid hP2
        clear hr hpo2 hpl2 hfew2 hP2
        go_wp2_with fail
        refine hplay2.mono ?_
        rintro e w7 ⟨va, vb, q7, ev2, rfl, hst7, hev7, hb7⟩
        obtain ⟨wa7, wc7, rfl⟩ := hst7.st.ws.form
        obtain ⟨ia7, ic7, rfl⟩ := hst7.inj.1.form
        replace hev7 : SlE w7 ev2 P2.2 := SlV.of_owns hev7
        obtain ⟨ea2, ec2, rfl⟩ := SlV.form hev7
        have hV7 := V5.out.then hb7
        have hba : Below w7.heap.size w7 (w7.alloc (.cells #[.slice wa7 P2.1.ws.length wc7, .slice ia7 P2.1.inj.length ic7] 26)) := (Below.refl _ _).alloc (Nat.le_refl _) _
        have S7 := Lib.hid (VarS.new hst7 (by rw [← HP2.out]; exact HPO2.out) hV7.bel)
        have V7 := Lib.hid (hV7.then hba)
        have E7 := Lib.hid ((E5.out.below hb7).below hba)
        have F7 := Lib.hid (hev7.below hba)
        clear hst7 hev7 hb7 hV7 hba hplay2 x0 x1 V5 S5 E5
        go_upto_region 17 with (fail)
        generalize hwz : w7.alloc (.cells #[.slice wa7 P2.1.ws.length wc7, .slice ia7 P2.1.inj.length ic7] 26) = wz at S7 V7 E7 F7 ⊢
        clear hwz
        have hwb := V7.out.bel
        have hX1 := (Array.getElem?_eq_some_iff.1 V7.out.at_).1
        have hX0 := V7.out.hX
        obtain ⟨x0, x1, -⟩ := V7.out.facts
        obtain ⟨i0, hif, hz0, hz1, hz2⟩ := info_parts info62
        have hyz : Below wz.heap.size wz wz.drew := (Below.refl _ _).drew
        have hza : Below wz.heap.size wz (wz.alloc z26) := (Below.refl _ _).alloc (Nat.le_refl _) _
        have hyza := hza.drew
        have xa0 := hza.at_cell x0
        have xa1 := hza.at_cell x1
        have hsz : (wz.alloc z26).heap.size = wz.heap.size + 1 := by simp
        have nz1 : ¬ wz.heap.size = w1.heap.size := by omega
        have nz2 : ¬ w1.heap.size = wz.heap.size := by omega
        have HIF := Lib.hid hif
        have HZ0 := Lib.hid hz0
        have HZ1 := Lib.hid hz1
        have HZ2 := Lib.hid hz2
        have HWB := Lib.hid hwb
        clear hif hz0 hz1 hz2 hwb
        go_cut [19, 20, 21] from 97 to 106 (fun t19 t20 t21 wx => R17 w wz (playS s' (l1 ++ l2)) t19 t20 t21 wx)
        case first =>
          go_region_held3 (fun w' => w'.cell? ⟨w1.heap.size, 0, none⟩ = some (.slice wa' s'.ws.length wc') ∧ w'.cell? ⟨w1.heap.size, 1, none⟩ = some (.slice ia' s'.inj.length ic')) (go_keep)
            (first
              | (go_at_call 32; refine (clone32_calls _ l1.length (l1.flatMap prC) _ (H1.out.below (by first | exact HWB.out.then hyz | exact HWB.out.then hyza)) (flat2_one _) (by have := Q1.out; omega)).mono ?_; rintro e wx ⟨vx, rfl, hox, hbx⟩; have hx : Below wz.heap.size wz wx := (by first | exact hyz.then hbx | exact hyza.then hbx); have k0 := hx.at_cell x0; have k1 := hx.at_cell x1; have hxs := hx.size; have nx1 : ¬ wx.heap.size = w1.heap.size := (by omega); have nx2 : ¬ w1.heap.size = wx.heap.size := (by omega); replace hox : wx.ownsRow wz.heap.size 62 2 vx l1.length (l1.flatMap prC) := owns_below hox (Below.refl _ _) (by simp); obtain ⟨xa, xc, rfl⟩ := (SlV.of_owns hox).form; replace hox := Lib.hid hox; have hxa := (Below.refl wx.heap.size wx).alloc (Nat.le_refl _) z26; have ka0 := hxa.at_cell k0; have ka1 := hxa.at_cell k1; (first | (have p' := keep26 hbx (P := _) (heap_alloc_new _ _); obtain ⟨p, p0, p1, pf⟩ := p') | skip))
              | (refine step_append_sl rfl (.tmp 100) (.tmp 101) 61 rfl wz.heap.size 62 i0 _ 2 16 Try.underlying61 HIF.out HZ0.out HZ1.out HZ2.out rfl (by decide) _ l1.length (l1.flatMap prC) rfl (by first | exact hox.out | exact hox.out.alloc _) _ l2.length (l2.flatMap prC) rfl (H2.out.below (by first | exact HWB.out.then hx | exact HWB.out.then (hx.alloc hx.size _))) (flat2_one _) (by have := Q1.out; have := Q2.out; unfold maxLen; omega) (by have := Q1.out; have := Q2.out; omega) (by first | exact hxs | exact (hx.alloc hx.size _).size) ?_; intro v6 wy hoy hgr; have hy : Below wz.heap.size wz wy := (by first | exact hx.grown hgr hx.size (fun k hk => (hox.out.lt k hk).1) | exact (hx.alloc hx.size _).grown hgr (hx.alloc hx.size _).size (fun k hk => ((hox.out.alloc z26).lt k hk).1)); have hsl : SlP wy v6 (l1 ++ l2) := (by have := SlV.of_owns hoy; unfold SlP; rw [List.flatMap_append, List.length_append]; exact this); obtain ⟨ya, yc, rfl⟩ := (SlV.of_owns hoy).form; have m0 := hy.at_cell x0; have m1 := hy.at_cell x1; have hys := hy.size; have ny1 : ¬ wy.heap.size = w1.heap.size := (by omega); have ny2 : ¬ w1.heap.size = wy.heap.size := (by omega); have HSL := Lib.hid hsl; have hyb := (Below.refl wy.heap.size wy).alloc (Nat.le_refl _) z26; have ma0 := hyb.at_cell m0; have ma1 := hyb.at_cell m1; (first | (have p' := grown26 hgr hox.out p; obtain ⟨p, p0, p1, pf⟩ := p') | (have p' := grown26 hgr (hox.out.alloc z26) (heap_alloc_new _ _); obtain ⟨p, p0, p1, pf⟩ := p') | skip); clear hsl hoy hgr)
              | (go_at_call 24; refine (play_calls _ _ _ q' s' (l1 ++ l2) _ (V7.out.st.st.below (by first | exact hy | exact hy.alloc hy.size _)) OKS.out (HSL.out.below (by first | exact Below.refl _ _ | exact (Below.refl _ _).alloc (Nat.le_refl _) _)) (by have := Q1.out; have := Q2.out; simp; omega)).mono ?_; rintro e wp ⟨va3, vb3, q3, ev3, rfl, hst3, hev3, hbp⟩; obtain ⟨wa3, wc3, rfl⟩ := hst3.st.ws.form; obtain ⟨ia3, ic3, rfl⟩ := hst3.inj.1.form; have hp : Below wz.heap.size wz wp := (by first | exact hy.then hbp | exact (hy.alloc hy.size _).then hbp); have r0 := hp.at_cell x0; have r1 := hp.at_cell x1; have hps := hp.size; have np1 : ¬ wp.heap.size = w1.heap.size := (by omega); have np2 : ¬ w1.heap.size = wp.heap.size := (by omega); replace hst3 := Lib.hid hst3; replace hev3 := Lib.hid hev3; (first | (have p' := keep26 hbp p; obtain ⟨p, p0, p1, pf⟩ := p') | (have p' := keep26 hbp (P := _) (heap_alloc_new _ _); obtain ⟨p, p0, p1, pf⟩ := p') | skip)))
          all_goals (
            have hok3 := (play_ok (l1 ++ l2) s' OKS.out).1
            go_wp2_with fail
            go_meet
            case' rel => have hse : SlE wp ev3 (playS s' (l1 ++ l2)).2 := SlV.of_owns hev3.out)
          all_goals (with_reducible (first | exact R17.alloc hst3.out hok3 HWB.out hp hse | exact R17.put hst3.out hok3 HWB.out hp hev3.out p (Nat.le_refl _) | exact R17.put hst3.out hok3 HWB.out hp hev3.out p hxs | exact R17.put hst3.out hok3 HWB.out hp hev3.out p hys))
        case rest =>
          have e3 : playS s' (l1 ++ l2) = (P2.1, P1.2 ++ P2.2) := by
            have := HPA.out (by rw [HP1.out]; exact HR.out)
            rw [this, HP1.out, HP2.out]
          rw [e3] at hcut
          generalize hPLL : P1.2 ++ P2.2 = PL at hcut
          have HPLL := Lib.hid hPLL
          obtain ⟨X3, va3, vb3, q3, ev3, rfl, rfl, rfl, hV3, hev3, hbz⟩ := hcut
          obtain ⟨wa3, wc3, rfl⟩ := hV3.st.st.ws.form
          obtain ⟨ia3, ic3, rfl⟩ := hV3.st.inj.1.form
          obtain ⟨eb, ed, rfl⟩ := SlV.form hev3
          have hS := S7.out.then hbz
          obtain ⟨y0, y1, -⟩ := hS.facts
          obtain ⟨z0, z1, -⟩ := hV3.facts
          have hres := fun (w5 : World) (a b : Value) (q5 : List Value) (h5 : StV w5 a b q5 P2.1) => resting_calls a b q5 P2.1 w5 h5 (ok_small hS.ok)
          rw [(valid_iff _).2 hS.ok] at hres
          simp only [if_true, Bool.true_and] at hres
          have EV3 := Lib.hid hev3
          have EV1 := Lib.hid (E7.out.below hbz)
          have EV2 := Lib.hid (F7.out.below hbz)
          have HS := Lib.hid hS
          have HV3 := Lib.hid hV3
          have HRES := Lib.hid hres
          have F1 : P1.2.length ≤ 60 := by
            have h1 := HF1.out
            rw [HP1.out] at h1
            have h2 := Q1.out
            omega
          have F2 : P2.2.length ≤ 60 := by
            have h1 := HF2.out
            rw [HP2.out] at h1
            have h2 := Q2.out
            omega
          generalize restS P2.1 = rb at HRES
          clear hev3 hS hV3 hres hbz x0 x1 xa0 xa1 hza hyz hyza hsz nz1 nz2 hX1 hX0 HIF HZ0 HZ1 HZ2 HPL HLN e3 hPLL
          go_wp2_with fail
          refine (HRES.out _ _ _ _ HS.out.st.st).mono ?_
          rintro e w8 ⟨rfl, hb8⟩
          replace EV1 := Lib.hid (EV1.out.below hb8)
          replace EV2 := Lib.hid (EV2.out.below hb8)
          replace EV3 := Lib.hid (EV3.out.below hb8)
          replace HV3 := Lib.hid (HV3.out.then hb8)
          replace z0 := hb8.at_cell z0
          replace z1 := hb8.at_cell z1
          clear hb8 y0 y1
          go_wp2_with fail
          refine (HRES.out _ _ _ _ HV3.out.st.st).mono ?_
          rintro e w9 ⟨rfl, hb9⟩
          replace EV1 := Lib.hid (EV1.out.below hb9)
          replace EV2 := Lib.hid (EV2.out.below hb9)
          replace EV3 := Lib.hid (EV3.out.below hb9)
          have HB := Lib.hid (HV3.out.bel.then hb9)
          clear hb9 z0 z1 HV3
          go_wp2_with fail
          refine (clone34_calls _ P1.2.length (P1.2.flatMap evC) _ EV1.out (flat4_one _) (by omega)).mono ?_
          rintro e wx ⟨vx, rfl, hox, hbx⟩
          replace EV2 := Lib.hid (EV2.out.below hbx)
          have HBX := Lib.hid hbx
          obtain ⟨xa, xc, rfl⟩ := (SlV.of_owns hox).form
          have HOX := Lib.hid hox
          obtain ⟨i0, hif, hz0, hz1, hz2⟩ := info_parts info38
          clear hox hbx EV1
          have MX : P1.2.length + P2.2.length ≤ maxLen := by unfold maxLen; omega
          have MB : (P1.2.length + P2.2.length) * 32 ≤ 140737488355328 := by omega
          have MM := Lib.hid MX
          have MMB := Lib.hid MB
          clear MX MB
          go_wp2_with (at_builtin; refine wpList_append_slw (by rfl) _ _ 63 rfl w9.heap.size 38 i0 _ 4 32 Try.underlying63 hif hz0 hz1 hz2 rfl (by decide) _ P1.2.length (P1.2.flatMap evC) rfl HOX.out _ P2.2.length (P2.2.flatMap evC) rfl EV2.out (flat4_one _) MM.out MMB.out ?d5 ?_)
          case d5 => exact HBX.out.size
          intro v6 w6 ho6 hg6
          have hb6 : Below w9.heap.size w9 w6 := HBX.out.grown hg6 HBX.out.size (fun k hk => (World.ownsRow.lt HOX.out k hk).1)
          have hs6 : SlE w6 v6 PL := by
            have := SlV.of_owns ho6
            unfold SlE
            rw [← HPLL.out, List.flatMap_append, List.length_append]
            exact this
          have h33 := equal33_calls v6 _ PL w6 hs6 (EV3.out.below hb6) (by rw [← HPLL.out]; simp; omega)
          obtain ⟨ya, yc, rfl⟩ := SlV.form hs6
          have HB6 := Lib.hid (HB.out.then hb6)
          clear ho6 hg6 hb6 hs6 hif hz0 hz1 hz2 EV2 EV3 HOX HBX HB
          go_wp2_with fail
          refine h33.mono ?_
          rintro e wa ⟨rfl, hba⟩
          have HBA := Lib.hid (HB6.out.then hba)
          clear hba h33
          go_wp2_with fail
          refine (awake_calls _).mono ?_
          rintro e wb ⟨rfl, hbb⟩
          have HBB := Lib.hid (HBA.out.then hbb)
          clear hbb
          go_wp2_with fail
          go_ret
          exact ⟨rfl, HBB.out⟩
end Go.Proofs.Ytjnlfibcpkobaaa
