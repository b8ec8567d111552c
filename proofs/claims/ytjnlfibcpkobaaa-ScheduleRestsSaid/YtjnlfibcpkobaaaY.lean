/- Step. -/
import Derived.Test.YtjnlfibcpkobaaaX
import Derived.Deep.RegionLaw
namespace Go.Proofs.Ytjnlfibcpkobaaa
open Go.RowKit Go.Sl Go.Sched

/-- What Step does. -/
def stepR (s : St) (x c : Int) : St × Ev × Int :=
  if valid s = false then (⟨[], []⟩, ⟨0, 0, 0, 0⟩, 14) else if x < 0 ∨ (s.ws.length : Int) ≤ x then (⟨[], []⟩, ⟨0, 0, 0, 0⟩, 1)
  else ((stepS s x.toNat c).1, (stepS s x.toNat c).2, 0)

def put2 (w : World) (R : Nat) (a b : Value) : World := (w.setCell ⟨R, 0, none⟩ a).setCell ⟨R, 1, none⟩ b
theorem put2_heap {w : World} {R : Nat} (a b : Value) {x y : Value} (h : w.heap[R]? = some (.cells #[x, y] 26 (0, 0))) : (put2 w R a b).heap[R]? = some (.cells #[a, b] 26 (0, 0)) :=
  heap_setCell_same _ R 1 _ 26 b (heap_setCell_same w R 0 _ 26 a h)
theorem put2_far {w : World} {R k : Nat} (a b : Value) (h : k ≠ R) : (put2 w R a b).heap[k]? = w.heap[k]? := by
  unfold put2
  rw [Below.heap_setCell _ ⟨R, 1, none⟩ _ k h, Below.heap_setCell _ ⟨R, 0, none⟩ _ k h]
theorem put4_far {w : World} {R k : Nat} (a b c d : Value) (h : k ≠ R) : (put4 w R a b c d).heap[k]? = w.heap[k]? := by
  unfold put4
  rw [Below.heap_setCell _ ⟨R, 3, none⟩ _ k h, Below.heap_setCell _ ⟨R, 2, none⟩ _ k h, Below.heap_setCell _ ⟨R, 1, none⟩ _ k h, Below.heap_setCell _ ⟨R, 0, none⟩ _ k h]
theorem put2_below {B : Nat} {v w : World} (h : Below B v w) {R : Nat} (hR : B ≤ R) (a b : Value) : Below B v (put2 w R a b) :=
  (h.setCell (p := ⟨R, 0, none⟩) hR _).setCell (p := ⟨R, 1, none⟩) hR _
theorem put4_below {B : Nat} {v w : World} (h : Below B v w) {R : Nat} (hR : B ≤ R) (a b c d : Value) : Below B v (put4 w R a b c d) :=
  (((h.setCell (p := ⟨R, 0, none⟩) hR _).setCell (p := ⟨R, 1, none⟩) hR _).setCell (p := ⟨R, 2, none⟩) hR _).setCell (p := ⟨R, 3, none⟩) hR _
/-- Both result cells are written. -/
theorem fin24 {v w : World} {n : Nat} (hn : n = v.heap.size) (hR : w.heap[n + 1]? = some z26) (hQ : w.heap[n + 1 + 1]? = some z38) (hb : Below v.heap.size v w) (a b e0 e1 e2 e3 : Value) :
    (put4 (put2 w (n + 1) a b) (n + 1 + 1) e0 e1 e2 e3).heap[n + 1]? = some (.cells #[a, b] 26 (0, 0)) ∧
    (put4 (put2 w (n + 1) a b) (n + 1 + 1) e0 e1 e2 e3).heap[n + 1 + 1]? = some (.cells #[e0, e1, e2, e3] 38 (0, 0)) ∧ Below v.heap.size v (put4 (put2 w (n + 1) a b) (n + 1 + 1) e0 e1 e2 e3) :=
  ⟨(put4_far _ _ _ _ (by omega)).trans (put2_heap a b hR), put4_heap _ _ _ _ ((put2_far a b (by omega)).trans hQ), put4_below (put2_below hb (by omega) _ _) (by omega) _ _ _ _⟩
theorem fin42 {v w : World} {n : Nat} (hn : n = v.heap.size) (hR : w.heap[n + 1]? = some z26) (hQ : w.heap[n + 1 + 1]? = some z38) (hb : Below v.heap.size v w) (a b e0 e1 e2 e3 : Value) :
    (put2 (put4 w (n + 1 + 1) e0 e1 e2 e3) (n + 1) a b).heap[n + 1]? = some (.cells #[a, b] 26 (0, 0)) ∧
    (put2 (put4 w (n + 1 + 1) e0 e1 e2 e3) (n + 1) a b).heap[n + 1 + 1]? = some (.cells #[e0, e1, e2, e3] 38 (0, 0)) ∧ Below v.heap.size v (put2 (put4 w (n + 1 + 1) e0 e1 e2 e3) (n + 1) a b) :=
  ⟨put2_heap a b ((put4_far _ _ _ _ (by omega)).trans hR), (put2_far a b (by omega)).trans (put4_heap _ _ _ _ hQ), put2_below (put4_below hb (by omega) _ _ _ _) (by omega) _ _⟩

theorem drew_heap (w : World) : w.drew.heap = w.heap := rfl
theorem fin24d {v w : World} {n : Nat} (hn : n = v.heap.size) (hR : w.heap[n + 1]? = some z26) (hQ : w.heap[n + 1 + 1]? = some z38) (hb : Below v.heap.size v w) (a b e0 e1 e2 e3 : Value) :
    ((((((w.setCell ⟨n + 1, 0, none⟩ a).setCell ⟨n + 1, 1, none⟩ b).setCell ⟨n + 1 + 1, 0, none⟩ e0).setCell ⟨n + 1 + 1, 1, none⟩ e1).setCell ⟨n + 1 + 1, 2, none⟩ e2).setCell ⟨n + 1 + 1, 3, none⟩ e3).drew.heap[n + 1]? = some (.cells #[a, b] 26 (0, 0)) ∧
    ((((((w.setCell ⟨n + 1, 0, none⟩ a).setCell ⟨n + 1, 1, none⟩ b).setCell ⟨n + 1 + 1, 0, none⟩ e0).setCell ⟨n + 1 + 1, 1, none⟩ e1).setCell ⟨n + 1 + 1, 2, none⟩ e2).setCell ⟨n + 1 + 1, 3, none⟩ e3).drew.heap[n + 1 + 1]? = some (.cells #[e0, e1, e2, e3] 38 (0, 0)) ∧
    Below v.heap.size v ((((((w.setCell ⟨n + 1, 0, none⟩ a).setCell ⟨n + 1, 1, none⟩ b).setCell ⟨n + 1 + 1, 0, none⟩ e0).setCell ⟨n + 1 + 1, 1, none⟩ e1).setCell ⟨n + 1 + 1, 2, none⟩ e2).setCell ⟨n + 1 + 1, 3, none⟩ e3).drew := by
  obtain ⟨h1, h2, h3⟩ := fin24 hn hR hQ hb a b e0 e1 e2 e3
  unfold put4 put2 at h1 h2 h3
  refine ⟨?_, ?_, h3.drew⟩
  · rw [drew_heap]; exact h1
  · rw [drew_heap]; exact h2
/-- The state is left as it is by the results. -/
theorem fin_own {base X g cap n : Nat} {qs : List Value} {injV : Value} {s : St} {w : World} (h : OwnSt base X g cap qs injV s w) (hR : w.heap[n + 1]? = some z26) (hQ : w.heap[n + 1 + 1]? = some z38) (hX : X ≠ n + 1) (a b e0 e1 e2 e3 : Value) :
    StT (base ≤ ·) ((((((w.setCell ⟨n + 1, 0, none⟩ a).setCell ⟨n + 1, 1, none⟩ b).setCell ⟨n + 1 + 1, 0, none⟩ e0).setCell ⟨n + 1 + 1, 1, none⟩ e1).setCell ⟨n + 1 + 1, 2, none⟩ e2).setCell ⟨n + 1 + 1, 3, none⟩ e3).drew (.slice (some ⟨g, 0, none⟩) s.ws.length cap) injV qs s := by
  have o1 := h.elsewhere26 (a := ⟨n + 1, 0, none⟩) a hR hX
  have o2 := o1.elsewhere26 (a := ⟨n + 1, 1, none⟩) b (heap_setCell_same _ _ 0 _ 26 a hR) hX
  have q0 : ((w.setCell ⟨n + 1, 0, none⟩ a).setCell ⟨n + 1, 1, none⟩ b).heap[n + 1 + 1]? = some z38 := (put2_far a b (by omega)).trans hQ
  have q1 := heap_setCell_same _ (n + 1 + 1) 0 _ 38 e0 q0
  have q2 := heap_setCell_same _ (n + 1 + 1) 1 _ 38 e1 q1
  have q3 := heap_setCell_same _ (n + 1 + 1) 2 _ 38 e2 q2
  have o3 := (((o2.elsewhere (a := ⟨n + 1 + 1, 0, none⟩) e0 q0).elsewhere (a := ⟨n + 1 + 1, 1, none⟩) e1 q1).elsewhere (a := ⟨n + 1 + 1, 2, none⟩) e2 q2).elsewhere (a := ⟨n + 1 + 1, 3, none⟩) e3 q3
  exact (o3.below ((Below.refl _ _).drew)).stT

set_option maxRecDepth 100000 in
set_option maxHeartbeats 4000000 in
theorem step_calls (wsV injV : Value) (qs : List Value) (s : St) (w : World) (h : StV w wsV injV qs s) (hs : small s) (x c : Int) :
    Calls Try.prog 13 #[.agg #[wsV, injV], .int .i64 x, .int .i64 c] w fun e w' => ∃ a b qs', e = .returned (.tuple #[.agg #[a, b], evV (stepR s x c).2.1, .int .i64 (stepR s x c).2.2]) ∧ StT (w.heap.size ≤ ·) w' a b qs' (stepR s x c).1 ∧ Below w.heap.size w w' := by
  have hb2 : Below w.heap.size w (((w.alloc (.cells #[wsV, injV] 26)).alloc z26).alloc z38) := (((Below.refl _ _).alloc (Nat.le_refl _) _).alloc (by simp) _).alloc (by simp; omega) _
  have hr0 : (((w.alloc (.cells #[wsV, injV] 26)).alloc z26).alloc z38).heap[w.heap.size + 1]? = some z26 := by
    rw [heap_alloc_old _ _ (by simp)]
    have := heap_alloc_new (w.alloc (.cells #[wsV, injV] 26)) z26
    simpa using this
  have hq0 : (((w.alloc (.cells #[wsV, injV] 26)).alloc z26).alloc z38).heap[w.heap.size + 1 + 1]? = some z38 := by
    have := heap_alloc_new ((w.alloc (.cells #[wsV, injV] 26)).alloc z26) z38
    simpa using this
  have c0 : (((w.alloc (.cells #[wsV, injV] 26)).alloc z26).alloc z38).cell? ⟨w.heap.size, 0, none⟩ = some wsV := by
    rw [World.cell?_alloc_past _ _ _ (by simp; omega), World.cell?_alloc_past _ _ _ (by simp), World.cell?_alloc_at _ _ _ _ (by simp)]; rfl
  have c1 : (((w.alloc (.cells #[wsV, injV] 26)).alloc z26).alloc z38).cell? ⟨w.heap.size, 1, none⟩ = some injV := by
    rw [World.cell?_alloc_past _ _ _ (by simp; omega), World.cell?_alloc_past _ _ _ (by simp), World.cell?_alloc_at _ _ _ _ (by simp)]; rfl
  have hval := valid_calls wsV injV qs s _ (h.below hb2) hs
  have nR : ¬ w.heap.size + 1 = w.heap.size + 1 + 1 := by omega
  have nR2 : ¬ w.heap.size + 1 + 1 = w.heap.size + 1 := by omega
  by_cases hv : valid s = false
  · have hC : stepR s x c = (⟨[], []⟩, ⟨0, 0, 0, 0⟩, 14) := by unfold stepR; rw [if_pos hv]
    rw [hC]
    rw [hv] at hval
    simp only [Bool.false_eq_true, if_false] at hval
    clear hC hv h hs
    go_enter Try.func13, Try.ntmps13
    go_wp2_with fail
    refine hval.mono ?_
    rintro e w1 ⟨rfl, hb1⟩
    obtain ⟨hr1, p0, p1, pf⟩ := keep26 hb1 hr0
    obtain ⟨hq1, r0, r1, r2, r3, rf⟩ := keep38 hb1 hq0
    replace c0 := hb1.at_cell c0
    replace c1 := hb1.at_cell c1
    have R1 := Lib.hid hr1
    have Q1 := Lib.hid hq1
    have B1 := Lib.hid (hb2.then hb1)
    clear hr1 hr0 hb1 hb2 hval hq0 hq1
    go_wp2_with fail
    obtain ⟨f1, f2, f3⟩ := fin24 rfl R1.out Q1.out B1.out (.slice none 0 0) (.slice none 0 0) (.int .i64 0) (.int .i64 0) (.int .i64 0) (.int .i64 0)
    refine bodyPost_ret (results_cct rfl _ _ (w.heap.size + 1) 26 _ (0, 0) _ rfl f1 Try.underlying26 rfl size26 (w.heap.size + 1 + 1) 38 _ (0, 0) _ rfl f2 Try.underlying38 rfl size38) rfl ?_
    exact ⟨.slice none 0 0, .slice none 0 0, [], rfl, StT.empty _ _, f3⟩
  have hv2 : valid s = true := by simpa using hv
  rw [hv2] at hval
  simp only [if_true] at hval
  obtain ⟨wa, wc, hwf⟩ := h.ws.form
  by_cases hx : x < 0 ∨ (s.ws.length : Int) ≤ x
  · have hC : stepR s x c = (⟨[], []⟩, ⟨0, 0, 0, 0⟩, 1) := by unfold stepR; rw [if_neg hv, if_pos hx]
    rw [hC]
    subst hwf
    generalize s.ws.length = n at *
    clear hC hv hv2 h hs
    by_cases h1 : x < 0
    · clear hx
      go_enter Try.func13, Try.ntmps13
      go_wp2_with fail
      refine hval.mono ?_
      rintro e w1 ⟨rfl, hb1⟩
      obtain ⟨hr1, p0, p1, pf⟩ := keep26 hb1 hr0
      obtain ⟨hq1, r0, r1, r2, r3, rf⟩ := keep38 hb1 hq0
      replace c0 := hb1.at_cell c0
      replace c1 := hb1.at_cell c1
      have R1 := Lib.hid hr1
      have Q1 := Lib.hid hq1
      have B1 := Lib.hid (hb2.then hb1)
      clear hr1 hr0 hb1 hb2 hval hq0 hq1
      go_wp2_with fail
      obtain ⟨f1, f2, f3⟩ := fin24 rfl R1.out Q1.out B1.out (.slice none 0 0) (.slice none 0 0) (.int .i64 0) (.int .i64 0) (.int .i64 0) (.int .i64 0)
      refine bodyPost_ret (results_cct rfl _ _ (w.heap.size + 1) 26 _ (0, 0) _ rfl f1 Try.underlying26 rfl size26 (w.heap.size + 1 + 1) 38 _ (0, 0) _ rfl f2 Try.underlying38 rfl size38) rfl ?_
      exact ⟨.slice none 0 0, .slice none 0 0, [], rfl, StT.empty _ _, f3⟩
    · have h2 : (n : Int) ≤ x := by omega
      clear hx
      go_enter Try.func13, Try.ntmps13
      go_wp2_with fail
      refine hval.mono ?_
      rintro e w1 ⟨rfl, hb1⟩
      obtain ⟨hr1, p0, p1, pf⟩ := keep26 hb1 hr0
      obtain ⟨hq1, r0, r1, r2, r3, rf⟩ := keep38 hb1 hq0
      replace c0 := hb1.at_cell c0
      replace c1 := hb1.at_cell c1
      have R1 := Lib.hid hr1
      have Q1 := Lib.hid hq1
      have B1 := Lib.hid (hb2.then hb1)
      clear hr1 hr0 hb1 hb2 hval hq0 hq1
      go_wp2_with fail
      obtain ⟨f1, f2, f3⟩ := fin24 rfl R1.out Q1.out B1.out (.slice none 0 0) (.slice none 0 0) (.int .i64 0) (.int .i64 0) (.int .i64 0) (.int .i64 0)
      refine bodyPost_ret (results_cct rfl _ _ (w.heap.size + 1) 26 _ (0, 0) _ rfl f1 Try.underlying26 rfl size26 (w.heap.size + 1 + 1) 38 _ (0, 0) _ rfl f2 Try.underlying38 rfl size38) rfl ?_
      exact ⟨.slice none 0 0, .slice none 0 0, [], rfl, StT.empty _ _, f3⟩
  obtain ⟨i, rfl⟩ : ∃ i : Nat, x = (i : Int) := ⟨x.toNat, by omega⟩
  have hlt : i < s.ws.length := by omega
  have hC : stepR s (i : Int) c = ((stepS s i c).1, (stepS s i c).2, 0) := by
    unfold stepR
    rw [if_neg hv, if_neg hx, Int.toNat_natCast]
  rw [hC]
  have hok := (valid_iff s).1 hv2
  have h0 : 0 < s.ws.length := hok.n1
  have hform := hok.form _ (getD_mem hlt)
  have hph : (s.ws.getD i wk0).ph = 0 ∨ (s.ws.getD i wk0).ph = 1 ∨ (s.ws.getD i wk0).ph = 2 ∨ (s.ws.getD i wk0).ph = 3 := by
    unfold formed at hform
    simp only [Bool.and_eq_true, Bool.or_eq_true, beq_iff_eq] at hform
    omega
  have hst := h
  have g1 : (i : Int) < (s.ws.length : Int) := by omega
  have g2 : (0 : Int) ≤ (i : Int) := by omega
  have g3 : ¬ (i : Int) < 0 := by omega
  have g4 : ¬ (s.ws.length : Int) ≤ (i : Int) := by omega
  subst hwf
  have OK := Lib.hid hok
  have PH := Lib.hid hph
  have HI := Lib.hid hlt
  clear hC hv hv2 h hok hx hform hph
  generalize hnn : s.ws.length = n at c0 c1 hb2 hr0 hq0 hval g1 g4 hst h0 hlt ⊢
  have NN := Lib.hid hnn
  clear hnn
  go_enter Try.func13, Try.ntmps13
  go_wp2_with fail
  refine hval.mono ?_
  rintro e w1 ⟨rfl, hb1⟩
  replace c0 := hb1.at_cell c0
  replace c1 := hb1.at_cell c1
  have ST := Lib.hid (hst.below (hb2.then hb1))
  have R1 := Lib.hid (keep26 hb1 hr0).1
  have Q1 := Lib.hid (keep38 hb1 hq0).1
  have B1 := Lib.hid (hb2.then hb1)
  clear hr0 hb1 hb2 hval hst hq0
  go_wp2_with fail
  refine (copied_calls _ injV qs s _ ST.out hs (by rw [NN.out]; exact h0)).mono ?_
  rintro e w2 ⟨P, g, cap, qs', injV', rfl, hF, hb4⟩
  rw [NN.out]
  obtain ⟨ja, jc, rfl⟩ := (SlI.of_owns hF.injO).form
  have hO := hF.rebox.own
  obtain ⟨x0, -, -⟩ := hO.boxed
  obtain ⟨hXlt, hglt, hbz⟩ := hO.lt
  rw [NN.out] at hO x0 hXlt hglt hbz
  have hb5 := hb4.alloc hb4.size (.cells #[.slice (some ⟨g, 0, none⟩) n cap, .slice ja s.inj.length jc] 26)
  clear hF hb4 c0 c1 ST
  go_upto_region 7 with (fail)
  generalize hwz : w2.alloc (.cells #[.slice (some ⟨g, 0, none⟩) n cap, .slice ja s.inj.length jc] 26) = wz at hO x0 hXlt hglt hbz hb5 ⊢
  have HO := Lib.hid hO
  have B5 := Lib.hid hb5
  clear hwz hO hb5
  go_cut [11] from 32 to 42 (fun t wx => Stepped w1.heap.size w2.heap.size g cap wz (stepS s i c) t wx)
  case first =>
    have hd := fun {wq : World} (hq : Below wz.heap.size wz wq) => disp (HO.out.below hq) OK.out i HI.out c _ rfl
    obtain ⟨-, c1, -, -⟩ := HO.out.cells i HI.out
    have ix := index_ph _ PH.out
    have cf := call_ph _ PH.out
    generalize phF (s.ws.getD i wk0).ph = F at hd ix cf
    generalize (s.ws.getD i wk0).ph = ph at c1 ix
    generalize hr : stepS s i c = r at hd
    have HR := Lib.hid hr
    clear hr
    have hza : Below wz.heap.size wz (wz.alloc z38) := (Below.refl _ _).alloc (Nat.le_refl _) _
    have xa0 := hza.at_cell x0
    have ca1 := hza.at_cell c1
    have hyz : Below wz.heap.size wz wz.drew := (Below.refl _ _).drew
    have hyza : Below wz.heap.size wz (wz.alloc z38).drew := hza.drew
    go_region_law (first
      | (rw [if_pos (by rfl)]; refine oper_value _ _ _ _ _ rfl F rfl cf ?_; refine (hd (by first | exact hy | exact hy.alloc hy.size _)).mono ?_; rintro e wd ⟨rfl, ⟨qs2, inj2, hO2⟩, hFr⟩; dsimp only; unfold evV; clear hd ix cf c1 x0 xa0 ca1 y0 y1 ya0 ya1 hya; (first | (have p' := far38 hFr p (by omega) (by omega); obtain ⟨p, p0, p1, p2, p3, pf⟩ := p') | (have p' := far38 hFr (heap_alloc_new _ _) (by omega) (by omega); obtain ⟨p, p0, p1, p2, p3, pf⟩ := p') | skip))
      | (go_simp; go_wp2_with ((go_at_call 38; refine (phases_calls _).mono ?_; rintro e wx ⟨rfl, hbx⟩; have hy : Below wz.heap.size wz wx := (by first | exact hyz.then hbx | exact hyza.then hbx); have y0 := hy.at_cell x0; have y1 := hy.at_cell c1; have hya := (Below.refl wx.heap.size wx).alloc (Nat.le_refl _) z38; have ya0 := hya.at_cell y0; have ya1 := hya.at_cell y1; have hys := hy.size; (first | (have p' := keep38 hbx (P := _) (heap_alloc_new _ _); obtain ⟨p, p0, p1, p2, p3, pf⟩ := p') | skip)))))
    all_goals (
      have hbd : Frm w1.heap.size w2.heap.size g wz wd := (by first | exact (hy.frm hbz).trans hFr | exact ((hy.alloc hy.size _).frm hbz).trans hFr)
      go_wp2_with fail
      go_meet
      case' rel => skip)
    all_goals (rw [HR.out]; with_reducible (first | exact Stepped.alloc hO2 hbd | exact Stepped.put hO2 hbd p hys hbz | exact Stepped.put hO2 hbd p (Nat.le_refl _) hbz))
  case rest =>
    obtain ⟨R, qs2, inj2, rfl, hRz, hE, hO2, hb⟩ := hcut
    obtain ⟨ka, kc, rfl⟩ := hO2.inj.1.form
    obtain ⟨y0, y1, -⟩ := hO2.boxed
    have hlen : (stepS s i c).1.ws.length = n := (step_eff s i c HI.out).len.trans NN.out
    rw [hlen] at y0
    replace hb := hb.below
    have hbw := B5.out.trans hb
    have L0 := (Array.getElem?_eq_some_iff.1 Q1.out).1
    have LX := HO.out.bP
    have L2 := B5.out.size
    have hn1 : ¬ R = w.heap.size + 1 := by omega
    have hn2 : ¬ R = w.heap.size + 1 + 1 := by omega
    have hn3 : ¬ w2.heap.size = w.heap.size + 1 := by omega
    have hn4 : ¬ w2.heap.size = w.heap.size + 1 + 1 := by omega
    have hn5 : ¬ w.heap.size + 1 = R := by omega
    have hn6 : ¬ w.heap.size + 1 + 1 = R := by omega
    have hn7 : ¬ w.heap.size + 1 = w2.heap.size := by omega
    have hn8 : ¬ w.heap.size + 1 + 1 = w2.heap.size := by omega
    obtain ⟨hr1, p0, p1, pf⟩ := keep26 hbw R1.out
    obtain ⟨hq1, r0, r1, r2, r3, rf⟩ := keep38 hbw Q1.out
    obtain ⟨e0, e1, e2, e3, -⟩ := res_facts hE
    have O2 := Lib.hid hO2
    have R2 := Lib.hid hr1
    have Q2 := Lib.hid hq1
    have BW := Lib.hid (B1.out.then hbw)
    have HL := Lib.hid hlen
    clear hO2 hr1 hq1 hE hb hbw hlen L0 LX L2 hRz x0
    generalize hr : stepS s i c = r at *
    have HR := Lib.hid hr
    clear hr
    go_upto_region 8 with (fail)
    go_region_with (fail)
    all_goals (
      go_wp2_with fail
      obtain ⟨f1, f2, f3⟩ := fin24d rfl R2.out Q2.out BW.out (.slice (some ⟨g, 0, none⟩) n cap) (.slice ka r.1.inj.length kc) (.int .i64 r.2.kind) (.int .i64 r.2.worker) (.int .i64 r.2.task) (.int .i64 r.2.src)
      have f4 := fin_own O2.out R2.out Q2.out hn3 (.slice (some ⟨g, 0, none⟩) n cap) (.slice ka r.1.inj.length kc) (.int .i64 r.2.kind) (.int .i64 r.2.worker) (.int .i64 r.2.task) (.int .i64 r.2.src)
      rw [HL.out] at f4
      refine bodyPost_ret (results_cct rfl _ _ (w.heap.size + 1) 26 _ (0, 0) _ rfl f1 Try.underlying26 rfl size26 (w.heap.size + 1 + 1) 38 _ (0, 0) _ rfl f2 Try.underlying38 rfl size38) rfl ?_
      refine ⟨.slice (some ⟨g, 0, none⟩) n cap, .slice ka r.1.inj.length kc, qs2, by rw [HR.out]; rfl, ?_, f3⟩
      rw [HR.out]
      exact f4.imp fun g _ hg => Nat.le_trans B1.out.size hg)
end Go.Proofs.Ytjnlfibcpkobaaa
