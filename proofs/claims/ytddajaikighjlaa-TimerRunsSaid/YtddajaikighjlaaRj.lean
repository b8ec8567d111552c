/- The reference's Advance 19: its walk. -/
import Derived.Test.YtddajaikighjlaaRi
namespace Go.Proofs.Ytddajaikighjlaa
open Go.RowKit Go.Sl Go.Mp Go.Wh

def lenV : Value → Nat
  | .slice _ n _ => n
  | _ => 0

theorem own_ne8 {w : World} {base size n b : Nat} {e t : TypeId} {v : Value} {xs : List Value} {cs : Array Value} {f : Nat × Nat} (h : w.ownsRow base e size v n xs) (hb : w.heap[b]? = some (.cells cs t f)) (hne : t ≠ e) : ∀ g, v.ownBlock = some g → g ≠ b := by
  rintro g hg rfl
  obtain ⟨cs', hc, -⟩ := own_cells h hg
  rw [hb] at hc
  simp only [Option.some.injEq, Obj.cells.injEq] at hc
  exact hne hc.2.1

theorem own_set8 {w : World} {base size n b : Nat} {e t : TypeId} {v : Value} {xs : List Value} {cs : Array Value} {f : Nat × Nat} (h : w.ownsRow base e size v n xs) (hb : w.heap[b]? = some (.cells cs t f)) (hne : t ≠ e) (j : Nat) (x : Value) : (w.setCell ⟨b, j, none⟩ x).ownsRow base e size v n xs :=
  own_same h fun k hk => Below.heap_setCell w ⟨b, j, none⟩ x k (by simp only; exact own_ne8 h hb hne k hk)
theorem cells_two (w : World) (a b : Value) (t : TypeId) : ∀ (j : Nat) (u : Value), [a, b][j]? = some u → (w.alloc (.cells #[a, b] t)).cell? (Addr.add ⟨w.heap.size, 0, none⟩ j) = some u := by
  intro j u hj
  rw [Go.WideShapes.add_plain, Nat.zero_add]
  refine cells_of_row (heap_alloc_new w (.cells #[a, b] t)) j u ?_
  rw [← hj]
  simp
theorem grown_keep {base k : Nat} {v : Value} {xs : List Value} {W w5 : World} (hown : W.ownsRow base 153 2 v k xs) (hg : W.grownBy w5 v.ownBlock) {b : Nat} {cs : Array Value} {t : TypeId} {f : Nat × Nat} (hb : W.heap[b]? = some (.cells cs t f)) (ht : t ≠ 153) : w5.heap[b]? = some (.cells cs t f) :=
  (hg.block b (Array.getElem?_eq_some_iff.1 hb).1 fun e => by
    obtain ⟨c2, h2, -⟩ := own_cells hown e.symm
    rw [hb] at h2
    simp only [Option.some.injEq, Obj.cells.injEq] at h2
    exact ht h2.2.1).trans hb

set_option maxRecDepth 100000 in
set_option maxHeartbeats 16000000 in
theorem radv_calls (time : Int) (v : Value) (ord : Int) (L : List Rt) (u : Int) (w : World) (h : SlR w v L) (ht : 0 ≤ time ∧ time ≤ 1099511627776) (hs : Srt L) (hL : ∀ e ∈ L, 0 ≤ e.t.iv ∧ e.t.iv ≤ 1099511627776 ∧ 0 ≤ e.t.when) (hn : L.length ≤ 1000) :
    Calls Try.prog 19 #[rwV time v ord, .int .i64 u] w fun e w' => ∃ v' s, e = .returned (.tuple #[rwV (radvS time L u).1.2 v' ord, s, .int .i64 (radvS time L u).2.2]) ∧ SlR w' v' (radvS time L u).1.1 ∧ SlV w' s (radvS time L u).2.1.length 2 ((radvS time L u).2.1.flatMap encF) ∧ Below w.heap.size w w' := by
  obtain ⟨a, c, rfl⟩ := h.form
  obtain ⟨n, hn2⟩ : ∃ n, L.length = n := ⟨_, rfl⟩
  rw [hn2] at hn h ⊢
  have HN := Lib.hid hn2
  have H := Lib.hid h
  have HSR := Lib.hid hs
  have HL := Lib.hid hL
  obtain ⟨w1, hw1⟩ : ∃ w1, (w.alloc (.cells #[.int .i64 time, .slice a n c, .int .i64 ord] 40)).alloc (.cells #[.int .i64 0, .slice none 0 0, .int .i64 0] 40) = w1 := ⟨_, rfl⟩
  have hb1 : Below w.heap.size w w1 := by rw [← hw1]; exact ((Below.refl w.heap.size w).alloc (Nat.le_refl _) _).alloc (by simp) _
  have hz1 : w1.heap.size = w.heap.size + 2 := by rw [← hw1]; simp
  have g0 : w1.heap[w.heap.size]? = some (.cells #[.int .i64 time, .slice a n c, .int .i64 ord] 40 (0, 0)) := by
    rw [← hw1]
    exact (heap_alloc_old _ _ _ (by simp)).trans (heap_alloc_new _ _)
  have g1 : w1.heap[w.heap.size + 1]? = some (.cells #[.int .i64 0, .slice none 0 0, .int .i64 0] 40 (0, 0)) := by
    rw [← hw1]
    exact heap_alloc_new (w.alloc (.cells #[.int .i64 time, .slice a n c, .int .i64 ord] 40)) _ |> fun h => by simpa using h
  have B1 := Lib.hid hb1
  have Z1 := Lib.hid hz1
  have G0 := Lib.hid g0
  have G1 := Lib.hid g1
  obtain ⟨x0, x1, x2, xf⟩ := row3 g0
  obtain ⟨z0, z1, z2, zf⟩ := row3 g1
  obtain ⟨r, hr⟩ : ∃ r, radvS time L u = r := ⟨_, rfl⟩
  rw [hr]
  unfold rwV
  have early : ∀ wr, Below w1.heap.size w1 wr → (((wr.setCell ⟨w.heap.size + 1, 0, none⟩ (.int .i64 time)).setCell ⟨w.heap.size + 1, 1, none⟩ (.slice a n c)).setCell ⟨w.heap.size + 1, 2, none⟩ (.int .i64 ord)).heap[w.heap.size + 1]? = some (.cells #[.int .i64 time, .slice a n c, .int .i64 ord] 40 (0, 0)) ∧
      Below w.heap.size w (((wr.setCell ⟨w.heap.size + 1, 0, none⟩ (.int .i64 time)).setCell ⟨w.heap.size + 1, 1, none⟩ (.slice a n c)).setCell ⟨w.heap.size + 1, 2, none⟩ (.int .i64 ord)) := fun wr hb =>
    ⟨(fill3 (row_n2 hb G1.out) _ _ _).1, below_fill3 (B1.out.trans (hb.mono B1.out.size)) (by omega) _ _ _⟩
  have EA := Lib.hid early
  clear hn2 hb1 hz1 g0 g1 early h hs hL
  by_cases c1 : u < 0
  · have er : r = ((L, time), [], 3) := by rw [← hr]; unfold radvS; rw [if_pos (Or.inl c1)]
    subst er
    clear hr
    go_enter Try.func19, Try.ntmps19
    go_wp2_with fail
    refine bodyPost_ret (results_cell3 rfl _ _ (w.heap.size + 1) 40 _ (0, 0) _ rfl (EA.out _ (Below.refl _ _)).1 Try.underlying40 size40) rfl ?_
    exact ⟨_, _, rfl, H.out.below (EA.out _ (Below.refl _ _)).2, SlV.nil _ _, (EA.out _ (Below.refl _ _)).2⟩
  by_cases c2 : 1099511627776 < u
  · have er : r = ((L, time), [], 3) := by rw [← hr]; unfold radvS; rw [if_pos (Or.inr (Or.inl c2))]
    subst er
    clear hr
    go_enter Try.func19, Try.ntmps19
    go_wp2_with fail
    refine bodyPost_ret (results_cell3 rfl _ _ (w.heap.size + 1) 40 _ (0, 0) _ rfl (EA.out _ (Below.refl _ _)).1 Try.underlying40 size40) rfl ?_
    exact ⟨_, _, rfl, H.out.below (EA.out _ (Below.refl _ _)).2, SlV.nil _ _, (EA.out _ (Below.refl _ _)).2⟩
  have gw : IntKind.i64.wrap (u - time) = u - time := IntWalk.i64_in _ (by omega)
  by_cases c3 : 1000000 < u - time
  · have er : r = ((L, time), [], 3) := by rw [← hr]; unfold radvS; rw [if_pos (Or.inr (Or.inr (by omega)))]
    subst er
    clear hr
    go_enter Try.func19, Try.ntmps19
    go_wp2_with fail
    refine bodyPost_ret (results_cell3 rfl _ _ (w.heap.size + 1) 40 _ (0, 0) _ rfl (EA.out _ (Below.refl _ _)).1 Try.underlying40 size40) rfl ?_
    exact ⟨_, _, rfl, H.out.below (EA.out _ (Below.refl _ _)).2, SlV.nil _ _, (EA.out _ (Below.refl _ _)).2⟩
  by_cases c4 : u < time
  · have er : r = ((L, time), [], 330) := by rw [← hr]; unfold radvS; rw [if_neg (by omega), if_pos c4]
    subst er
    clear hr
    go_enter Try.func19, Try.ntmps19
    go_wp2_with fail
    refine bodyPost_ret (results_cell3 rfl _ _ (w.heap.size + 1) 40 _ (0, 0) _ rfl (EA.out _ (Below.refl _ _)).1 Try.underlying40 size40) rfl ?_
    exact ⟨_, _, rfl, H.out.below (EA.out _ (Below.refl _ _)).2, SlV.nil _ _, (EA.out _ (Below.refl _ _)).2⟩
  have HR := Lib.hid (show r = if 5000 < cntR u L then ((L, time), [], 16) else (((runR (cntR u L).toNat L []).1, u), (runR (cntR u L).toNat L []).2, 0) by
    rw [← hr]; unfold radvS; rw [if_neg (by omega), if_neg c4])
  obtain ⟨w2, hw2⟩ : ∃ w2, (w1.alloc (.cells #[] 153)).alloc (.cells #[.int .i64 time, .slice a n c, .int .i64 ord] 40) = w2 := ⟨_, rfl⟩
  have hb2 : Below w1.heap.size w1 w2 := by rw [← hw2]; exact ((Below.refl w1.heap.size w1).alloc (Nat.le_refl _) _).alloc (by simp) _
  have ho2 : w2.ownsRow w1.heap.size 153 2 (.slice (some ⟨w1.heap.size, 0, none⟩) 0 0) 0 [] := by
    rw [← hw2]
    exact own_belowR (owns_empty w1 153 2) ((Below.refl _ _).alloc (Nat.le_refl _) _) (Nat.le_refl _)
  have g8 : w2.heap[w1.heap.size + 1]? = some (.cells #[.int .i64 time, .slice a n c, .int .i64 ord] 40 (0, 0)) := by
    rw [← hw2]
    exact heap_alloc_new (w1.alloc (.cells #[] 153)) _ |> fun h => by simpa using h
  have B2 := Lib.hid hb2
  have O2 := Lib.hid ho2
  have G8 := Lib.hid g8
  have HW2 := Lib.hid hw2
  have nn1 : ¬ w.heap.size = w1.heap.size := by have := Z1.out; omega
  have nn2 : ¬ w1.heap.size = w.heap.size := by have := Z1.out; omega
  have nn3 : w.heap.size < w1.heap.size := by have := Z1.out; omega
  clear hr hb2 ho2 g8 hw2
  go_enter Try.func19, Try.ntmps19
  go_wp2_with fail
  clear hw1 x0 x1 x2 xf z0 z1 z2 zf
  rw [HW2.out]
  clear HW2
  obtain ⟨m8, hm8⟩ : ∃ m8, w1.heap.size + 1 = m8 := ⟨_, rfl⟩
  have HM8 := Lib.hid hm8
  have G8' := G8.out
  rw [hm8] at G8' ⊢
  have G8 := Lib.hid G8'
  clear hm8 G8'
  go_loopw [7] (fun vo wr => ∃ (j : Nat) (M : List Rt) (O : List (Int × Int)) (vm : Value), Rounds u L j M O ∧ j ≤ 5000 ∧ wr.ownsRow w1.heap.size 153 2 vo j (O.flatMap encF) ∧ wr.heap[m8]? = some (.cells #[.int .i64 time, vm, .int .i64 ord] 40 (0, 0)) ∧ TvR w w1.heap.size wr vm M ∧ Below w1.heap.size w1 wr) (fun vo _ => (cntR u L).toNat - lenV vo)
  case atStart => exact ⟨0, L, [], _, Rounds.zero u L, by omega, O2.out, G8.out, Or.inl H.out, B2.out⟩
  case round =>
    obtain ⟨j, M, O, vm, hrd, hj, hown, hrow, htv, hbel⟩ := hrel
    have HRD := Lib.hid hrd
    have HOW := Lib.hid hown
    have HROW' := Lib.hid hrow
    have HTV := Lib.hid htv
    have HB := Lib.hid hbel
    have HBW := Lib.hid (B1.out.trans (hbel.mono B1.out.size))
    have R1 := Lib.hid (row_n2 hbel G1.out)
    have R0 := Lib.hid (row_n2 hbel G0.out)
    obtain ⟨ao, co, rfl⟩ := own_form hown
    have hsm := htv.slR HBW.out
    obtain ⟨am, cm, rfl⟩ := hsm.form
    have HSM := Lib.hid hsm
    obtain ⟨x0, x1, x2, xf⟩ := row3 hrow
    obtain ⟨z0, z1, z2, zf⟩ := row3 R1.out
    have HROW := HROW'
    have mlt := (Array.getElem?_eq_some_iff.1 hrow).1
    have hm8 := HM8.out
    have hz1 := Z1.out
    have q1 : ¬ m8 = w.heap.size + 1 := by omega
    have q2 : ¬ w.heap.size + 1 = m8 := by omega
    have hjc : ((j : Int) = 5000) ∨ ((j : Int) < 5000) := by omega
    clear hrd hown hrow htv hbel hsm hm8 hz1
    have FIN : ∀ (MM : List Rt), M = MM → (∀ e M', MM = e :: M' → u < e.t.when) → ∃ vv, vv = Value.slice am MM.length cm ∧ (((((wr.setCell ⟨m8, 0, none⟩ (.int .i64 u)).setCell ⟨w.heap.size + 1, 0, none⟩ (.int .i64 u)).setCell ⟨w.heap.size + 1, 1, none⟩ vv).setCell ⟨w.heap.size + 1, 2, none⟩ (.int .i64 ord)).heap[w.heap.size + 1]? = some (.cells #[.int .i64 u, vv, .int .i64 ord] 40 (0, 0)) ∧
        r = ((MM, u), O, 0) ∧ SlR ((((wr.setCell ⟨m8, 0, none⟩ (.int .i64 u)).setCell ⟨w.heap.size + 1, 0, none⟩ (.int .i64 u)).setCell ⟨w.heap.size + 1, 1, none⟩ vv).setCell ⟨w.heap.size + 1, 2, none⟩ (.int .i64 ord)) vv MM ∧
        SlV ((((wr.setCell ⟨m8, 0, none⟩ (.int .i64 u)).setCell ⟨w.heap.size + 1, 0, none⟩ (.int .i64 u)).setCell ⟨w.heap.size + 1, 1, none⟩ vv).setCell ⟨w.heap.size + 1, 2, none⟩ (.int .i64 ord)) (.slice ao j co) O.length 2 (O.flatMap encF) ∧
        Below w.heap.size w ((((wr.setCell ⟨m8, 0, none⟩ (.int .i64 u)).setCell ⟨w.heap.size + 1, 0, none⟩ (.int .i64 u)).setCell ⟨w.heap.size + 1, 1, none⟩ vv).setCell ⟨w.heap.size + 1, 2, none⟩ (.int .i64 ord))) := by
      rintro MM rfl hM
      refine ⟨_, rfl, ?_⟩
      have k1 := (Below.heap_setCell wr ⟨m8, 0, none⟩ (.int .i64 u) (w.heap.size + 1) q2).trans R1.out
      have hf := fill3 k1 (.int .i64 u) (.slice am M.length cm) (.int .i64 ord)
      have hbb := below_fill3 (HBW.out.setCell (p := ⟨m8, 0, none⟩) (by have := HM8.out; have := Z1.out; simp only; omega) (.int .i64 u)) (b := w.heap.size + 1) (by omega) (.int .i64 u) (.slice am M.length cm) (.int .i64 ord)
      obtain ⟨e1, e2⟩ := HRD.out.last HSR.out (by omega) (fun e he => (HL.out e he).1) hM
      have s1 := heap_setCell_same (wr.setCell ⟨m8, 0, none⟩ (.int .i64 u)) (w.heap.size + 1) 0 _ 40 (.int .i64 u) k1
      have s2 := heap_setCell_same _ (w.heap.size + 1) 1 _ 40 (.slice am M.length cm) s1
      refine ⟨hf.1, ?_, TvR.slR (TvR.set (TvR.set (TvR.set (TvR.set HTV.out HROW.out 0 _) k1 0 _) s1 1 _) s2 2 _) hbb, ?_, hbb⟩
      · rw [HR.out, if_neg (by rw [e1]; omega), e1, show ((j : Nat) : Int).toNat = j by omega, e2]
      · have hl := HRD.out.len
        have ho : ∀ g, (Value.slice ao j co).ownBlock = some g → ((((wr.setCell ⟨m8, 0, none⟩ (.int .i64 u)).setCell ⟨w.heap.size + 1, 0, none⟩ (.int .i64 u)).setCell ⟨w.heap.size + 1, 1, none⟩ (.slice am M.length cm)).setCell ⟨w.heap.size + 1, 2, none⟩ (.int .i64 ord)).heap[g]? = wr.heap[g]? := fun g hg => by
          have hge := (HOW.out.lt g hg).1
          have hz := Z1.out
          have hne := own_ne8 HOW.out HROW.out (by decide) g hg
          exact (hf.2.2 g (by omega)).trans (Below.heap_setCell _ ⟨m8, 0, none⟩ _ g (by simp only; exact hne))
        rw [hl]
        exact SlV.of_owns (own_same HOW.out ho)
    have HFIN := Lib.hid FIN
    clear FIN
    cases M with
    | nil =>
      obtain ⟨vv, hvv, f1, f2, f3, f4, f5⟩ := HFIN.out [] rfl (fun e M' h => by simp at h)
      have F1 := Lib.hid f1
      have F2 := Lib.hid f2
      have F3 := Lib.hid f3
      have F4 := Lib.hid f4
      have F5 := Lib.hid f5
      subst hvv
      simp only [List.length_nil] at x1 F1 F3 F4 F5 ⊢
      clear f1 f2 f3 f4 f5
      go_wp2_with fail
      refine bodyPost_ret (results_cell3 rfl _ _ (w.heap.size + 1) 40 _ (0, 0) _ rfl F1.out Try.underlying40 size40) rfl ?_
      rw [F2.out]
      exact ⟨_, _, rfl, F3.out, F4.out, F5.out⟩
    | cons e M' =>
      obtain ⟨g, o, cap, hf, y0, y1, y2, y3, y4⟩ := HSM.out.at (k := 0) rfl
      rw [Nat.zero_mul, Nat.add_zero] at y0 y1 y2 y3 y4
      simp only [Value.slice.injEq] at hf
      obtain ⟨rfl, -, rfl⟩ := hf
      have hiv := HRD.out.iv HL.out e (by simp)
      by_cases he : e.t.when ≤ u
      · by_cases hj5 : j = 5000
        · have hmany := HRD.out.many he (by omega) HL.out
          have er : r = ((L, time), [], 16) := by rw [HR.out, if_pos (by omega)]
          have ER := Lib.hid er
          obtain ⟨nm, hnm⟩ : ∃ nm, (e :: M').length = nm := ⟨_, rfl⟩
          have hnm1 : (0 : Int) < (nm : Int) := by have : 0 < (e :: M').length := by simp
                                                   omega
          rw [hnm] at x1
          obtain ⟨ew, hew⟩ : ∃ ew, e.t.when = ew := ⟨_, rfl⟩
          rw [hew] at y1 he
          obtain ⟨t0, t1, t2, -⟩ := row3 R0.out
          subst hj5
          clear hmany er y0 y2 y3 y4 hiv hjc
          go_wp2_with fail
          refine bodyPost_ret (results_cell3 rfl _ _ (w.heap.size + 1) 40 _ (0, 0) _ rfl (EA.out _ HB.out).1 Try.underlying40 size40) rfl ?_
          rw [ER.out]
          exact ⟨_, _, rfl, H.out.below (EA.out _ HB.out).2, SlV.nil _ _, (EA.out _ HB.out).2⟩
        · obtain ⟨nm, hnm⟩ : ∃ nm, M'.length = nm := ⟨_, rfl⟩
          have hle := HRD.out.le
          rw [HN.out] at hle
          simp only [List.length_cons] at hle
          rw [hnm] at hle
          have HNM := Lib.hid hnm
          have HLE := Lib.hid hle
          have HSM2 := Lib.hid (show SlR wr (.slice (some ⟨g, o, none⟩) (nm + 1) cm) (e :: M') by have := HSM.out; rw [show (e :: M').length = nm + 1 by simp [hnm]] at this; exact this)
          have HROW2 := Lib.hid (show wr.heap[m8]? = some (.cells #[.int .i64 time, .slice (some ⟨g, o, none⟩) (nm + 1) cm, .int .i64 ord] 40 (0, 0)) by have := HROW.out; rw [show (e :: M').length = nm + 1 by simp [hnm]] at this; exact this)
          have HTV2 := Lib.hid (show TvR w w1.heap.size wr (.slice (some ⟨g, o, none⟩) (nm + 1) cm) (e :: M') by have := HTV.out; rw [show (e :: M').length = nm + 1 by simp [hnm]] at this; exact this)
          have HNEXT := Lib.hid (HRD.out.next he)
          have HCNT := Lib.hid (HRD.out.many he (by omega) HL.out)
          rw [show (e :: M').length = nm + 1 by simp [hnm]] at x1
          have hnm1 : (0 : Int) < ((nm + 1 : Nat) : Int) := by omega
          have hj5' : ((j : Int) == 5000) = false := by rw [beq_eq_false_iff_ne]; omega
          obtain ⟨⟨⟨eid, ewh, eiv, eord⟩, eset⟩, heq⟩ : ∃ e0, e = e0 := ⟨_, rfl⟩
          have HEQ := Lib.hid heq
          rw [heq] at y0 y1 y2 y3 y4 hiv he
          simp only at y0 y1 y2 y3 y4 hiv he
          have gl := World.block_lt_of_cell? wr _ y0
          have gn : ¬ g = wr.heap.size := Nat.ne_of_lt gl
          have mn : ¬ m8 = wr.heap.size := Nat.ne_of_lt mlt
          have mn2 : ¬ wr.heap.size = m8 := Nat.ne_of_gt mlt
          obtain ⟨W9, hW9⟩ : ∃ W9, wr.alloc (.cells #[.int .i64 eid, .int .i64 ewh, .int .i64 eiv, .int .i64 eord, .int .i64 eset] 151) = W9 := ⟨_, rfl⟩
          have hb9 : Below wr.heap.size wr W9 := by rw [← hW9]; exact (Below.refl _ _).alloc (Nat.le_refl _) _
          have g9 : W9.heap[wr.heap.size]? = some (.cells #[.int .i64 eid, .int .i64 ewh, .int .i64 eiv, .int .i64 eord, .int .i64 eset] 151 (0, 0)) := by rw [← hW9]; exact heap_alloc_new _ _
          obtain ⟨W10, hW10⟩ : ∃ W10, W9.alloc (.cells #[.int .i64 eid, .int .i64 ewh] 153) = W10 := ⟨_, rfl⟩
          have hb10 : Below W9.heap.size W9 W10 := by rw [← hW10]; exact (Below.refl _ _).alloc (Nat.le_refl _) _
          have own1 := own_belowR (own_belowR HOW.out hb9 (Nat.le_refl _)) hb10 (Nat.le_refl _)
          have hcl := cells_two W9 (.int .i64 eid) (.int .i64 ewh) 153
          rw [hW10] at hcl
          obtain ⟨i0, hif, hz0, hz1, hz2⟩ := info_parts info153
          have r9 := row_n2 hb10 g9
          have r8 := row_n2 (hb9.then hb10) HROW2.out
          have R9 := Lib.hid r9
          have R8 := Lib.hid r8
          have B10 := Lib.hid (HB.out.trans ((hb9.then hb10).mono HB.out.size))
          have T10 := Lib.hid (HTV2.out.below (hb9.then hb10) (Nat.le_refl _))
          have c0 := cells_of_row g9 0 _ rfl
          have c1 := cells_of_row g9 1 _ rfl
          clear hb9 hb10 g9 r8 r9 x0 x2 hle hnm heq hjc
          go_wp2_with (at_builtin; refine wpList_append_own _ rfl (.tmp 52) (.tmp 58) 49 rfl w1.heap.size 153 i0 (.agg #[.int .i64 0, .int .i64 0]) 2 16 Try.underlying49 hif hz0 hz1 hz2 rfl (by decide) _ _ _ rfl own1 ⟨W9.heap.size, 0, none⟩ 1 1 [.int .i64 eid, .int .i64 ewh] rfl rfl hcl ?d2 ?d3 ?d4 ?d5 ?_)
          case d2 => exact ⟨rfl, rfl⟩
          case d3 => unfold maxLen; omega
          case d4 => omega
          case d5 => exact B10.out.size
          intro va w5 own2 hg1 _
          obtain ⟨ao2, co2, rfl⟩ := own_form own2
          have hb5 : Below w1.heap.size w1 w5 := B10.out.grown hg1 B10.out.size (fun k hk => (own1.lt k hk).1)
          have r8 := grown_keep own1 hg1 R8.out (by decide)
          have r9 := grown_keep own1 hg1 R9.out (by decide)
          have T5 := Lib.hid (T10.out.grown own1 hg1)
          have R8b := Lib.hid r8
          have R9b := Lib.hid r9
          have B5 := Lib.hid hb5
          have O5 := Lib.hid own2
          have hz5 : wr.heap.size < w5.heap.size := (Array.getElem?_eq_some_iff.1 r9).1
          have hm5 : m8 < w5.heap.size := (Array.getElem?_eq_some_iff.1 r8).1
          obtain ⟨w6, hw6⟩ : ∃ w6, w5.alloc (.cells #[] 151) = w6 := ⟨_, rfl⟩
          have hb6 : Below w5.heap.size w5 w6 := by rw [← hw6]; exact (Below.refl _ _).alloc (Nat.le_refl _) _
          have own3 : w6.ownsRow w5.heap.size 151 5 (.slice (some ⟨w5.heap.size, 0, none⟩) 0 0) 0 [] := by rw [← hw6]; exact owns_empty w5 151 5
          obtain ⟨u3, hu3⟩ : ∃ u3, Value.slice (if cm = 1 then (some (⟨g, o, none⟩ : Addr)) else (some (⟨g, o, none⟩ : Addr)).map fun x => x.add (1 * 5)) (nm + 1 - 1) (cm - 1) = u3 := ⟨_, rfl⟩
          have hs3 : ∀ w, (Instr.sliceAt 38 (.slice (some (⟨g, o, none⟩ : Addr)) (nm + 1) cm) (some (.int .i64 1)) none none).run Try.prog w = .ok u3 w := fun w => by rw [← hu3]; exact run_from w _ (nm + 1) cm 1 (by omega)
          have sl5 := T5.out.slR (B1.out.trans (hb5.mono B1.out.size))
          have su3 : SlV w6 u3 nm 5 (M'.flatMap encR) := by rw [← hu3]; exact SlV.below (slR_from sl5 (k := 1) (by omega)) hb6
          obtain ⟨i1, hif1, hy0, hy1, hy2⟩ := info_parts info151
          have r8 := row_n2 hb6 r8
          have r9 := row_n2 hb6 r9
          obtain ⟨x0, x1, x2, xf⟩ := row3 r8
          have B6 := Lib.hid hb6
          have R8c := Lib.hid r8
          have R9c := Lib.hid r9
          clear own1 own2 hg1 hcl hif hz0 hz1 hz2 hb5 hu3 sl5 hb6 r8 r9 c0 c1 y0 y1 y2 y3 y4 hW9 hW10
          go_wp2_with (at_builtin; refine wpList_append_sl rfl (.tmp 60) (.tmp 63) 38 rfl w5.heap.size 151 i1 (.agg #[.int .i64 0, .int .i64 0, .int .i64 0, .int .i64 0, .int .i64 0]) 5 40 Try.underlying38 hif1 hy0 hy1 hy2 rfl (by decide) _ _ _ rfl own3 _ nm _ rfl su3 ?f1 ?f2 ?f3 ?f4 ?_)
          case f1 => exact oneR _
          case f2 => have := HLE.out; unfold maxLen; omega
          case f3 => have := HLE.out; omega
          case f4 => exact B6.out.size
          intro vb w7 own4 hg2
          obtain ⟨bo, bc, rfl⟩ := own_form own4
          have hb7 : Below w5.heap.size w5 w7 := B6.out.grown hg2 B6.out.size (fun k hk => (own3.lt k hk).1)
          have r8 := row_next2 hb7 R8b.out hm5
          have r9 := row_next2 hb7 R9b.out hz5
          obtain ⟨x0, x1, x2, xf⟩ := row3 r8
          have c0 := cells_of_row r9 0 _ rfl
          have c1 := cells_of_row r9 1 _ rfl
          have c2 := cells_of_row r9 2 _ rfl
          have c3 := cells_of_row r9 3 _ rfl
          have B7 := Lib.hid (B5.out.trans (hb7.mono B5.out.size))
          have O7 := Lib.hid (own_belowR O5.out hb7 (Nat.le_refl _))
          have N7 := Lib.hid (own_le own4 B5.out.size)
          have R8d := Lib.hid r8
          have R9d := Lib.hid r9
          have hsub := B5.out.size
          clear own3 own4 hg2 su3 hif1 hy0 hy1 hy2 hb7 r8 r9 hw6 hs3
          have hrs := heap_setCell_same w7 m8 1 _ 40 (.slice bo nm bc) R8d.out
          have RS := Lib.hid (show (w7.setCell ⟨m8, 1, none⟩ (.slice bo nm bc)).heap[m8]? = some (.cells #[.int .i64 time, .slice bo nm bc, .int .i64 ord] 40 (0, 0)) from hrs)
          have OS := Lib.hid (own_set8 O7.out R8d.out (by decide) 1 (.slice bo nm bc))
          have NS := Lib.hid (own_set8 N7.out R8d.out (by decide) 1 (.slice bo nm bc))
          have BS := Lib.hid (B7.out.setCell (p := ⟨m8, 1, none⟩) (by have := HM8.out; simp only; omega) (.slice bo nm bc))
          clear hrs
          have hcm : IntKind.i64.wrap (ewh + eiv) = ewh + eiv := IntWalk.i64_in _ (by omega)
          have hmeas : (cntR u L).toNat - (j + 1) < (cntR u L).toNat - j := by have := HCNT.out; omega
          have HMEAS := Lib.hid hmeas
          have hlj : (O ++ [(eid, ewh)]).flatMap encF = O.flatMap encF ++ [.int .i64 eid, .int .i64 ewh] := by rw [List.flatMap_append]; rfl
          have HLJ := Lib.hid hlj
          clear hmeas hlj hsub
          by_cases hg1 : 0 < eiv
          · by_cases hg2 : ewh + eiv ≤ 1099511627776
            · have hgo : nextR e M' = addR M' (rt1 e) := by
                unfold nextR
                rw [if_pos (by rw [HEQ.out]; exact ⟨hg1, hg2⟩)]
              have HGO := Lib.hid hgo
              have hcall := add_calls (.slice bo nm bc) M' (rt1 e) (w7.setCell ⟨m8, 1, none⟩ (.slice bo nm bc)) (by
                have := NS.out
                rw [← HNM.out] at this ⊢
                exact SlR.of_owns this) (by have := HNM.out; have := HLE.out; omega)
              unfold rtV rt1 at hcall
              rw [HEQ.out, HNM.out] at hcall
              simp only at hcall
              clear hgo
              go_wp2_with fail
              refine hcall.mono ?_
              rintro e9 w9 ⟨v9, rfl, own9, hb9⟩
              obtain ⟨no, nc, rfl⟩ := own_form own9
              have hzs : (w7.setCell ⟨m8, 1, none⟩ (.slice bo nm bc)).heap.size = w7.heap.size := by simp
              have r8 := row_n2 hb9 RS.out
              obtain ⟨x0, x1, x2, xf⟩ := row3 r8
              have O9 := Lib.hid (own_belowR OS.out hb9 (Nat.le_refl _))
              have R8e := Lib.hid r8
              have N9 := Lib.hid (own_le own9 BS.out.size)
              have B9 := Lib.hid (BS.out.trans (hb9.mono BS.out.size))
              clear hcall own9 hb9 r8 hzs
              go_wp2_with fail
              go_roundw
              case rel =>
                refine ⟨j + 1, nextR e M', O ++ [(eid, ewh)], .slice no (nm + 1) nc, ?_, by omega, ?_, ?_, Or.inr ?_, ?_⟩
                · have := HNEXT.out
                  rw [HEQ.out] at this ⊢
                  exact this
                · rw [HLJ.out]
                  exact own_set8 O9.out R8e.out (by decide) 1 _
                · exact heap_setCell_same w9 m8 1 _ 40 (.slice no (nm + 1) nc) R8e.out
                · rw [HGO.out, (addR_perm (rt1 e) M').length_eq, List.length_cons, HNM.out, HEQ.out]
                  exact own_set8 N9.out R8e.out (by decide) 1 _
                · exact B9.out.setCell (p := ⟨m8, 1, none⟩) (by have := HM8.out; simp only; omega) _
              case measure => exact HMEAS.out
            · have hgo : nextR e M' = M' := by
                unfold nextR
                rw [if_neg (by rw [HEQ.out]; exact fun h => hg2 h.2)]
              have HGO := Lib.hid hgo
              clear hgo
              go_wp2_with fail
              go_roundw
              case rel =>
                refine ⟨j + 1, M', O ++ [(eid, ewh)], _, ?_, by omega, by rw [HLJ.out]; exact OS.out, RS.out, Or.inr (by rw [HNM.out]; exact NS.out), BS.out⟩
                have := HNEXT.out
                rw [HGO.out, HEQ.out] at this
                exact this
              case measure => exact HMEAS.out
          · have hgo : nextR e M' = M' := by
              unfold nextR
              rw [if_neg (by rw [HEQ.out]; exact fun h => hg1 h.1)]
            have HGO := Lib.hid hgo
            clear hgo
            go_wp2_with fail
            go_roundw
            case rel =>
              refine ⟨j + 1, M', O ++ [(eid, ewh)], _, ?_, by omega, by rw [HLJ.out]; exact OS.out, RS.out, Or.inr (by rw [HNM.out]; exact NS.out), BS.out⟩
              have := HNEXT.out
              rw [HGO.out, HEQ.out] at this
              exact this
            case measure => exact HMEAS.out
      · obtain ⟨vv, hvv, f1, f2, f3, f4, f5⟩ := HFIN.out (e :: M') rfl (fun x M2 h => by
          simp only [List.cons.injEq] at h
          rw [← h.1]
          omega)
        have F1 := Lib.hid f1
        have F2 := Lib.hid f2
        have F3 := Lib.hid f3
        have F4 := Lib.hid f4
        have F5 := Lib.hid f5
        subst hvv
        obtain ⟨nm, hnm⟩ : ∃ nm, (e :: M').length = nm := ⟨_, rfl⟩
        have hnm0 : 0 < nm := by rw [← hnm]; simp
        have hnm1 : (0 : Int) < (nm : Int) := by omega
        rw [hnm] at x1 F1 F3 F4 F5
        obtain ⟨ew, hew⟩ : ∃ ew, e.t.when = ew := ⟨_, rfl⟩
        rw [hew] at y1 he
        clear f1 f2 f3 f4 f5 y0 y2 y3 y4 hiv
        go_wp2_with fail
        refine bodyPost_ret (results_cell3 rfl _ _ (w.heap.size + 1) 40 _ (0, 0) _ rfl F1.out Try.underlying40 size40) rfl ?_
        rw [F2.out]
        exact ⟨_, _, rfl, F3.out, F4.out, F5.out⟩
end Go.Proofs.Ytddajaikighjlaa
