/- put 55. -/
import Derived.Test.YtddajaikighjlaaB
import Derived.Test.YtddajaikighjlaaWs
import Derived.Deep.CutRange
import Derived.Deep.RegionHeld3
namespace Go.Proofs.Ytddajaikighjlaa
open Go.RowKit Go.Mp Go.Wh

theorem pw_le : ∀ k : Nat, k ≤ 6 → 1 ≤ pw k ∧ pw k ≤ 68719476736
  | 0, _ => by decide
  | 1, _ => by decide
  | 2, _ => by decide
  | 3, _ => by decide
  | 4, _ => by decide
  | 5, _ => by decide
  | 6, _ => by decide
  | k + 7, h => by omega
theorem whl_le (d : Int) : whl d ≤ 6 := by unfold whl; (repeat' split) <;> omega
theorem whl_step (d : Int) (k : Nat) (hk : k < 6) (h : k ≤ whl d) (hd : pw k * 64 ≤ d) : k + 1 ≤ whl d := by
  have : k = 0 ∨ k = 1 ∨ k = 2 ∨ k = 3 ∨ k = 4 ∨ k = 5 := by omega
  rcases this with rfl | rfl | rfl | rfl | rfl | rfl <;> simp [pw] at hd <;> unfold whl <;> (repeat' split) <;> omega
theorem whl_end (d : Int) (k : Nat) (hk : k < 6) (h : k ≤ whl d) (hd : d < pw k * 64) : k = whl d := by
  have : k = 0 ∨ k = 1 ∨ k = 2 ∨ k = 3 ∨ k = 4 ∨ k = 5 := by omega
  rcases this with rfl | rfl | rfl | rfl | rfl | rfl <;> simp [pw] at hd <;> unfold whl at h ⊢ <;> (repeat' split at h) <;> (repeat' split) <;> omega
theorem pw_step (k : Nat) : pw (k + 1) = pw k * 64 := rfl


set_option maxHeartbeats 1000000 in
theorem put_calls (R : Refs) (X : Nat) (W : Wh) (t : Tm) (w : World) (h : WhAt R w X W) (h1 : 0 ≤ W.now ∧ W.now ≤ 1099511627776) (h2 : 0 ≤ t.when ∧ t.when ≤ 1099511627776) :
    Calls Try.prog 55 #[.pointer (some ⟨X, 0, none⟩), tmV t] w fun e w' => e = .returned (.tuple #[]) ∧ ∃ R', WhAt R' w' X (putS W t) ∧ Step R R' X w w' := by
  have hmm := @run_makeMap Try.prog
  obtain ⟨n0, hn0⟩ : ∃ n, W.now = n := ⟨_, rfl⟩
  have c0 := h.c0
  have H := Lib.hid h
  have h1' := h1
  rw [hn0] at c0 h1
  obtain ⟨id, when, iv, ord⟩ := t
  simp only at h1 h2
  unfold tmV
  simp only
  clear h h1'
  have hX : X < w.heap.size := H.out.foot_lt (Or.inl rfl)
  have qT : ∀ (w : World) (r : Option Nat), (binOp .eql 138 (.map r) (.map none)).run Try.prog w = .ok (.bool r.isNone) w := fun w r => run_eql_map_nil w _ _ _ r Try.underlying138
  go_enter Try.func55, Try.ntmps55
  go_wp2
  obtain ⟨w1, hw1⟩ : ∃ w1, w.alloc (.cells #[.int .i64 id, .int .i64 when, .int .i64 iv, .int .i64 ord] 129) = w1 := ⟨_, rfl⟩
  have hb1 : Below w.heap.size w w1 := by rw [← hw1]; exact (Below.refl _ _).alloc (Nat.le_refl _) _
  have hs1 : w1.heap.size = w.heap.size + 1 := by rw [← hw1]; simp
  have hB : w1.heap[w.heap.size]? = some (.cells #[.int .i64 id, .int .i64 when, .int .i64 iv, .int .i64 ord] 129 (0, 0)) := by rw [← hw1]; exact heap_alloc_new _ _
  rw [hw1]
  have hc0 : w1.cell? ⟨X, 0, none⟩ = some (.int .i64 n0) := (World.cell?_of_block (hb1.block X hX)).trans c0
  have hc1 : w1.cell? ⟨w.heap.size, 1, none⟩ = some (.int .i64 when) := by simp [World.cell?, hB]
  clear c0 hw1
  go_loopw [4, 5] (fun k s wr => ∃ kk : Nat, kk ≤ 6 ∧ k = .int .i64 (kk : Int) ∧ s = .int .i64 (pw kk) ∧ kk ≤ whl (when - n0) ∧ Below w1.heap.size w1 wr) (fun k _ _ => 6 - (intOf k).toNat)
  case atStart => exact ⟨0, by omega, rfl, rfl, Nat.zero_le _, Below.refl _ _⟩
  case round =>
    obtain ⟨kk, hk, rfl, rfl, hwl, hbr⟩ := hrel
    have hcr0 := (hbr.cell (p := ⟨X, 0, none⟩) (by show X < _; omega)).trans hc0
    have hcr1 := (hbr.cell (p := ⟨w.heap.size, 1, none⟩) (by show w.heap.size < _; omega)).trans hc1
    clear hc0 hc1
    obtain ⟨p, hp⟩ : ∃ p, pw kk = p := ⟨_, rfl⟩
    have hpb := pw_le kk hk
    rw [hp] at hpb
    have g1 : IntKind.i64.wrap (when - n0) = when - n0 := IntWalk.i64_in _ (by omega)
    have g2 : IntKind.i64.wrap (p * 64) = p * 64 := IntWalk.i64_in _ (by omega)
    have g3 : IntKind.i64.wrap ((kk : Int) + 1) = (kk : Int) + 1 := IntWalk.i64_in _ (by omega)
    rw [hp]
    by_cases hgo : (kk : Int) < 6 ∧ p * 64 ≤ when - n0
    · obtain ⟨hk6, hd⟩ := hgo
      have HS := Lib.hid (whl_step _ _ (by omega) hwl (by rw [hp]; exact hd))
      have HP := Lib.hid hp
      clear hp hwl
      go_upto_region 3 with (fail)
      go_quiet (fail)
      go_wp2
      go_roundw
      case rel => exact ⟨kk + 1, by omega, by go_num, by rw [pw_step, HP.out], HS.out, hbr.trans (below_drewN _ _ _)⟩
      case measure => simp [intOf]; omega
    · have HS := Lib.hid (show kk = whl (when - n0) from by
        by_cases h6 : (kk : Int) < 6
        · exact whl_end _ _ (by omega) hwl (by rw [hp]; omega)
        · have := whl_le (when - n0); omega)
      have HP := Lib.hid hp
      clear hp hwl
      by_cases hk6 : (kk : Int) < 6
      case' pos =>
        have hd : ¬ p * 64 ≤ when - n0 := fun h => hgo ⟨hk6, h⟩
        clear hgo
        go_upto_region 3 with (fail)
        go_quiet (fail)
        go_upto_region 6 with (fail)
      case' neg =>
        clear hgo
        go_upto_region 3 with (fail)
        go_quiet (fail)
        go_upto_region 6 with (fail)
      all_goals
        obtain ⟨wq, hwq⟩ : ∃ wq, wr.drewN nq = wq := ⟨_, rfl⟩
        have hbq : Below w1.heap.size w1 wq := by rw [← hwq]; exact hbr.trans (below_drewN _ _ _)
        have hcq : wq.cell? ⟨w.heap.size, 1, none⟩ = some (.int .i64 when) := by rw [← hwq]; exact hcr1
        rw [hwq]
        clear hcr0 hcr1 hbr hwq hk6 g1 g2 g3
        obtain ⟨q, hq⟩ : ∃ q, when / p = q := ⟨_, rfl⟩
        obtain ⟨s, hs⟩ : ∃ s : Nat, q % 64 = (s : Int) := ⟨(q % 64).toNat, by omega⟩
        have hs64 : s < 64 := by omega
        have hq0 : 0 ≤ q := by rw [← hq]; exact Int.ediv_nonneg (by omega) (by omega)
        have hqw : q ≤ when := by rw [← hq]; exact Int.ediv_le_self _ (by omega)
        have g1 : Int.tdiv when p = q := by rw [Int.tdiv_eq_ediv_of_nonneg (by omega)]; exact hq
        have g2 : Int.tmod q 64 = (s : Int) := by rw [Int.tmod_eq_emod_of_nonneg hq0]; exact hs
        have g3 : IntKind.i64.wrap q = q := IntWalk.i64_in _ (by omega)
        have g4 : IntKind.i64.wrap (s : Int) = (s : Int) := IntWalk.i64_in _ (by omega)
        have g5 : ¬ p = 0 := by omega
        go_upto_region 7 with (fail)
      all_goals
        clear g1 g2 g3 g4 g5 hcq hpb
        obtain ⟨w2, hw2⟩ : ∃ w2, wq.alloc (.cells #[.int .i64 (kk : Int), .int .i64 (s : Int)] 159) = w2 := ⟨_, rfl⟩
        obtain ⟨P, hP⟩ : ∃ P, wq.heap.size = P := ⟨_, rfl⟩
        have hsq := hbq.size
        have hb2 : Below w1.heap.size w1 w2 := by rw [← hw2]; exact hbq.alloc (by omega) _
        have hP2 : w2.heap[P]? = some (.cells #[.int .i64 (kk : Int), .int .i64 (s : Int)] 159 (0, 0)) := by rw [← hw2, ← hP]; exact heap_alloc_new _ _
        have hB2 := (hb2.block w.heap.size (by omega)).trans hB
        have hs2 : w2.heap.size = P + 1 := by rw [← hw2, ← hP]; simp
        have H2 : WhAt R w2 X W := H.out.below (hb1.trans (hb2.mono (by omega)))
        have hn2 := hb1.trans (hb2.mono (by omega))
        rw [hw2, hP]
        clear hw2 hbq hb1 hb2 hB H
        obtain ⟨i, hi⟩ : ∃ i, kk * 64 + s = i := ⟨_, rfl⟩
        have hi4 : i < 448 := by omega
        have hcs := H2.cs i hi4
        rw [← hi, ← Nat.add_assoc] at hcs
        rw [hi] at hcs
        have hms := H2.ms i hi4
        have hfr := H2.free (2 + kk * 64 + s)
        obtain ⟨o, ho⟩ : ∃ o, R.sl i = o := ⟨_, rfl⟩
        rw [ho] at hcs hms
        have H2 := Lib.hid H2
        have p0 : w2.cell? ⟨P, 0, none⟩ = some (.int .i64 (kk : Int)) := by simp [World.cell?, hP2]
        have p1 : w2.cell? ⟨P, 1, none⟩ = some (.int .i64 (s : Int)) := by simp [World.cell?, hP2]
        have gk : (kk : Int) < 7 := by omega
        have gs : (s : Int) < 64 := by omega
        go_quiet (fail)
        obtain ⟨T0, hT0⟩ : ∃ T, W.sl.getD i [] = T := ⟨_, rfl⟩
        cases o
        case' none =>
          go_upto_region 8 with (fail)
          have hne : ¬ P = X := by omega
          have hne2 : ¬ X = P := by omega
          have ba := fun n => ((below_drewN w2.heap.size w2 n).alloc (Nat.le_refl _) (.map #[] 0))
          have ha1 : ∀ n, ((w2.drewN n).alloc (.map #[] 0)).cell? ⟨X, 2 + kk * 64 + s, none⟩ = some (.map none) := fun n => ((ba n).cell (p := ⟨X, 2 + kk * 64 + s, none⟩) (by show X < _; omega)).trans hcs
          have ha2 : ∀ n, ((w2.drewN n).alloc (.map #[] 0)).frozen? ⟨X, 2 + kk * 64 + s, none⟩ = false := fun n => ((ba n).frozen (p := ⟨X, 2 + kk * 64 + s, none⟩) (by show X < _; omega)).trans hfr
          have ha3 : ∀ n, ((w2.drewN n).alloc (.map #[] 0)).cell? ⟨P, 1, none⟩ = some (.int .i64 (s : Int)) := fun n => ((ba n).cell (p := ⟨P, 1, none⟩) (by show P < _; omega)).trans p1
          go_region_held3 (fun w' => w'.cell? ⟨P, 1, none⟩ = some (.int .i64 (s : Int))) (go_keep) (fail)
          go_upto_region 9 with (fail)
          obtain ⟨w3, hw3⟩ : ∃ w3, ((w2.drewN (nq + 1)).alloc (.map #[] 0)).setCell ⟨X, 2 + kk * 64 + s, none⟩ (.map (some (P + 1))) = w3 := ⟨_, rfl⟩
          have hba : Below w2.heap.size w2 ((w2.drewN (nq + 1)).alloc (.map #[] 0)) := ba _
          have hma : MapI ((w2.drewN (nq + 1)).alloc (.map #[] 0)) (P + 1) [] := by
            have := MapI.made (w2.drewN (nq + 1))
            rwa [show (w2.drewN (nq + 1)).heap.size = P + 1 from hs2] at this
          have hfa : ¬ Foot R X (P + 1) := fun h => by have := H2.out.foot_lt h; omega
          have hse : (R.with i (P + 1)).sl i = some (P + 1) := if_pos rfl
          have hf3 : ∃ R3, WhAt R3 w3 X W ∧ R3.sl i = some (P + 1) ∧ Step R R3 X w w3 := by
            refine ⟨R.with i (P + 1), ?_, hse, ?_⟩
            · have := (H2.out.below hba).newSlot hi4 ho hma hfa
              rw [← hi, ← Nat.add_assoc] at this
              rw [hi] at this
              rw [← hw3]
              exact this
            · rw [← hw3]
              exact ((Step.of_below (hn2.trans (hba.mono hn2.size))).trans (Step.of_cell _)).newSlot (by omega)
          have hB3 : w3.heap[w.heap.size]? = some (.cells #[.int .i64 id, .int .i64 when, .int .i64 iv, .int .i64 ord] 129 (0, 0)) := by
            rw [← hw3]
            exact (Below.heap_setCell _ ⟨X, 2 + kk * 64 + s, none⟩ _ _ (by show w.heap.size ≠ X; omega)).trans ((hba.block _ (by omega)).trans hB2)
          have hP3 : w3.heap[P]? = some (.cells #[.int .i64 (kk : Int), .int .i64 (s : Int)] 159 (0, 0)) := by
            rw [← hw3]
            exact (Below.heap_setCell _ ⟨X, 2 + kk * 64 + s, none⟩ _ _ (by show P ≠ X; omega)).trans ((hba.block _ (by omega)).trans hP2)
          clear hba hma hfa hse
          obtain ⟨r, hr⟩ : ∃ r, P + 1 = r := ⟨_, rfl⟩
          rw [hw3]
          rw [hr] at hf3 ⊢
          clear ha1 ha2 ha3 ba hne hne2 hw3
        case' some r =>
          go_upto_region 9 with (fail)
          obtain ⟨w3, hw3⟩ : ∃ w3, w2.drewN nq = w3 := ⟨_, rfl⟩
          have hB3 : w3.heap[w.heap.size]? = some (.cells #[.int .i64 id, .int .i64 when, .int .i64 iv, .int .i64 ord] 129 (0, 0)) := by rw [← hw3]; exact hB2
          have hP3 : w3.heap[P]? = some (.cells #[.int .i64 (kk : Int), .int .i64 (s : Int)] 159 (0, 0)) := by rw [← hw3]; exact hP2
          have hf3 : ∃ R3, WhAt R3 w3 X W ∧ R3.sl i = some r ∧ Step R R3 X w w3 := ⟨R, by rw [← hw3]; exact H2.out.below (below_drewN _ _ _), ho, by rw [← hw3]; exact Step.of_below (hn2.trans (below_drewN _ _ _))⟩
          rw [hw3]
          clear hw3
      all_goals
        clear hcs hfr ho hms hB2 hP2 hn2 H2 p0 p1
        obtain ⟨R3, H3, hr3, hst3⟩ := hf3
        have hBX : w.heap.size ≠ X := by omega
        have hPX : P ≠ X := by omega
        have q0 : w3.cell? ⟨P, 1, none⟩ = some (.int .i64 (s : Int)) := by simp [World.cell?, hP3]
        have q1 := H3.cs i hi4
        rw [hr3, ← hi, ← Nat.add_assoc] at q1
        have q2 : w3.cell? ⟨w.heap.size, 0, none⟩ = some (.int .i64 id) := by simp [World.cell?, hB3]
        have H3d := H3.below (below_drew _ _)
        have hms3 := H3d.slotAt hi4 hr3
        have hrl := hms3.lt
        obtain ⟨w4, hrun, hm4, hg4, hz4⟩ := run_mapUpdate Try.underlying138 Try.underlying3 hms3 id (.bool true)
        have hrun' : (Instr.mapUpdate 138 (.map (some r)) (.int .i64 id) (.bool true)).run Try.prog (w3.drewN 1) = .ok () w4 := by rw [show w3.drewN 1 = w3.drew from rfl]; exact hrun
        have hrB : w.heap.size ≠ r := fun e => hms3.ne_cells (r := r) hB3 e.symm
        have hrP : P ≠ r := fun e => hms3.ne_cells (r := r) hP3 e.symm
        have hrX : X ≠ r := H3.slot_ne hi4 hr3
        have q0' := grown_cell hg4 (show w3.drew.cell? ⟨P, 1, none⟩ = some (.int .i64 (s : Int)) from q0) hrP
        have q1' := grown_cell hg4 (show w3.drew.cell? ⟨X, 2 + kk * 64 + s, none⟩ = some (.map (some r)) from q1) hrX
        have q2' := grown_cell hg4 (show w3.drew.cell? ⟨w.heap.size, 0, none⟩ = some (.int .i64 id) from q2) hrB
        go_region_held3 (fun w' => w'.cell? ⟨P, 1, none⟩ = some (.int .i64 (s : Int)) ∧ w'.cell? ⟨X, 2 + kk * 64 + s, none⟩ = some (.map (some r)) ∧ w'.cell? ⟨w.heap.size, 0, none⟩ = some (.int .i64 id)) (go_keep) (fail)
        have H4 := H3d.turnS hi4 hr3 (by rw [← mv_put]; exact hm4) hg4
        have hst4 := hst3.trans ((Step.of_below (below_drew _ _)).trans (Step.of_grown hg4 (Foot.slot hi4 hr3)))
        have hlB : w.heap.size < w3.heap.size := (Array.getElem?_eq_some_iff.1 hB3).1
        have hlP : P < w3.heap.size := (Array.getElem?_eq_some_iff.1 hP3).1
        have hB4 := (hg4.block w.heap.size hlB (fun e => hrB (by simpa using e))).trans hB3
        have hP4 := (hg4.block P hlP (fun e => hrP (by simpa using e))).trans hP3
        clear hrun hrun' q0 q1 q2 q0' q1' q2' hB3 hP3 H3d hms3
        go_upto_region 10 with (fail)
        have K4 : w4.drew.cell? ⟨X, 450, none⟩ = some (.map (some R3.rt)) ∧ w4.drew.cell? ⟨X, 451, none⟩ = some (.map (some R3.rp)) ∧ w4.drew.cell? ⟨w.heap.size, 0, none⟩ = some (.int .i64 id) ∧ w4.drew.cell? ⟨w.heap.size, 1, none⟩ = some (.int .i64 when) ∧ w4.drew.cell? ⟨w.heap.size, 2, none⟩ = some (.int .i64 iv) ∧ w4.drew.cell? ⟨w.heap.size, 3, none⟩ = some (.int .i64 ord) ∧ w4.drew.cell? ⟨P, 0, none⟩ = some (.int .i64 (kk : Int)) ∧ w4.drew.cell? ⟨P, 1, none⟩ = some (.int .i64 (s : Int)) := by
          have hB4' : w4.drew.heap[w.heap.size]? = _ := hB4
          have hP4' : w4.drew.heap[P]? = _ := hP4
          refine ⟨H4.ct, H4.cp, ?_, ?_, ?_, ?_, ?_, ?_⟩ <;> simp [World.cell?, hB4', hP4']
        have hBt : w.heap.size ≠ R3.rt := fun e => H4.mt.ne_cells hB4 e.symm
        have hPt : P ≠ R3.rt := fun e => H4.mt.ne_cells hP4 e.symm
        have hBp : w.heap.size ≠ R3.rp := fun e => H4.mp.ne_cells hB4 e.symm
        have hPp : P ≠ R3.rp := fun e => H4.mp.ne_cells hP4 e.symm
        obtain ⟨w5, w6, u5, st5, run5, run6, g5, g6, H6⟩ := (H4.below (below_drew _ _)).entT Try.underlying136 Try.underlying3 Try.zeroValue129 id ⟨id, when, iv, ord⟩
        obtain ⟨w7, w8, u7', st7, run7, run8, g7, g8, H8⟩ := H6.entP Try.underlying137 Try.underlying3 Try.zeroValue159 id ((kk : Int), (s : Int))
        have K5 := keep8 g5 H4.rt_ne hBt hPt K4
        have K6 := keep8 g6 H4.rt_ne hBt hPt K5
        have K7 := keep8 g7 H4.rp_ne hBp hPp K6
        have K8 := keep8 g8 H4.rp_ne hBp hPp K7
        have run5' : (Instr.mapEntry 136 (.map (some R3.rt)) (.int .i64 id)).run Try.prog (w4.drewN 1) = .ok (.tuple #[u5, .int .i64 (st5 : Nat)]) w5 := by rw [show w4.drewN 1 = w4.drew from rfl]; exact run5
        have HH8 := Lib.hid H8
        have hst8 := hst4.trans ((Step.of_below (below_drew _ _)).trans ((Step.of_grown g5 (Or.inr (Or.inl rfl))).trans ((Step.of_grown g6 (Or.inr (Or.inl rfl))).trans ((Step.of_grown g7 (Or.inr (Or.inr (Or.inl rfl)))).trans (Step.of_grown g8 (Or.inr (Or.inr (Or.inl rfl))))))))
        have HST := Lib.hid hst8
        clear H8 hst8 hst4 hst3 H6 H4 H3 g5 g6 g7 g8 hB4 hP4 hm4 hg4 hz4
        unfold tmV at run6
        unfold plV at run8
        simp only at run6 run8
        go_region_held3 (fun w' => w'.cell? ⟨X, 450, none⟩ = some (.map (some R3.rt)) ∧ w'.cell? ⟨X, 451, none⟩ = some (.map (some R3.rp)) ∧ w'.cell? ⟨w.heap.size, 0, none⟩ = some (.int .i64 id) ∧ w'.cell? ⟨w.heap.size, 1, none⟩ = some (.int .i64 when) ∧ w'.cell? ⟨w.heap.size, 2, none⟩ = some (.int .i64 iv) ∧ w'.cell? ⟨w.heap.size, 3, none⟩ = some (.int .i64 ord) ∧ w'.cell? ⟨P, 0, none⟩ = some (.int .i64 (kk : Int)) ∧ w'.cell? ⟨P, 1, none⟩ = some (.int .i64 (s : Int))) (first | exact K4 | exact K5 | exact K6 | exact K7 | exact K8) (fail)
        have eS : slotOf kk when = s := by unfold slotOf; rw [HP.out, hq, hs]; simp
        have eW : putS W ⟨id, when, iv, ord⟩ = { W with sl := W.sl.set i (putA (W.sl.getD i []) id true), tm := putA W.tm id ⟨id, when, iv, ord⟩, pl := putA W.pl id ((kk : Int), (s : Int)) } := by
          unfold putS
          simp only
          rw [hn0, ← HS.out, eS, hi]
        have EW := Lib.hid eW
        clear eW eS hs hq
        go_wp2
        go_end0
        exact ⟨rfl, R3, by rw [EW.out]; exact HH8.out, HST.out⟩
end Go.Proofs.Ytddajaikighjlaa
