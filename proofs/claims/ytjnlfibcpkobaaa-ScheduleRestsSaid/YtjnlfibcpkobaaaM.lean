/- seek: alone, stealing, looking on. -/
import Derived.Test.YtjnlfibcpkobaaaL
namespace Go.Proofs.Ytjnlfibcpkobaaa
open Go.RowKit Go.Sl Go.Sched

set_option maxRecDepth 100000 in
set_option maxHeartbeats 4000000 in
theorem seek_one {base P g cap : Nat} {qs : List Value} {injV : Value} {s : St} {w : World} (h : OwnSt base P g cap qs injV s w) (i : Nat) (hi : i < s.ws.length) (choice : Int)
    (hq : (s.ws.getD i wk0).q = []) (hj : s.inj = []) (h1w : s.ws.length = 1) :
    Calls Try.prog 59 #[.pointer (some ⟨P, 0, none⟩), .int .i64 i, .int .i64 choice] w fun e w' => e = .returned (evV (sk s i choice).2) ∧ (∃ qs' injV', OwnSt base P g cap qs' injV' (sk s i choice).1 w') ∧ Frm base P g w w' := by
  have hb1 : Below w.heap.size w (w.alloc z38) := (Below.refl _ _).alloc (Nat.le_refl _) _
  have hR0 : (w.alloc z38).heap[w.heap.size]? = some (.cells #[.int .i64 0, .int .i64 0, .int .i64 0, .int .i64 0] 38 (0, 0)) := heap_alloc_new _ _
  have h1 := h.below hb1
  obtain ⟨c0, c1, -, c3⟩ := h1.cells i hi
  obtain ⟨b0, b1, -⟩ := h1.boxed
  have hf := h1.free
  have g1 : (i : Int) < 1 := by omega
  have g2 : (0 : Int) ≤ (i : Int) := by omega
  obtain ⟨hlP, hlg, hbase⟩ := h.lt
  have hgs : ¬ g = w.heap.size := by omega
  have hgs2 : ¬ w.heap.size = g := by omega
  generalize hC : sk s i choice = C
  rw [sk, if_neg (fun hne => hne hq), if_neg (fun hne => hne hj), if_pos (by omega)] at hC
  obtain ⟨a, c, hqv⟩ := (h1.qu i hi).1.form
  rw [hq] at hqv
  rw [hqv] at c0
  obtain ⟨aj, cj, hjv⟩ := h1.inj.1.form
  rw [hj] at hjv
  rw [hjv] at b1
  rw [h1w] at b0
  simp only [List.length_nil] at c0 b1
  have o := h1.two i hi 1 0
  have hR1 := (Below.heap_setCell _ ⟨g, i * 4 + 3, none⟩ (.int .i64 0) _ hgs2).trans ((Below.heap_setCell _ ⟨g, i * 4 + 1, none⟩ (.int .i64 1) _ hgs2).trans hR0)
  have HC := Lib.hid hC
  have O1 := Lib.hid o.1
  have B1 := Lib.hid ((hb1.frm hbase).trans o.2)
  have R1 := Lib.hid hR1
  clear hC hR0 h h1 hb1 hlP hlg hi hq hj hjv hqv o hR1 h1w
  generalize (s.ws.getD i wk0).ph = ph at *
  generalize (s.ws.getD i wk0).lk = lk at *
  go_enter Try.func59, Try.ntmps59
  go_wp2_with fail
  refine (quiet_calls _ _ _).mono ?_
  rintro e w8 ⟨rfl, hb8⟩
  obtain rfl := HC.out
  have hR8 := (hb8.block w.heap.size (by simp)).trans R1.out
  obtain ⟨s0, s1, s2, s3, sf⟩ := res_facts hR8
  have O8 := Lib.hid (O1.out.below hb8)
  have B8 := Lib.hid (B1.out.trans (hb8.frm O1.out.lt.2.2))
  have R8 := Lib.hid hR8
  clear hb8 hR8 O1 B1 R1 c0 c1 c3 b0 b1 hf
  unfold evV
  go_wp2
  have o4 := put4_heap (.int .i64 4) (.int .i64 i) (.int .i64 (-1)) (.int .i64 (-1)) R8.out
  have o5 := O8.out.put4 (.int .i64 4) (.int .i64 i) (.int .i64 (-1)) (.int .i64 (-1)) R8.out hbase
  refine bodyPost_ret (results_cell_row rfl _ _ w.heap.size 38 _ (0, 0) _ rfl o4 Try.underlying38 rfl size38) rfl ?_
  exact ⟨rfl, ⟨_, _, o5.1⟩, B8.out.put4 hbase _ _ _ _⟩

theorem victim_bounds (n i : Nat) (choice : Int) (hn : 2 ≤ n) :
    ∃ x y : Int, choice.tmod ((n : Int) - 1) = x ∧ -((n : Int) - 1) < x ∧ x < (n : Int) - 1 ∧ (x + (n : Int) - 1).tmod ((n : Int) - 1) = y ∧ 0 ≤ y ∧ y < (n : Int) - 1 ∧
      ((i : Int) ≤ y → (victim n i choice : Int) = y + 1) ∧ (¬ (i : Int) ≤ y → (victim n i choice : Int) = y) ∧ victim n i choice < n := by
  have hp : (0 : Int) < (n : Int) - 1 := by omega
  have b1 := Int.tmod_lt_of_pos choice hp
  have b2 : -((n : Int) - 1) < choice.tmod ((n : Int) - 1) := by
    rcases Int.le_total 0 choice with h | h
    · have := Int.tmod_nonneg ((n : Int) - 1) h
      omega
    · have h2 := Int.tmod_lt_of_pos (-choice) hp
      rw [Int.neg_tmod] at h2
      omega
  have b3 := Int.tmod_nonneg ((n : Int) - 1) (a := choice.tmod ((n : Int) - 1) + (n : Int) - 1) (by omega)
  have b4 := Int.tmod_lt_of_pos (choice.tmod ((n : Int) - 1) + (n : Int) - 1) hp
  refine ⟨_, _, rfl, b2, b1, rfl, b3, b4, ?_, ?_, ?_⟩
  · intro hle
    unfold victim
    simp only [if_pos hle]
    omega
  · intro hle
    unfold victim
    simp only [if_neg hle]
    omega
  · unfold victim
    dsimp only
    split <;> omega
set_option maxRecDepth 100000 in
set_option maxHeartbeats 4000000 in
theorem seek_steal {base P g cap : Nat} {qs : List Value} {injV : Value} {s : St} {w : World} (h : OwnSt base P g cap qs injV s w) (i : Nat) (hi : i < s.ws.length) (choice : Int)
    (hq : (s.ws.getD i wk0).q = []) (hj : s.inj = []) (h2w : 2 ≤ s.ws.length) (hn : s.ws.length ≤ 1000) (hv : (s.ws.getD (victim s.ws.length i choice) wk0).q ≠ []) :
    Calls Try.prog 59 #[.pointer (some ⟨P, 0, none⟩), .int .i64 i, .int .i64 choice] w fun e w' => e = .returned (evV (sk s i choice).2) ∧ (∃ qs' injV', OwnSt base P g cap qs' injV' (sk s i choice).1 w') ∧ Frm base P g w w' := by
  have hb1 : Below w.heap.size w (w.alloc z38) := (Below.refl _ _).alloc (Nat.le_refl _) _
  have hR0 : (w.alloc z38).heap[w.heap.size]? = some (.cells #[.int .i64 0, .int .i64 0, .int .i64 0, .int .i64 0] 38 (0, 0)) := heap_alloc_new _ _
  have h1 := h.below hb1
  obtain ⟨c0, -, -, -⟩ := h1.cells i hi
  obtain ⟨b0, b1, -⟩ := h1.boxed
  obtain ⟨x, y, hx, hx1, hx2, hy, hy1, hy2, hv1, hv2, hvn⟩ := victim_bounds s.ws.length i choice h2w
  generalize hC : sk s i choice = C
  rw [sk, if_neg (fun hne => hne hq), if_neg (fun hne => hne hj), if_neg (by omega), if_pos hv] at hC
  generalize victim s.ws.length i choice = v at *
  obtain ⟨d0, -, -, -⟩ := h1.cells v hvn
  have hf := h1.free
  have g1 : (i : Int) < (s.ws.length : Int) := by omega
  have g2 : (0 : Int) ≤ (i : Int) := by omega
  have g3 : (1 : Int) < (s.ws.length : Int) := by omega
  obtain ⟨hlP, hlg, hbase⟩ := h.lt
  have hgs2 : ¬ w.heap.size = g := by omega
  obtain ⟨a, c, hqv⟩ := (h1.qu i hi).1.form
  rw [hq] at hqv
  rw [hqv] at c0
  obtain ⟨aj, cj, hjv⟩ := h1.inj.1.form
  rw [hj] at hjv
  rw [hjv] at b1
  simp only [List.length_nil] at c0 b1
  obtain ⟨av, cv, hvv⟩ := (h1.qu v hvn).1.form
  have hlen : 0 < (s.ws.getD v wk0).q.length := List.length_pos_iff.2 hv
  have ht : TyI (base ≤ ·) (w.alloc z38) (qs.getD v undef) ((s.ws.getD v wk0).q.headD 0 :: (s.ws.getD v wk0).q.tail) := by rw [← first_split _ hv]; exact h1.qu v hvn
  generalize (s.ws.getD v wk0).q.headD 0 = t at *
  have hfc := first_calls g (v * 4) _ t (s.ws.getD v wk0).q.tail (w.alloc z38) d0 (hf _) ht
  rw [hvv] at d0
  generalize (s.ws.getD v wk0).q.length = lv at d0 hlen
  have HC := Lib.hid hC
  have HI := Lib.hid hi
  have HV := Lib.hid hvn
  have H1 := Lib.hid h1
  have HB := Lib.hid (hb1.frm (P := P) (g := g) hbase)
  have HR := Lib.hid hR0
  have HF := Lib.hid hfc
  have HRV := Lib.hid (fun u => (Below.heap_setCell (w.alloc z38) ⟨g, v * 4, none⟩ u w.heap.size hgs2).trans hR0)
  clear hC hR0 h h1 hb1 ht hlP hlg hi hq hfc hj hjv hqv hvv hv
  generalize hnn : s.ws.length = n at b0 g1 g3 hx hx1 hx2 hy hy2 hvn h2w hn
  clear hnn
  have gm : (n : Int) - 1 ≠ 0 := by omega
  obtain ⟨m, rfl⟩ : ∃ m : Nat, y = m := ⟨y.toNat, by omega⟩
  by_cases hle : (i : Int) ≤ (m : Int)
  case' pos => obtain rfl : v = m + 1 := by have := hv1 hle; omega
  case' neg => obtain rfl : m = v := by have := hv2 hle; omega
  all_goals
    clear hv1 hv2
    go_enter Try.func59, Try.ntmps59
    go_wp2_with fail
    refine HF.out.mono ?_
    rintro e w2 ⟨rfl, v', rfl, htv⟩
    have o1 := H1.out.setQ _ HV.out v' _ htv
    have hR1 := HRV.out v'
    have O1 := Lib.hid o1.1
    have B1 := Lib.hid (HB.out.trans o1.2)
    have R1 := Lib.hid hR1
    clear o1 hR1 htv b0 b1 c0 d0 H1 HB HR HF HRV hf
    go_wp2_with fail
    refine (run_calls O1.out i (by rw [upd_len]; exact HI.out) 2 t _).mono ?_
    rintro e w3 ⟨rfl, o3, b3, f3⟩
    obtain rfl := HC.out
    have hR3 := (f3 w.heap.size (by simp) hgs2).trans R1.out
    have O3 := Lib.hid o3
    have B3 := Lib.hid (B1.out.trans ⟨b3, fun k hk _ hg => f3 k hk hg⟩)
    have R3 := Lib.hid hR3
    obtain ⟨s0, s1, s2, s3, sf⟩ := res_facts hR3
    clear o3 b3 f3 hR3 O1 B1 R1
    unfold evV
    go_wp2
    have o4 := fun z => put4_heap (.int .i64 2) (.int .i64 i) (.int .i64 t) z R3.out
    have o5 := fun z => O3.out.put4 (.int .i64 2) (.int .i64 i) (.int .i64 t) z R3.out hbase
    refine bodyPost_ret (results_cell_row rfl _ _ w.heap.size 38 _ (0, 0) _ rfl (o4 _) Try.underlying38 rfl size38) rfl ?_
    exact ⟨rfl, ⟨_, _, (o5 _).1⟩, B3.out.put4 hbase _ _ _ _⟩
end Go.Proofs.Ytjnlfibcpkobaaa
