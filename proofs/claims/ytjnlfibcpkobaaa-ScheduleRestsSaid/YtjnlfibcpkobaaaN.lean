/- seek: looking on. -/
import Derived.Test.YtjnlfibcpkobaaaM
namespace Go.Proofs.Ytjnlfibcpkobaaa
open Go.RowKit Go.Sl Go.Sched

set_option maxRecDepth 100000 in
set_option maxHeartbeats 4000000 in
theorem seek_look {base P g cap : Nat} {qs : List Value} {injV : Value} {s : St} {w : World} (h : OwnSt base P g cap qs injV s w) (i : Nat) (hi : i < s.ws.length) (choice : Int)
    (hq : (s.ws.getD i wk0).q = []) (hj : s.inj = []) (h2w : 2 ≤ s.ws.length) (hn : s.ws.length ≤ 1000) (hv : (s.ws.getD (victim s.ws.length i choice) wk0).q = []) (l : Nat) (hl : (s.ws.getD i wk0).lk = l) (hl2 : l ≤ s.ws.length) :
    Calls Try.prog 59 #[.pointer (some ⟨P, 0, none⟩), .int .i64 i, .int .i64 choice] w fun e w' => e = .returned (evV (sk s i choice).2) ∧ (∃ qs' injV', OwnSt base P g cap qs' injV' (sk s i choice).1 w') ∧ Frm base P g w w' := by
  have hb1 : Below w.heap.size w (w.alloc z38) := (Below.refl _ _).alloc (Nat.le_refl _) _
  have hR0 : (w.alloc z38).heap[w.heap.size]? = some (.cells #[.int .i64 0, .int .i64 0, .int .i64 0, .int .i64 0] 38 (0, 0)) := heap_alloc_new _ _
  have h1 := h.below hb1
  obtain ⟨c0, c1, -, c3⟩ := h1.cells i hi
  rw [hl] at c3
  obtain ⟨b0, b1, -⟩ := h1.boxed
  obtain ⟨x, y, hx, hx1, hx2, hy, hy1, hy2, hv1, hv2, hvn⟩ := victim_bounds s.ws.length i choice h2w
  generalize hC : sk s i choice = C
  rw [sk, if_neg (fun hne => hne hq), if_neg (fun hne => hne hj), if_neg (by omega), if_neg (fun hne => hne hv), hl] at hC
  generalize victim s.ws.length i choice = v at *
  obtain ⟨d0, -, -, -⟩ := h1.cells v hvn
  have hf := h1.free
  have g1 : (i : Int) < (s.ws.length : Int) := by omega
  have g2 : (0 : Int) ≤ (i : Int) := by omega
  have g3 : (1 : Int) < (s.ws.length : Int) := by omega
  obtain ⟨hlP, hlg, hbase⟩ := h.lt
  have hgs2 : ¬ w.heap.size = g := by omega
  obtain ⟨a, c, hqv⟩ := (h1.qu i hi).1.form
  rw [hq] at hqv
  rw [hqv] at c0
  obtain ⟨aj, cj, hjv⟩ := h1.inj.1.form
  rw [hj] at hjv
  rw [hjv] at b1
  simp only [List.length_nil] at c0 b1
  obtain ⟨av, cv, hvv⟩ := (h1.qu v hvn).1.form
  rw [hv] at hvv
  rw [hvv] at d0
  simp only [List.length_nil] at d0
  have hgs : ¬ g = w.heap.size := by omega
  have o := h1.setLk i hi ((l : Int) + 1)
  have e1 : (upd s i fun k => { k with lk := (l : Int) + 1 }) = upd s i fun k => { k with lk := k.lk + 1 } := by
    simp only [upd, hl]
  rw [e1] at o
  have o2 := o.1.two i (by rw [upd_len]; exact hi) 1 0
  have e2 : upd (upd s i fun k => { k with lk := k.lk + 1 }) i (fun k => { k with ph := 1, lk := 0 }) = upd s i fun k => { k with ph := 1, lk := 0 } := by
    simp [upd, hi]
  rw [e2] at o2
  have hR1 := (Below.heap_setCell (w.alloc z38) ⟨g, i * 4 + 3, none⟩ (.int .i64 ((l : Int) + 1)) w.heap.size hgs2).trans hR0
  have hR2 := (Below.heap_setCell _ ⟨g, i * 4 + 3, none⟩ (.int .i64 0) _ hgs2).trans ((Below.heap_setCell _ ⟨g, i * 4 + 1, none⟩ (.int .i64 1) _ hgs2).trans hR1)
  have HC := Lib.hid hC
  have O1 := Lib.hid o.1
  have B1 := Lib.hid ((hb1.frm hbase).trans o.2)
  have O2 := Lib.hid o2.1
  have B2 := Lib.hid (((hb1.frm hbase).trans o.2).trans o2.2)
  have R1 := Lib.hid hR1
  have R2 := Lib.hid hR2
  have NN := Lib.hid (rfl : s.ws.length = s.ws.length)
  clear hC hR0 h h1 hb1 hlP hlg hi hq hj hjv hqv hvv hv o o2 hR1 hR2 e1 e2 hl
  generalize (s.ws.getD i wk0).ph = ph at *
  generalize hnn : s.ws.length = n at b0 g1 g3 hx hx1 hx2 hy hy2 hvn h2w hn hl2
  replace NN := Lib.hid hnn
  clear hnn
  have gm : (n : Int) - 1 ≠ 0 := by omega
  obtain ⟨m, rfl⟩ : ∃ m : Nat, y = m := ⟨y.toNat, by omega⟩
  by_cases hle : (i : Int) ≤ (m : Int)
  case' pos => obtain rfl : v = m + 1 := by have := hv1 hle; omega
  case' neg => obtain rfl : m = v := by have := hv2 hle; omega
  all_goals
    clear hv1 hv2
    have gn1 : ¬ ((n : Int) = 1) := by omega
    have gn2 : ((n : Int) == 1) = false := by simpa using gn1
    by_cases he : (l : Int) + 1 = (n : Int) - 1
    · have he2 : ((l : Int) + 1 == (n : Int) - 1) = true := by simpa using he
      rw [he] at R2 O2 B2
      replace HC := Lib.hid (HC.out.symm.trans (if_pos (by rw [NN.out]; exact he)))
      go_enter Try.func59, Try.ntmps59
      go_wp2_with fail
      refine (quiet_calls _ _ _).mono ?_
      rintro e w8 ⟨rfl, hb8⟩
      obtain rfl := HC.out
      have hR8 := (hb8.block w.heap.size (by simp)).trans R2.out
      obtain ⟨s0, s1, s2, s3, sf⟩ := res_facts hR8
      have O8 := Lib.hid (O2.out.below hb8)
      have B8 := Lib.hid (B2.out.trans (hb8.frm O2.out.lt.2.2))
      have R8 := Lib.hid hR8
      clear hb8 hR8 O1 B1 R1 O2 B2 R2 c0 c1 c3 b0 b1 hf d0
      unfold evV
      go_wp2
      have o4 := put4_heap (.int .i64 4) (.int .i64 i) (.int .i64 (-1)) (.int .i64 (-1)) R8.out
      have o5 := O8.out.put4 (.int .i64 4) (.int .i64 i) (.int .i64 (-1)) (.int .i64 (-1)) R8.out hbase
      refine bodyPost_ret (results_cell_row rfl _ _ w.heap.size 38 _ (0, 0) _ rfl o4 Try.underlying38 rfl size38) rfl ?_
      exact ⟨rfl, ⟨_, _, o5.1⟩, B8.out.put4 hbase _ _ _ _⟩
    · have he2 : ((l : Int) + 1 == (n : Int) - 1) = false := by simpa using he
      replace HC := Lib.hid (HC.out.symm.trans (if_neg (by rw [NN.out]; exact he)))
      go_enter Try.func59, Try.ntmps59
      go_wp2_with fail
      refine (quiet_calls _ _ _).mono ?_
      rintro e w8 ⟨rfl, hb8⟩
      obtain rfl := HC.out
      have hR8 := (hb8.block w.heap.size (by simp)).trans R1.out
      obtain ⟨s0, s1, s2, s3, sf⟩ := res_facts hR8
      have O8 := Lib.hid (O1.out.below hb8)
      have B8 := Lib.hid (B1.out.trans (hb8.frm O1.out.lt.2.2))
      have R8 := Lib.hid hR8
      clear hb8 hR8 O1 B1 R1 O2 B2 R2 c0 c1 c3 b0 b1 hf d0
      unfold evV
      go_wp2
      have o4 := put4_heap (.int .i64 0) (.int .i64 i) (.int .i64 (-1)) (.int .i64 (-1)) R8.out
      have o5 := O8.out.put4 (.int .i64 0) (.int .i64 i) (.int .i64 (-1)) (.int .i64 (-1)) R8.out hbase
      refine bodyPost_ret (results_cell_row rfl _ _ w.heap.size 38 _ (0, 0) _ rfl o4 Try.underlying38 rfl size38) rfl ?_
      exact ⟨rfl, ⟨_, _, o5.1⟩, B8.out.put4 hbase _ _ _ _⟩
end Go.Proofs.Ytjnlfibcpkobaaa
