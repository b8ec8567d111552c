/- seek. -/
import Derived.Test.YtjnlfibcpkobaaaK
namespace Go.Proofs.Ytjnlfibcpkobaaa
open Go.RowKit Go.Sl Go.Sched

/-- The queue that a worker looks into. -/
def victim (n i : Nat) (choice : Int) : Nat :=
  let v := (choice.tmod ((n : Int) - 1) + (n : Int) - 1).tmod ((n : Int) - 1)
  if (i : Int) ≤ v then v.toNat + 1 else v.toNat
/-- What a worker in Seek does. -/
def sk (s : St) (i : Nat) (choice : Int) : St × Ev :=
  if (s.ws.getD i wk0).q ≠ [] then (runs (upd s i fun k => { k with q := k.q.dropLast }) i ((s.ws.getD i wk0).q.getLastD 0), ⟨1, i, (s.ws.getD i wk0).q.getLastD 0, i⟩)
  else if s.inj ≠ [] then (runs { s with inj := s.inj.tail } i (s.inj.headD 0), ⟨1, i, s.inj.headD 0, -1⟩)
  else if s.ws.length ≤ 1 then (upd s i fun k => { k with ph := 1, lk := 0 }, ⟨4, i, -1, -1⟩)
  else if (s.ws.getD (victim s.ws.length i choice) wk0).q ≠ [] then
    (runs (upd s (victim s.ws.length i choice) fun k => { k with q := k.q.tail }) i ((s.ws.getD (victim s.ws.length i choice) wk0).q.headD 0), ⟨2, i, (s.ws.getD (victim s.ws.length i choice) wk0).q.headD 0, (victim s.ws.length i choice : Nat)⟩)
  else if (s.ws.getD i wk0).lk + 1 = (s.ws.length : Int) - 1 then (upd s i fun k => { k with ph := 1, lk := 0 }, ⟨4, i, -1, -1⟩)
  else (upd s i fun k => { k with lk := k.lk + 1 }, ⟨0, i, -1, -1⟩)

abbrev z38 : Obj := .cells #[.int .i64 0, .int .i64 0, .int .i64 0, .int .i64 0] 38

theorem drop_getD (q : List Int) (m j : Nat) (hm : q.length = m + 1) (hj : j < m) : q.dropLast.getD j 0 = q.getD j 0 := by
  have h1 : j < q.length := by omega
  simp [List.getD, hm, hj]
  rw [List.getElem?_eq_getElem h1]
  rfl

set_option maxRecDepth 100000 in
set_option maxHeartbeats 4000000 in
theorem seek_own {base P g cap : Nat} {qs : List Value} {injV : Value} {s : St} {w : World} (h : OwnSt base P g cap qs injV s w) (i : Nat) (hi : i < s.ws.length) (choice : Int)
    (hq : (s.ws.getD i wk0).q ≠ []) (hq2 : (s.ws.getD i wk0).q.length ≤ 1000000) :
    Calls Try.prog 59 #[.pointer (some ⟨P, 0, none⟩), .int .i64 i, .int .i64 choice] w fun e w' => e = .returned (evV (sk s i choice).2) ∧ (∃ qs' injV', OwnSt base P g cap qs' injV' (sk s i choice).1 w') ∧ Frm base P g w w' := by
  have hb1 : Below w.heap.size w (w.alloc z38) := (Below.refl _ _).alloc (Nat.le_refl _) _
  have hR0 : (w.alloc z38).heap[w.heap.size]? = some (.cells #[.int .i64 0, .int .i64 0, .int .i64 0, .int .i64 0] 38 (0, 0)) := heap_alloc_new _ _
  have h1 := h.below hb1
  obtain ⟨c0, -, -, -⟩ := h1.cells i hi
  obtain ⟨b0, -, -⟩ := h1.boxed
  have hf := h1.free
  have g1 : (i : Int) < (s.ws.length : Int) := by omega
  have g2 : (0 : Int) ≤ (i : Int) := by omega
  obtain ⟨hlP, hlg, hbase⟩ := h.lt
  have hgs : ¬ g = w.heap.size := by omega
  have hgs2 : ¬ w.heap.size = g := by omega
  generalize hC : sk s i choice = C
  have hC2 := hC
  rw [sk, if_pos hq] at hC
  have ht := h1.qu i hi
  rcases ht.1.cases with ⟨hnil, _⟩ | ⟨h0, b, o, cq, hqv, hcell⟩
  · exact absurd hnil hq
  obtain ⟨⟨hnc, hcm⟩, cur, hcur⟩ := ht.2 _ _ _ hqv
  generalize hqq : (s.ws.getD i wk0).q = q at *
  obtain ⟨m, hm⟩ : ∃ m, q.length = m + 1 := ⟨q.length - 1, by omega⟩
  rw [hm] at hqv hcell hnc h0 hq2
  rw [hqv] at c0
  have hlast := hcell m (by omega)
  have hlv : q.getLastD 0 = q.getD m 0 := by
    rw [List.getLastD_eq_getLast?, List.getLast?_eq_getElem?, hm]
    rfl
  rw [hlv] at hC
  have htq : TyI (base ≤ ·) (w.alloc z38) (.slice (some ⟨b, o, none⟩) m cq) q.dropLast := TyI.make (ht.3 _ _ _ hqv) (by simp [hm]) (by omega) hcm hcur (fun j hj => by rw [hcell j (by omega), drop_getD q m j hm hj])
  have o1 := h1.setQ i hi (.slice (some ⟨b, o, none⟩) m cq) q.dropLast htq
  have hR1 := (Below.heap_setCell (w.alloc z38) ⟨g, i * 4, none⟩ (.slice (some ⟨b, o, none⟩) m cq) w.heap.size hgs2).trans hR0
  have O1 := Lib.hid o1.1
  have B1 := Lib.hid ((hb1.frm hbase).trans o1.2)
  have HR := Lib.hid hR1
  have HC := Lib.hid hC
  have HI := Lib.hid hi
  have QQ := Lib.hid hqq
  clear hC hC2 hR0 hR1 o1 htq h h1 hb1 hcell ht hcur hlv hlP hlg hi hq hqq
  generalize q.getD m 0 = t at *
  generalize hnn : s.ws.length = n at b0 g1
  clear hnn
  unfold maxLen at hcm
  go_enter Try.func59, Try.ntmps59
  go_wp2_with fail
  refine (run_calls O1.out i (by rw [upd_len]; exact HI.out) 1 t i).mono ?_
  rintro e w3 ⟨rfl, o3, b3, f3⟩
  obtain rfl := HC.out
  have hR3 := (f3 w.heap.size (by simp) hgs2).trans HR.out
  have O3 := Lib.hid o3
  have B3 := Lib.hid (B1.out.trans ⟨b3, fun k hk _ hg => f3 k hk hg⟩)
  have R3 := Lib.hid hR3
  obtain ⟨s0, s1, s2, s3, sf⟩ := res_facts hR3
  clear o3 b3 f3 hR3 O1 B1 HR c0 hlast hf b0
  unfold evV
  go_wp2
  have o4 := put4_heap (.int .i64 1) (.int .i64 i) (.int .i64 t) (.int .i64 i) R3.out
  have o5 := O3.out.put4 (.int .i64 1) (.int .i64 i) (.int .i64 t) (.int .i64 i) R3.out hbase
  refine bodyPost_ret (results_cell_row rfl _ _ w.heap.size 38 _ (0, 0) _ rfl o4 Try.underlying38 rfl size38) rfl ?_
  have e1 : (upd s i fun k => { k with q := q.dropLast }) = upd s i fun k => { k with q := k.q.dropLast } := by
    simp only [upd, QQ.out]
  rw [e1] at o5
  exact ⟨rfl, ⟨_, _, o5.1⟩, B3.out.put4 hbase _ _ _ _⟩
theorem first_split (q : List Int) (h : q ≠ []) : q = q.headD 0 :: q.tail := by
  cases q with
  | nil => exact absurd rfl h
  | cons _ _ => rfl

set_option maxRecDepth 100000 in
set_option maxHeartbeats 4000000 in
theorem seek_inj {base P g cap : Nat} {qs : List Value} {injV : Value} {s : St} {w : World} (h : OwnSt base P g cap qs injV s w) (i : Nat) (hi : i < s.ws.length) (choice : Int)
    (hq : (s.ws.getD i wk0).q = []) (hj : s.inj ≠ []) :
    Calls Try.prog 59 #[.pointer (some ⟨P, 0, none⟩), .int .i64 i, .int .i64 choice] w fun e w' => e = .returned (evV (sk s i choice).2) ∧ (∃ qs' injV', OwnSt base P g cap qs' injV' (sk s i choice).1 w') ∧ Frm base P g w w' := by
  have hb1 : Below w.heap.size w (w.alloc z38) := (Below.refl _ _).alloc (Nat.le_refl _) _
  have hR0 : (w.alloc z38).heap[w.heap.size]? = some (.cells #[.int .i64 0, .int .i64 0, .int .i64 0, .int .i64 0] 38 (0, 0)) := heap_alloc_new _ _
  have h1 := h.below hb1
  obtain ⟨c0, -, -, -⟩ := h1.cells i hi
  obtain ⟨b0, b1, bf⟩ := h1.boxed
  have g1 : (i : Int) < (s.ws.length : Int) := by omega
  have g2 : (0 : Int) ≤ (i : Int) := by omega
  obtain ⟨hlP, hlg, hbase⟩ := h.lt
  have hgs2 : ¬ w.heap.size = g := by omega
  have hPs2 : ¬ w.heap.size = P := by omega
  generalize hC : sk s i choice = C
  rw [sk, if_neg (fun hne => hne hq), if_pos hj] at hC
  obtain ⟨a, c, hqv⟩ := (h1.qu i hi).1.form
  rw [hq] at hqv
  rw [hqv] at c0
  obtain ⟨aj, cj, hjv⟩ := h1.inj.1.form
  have hlen : 0 < s.inj.length := List.length_pos_iff.2 hj
  have ht : TyI (base ≤ ·) (w.alloc z38) injV (s.inj.headD 0 :: s.inj.tail) := by rw [← first_split s.inj hj]; exact h1.inj
  generalize s.inj.headD 0 = t at *
  have hfc := first_calls P 1 injV t s.inj.tail (w.alloc z38) b1 (bf 1) ht
  rw [hjv] at b1
  have HC := Lib.hid hC
  have HI := Lib.hid hi
  have H1 := Lib.hid h1
  have HB := Lib.hid (hb1.frm (P := P) (g := g) hbase)
  have HR := Lib.hid hR0
  have HF := Lib.hid hfc
  clear hC hR0 h h1 hb1 ht hlP hlg hi hq hfc hj hjv
  generalize hnn : s.ws.length = n at b0 g1
  generalize s.inj.length = lj at b1 hlen
  clear hnn
  go_enter Try.func59, Try.ntmps59
  go_wp2_with fail
  refine HF.out.mono ?_
  rintro e w2 ⟨rfl, v', rfl, htv⟩
  have o1 := H1.out.setInj v' s.inj.tail htv
  have hR1 := (Below.heap_setCell (w.alloc z38) ⟨P, 1, none⟩ v' w.heap.size hPs2).trans HR.out
  have O1 := Lib.hid o1.1
  have B1 := Lib.hid (HB.out.trans o1.2)
  have R1 := Lib.hid hR1
  clear o1 hR1 htv b0 b1 bf c0 H1 HB HR HF
  go_wp2_with fail
  refine (run_calls O1.out i HI.out 1 t (-1)).mono ?_
  rintro e w3 ⟨rfl, o3, b3, f3⟩
  obtain rfl := HC.out
  have hR3 := (f3 w.heap.size (by simp) hgs2).trans R1.out
  have O3 := Lib.hid o3
  have B3 := Lib.hid (B1.out.trans ⟨b3, fun k hk _ hg => f3 k hk hg⟩)
  have R3 := Lib.hid hR3
  obtain ⟨s0, s1, s2, s3, sf⟩ := res_facts hR3
  clear o3 b3 f3 hR3 O1 B1 R1
  unfold evV
  go_wp2
  have o4 := put4_heap (.int .i64 1) (.int .i64 i) (.int .i64 t) (.int .i64 (-1)) R3.out
  have o5 := O3.out.put4 (.int .i64 1) (.int .i64 i) (.int .i64 t) (.int .i64 (-1)) R3.out hbase
  refine bodyPost_ret (results_cell_row rfl _ _ w.heap.size 38 _ (0, 0) _ rfl o4 Try.underlying38 rfl size38) rfl ?_
  exact ⟨rfl, ⟨_, _, o5.1⟩, B3.out.put4 hbase _ _ _ _⟩
end Go.Proofs.Ytjnlfibcpkobaaa
