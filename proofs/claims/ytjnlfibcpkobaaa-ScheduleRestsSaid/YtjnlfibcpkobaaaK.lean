/- check, idle. -/
import Derived.Test.YtjnlfibcpkobaaaJ
import Derived.Deep.RegionHeld3
namespace Go.Proofs.Ytjnlfibcpkobaaa
open Go.RowKit Go.Sl Go.Sched

set_option maxRecDepth 100000 in
set_option maxHeartbeats 2000000 in
theorem idle_calls (P : Value) (i : Int) (choice : Int) (w : World) :
    Calls Try.prog 61 #[P, .int .i64 i, .int .i64 choice] w fun e w' => e = .returned (evV ⟨0, i, -1, -1⟩) ∧ Below w.heap.size w w' := by
  have hb1 : Below w.heap.size w (w.alloc (.cells #[.int .i64 0, .int .i64 0, .int .i64 0, .int .i64 0] 38)) := (Below.refl _ _).alloc (Nat.le_refl _) _
  have hR0 : (w.alloc (.cells #[.int .i64 0, .int .i64 0, .int .i64 0, .int .i64 0] 38)).heap[w.heap.size]? = some (.cells #[.int .i64 0, .int .i64 0, .int .i64 0, .int .i64 0] 38 (0, 0)) := heap_alloc_new _ _
  go_enter Try.func61, Try.ntmps61
  go_wp2_with fail
  refine (quiet_calls 0 i _).mono ?_
  rintro e w1 ⟨rfl, hb2⟩
  have hR1 : w1.heap[w.heap.size]? = some (.cells #[.int .i64 0, .int .i64 0, .int .i64 0, .int .i64 0] 38 (0, 0)) := by
    rw [hb2.block _ (by simp)]; exact hR0
  have hs : ∀ j, j < 4 → w1.cell? ⟨w.heap.size, j, none⟩ = some (.int .i64 0) := by
    intro j hj
    simp only [World.cell?, hR1]
    match j, hj with
    | 0, _ => rfl
    | 1, _ => rfl
    | 2, _ => rfl
    | 3, _ => rfl
  have s0 := hs 0 (by decide)
  have s1 := hs 1 (by decide)
  have s2 := hs 2 (by decide)
  have s3 := hs 3 (by decide)
  have sf : ∀ j, w1.frozen? ⟨w.heap.size, j, none⟩ = false := fun j => by simp [World.frozen?, hR1]
  have H := Lib.hid hR1
  have HB := Lib.hid (hb1.then hb2)
  clear hR0 hR1 hb1 hb2 hs
  unfold evV
  go_wp2
  have o4 := put4_heap (.int .i64 0) (.int .i64 i) (.int .i64 (-1)) (.int .i64 (-1)) H.out
  refine bodyPost_ret (results_cell_row rfl _ _ w.heap.size 38 _ (0, 0) _ rfl o4 Try.underlying38 rfl size38) rfl ?_
  exact ⟨rfl, (((HB.out.setCell (Nat.le_refl _) _).setCell (Nat.le_refl _) _).setCell (Nat.le_refl _) _).setCell (Nat.le_refl _) _⟩
theorem res_facts {W : World} {R : Nat} {a b c d : Value} (hR : W.heap[R]? = some (.cells #[a, b, c, d] 38 (0, 0))) :
    W.cell? ⟨R, 0, none⟩ = some a ∧ W.cell? ⟨R, 1, none⟩ = some b ∧ W.cell? ⟨R, 2, none⟩ = some c ∧ W.cell? ⟨R, 3, none⟩ = some d ∧ ∀ j, W.frozen? ⟨R, j, none⟩ = false := by
  refine ⟨?_, ?_, ?_, ?_, fun j => ?_⟩
  · simp [World.cell?, hR]
  · simp [World.cell?, hR]
  · simp [World.cell?, hR]
  · simp [World.cell?, hR]
  · simp [World.frozen?, hR]

/-- What a worker in Check does. -/
def chk (s : St) (i : Nat) : St × Ev :=
  if (Sched.queue s (s.ws.getD i wk0).lk.toNat).isEmpty = false then (upd s i fun k => { k with ph := 0, lk := 0 }, ⟨5, i, -1, -1⟩)
  else if (s.ws.getD i wk0).lk = s.ws.length then (upd s i fun k => { k with ph := 2, lk := 0 }, ⟨6, i, -1, -1⟩)
  else (upd s i fun k => { k with lk := k.lk + 1 }, ⟨0, i, -1, -1⟩)

set_option maxRecDepth 100000 in
set_option maxHeartbeats 2000000 in
theorem check_calls {base P g cap : Nat} {qs : List Value} {injV : Value} {s : St} {w : World} (h : OwnSt base P g cap qs injV s w) (i : Nat) (hi : i < s.ws.length) (hn : s.ws.length ≤ 1000) (l : Nat) (hl : (s.ws.getD i wk0).lk = l) (hl2 : l ≤ s.ws.length) (choice : Int) :
    Calls Try.prog 60 #[.pointer (some ⟨P, 0, none⟩), .int .i64 i, .int .i64 choice] w fun e w' => e = .returned (evV (chk s i).2) ∧ OwnSt base P g cap qs injV (chk s i).1 w' ∧ Frm base P g w w' := by
  have hb1 : Below w.heap.size w (w.alloc (.cells #[.int .i64 0, .int .i64 0, .int .i64 0, .int .i64 0] 38)) := (Below.refl _ _).alloc (Nat.le_refl _) _
  have hR0 : (w.alloc (.cells #[.int .i64 0, .int .i64 0, .int .i64 0, .int .i64 0] 38)).heap[w.heap.size]? = some (.cells #[.int .i64 0, .int .i64 0, .int .i64 0, .int .i64 0] 38 (0, 0)) := heap_alloc_new _ _
  have h1 := h.below hb1
  obtain ⟨-, c1, -, c3⟩ := h1.cells i hi
  obtain ⟨b0, b1, -⟩ := h1.boxed
  have hq := queue_calls _ _ _ s l (w.alloc (.cells #[.int .i64 0, .int .i64 0, .int .i64 0, .int .i64 0] 38)).drew (h1.below (Below.refl _ _).drew).stV hl2 (by omega)
  have g1 : (i : Int) < (s.ws.length : Int) := by omega
  have g2 : (0 : Int) ≤ (i : Int) := by omega
  obtain ⟨hlP, hlg, hbase⟩ := h.lt
  have hgs : ¬ g = w.heap.size := by omega
  have hgs2 : ¬ w.heap.size = g := by omega
  generalize hC : chk s i = C
  unfold chk at hC
  rw [hl] at hC c3
  rw [Int.toNat_natCast] at hC
  have HC := Lib.hid hC
  have HI := Lib.hid hi
  have H1 := Lib.hid h1
  have HB := Lib.hid hb1
  have HR := Lib.hid hR0
  clear h h1 hb1 hC hR0 hi hlP hlg
  generalize hnn : s.ws.length = n at b0 g1 hn hl2 hq
  have NN := Lib.hid hnn
  clear hnn
  generalize (s.ws.getD i wk0).ph = ph at *
  go_enter Try.func60, Try.ntmps60
  go_wp2_with fail
  go_region_held3 (fun w' => w'.cell? ⟨P, 0, none⟩ = some (.slice (some ⟨g, 0, none⟩) n cap) ∧ w'.cell? ⟨P, 1, none⟩ = some injV ∧ w'.cell? ⟨g, i * 4 + 3, none⟩ = some (.int .i64 (l : Int))) (first | go_keep | (refine ⟨?_, ?_, ?_⟩ <;> (apply Below.at_cell hb7; assumption)))
    ((go_at_call 54; refine hq.mono ?_; rintro e w7 ⟨⟨v7, rfl, hq7⟩, hb7⟩; obtain ⟨a7, c7, rfl⟩ := hq7.form))
  rename_i hHeld
  clear hHeld hq b0 b1 c1 c3
  replace hb7 := ((Below.refl _ _).drew).then hb7
  have h7 := H1.out.below hb7
  have hR7 := (hb7.block w.heap.size (by simp)).trans HR.out
  replace hb7 := (HB.out.then hb7).frm (P := P) (g := g) hbase
  obtain ⟨b0, b1, -⟩ := h7.boxed
  obtain ⟨-, c1, -, c3⟩ := h7.cells i HI.out
  have hf := h7.free
  rw [hl] at c3
  rw [NN.out] at b0
  have hlt7 := (Array.getElem?_eq_some_iff.1 hR7).1
  have H7 := Lib.hid h7
  have R7 := Lib.hid hR7
  clear h7 hR7 HR HB H1 hq7
  by_cases hz : (Sched.queue s l).isEmpty = false
  · obtain rfl := HC.out.symm.trans (if_pos hz)
    have hz2 : 0 < (Sched.queue s l).length := by
      cases hqq : Sched.queue s l with
      | nil => rw [hqq] at hz; cases hz
      | cons _ _ => simp
    generalize (Sched.queue s l).length = lq at hz2 ⊢
    have o := H7.out.two i HI.out 0 0
    clear hz HC
    go_wp2_with fail
    refine (quiet_calls _ _ _).mono ?_
    rintro e w8 ⟨rfl, hb8⟩
    have hR8 := (hb8.block w.heap.size (by simpa using hlt7)).trans ((Below.heap_setCell _ ⟨g, i * 4 + 3, none⟩ _ _ hgs2).trans ((Below.heap_setCell _ ⟨g, i * 4 + 1, none⟩ _ _ hgs2).trans R7.out))
    obtain ⟨s0, s1, s2, s3, sf⟩ := res_facts hR8
    have O8 := Lib.hid (o.1.below hb8)
    have B8 := Lib.hid ((hb7.trans o.2).trans (hb8.frm o.1.lt.2.2))
    have R8 := Lib.hid hR8
    clear hb8 hR8 o
    unfold evV
    go_wp2
    have o4 := put4_heap (.int .i64 5) (.int .i64 i) (.int .i64 (-1)) (.int .i64 (-1)) R8.out
    have o5 := O8.out.put4 (.int .i64 5) (.int .i64 i) (.int .i64 (-1)) (.int .i64 (-1)) R8.out hbase
    refine bodyPost_ret (results_cell_row rfl _ _ w.heap.size 38 _ (0, 0) _ rfl o4 Try.underlying38 rfl size38) rfl ?_
    exact ⟨rfl, o5.1, B8.out.put4 hbase _ _ _ _⟩
  · have hz2 : (Sched.queue s l).length = 0 := by
      cases hqq : Sched.queue s l with
      | nil => rfl
      | cons _ _ => rw [hqq] at hz; simp at hz
    rw [hz2]
    replace HC := Lib.hid (HC.out.symm.trans (if_neg hz))
    clear hz hz2
    by_cases hln : l = n
    · obtain rfl := HC.out.trans (if_pos (by rw [hln, NN.out]))
      subst hln
      clear HC
      have o := fun nq => (H7.out.below ((Below.refl _ _).drewN nq)).two i HI.out 2 0
      go_wp2_with fail
      go_quiet (fail)
      go_wp2_with fail
      refine (quiet_calls _ _ _).mono ?_
      rintro e w8 ⟨rfl, hb8⟩
      have hR8 := (hb8.block w.heap.size (by simpa using hlt7)).trans ((Below.heap_setCell _ ⟨g, i * 4 + 3, none⟩ _ _ hgs2).trans ((Below.heap_setCell _ ⟨g, i * 4 + 1, none⟩ _ _ hgs2).trans R7.out))
      obtain ⟨s0, s1, s2, s3, sf⟩ := res_facts hR8
      have O8 := Lib.hid ((o _).1.below hb8)
      have B8 := Lib.hid (((hb7.trans ((((Below.refl _ _).drewN _) : Below w7.heap.size w7 (w7.drewN _)).frm H7.out.lt.2.2)).trans (o _).2).trans (hb8.frm (o _).1.lt.2.2))
      have R8 := Lib.hid hR8
      clear hb8 hR8 o
      unfold evV
      go_wp2
      have o4 := put4_heap (.int .i64 6) (.int .i64 i) (.int .i64 (-1)) (.int .i64 (-1)) R8.out
      have o5 := O8.out.put4 (.int .i64 6) (.int .i64 i) (.int .i64 (-1)) (.int .i64 (-1)) R8.out hbase
      refine bodyPost_ret (results_cell_row rfl _ _ w.heap.size 38 _ (0, 0) _ rfl o4 Try.underlying38 rfl size38) rfl ?_
      exact ⟨rfl, o5.1, B8.out.put4 hbase _ _ _ _⟩
    · have hlt : l < n := by omega
      have g3 : ¬ ((l : Int) = (n : Int)) := by omega
      obtain rfl := HC.out.trans (if_neg (by rw [NN.out]; exact g3))
      clear HC
      have o := fun nq => (H7.out.below ((Below.refl _ _).drewN nq)).setLk i HI.out ((l : Int) + 1)
      have e1 : (upd s i fun k => { k with lk := (l : Int) + 1 }) = upd s i fun k => { k with lk := k.lk + 1 } := by
        simp only [upd, hl]
      rw [e1] at o
      clear e1
      go_wp2_with fail
      go_quiet (fail)
      go_wp2_with fail
      refine (quiet_calls _ _ _).mono ?_
      rintro e w8 ⟨rfl, hb8⟩
      have hR8 := (hb8.block w.heap.size (by simpa using hlt7)).trans ((Below.heap_setCell _ ⟨g, i * 4 + 3, none⟩ _ _ hgs2).trans R7.out)
      obtain ⟨s0, s1, s2, s3, sf⟩ := res_facts hR8
      have O8 := Lib.hid ((o _).1.below hb8)
      have B8 := Lib.hid (((hb7.trans ((((Below.refl _ _).drewN _) : Below w7.heap.size w7 (w7.drewN _)).frm H7.out.lt.2.2)).trans (o _).2).trans (hb8.frm (o _).1.lt.2.2))
      have R8 := Lib.hid hR8
      clear hb8 hR8 o
      unfold evV
      go_wp2
      have o4 := put4_heap (.int .i64 0) (.int .i64 i) (.int .i64 (-1)) (.int .i64 (-1)) R8.out
      have o5 := O8.out.put4 (.int .i64 0) (.int .i64 i) (.int .i64 (-1)) (.int .i64 (-1)) R8.out hbase
      refine bodyPost_ret (results_cell_row rfl _ _ w.heap.size 38 _ (0, 0) _ rfl o4 Try.underlying38 rfl size38) rfl ?_
      exact ⟨rfl, o5.1, B8.out.put4 hbase _ _ _ _⟩
end Go.Proofs.Ytjnlfibcpkobaaa
