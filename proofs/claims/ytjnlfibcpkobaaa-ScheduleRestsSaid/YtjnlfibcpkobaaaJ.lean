/- end, wake. -/
import Derived.Test.YtjnlfibcpkobaaaI
namespace Go.Proofs.Ytjnlfibcpkobaaa
open Go.RowKit Go.Sl Go.Sched

def ends (s : St) (i : Nat) : St := upd s i fun k => ⟨k.q, 0, -1, 0⟩
theorem OwnSt.lt {base P g cap : Nat} {qs : List Value} {injV : Value} {s : St} {w : World} (h : OwnSt base P g cap qs injV s w) : P < w.heap.size ∧ g < w.heap.size ∧ base ≤ w.heap.size := by
  obtain ⟨_, cur, hg⟩ := h.block
  have h1 := (Array.getElem?_eq_some_iff.1 hg).1
  have h2 := (Array.getElem?_eq_some_iff.1 h.box).1
  exact ⟨h2, h1, Nat.le_trans h.bP (Nat.le_of_lt h2)⟩

theorem OwnSt.three {base P g cap : Nat} {qs : List Value} {injV : Value} {s : St} {w : World} (h : OwnSt base P g cap qs injV s w) (i : Nat) (hi : i < s.ws.length) (ph tk lk : Int) :
    OwnSt base P g cap qs injV (upd s i fun k => ⟨k.q, ph, tk, lk⟩) (((w.setCell ⟨g, i * 4 + 1, none⟩ (.int .i64 ph)).setCell ⟨g, i * 4 + 2, none⟩ (.int .i64 tk)).setCell ⟨g, i * 4 + 3, none⟩ (.int .i64 lk)) ∧
      Frm base P g w (((w.setCell ⟨g, i * 4 + 1, none⟩ (.int .i64 ph)).setCell ⟨g, i * 4 + 2, none⟩ (.int .i64 tk)).setCell ⟨g, i * 4 + 3, none⟩ (.int .i64 lk)) := by
  have o1 := h.setPh i hi ph
  have o2 := o1.1.setTk i (by rw [upd_len]; exact hi) tk
  have o3 := o2.1.setLk i (by rw [upd_len, upd_len]; exact hi) lk
  have e : upd (upd (upd s i fun k => { k with ph := ph }) i fun k => { k with tk := tk }) i (fun k => { k with lk := lk }) = upd s i fun k => ⟨k.q, ph, tk, lk⟩ := by
    simp [upd, hi]
  rw [← e]
  exact ⟨o3.1, o1.2.trans (o2.2.trans o3.2)⟩
theorem OwnSt.two {base P g cap : Nat} {qs : List Value} {injV : Value} {s : St} {w : World} (h : OwnSt base P g cap qs injV s w) (i : Nat) (hi : i < s.ws.length) (ph lk : Int) :
    OwnSt base P g cap qs injV (upd s i fun k => { k with ph := ph, lk := lk }) ((w.setCell ⟨g, i * 4 + 1, none⟩ (.int .i64 ph)).setCell ⟨g, i * 4 + 3, none⟩ (.int .i64 lk)) ∧
      Frm base P g w ((w.setCell ⟨g, i * 4 + 1, none⟩ (.int .i64 ph)).setCell ⟨g, i * 4 + 3, none⟩ (.int .i64 lk)) := by
  have o1 := h.setPh i hi ph
  have o3 := o1.1.setLk i (by rw [upd_len]; exact hi) lk
  have e : upd (upd s i fun k => { k with ph := ph }) i (fun k => { k with lk := lk }) = upd s i fun k => { k with ph := ph, lk := lk } := by
    simp [upd, hi]
  rw [← e]
  exact ⟨o3.1, o1.2.trans o3.2⟩
theorem heap_three {w : World} {g R i : Nat} {o : Obj} (ph tk lk : Value) (hR : w.heap[R]? = some o) (hne : R ≠ g) : (((w.setCell ⟨g, i * 4 + 1, none⟩ ph).setCell ⟨g, i * 4 + 2, none⟩ tk).setCell ⟨g, i * 4 + 3, none⟩ lk).heap[R]? = some o :=
  (Below.heap_setCell _ ⟨g, i * 4 + 3, none⟩ lk R hne).trans ((Below.heap_setCell _ ⟨g, i * 4 + 2, none⟩ tk R hne).trans ((Below.heap_setCell _ ⟨g, i * 4 + 1, none⟩ ph R hne).trans hR))

set_option maxRecDepth 100000 in
set_option maxHeartbeats 2000000 in
theorem end_calls {base P g cap : Nat} {qs : List Value} {injV : Value} {s : St} {w : World} (h : OwnSt base P g cap qs injV s w) (i : Nat) (hi : i < s.ws.length) (choice : Int) :
    Calls Try.prog 62 #[.pointer (some ⟨P, 0, none⟩), .int .i64 i, .int .i64 choice] w fun e w' => e = .returned (evV ⟨3, i, (s.ws.getD i wk0).tk, i⟩) ∧ OwnSt base P g cap qs injV (ends s i) w' ∧ Frm base P g w w' := by
  have hb1 : Below w.heap.size w (w.alloc (.cells #[.int .i64 0, .int .i64 0, .int .i64 0, .int .i64 0] 38)) := (Below.refl _ _).alloc (Nat.le_refl _) _
  have hb2 : Below w.heap.size w ((w.alloc (.cells #[.int .i64 0, .int .i64 0, .int .i64 0, .int .i64 0] 38)).alloc (.cells #[.int .i64 3, .int .i64 i, .int .i64 (s.ws.getD i wk0).tk, .int .i64 i] 38)) := hb1.alloc (by simp) _
  have h1 := h.below hb1
  have h2 := h.below hb2
  obtain ⟨-, c1, c2, -⟩ := h1.cells i hi
  obtain ⟨b0, -, -⟩ := h1.boxed
  have hf := h2.free
  obtain ⟨-, d1, d2, d3⟩ := h2.cells i hi
  have g1 : (i : Int) < (s.ws.length : Int) := by omega
  obtain ⟨hlP, hlg, hbase⟩ := h.lt
  have hgs : ¬ g = w.heap.size := by omega
  have hgs2 : ¬ w.heap.size = g := by omega
  have hgs3 : ¬ g = w.heap.size + 1 := by omega
  have hgs4 : ¬ w.heap.size + 1 = g := by omega
  have HB := Lib.hid hb2
  have H2 := Lib.hid h2
  clear h h1 hb1 hb2 h2 hlP hlg
  generalize s.ws.length = n at b0 g1
  generalize (s.ws.getD i wk0).tk = tk at *
  generalize (s.ws.getD i wk0).ph = ph at *
  generalize (s.ws.getD i wk0).lk = lk at *
  go_enter Try.func62, Try.ntmps62
  go_wp2
  have hR0 : ((w.alloc (.cells #[.int .i64 0, .int .i64 0, .int .i64 0, .int .i64 0] 38)).alloc (.cells #[.int .i64 3, .int .i64 i, .int .i64 tk, .int .i64 i] 38)).heap[w.heap.size]? = some (.cells #[.int .i64 0, .int .i64 0, .int .i64 0, .int .i64 0] 38 (0, 0)) := heap_alloc2_old _ _ _
  have hR3 := heap_three (i := i) (.int .i64 0) (.int .i64 (-1)) (.int .i64 0) hR0 hgs2
  have o3 := H2.out.three i hi 0 (-1) 0
  have o4 := o3.1.put4 (.int .i64 3) (.int .i64 i) (.int .i64 tk) (.int .i64 i) hR3 hbase
  have hR4 := put4_heap (.int .i64 3) (.int .i64 i) (.int .i64 tk) (.int .i64 i) hR3
  refine bodyPost_ret (results_cell_row rfl _ _ w.heap.size 38 _ (0, 0) _ rfl hR4 Try.underlying38 rfl size38) rfl ?_
  exact ⟨rfl, o4.1, ((HB.out.frm hbase).trans o3.2).put4 hbase _ _ _ _⟩

def wake (s : St) : St × Int := match s.ws.findIdx? asleep with
  | some i => (upd s i fun k => { k with ph := 0, lk := 0 }, (i : Int))
  | none => (s, -1)

set_option maxRecDepth 100000 in
set_option maxHeartbeats 2000000 in
theorem wake_calls {base P g cap : Nat} {qs : List Value} {injV : Value} {s : St} {w : World} (h : OwnSt base P g cap qs injV s w) (hn : s.ws.length ≤ 1000) :
    Calls Try.prog 37 #[.pointer (some ⟨P, 0, none⟩)] w fun e w' => e = .returned (.int .i64 (wake s).2) ∧ OwnSt base P g cap qs injV (wake s).1 w' ∧ Below base w w' := by
  obtain ⟨b0, -, -⟩ := h.boxed
  obtain ⟨-, -, hbase⟩ := h.lt
  have H := Lib.hid h
  clear h
  generalize hW : wake s = W
  have WW := Lib.hid hW
  clear hW
  go_enter Try.func37, Try.ntmps37
  go_wp2_with fail
  refine (indexFunc_calls _ qs s.ws 53 #[] asleep w H.out.stV.ws (by omega) (answers53 w) cf53).mono ?_
  rintro e w1 ⟨⟨r, rfl, hr⟩, hb1⟩
  have H1 := Lib.hid (H.out.below hb1)
  replace b0 := H1.out.boxed.1
  replace hb1 := hb1.mono hbase
  clear H
  rcases hr with ⟨rfl, hany⟩ | ⟨i, rfl, hi, hp, hmin⟩
  · have hw : wake s = (s, -1) := by
      have : s.ws.findIdx? asleep = none := by
        rw [List.findIdx?_eq_none_iff]
        intro x hx
        rw [List.any_eq_false] at hany
        simpa using hany x hx
      simp [wake, this]
    obtain rfl := WW.out.symm.trans hw
    clear hw hany b0
    go_wp2
    go_ret
    exact ⟨rfl, H1.out, hb1⟩
  · have hw : wake s = (upd s i fun k => { k with ph := 0, lk := 0 }, (i : Int)) := by
      have : s.ws.findIdx? asleep = some i := by
        rw [List.findIdx?_eq_some_iff_getElem]
        refine ⟨hi, ?_, fun j hj => ?_⟩
        · simpa [List.getD, hi] using hp
        · have := hmin j hj
          simp [List.getD, show j < s.ws.length by omega] at this
          simp [this]
      simp [wake, this]
    obtain rfl := WW.out.symm.trans hw
    obtain ⟨-, c1, -, c3⟩ := H1.out.cells i hi
    have hf := H1.out.free
    have HI := Lib.hid hi
    clear hw hp hmin
    generalize s.ws.length = n at b0 hi hn
    generalize (s.ws.getD i wk0).ph = ph at *
    generalize (s.ws.getD i wk0).lk = lk at *
    have g1 : (0 : Int) ≤ (i : Int) := by omega
    have g2 : (i : Int) < (n : Int) := by omega
    go_wp2
    go_ret
    have o := H1.out.two i HI.out 0 0
    exact ⟨rfl, o.1, hb1.trans o.2.below⟩
end Go.Proofs.Ytjnlfibcpkobaaa
