/- The steps of a worker. -/
import Derived.Test.YtjnlfibcpkobaaaG
namespace Go.Proofs.Ytjnlfibcpkobaaa
open Go.RowKit Go.Sl Go.Sched

def runs (s : St) (i : Nat) (t : Int) : St := upd s i fun k => ⟨k.q, 3, t, 0⟩
def evV (e : Ev) : Value := .agg #[.int .i64 e.kind, .int .i64 e.worker, .int .i64 e.task, .int .i64 e.src]

theorem OwnSt.elsewhere {base P g cap : Nat} {qs : List Value} {injV : Value} {s : St} {w : World} (h : OwnSt base P g cap qs injV s w) {a : Addr} (u : Value) {cur : Array Value} (ha : w.heap[a.block]? = some (.cells cur 38 (0, 0))) : OwnSt base P g cap qs injV s (w.setCell a u) := by
  obtain ⟨_, c2, hg⟩ := h.block
  have n1 : P ≠ a.block := by
    intro e
    have := h.box
    rw [e, ha] at this
    simp at this
  have n2 : g ≠ a.block := by
    intro e
    rw [e, ha] at hg
    simp at hg
  refine ⟨h.bP, by rw [Below.heap_setCell w a u P n1]; exact h.box, ?_, h.lq, h.inj.setCell u ha (by decide), fun i hi => (h.qu i hi).setCell u ha (by decide)⟩
  refine ownsRow_setCell_other h.row ?_ _
  simp only [Value.ownBlock, ne_eq, Option.some.injEq]
  exact n2

def put4 (w : World) (R : Nat) (x0 x1 x2 x3 : Value) : World := (((w.setCell ⟨R, 0, none⟩ x0).setCell ⟨R, 1, none⟩ x1).setCell ⟨R, 2, none⟩ x2).setCell ⟨R, 3, none⟩ x3
theorem put4_heap {w : World} {R : Nat} {a b c d : Value} (x0 x1 x2 x3 : Value) (hR : w.heap[R]? = some (.cells #[a, b, c, d] 38 (0, 0))) : (put4 w R x0 x1 x2 x3).heap[R]? = some (.cells #[x0, x1, x2, x3] 38 (0, 0)) := by
  have h1 := heap_setCell_same w R 0 _ 38 x0 hR
  have h2 := heap_setCell_same _ R 1 _ 38 x1 h1
  have h3 := heap_setCell_same _ R 2 _ 38 x2 h2
  have h4 := heap_setCell_same _ R 3 _ 38 x3 h3
  unfold put4
  rw [h4]
  rfl
theorem Frm.put4 {base P g : Nat} {w wm : World} (h : Frm base P g w wm) (hb : base ≤ w.heap.size) (x0 x1 x2 x3 : Value) : Frm base P g w (put4 wm w.heap.size x0 x1 x2 x3) :=
  ⟨(((h.below.setCell (p := ⟨w.heap.size, 0, none⟩) hb _).setCell (p := ⟨w.heap.size, 1, none⟩) hb _).setCell (p := ⟨w.heap.size, 2, none⟩) hb _).setCell (p := ⟨w.heap.size, 3, none⟩) hb _,
   fun k hk h1 h2 => by
    unfold Proofs.Ytjnlfibcpkobaaa.put4
    have hne : k ≠ w.heap.size := by omega
    rw [Below.heap_setCell _ ⟨w.heap.size, 3, none⟩ _ _ hne, Below.heap_setCell _ ⟨w.heap.size, 2, none⟩ _ _ hne, Below.heap_setCell _ ⟨w.heap.size, 1, none⟩ _ _ hne, Below.heap_setCell _ ⟨w.heap.size, 0, none⟩ _ _ hne]
    exact h.far k hk h1 h2⟩
theorem OwnSt.put4 {base P g cap : Nat} {qs : List Value} {injV : Value} {s : St} {w : World} (h : OwnSt base P g cap qs injV s w) {R : Nat} {cur : Array Value} (x0 x1 x2 x3 : Value) (hR : w.heap[R]? = some (.cells cur 38 (0, 0))) (hb : base ≤ R) :
    OwnSt base P g cap qs injV s (put4 w R x0 x1 x2 x3) ∧ Below base w (put4 w R x0 x1 x2 x3) := by
  have h1 := heap_setCell_same w R 0 _ 38 x0 hR
  have h2 := heap_setCell_same _ R 1 _ 38 x1 h1
  have h3 := heap_setCell_same _ R 2 _ 38 x2 h2
  exact ⟨(((h.elsewhere x0 hR).elsewhere x1 h1).elsewhere x2 h2).elsewhere x3 h3, ((((Below.refl _ _).setCell hb _).setCell hb _).setCell hb _).setCell hb _⟩

theorem size38 : (Try.prog.info? 38).map (·.size) = some 4 := by kernel_rfl

set_option maxRecDepth 100000 in
set_option maxHeartbeats 1000000 in
theorem quiet_calls (kind : Int) (i : Int) (w : World) : Calls Try.prog 82 #[.int .i64 kind, .int .i64 i] w fun e w' => e = .returned (evV ⟨kind, i, -1, -1⟩) ∧ Below w.heap.size w w' := by
  go_enter Try.func82, Try.ntmps82
  go_wp2
  refine bodyPost_ret (results_cell_row rfl _ _ w.heap.size 38 _ (0, 0) _ rfl (heap_alloc_new _ _) Try.underlying38 rfl size38) rfl ?_
  exact ⟨rfl, (Below.refl _ _).alloc (Nat.le_refl _) _⟩

set_option maxRecDepth 100000 in
set_option maxHeartbeats 2000000 in
theorem run_calls {base P g cap : Nat} {qs : List Value} {injV : Value} {s : St} {w : World} (h : OwnSt base P g cap qs injV s w) (i : Nat) (hi : i < s.ws.length) (kind task src : Int) :
    Calls Try.prog 80 #[.pointer (some ⟨P, 0, none⟩), .int .i64 i, .int .i64 kind, .int .i64 task, .int .i64 src] w fun e w' => e = .returned (evV ⟨kind, i, task, src⟩) ∧ OwnSt base P g cap qs injV (runs s i task) w' ∧ Below base w w' ∧ ∀ k, k < w.heap.size → k ≠ g → w'.heap[k]? = w.heap[k]? := by
  have hb1 : Below w.heap.size w (w.alloc (.cells #[.int .i64 0, .int .i64 0, .int .i64 0, .int .i64 0] 38)) := (Below.refl _ _).alloc (Nat.le_refl _) _
  have h1 := h.below hb1
  obtain ⟨c0, c1, c2, c3⟩ := h1.cells i hi
  obtain ⟨b0, b1, bf⟩ := h1.boxed
  have hf := h1.free
  have g1 : (i : Int) < (s.ws.length : Int) := by omega
  have hgs : ¬ g = w.heap.size := by
    obtain ⟨_, cur, hg⟩ := h.block
    have := (Array.getElem?_eq_some_iff.1 hg).1
    omega
  have hgs2 : ¬ w.heap.size = g := fun e => hgs e.symm
  have hb2 := Lib.hid hb1
  have h2 := Lib.hid h1
  have h0 := Lib.hid h
  clear h h1 hb1
  generalize s.ws.length = n at b0 g1
  go_enter Try.func80, Try.ntmps80
  go_wp2
  have o1 := h2.out.setPh i hi 3
  have o2 := o1.1.setTk i (by rw [upd_len]; exact hi) task
  have o3 := o2.1.setLk i (by rw [upd_len, upd_len]; exact hi) 0
  have hR0 : (w.alloc (.cells #[.int .i64 0, .int .i64 0, .int .i64 0, .int .i64 0] 38)).heap[w.heap.size]? = some (.cells #[.int .i64 0, .int .i64 0, .int .i64 0, .int .i64 0] 38 (0, 0)) := heap_alloc_new _ _
  have hR1 := (Below.heap_setCell _ ⟨g, i * 4 + 1, none⟩ (.int .i64 3) w.heap.size hgs2).trans hR0
  have hR2 := (Below.heap_setCell _ ⟨g, i * 4 + 2, none⟩ (.int .i64 task) w.heap.size hgs2).trans hR1
  have hR3 := (Below.heap_setCell _ ⟨g, i * 4 + 3, none⟩ (.int .i64 0) w.heap.size hgs2).trans hR2
  have hbase : base ≤ w.heap.size := Nat.le_of_lt (Nat.lt_of_le_of_lt h0.out.bP (Array.getElem?_eq_some_iff.1 h0.out.box).1)
  have o4 := o3.1.put4 (.int .i64 kind) (.int .i64 i) (.int .i64 task) (.int .i64 src) hR3 hbase
  have hR4 := put4_heap (.int .i64 kind) (.int .i64 i) (.int .i64 task) (.int .i64 src) hR3
  refine bodyPost_ret (results_cell_row rfl _ _ w.heap.size 38 _ (0, 0) _ rfl hR4 Try.underlying38 rfl size38) rfl ?_
  refine ⟨rfl, ?_, ?_, ?_⟩
  · have e : upd (upd (upd s i fun k => { k with ph := 3 }) i fun k => { k with tk := task }) i (fun k => { k with lk := 0 }) = runs s i task := by
      simp [upd, runs, hi]
    rw [← e]
    exact o4.1
  · exact ((hb2.out.mono hbase).trans o1.2.below).trans (o2.2.below.trans (o3.2.below.trans o4.2))
  · intro k hk hkg
    have hk1 : k ≠ w.heap.size := by omega
    iterate 4 rw [Below.heap_setCell _ _ _ k (by exact hk1)]
    iterate 3 rw [Below.heap_setCell _ _ _ k (by exact hkg)]
    exact Below.heap_alloc _ _ _ hk
end Go.Proofs.Ytjnlfibcpkobaaa
