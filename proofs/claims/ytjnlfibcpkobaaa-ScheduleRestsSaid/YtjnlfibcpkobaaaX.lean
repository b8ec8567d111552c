/- phases; what a worker's step does, whichever phase. -/
import Derived.Test.YtjnlfibcpkobaaaW
import Derived.Laws.EntriesVeiled
namespace Go.Proofs.Ytjnlfibcpkobaaa
open Go.RowKit Go.Sl Go.Sched
theorem size93 : (Try.prog.info? 93).map (·.size) = some 4 := by kernel_rfl
set_option maxRecDepth 100000 in
set_option maxHeartbeats 1000000 in
theorem phases_calls (w : World) :
    Calls Try.prog 38 #[] w fun e w' => e = .returned (.agg #[.func (.func 59) #[] #[], .func (.func 60) #[] #[], .func (.func 61) #[] #[], .func (.func 62) #[] #[]]) ∧ Below w.heap.size w w' := by
  go_enter Try.func38, Try.ntmps38
  go_wp2_with fail
  refine bodyPost_ret (results_cell_row rfl _ _ w.heap.size 93 _ (0, 0) _ rfl (heap_alloc_new _ _) Try.underlying93 rfl size93) rfl ?_
  exact ⟨rfl, (Below.refl _ _).alloc (Nat.le_refl _) _⟩

theorem index_phase (a b c d : Value) : (∀ w, (Instr.index 93 (.agg #[a, b, c, d]) (.int .i64 0)).run Try.prog w = .ok a w) ∧ (∀ w, (Instr.index 93 (.agg #[a, b, c, d]) (.int .i64 1)).run Try.prog w = .ok b w) ∧
    (∀ w, (Instr.index 93 (.agg #[a, b, c, d]) (.int .i64 2)).run Try.prog w = .ok c w) ∧ (∀ w, (Instr.index 93 (.agg #[a, b, c, d]) (.int .i64 3)).run Try.prog w = .ok d w) := by
  refine ⟨fun w => ?_, fun w => ?_, fun w => ?_, fun w => ?_⟩ <;> simp [Instr.index, run_underlying Try.underlying93, asIntOf, go_sem]

/-- The function of a phase. -/
def phF (ph : Int) : FuncId := if ph = 0 then 59 else if ph = 1 then 60 else if ph = 2 then 61 else 62
theorem disp {base P g cap : Nat} {qs : List Value} {injV : Value} {s : St} {w : World} (h : OwnSt base P g cap qs injV s w) (hok : Ok s) (i : Nat) (hi : i < s.ws.length) (c : Int) (f : FuncId) (hf : phF (s.ws.getD i wk0).ph = f) :
    Calls Try.prog f #[.pointer (some ⟨P, 0, none⟩), .int .i64 i, .int .i64 c] w fun e w' => e = .returned (evV (stepS s i c).2) ∧ (∃ qs' injV', OwnSt base P g cap qs' injV' (stepS s i c).1 w') ∧ Frm base P g w w' := by
  have hn : s.ws.length ≤ 1000 := by have := hok.n64; omega
  have hq := q_le_tasks s i hi
  have hfew := hok.few
  have hform := hok.form _ (getD_mem hi)
  have hbase := h.lt.2.2
  unfold formed at hform
  simp only [Bool.and_eq_true, Bool.or_eq_true, decide_eq_true_eq, beq_iff_eq] at hform
  obtain ⟨⟨⟨hph, h0⟩, h1⟩, -⟩ := hform
  obtain ⟨l, hl⟩ : ∃ l : Nat, (s.ws.getD i wk0).lk = l := ⟨(s.ws.getD i wk0).lk.toNat, by omega⟩
  have hl2 : l ≤ s.ws.length := by
    unfold most at h1
    rcases hph with ((e | e) | e) | e
    · rw [if_pos e] at h1; omega
    · rw [if_neg (by omega), if_pos e] at h1; omega
    · rw [if_neg (by omega), if_neg (by omega)] at h1; omega
    · rw [if_neg (by omega), if_neg (by omega)] at h1; omega
  unfold stepS
  subst hf
  unfold phF
  by_cases e0 : (s.ws.getD i wk0).ph = 0
  · rw [if_pos e0, if_pos e0]
    exact seek_calls h i hi c hn (by omega) l hl hl2
  rw [if_neg e0, if_neg e0]
  by_cases e1 : (s.ws.getD i wk0).ph = 1
  · rw [if_pos e1, if_pos e1]
    refine (check_calls h i hi hn l hl hl2 c).mono ?_
    rintro e w1 ⟨rfl, ho, hf⟩
    exact ⟨rfl, ⟨_, _, ho⟩, hf⟩
  rw [if_neg e1, if_neg e1]
  by_cases e2 : (s.ws.getD i wk0).ph = 2
  · rw [if_pos e2, if_neg (by omega)]
    refine (idle_calls _ i c w).mono ?_
    rintro e w1 ⟨rfl, hf⟩
    exact ⟨rfl, ⟨_, _, h.below hf⟩, hf.frm hbase⟩
  · rw [if_neg e2, if_pos (by omega)]
    refine (end_calls h i hi c).mono ?_
    rintro e w1 ⟨rfl, ho, hf⟩
    exact ⟨rfl, ⟨_, _, ho⟩, hf⟩

theorem index_ph (ph : Int) (h : ph = 0 ∨ ph = 1 ∨ ph = 2 ∨ ph = 3) : ∀ w, (Instr.index 93 (.agg #[.func (.func 59) #[] #[], .func (.func 60) #[] #[], .func (.func 61) #[] #[], .func (.func 62) #[] #[]]) (.int .i64 ph)).run Try.prog w = .ok (.func (.func (phF ph)) #[] #[]) w := by
  obtain ⟨i0, i1, i2, i3⟩ := index_phase (.func (.func 59) #[] #[]) (.func (.func 60) #[] #[]) (.func (.func 61) #[] #[]) (.func (.func 62) #[] #[])
  intro w
  rcases h with rfl | rfl | rfl | rfl
  · exact i0 w
  · exact i1 w
  · exact i2 w
  · exact i3 w
theorem cf59 (args : Array Value) (w : World) : (callFunc 59 args).run Try.prog w = .ok (.enter 59 args) w := by kernel_rfl
theorem cf60 (args : Array Value) (w : World) : (callFunc 60 args).run Try.prog w = .ok (.enter 60 args) w := by kernel_rfl
theorem cf61 (args : Array Value) (w : World) : (callFunc 61 args).run Try.prog w = .ok (.enter 61 args) w := by kernel_rfl
theorem cf62 (args : Array Value) (w : World) : (callFunc 62 args).run Try.prog w = .ok (.enter 62 args) w := by kernel_rfl
theorem call_ph (ph : Int) (h : ph = 0 ∨ ph = 1 ∨ ph = 2 ∨ ph = 3) : ∀ (args : Array Value) (w : World), (callFunc (phF ph) args).run Try.prog w = .ok (.enter (phF ph) args) w := by
  rcases h with rfl | rfl | rfl | rfl
  · exact cf59
  · exact cf60
  · exact cf61
  · exact cf62

/-- A call of a function value, as one operation. -/
theorem oper_value {o : Oper} {a : Act} {w : World} {K : Act → World → Prop} {Q : Exit → Act → World → Prop} (x y1 y2 y3 : Operand) (ts : Array TypeId) (hop : o.op = .call { callee := .value x, args := #[y1, y2, y3], argTypes := ts })
    (F : FuncId) (hx : a.eval x = .func (.func F) #[] #[]) (cf : ∀ (args : Array Value) (w : World), (callFunc F args).run Try.prog w = .ok (.enter F args) w)
    (h : Calls Try.prog F #[a.eval y1, a.eval y2, a.eval y3] w fun
      | .returned v, w' => K (a.put o.dst v) w'
      | .panicked c, w' => Q (.panic c) a w'
      | .outgrown, _ => LetsOut Q) : Oper.wp Try.prog o a w K Q := by
  have e : (execOp a.eval o).run Try.prog w = .ok (.enter F #[a.eval y1, a.eval y2, a.eval y3]) w := by
    unfold execOp
    simp only [hop, resolve, invoke, Sem.run_bind, List.map_toArray, List.map_cons, List.map_nil, hx, Deferred.ofValue, Sem.run_pure, Result.andThen_ok]
    simpa using cf #[a.eval y1, a.eval y2, a.eval y3] w
  unfold Oper.wp
  rw [e]
  exact h

theorem keep38 {w1 wx : World} {P : Nat} (hb : Below w1.heap.size w1 wx) (h : w1.heap[P]? = some z38) :
    wx.heap[P]? = some z38 ∧ wx.cell? ⟨P, 0, none⟩ = some (.int .i64 0) ∧ wx.cell? ⟨P, 1, none⟩ = some (.int .i64 0) ∧ wx.cell? ⟨P, 2, none⟩ = some (.int .i64 0) ∧ wx.cell? ⟨P, 3, none⟩ = some (.int .i64 0) ∧ ∀ j, wx.frozen? ⟨P, j, none⟩ = false := by
  have h2 : wx.heap[P]? = some z38 := (hb.block _ (Array.getElem?_eq_some_iff.1 h).1).trans h
  exact ⟨h2, res_facts h2⟩
theorem far38 {base P g : Nat} {w w' : World} (h : Frm base P g w w') {R : Nat} (hR : w.heap[R]? = some z38) (h1 : R ≠ P) (h2 : R ≠ g) :
    w'.heap[R]? = some z38 ∧ w'.cell? ⟨R, 0, none⟩ = some (.int .i64 0) ∧ w'.cell? ⟨R, 1, none⟩ = some (.int .i64 0) ∧ w'.cell? ⟨R, 2, none⟩ = some (.int .i64 0) ∧ w'.cell? ⟨R, 3, none⟩ = some (.int .i64 0) ∧ ∀ j, w'.frozen? ⟨R, j, none⟩ = false := by
  have h3 := (h.far R (Array.getElem?_eq_some_iff.1 hR).1 h1 h2).trans hR
  exact ⟨h3, res_facts h3⟩

theorem Frm.alloc {base P g : Nat} {w wd : World} (h : Frm base P g w wd) (hb : base ≤ wd.heap.size) (o : Obj) : Frm base P g w (wd.alloc o) :=
  ⟨h.below.alloc hb o, fun k hk h1 h2 => (heap_alloc_old _ _ (Nat.lt_of_lt_of_le hk h.below.size)).trans (h.far k hk h1 h2)⟩
theorem Frm.set4 {base P g : Nat} {w wd : World} (h : Frm base P g w wd) {R : Nat} (hb : base ≤ R) (hR : w.heap.size ≤ R) (a b c d : Value) :
    Frm base P g w ((((wd.setCell ⟨R, 0, none⟩ a).setCell ⟨R, 1, none⟩ b).setCell ⟨R, 2, none⟩ c).setCell ⟨R, 3, none⟩ d) :=
  ⟨(((h.below.setCell (p := ⟨R, 0, none⟩) hb _).setCell (p := ⟨R, 1, none⟩) hb _).setCell (p := ⟨R, 2, none⟩) hb _).setCell (p := ⟨R, 3, none⟩) hb _, fun k hk h1 h2 => by
    have hne : k ≠ R := by omega
    rw [Below.heap_setCell _ ⟨R, 3, none⟩ _ _ hne, Below.heap_setCell _ ⟨R, 2, none⟩ _ _ hne, Below.heap_setCell _ ⟨R, 1, none⟩ _ _ hne, Below.heap_setCell _ ⟨R, 0, none⟩ _ _ hne]
    exact h.far k hk h1 h2⟩

/-- Behind a worker's step, its event in a block. -/
def Stepped (base X g cap : Nat) (wz : World) (r : St × Ev) (t : Value) (wx : World) : Prop := ∃ R qs2 injV2, t = .pointer (some ⟨R, 0, none⟩) ∧ wz.heap.size ≤ R ∧
  wx.heap[R]? = some (.cells #[.int .i64 r.2.kind, .int .i64 r.2.worker, .int .i64 r.2.task, .int .i64 r.2.src] 38 (0, 0)) ∧ OwnSt base X g cap qs2 injV2 r.1 wx ∧ Frm base X g wz wx
theorem Stepped.alloc {base X g cap : Nat} {wz wd : World} {r : St × Ev} {qs2 : List Value} {injV2 : Value} (h : OwnSt base X g cap qs2 injV2 r.1 wd) (hb : Frm base X g wz wd) :
    Stepped base X g cap wz r (.pointer (some ⟨wd.heap.size, 0, none⟩)) (wd.alloc (.cells #[.int .i64 r.2.kind, .int .i64 r.2.worker, .int .i64 r.2.task, .int .i64 r.2.src] 38)) :=
  ⟨wd.heap.size, qs2, injV2, rfl, hb.below.size, heap_alloc_new _ _, h.below ((Below.refl _ _).alloc (Nat.le_refl _) _), hb.alloc h.lt.2.2 _⟩
theorem Stepped.put {base X g cap : Nat} {wz wd : World} {r : St × Ev} {qs2 : List Value} {injV2 : Value} (h : OwnSt base X g cap qs2 injV2 r.1 wd) (hb : Frm base X g wz wd) {R : Nat} (hR : wd.heap[R]? = some z38) (hR2 : wz.heap.size ≤ R) (hbz : base ≤ wz.heap.size) :
    Stepped base X g cap wz r (.pointer (some ⟨R, 0, none⟩)) ((((wd.setCell ⟨R, 0, none⟩ (.int .i64 r.2.kind)).setCell ⟨R, 1, none⟩ (.int .i64 r.2.worker)).setCell ⟨R, 2, none⟩ (.int .i64 r.2.task)).setCell ⟨R, 3, none⟩ (.int .i64 r.2.src)) := by
  have o := h.put4 (.int .i64 r.2.kind) (.int .i64 r.2.worker) (.int .i64 r.2.task) (.int .i64 r.2.src) hR (by omega)
  exact ⟨R, qs2, injV2, rfl, hR2, put4_heap _ _ _ _ hR, o.1, hb.set4 (by omega) hR2 _ _ _ _⟩
end Go.Proofs.Ytjnlfibcpkobaaa
