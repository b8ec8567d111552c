/- Bells: NewBell, Ring, Heard, Same. -/
import Derived.Test.YtjnlfibcpkobaaaSl
import Derived.Test.YtjnlfibcpkobaaaChecked
import Derived.Conc.LoneSelect
import Derived.KernelRfl
import Derived.Laws.Rows
import Derived.Conc.EventLaws
import Derived.Test.YtjnlfibcpkobaaaK
namespace Go.Proofs.Ytjnlfibcpkobaaa
open Go.RowKit Go.Sl Go.Conc

set_option maxRecDepth 100000 in
theorem ring_room (b o c s r : Nat) (tm : Bool) (w : World) (hb : w.cell? ⟨b, o, none⟩ = some (.chan (some c))) (hc : w.heap[c]? = some (.chan 1 #[] false s r tm)) :
    Calls Try.prog 26 #[.pointer (some ⟨b, o, none⟩)] w fun e w' => e = .returned (.bool true) ∧ w' = w.setChan c 1 #[.agg #[]] false (s + 1) r tm := by
  refine calls_of_loneTo fun cs => ?_
  have e : Frame.enter Try.prog 26 #[.pointer (some ⟨b, o, none⟩)] .normal = (base 26).at ⟨#[.pointer (some ⟨b, o, none⟩), undef, undef, undef, undef, undef, undef, undef, undef, undef, undef, undef, undef], []⟩ [.code (Try.f26.body.getD .skip)] := by
    simp [Frame.enter, Frame.at, Try.func26, base, Try.f26]
  rw [e]
  clear e
  refine LoneTo.goes (n := 60) ?_
  simp only [Try.f26, Option.getD_some]
  s_c stepG_seq
  s_reg
  s_op
  s_c stepG_region_end
  s_c stepG_seq
  s_c stepG_seq
  s_reg
  s_op
  s_op
  s_c stepG_region_end
  s_cond false
  s_c stepG_skip
  s_c stepG_seq
  s_c stepG_seq
  s_reg
  s_op
  s_op
  s_op
  s_op
  s_c stepG_region_end
  s_reg
  s_op
  s_c stepG_region_end
  s_c stepG_seq
  s_reg
  s_stop
  refine LoneTo.step (step_lone_select_send_room (c := c) (cap := 1) (buf := #[]) (s := s) (r := r) (tm := tm) (stepG_comm (cases := #[scase c (.agg #[]) (.agg #[])]) (blocking := false) (shape := .select) (w' := w) rfl rfl (by decide) (by simp [go_sem, execOp, scase, Act.eval])) hc (by decide)) ?_
  rw [Frame.finish_at]
  walk_nrm
  refine LoneTo.goes (n := 40) ?_
  s_op
  s_op
  s_c stepG_region_end
  s_c stepG_block
  s_cond true
  s_c stepG_seq
  s_reg
  s_op
  s_c stepG_region_end
  s_c stepG_ret'
  s_stop
  exact LoneTo.done ⟨.returned (.bool true), _, rfl, ⟨rfl, rfl⟩, rfl, rfl, rfl, rfl, _, Try.func26, by simp [results, Try.f26, Frame.at]⟩

set_option maxRecDepth 100000 in
theorem ring_full (b o c s r : Nat) (tm : Bool) (w : World) (hb : w.cell? ⟨b, o, none⟩ = some (.chan (some c))) (hc : w.heap[c]? = some (.chan 1 #[.agg #[]] false s r tm)) :
    Calls Try.prog 26 #[.pointer (some ⟨b, o, none⟩)] w fun e w' => e = .returned (.bool false) ∧ w' = w := by
  refine calls_of_loneTo fun cs => ?_
  have e : Frame.enter Try.prog 26 #[.pointer (some ⟨b, o, none⟩)] .normal = (base 26).at ⟨#[.pointer (some ⟨b, o, none⟩), undef, undef, undef, undef, undef, undef, undef, undef, undef, undef, undef, undef], []⟩ [.code (Try.f26.body.getD .skip)] := by
    simp [Frame.enter, Frame.at, Try.func26, base, Try.f26]
  rw [e]
  clear e
  refine LoneTo.goes (n := 60) ?_
  simp only [Try.f26, Option.getD_some]
  s_c stepG_seq
  s_reg
  s_op
  s_c stepG_region_end
  s_c stepG_seq
  s_c stepG_seq
  s_reg
  s_op
  s_op
  s_c stepG_region_end
  s_cond false
  s_c stepG_skip
  s_c stepG_seq
  s_c stepG_seq
  s_reg
  s_op
  s_op
  s_op
  s_op
  s_c stepG_region_end
  s_reg
  s_op
  s_c stepG_region_end
  s_c stepG_seq
  s_reg
  s_stop
  refine LoneTo.step (step_lone_select_send_full (c := c) (cap := 1) (buf := #[.agg #[]]) (s := s) (r := r) (tm := tm) (stepG_comm (cases := #[scase c (.agg #[]) (.agg #[])]) (blocking := false) (shape := .select) (w' := w) rfl rfl (by decide) (by simp [go_sem, execOp, scase, Act.eval])) hc (by decide)) ?_
  rw [Frame.finish_at]
  walk_nrm
  refine LoneTo.goes (n := 40) ?_
  s_op
  s_op
  s_c stepG_region_end
  s_c stepG_block
  s_cond false
  s_c stepG_seq
  s_reg
  s_op
  s_c stepG_region_end
  s_c stepG_ret'
  s_stop
  exact LoneTo.done ⟨.returned (.bool false), _, rfl, ⟨rfl, rfl⟩, rfl, rfl, rfl, rfl, _, Try.func26, by simp [results, Try.f26, Frame.at]⟩

set_option maxRecDepth 100000 in
theorem heard_rung (b o c s r : Nat) (tm : Bool) (w : World) (hb : w.cell? ⟨b, o, none⟩ = some (.chan (some c))) (hc : w.heap[c]? = some (.chan 1 #[.agg #[]] false s r tm)) :
    Calls Try.prog 27 #[.pointer (some ⟨b, o, none⟩)] w fun e w' => e = .returned (.bool true) ∧ w' = w.setChan c 1 #[] false s (r + 1) tm := by
  refine calls_of_loneTo fun cs => ?_
  have e : Frame.enter Try.prog 27 #[.pointer (some ⟨b, o, none⟩)] .normal = (base 27).at ⟨#[.pointer (some ⟨b, o, none⟩), undef, undef, undef, undef, undef, undef, undef, undef, undef, undef, undef], []⟩ [.code (Try.f27.body.getD .skip)] := by
    simp [Frame.enter, Frame.at, Try.func27, base, Try.f27]
  rw [e]
  clear e
  refine LoneTo.goes (n := 60) ?_
  simp only [Try.f27, Option.getD_some]
  s_c stepG_seq
  s_reg
  s_op
  s_c stepG_region_end
  s_c stepG_seq
  s_c stepG_seq
  s_reg
  s_op
  s_op
  s_c stepG_region_end
  s_cond false
  s_c stepG_skip
  s_c stepG_seq
  s_reg
  s_op
  s_op
  s_op
  s_op
  s_c stepG_region_end
  s_c stepG_seq
  s_reg
  s_stop
  refine LoneTo.step (step_lone_select_recv_buf (c := c) (cap := 1) (buf := #[.agg #[]]) (s := s) (r := r) (tm := tm) (closed := false) (stepG_comm (cases := #[rcase c (.agg #[])]) (blocking := false) (shape := .select) (w' := w) rfl rfl (by decide) (by simp [go_sem, execOp, rcase, Act.eval])) hc (by decide)) ?_
  rw [Frame.finish_at]
  walk_nrm
  refine LoneTo.goes (n := 40) ?_
  s_op
  s_op
  s_c stepG_region_end
  s_c stepG_block
  s_cond true
  s_c stepG_seq
  s_reg
  s_op
  s_c stepG_region_end
  s_c stepG_ret'
  s_stop
  exact LoneTo.done ⟨.returned (.bool true), _, rfl, ⟨rfl, rfl⟩, rfl, rfl, rfl, rfl, _, Try.func27, by simp [results, Try.f27, Frame.at]⟩

set_option maxRecDepth 100000 in
theorem heard_none (b o c s r : Nat) (tm : Bool) (w : World) (hb : w.cell? ⟨b, o, none⟩ = some (.chan (some c))) (hc : w.heap[c]? = some (.chan 1 #[] false s r tm)) :
    Calls Try.prog 27 #[.pointer (some ⟨b, o, none⟩)] w fun e w' => e = .returned (.bool false) ∧ w' = w := by
  refine calls_of_loneTo fun cs => ?_
  have e : Frame.enter Try.prog 27 #[.pointer (some ⟨b, o, none⟩)] .normal = (base 27).at ⟨#[.pointer (some ⟨b, o, none⟩), undef, undef, undef, undef, undef, undef, undef, undef, undef, undef, undef], []⟩ [.code (Try.f27.body.getD .skip)] := by
    simp [Frame.enter, Frame.at, Try.func27, base, Try.f27]
  rw [e]
  clear e
  refine LoneTo.goes (n := 60) ?_
  simp only [Try.f27, Option.getD_some]
  s_c stepG_seq
  s_reg
  s_op
  s_c stepG_region_end
  s_c stepG_seq
  s_c stepG_seq
  s_reg
  s_op
  s_op
  s_c stepG_region_end
  s_cond false
  s_c stepG_skip
  s_c stepG_seq
  s_reg
  s_op
  s_op
  s_op
  s_op
  s_c stepG_region_end
  s_c stepG_seq
  s_reg
  s_stop
  refine LoneTo.step (step_lone_select_default (c := c) (cap := 1) (s := s) (r := r) (tm := tm) (stepG_comm (cases := #[rcase c (.agg #[])]) (blocking := false) (shape := .select) (w' := w) rfl rfl (by decide) (by simp [go_sem, execOp, rcase, Act.eval])) hc) ?_
  rw [Frame.finish_at]
  walk_nrm
  refine LoneTo.goes (n := 40) ?_
  s_op
  s_op
  s_c stepG_region_end
  s_c stepG_block
  s_cond false
  s_c stepG_seq
  s_reg
  s_op
  s_c stepG_region_end
  s_c stepG_ret'
  s_stop
  exact LoneTo.done ⟨.returned (.bool false), _, rfl, ⟨rfl, rfl⟩, rfl, rfl, rfl, rfl, _, Try.func27, by simp [results, Try.f27, Frame.at]⟩


set_option maxRecDepth 100000 in
theorem ring_nil (w : World) : Calls Try.prog 26 #[.pointer none] w fun e w' => e = .returned (.bool false) ∧ w' = w := by
  go_enter Try.func26, Try.ntmps26
  go_wp2
  go_ret
  exact ⟨rfl, rfl⟩
set_option maxRecDepth 100000 in
theorem heard_nil (w : World) : Calls Try.prog 27 #[.pointer none] w fun e w' => e = .returned (.bool false) ∧ w' = w := by
  go_enter Try.func27, Try.ntmps27
  go_wp2
  go_ret
  exact ⟨rfl, rfl⟩
theorem bytes112 : ∃ i, Try.prog.info? 112 = some i ∧ i.bytes = 0 := by
  have h : (Try.prog.info? 112).map (·.bytes) = some 0 := by kernel_rfl
  obtain ⟨i, hi, hb⟩ := Option.map_eq_some_iff.1 h
  exact ⟨i, hi, hb⟩
theorem mkChan (w : World) : (Instr.makeChan 71 (.int .i64 1)).run Try.prog w = .ok (.chan (some w.heap.size)) (w.alloc (.chan 1 #[] false 0 0 false)) := by
  obtain ⟨i, hi, hb⟩ := bytes112
  simpa using run_makeChan (P := Try.prog) (w := w) Try.underlying71 hi .i64 1 (by omega) (by rw [hb]; omega)
set_option maxRecDepth 100000 in
theorem newbell_calls (w : World) : Calls Try.prog 25 #[] w fun e w' => e = .returned (.pointer (some ⟨w.heap.size + 1, 0, none⟩)) ∧ w' = (w.alloc (.chan 1 #[] false 0 0 false)).alloc (.cells #[.chan (some w.heap.size)] 73) := by
  have hm := mkChan
  go_enter Try.func25, Try.ntmps25
  go_wp2
  go_ret
  exact ⟨rfl, rfl⟩
theorem eqIn_chan (P : Program) (d : Nat) (t : TypeId) {dir e} (h : P.underlying t = some (.chan dir e)) (w : World) (c c2 : Nat) : (Op.equalIn (d + 1) t (.chan (some c)) (.chan (some c2))).run P w = .ok (c == c2) w := by
  simp [Op.equalIn, run_underlying h]
theorem eqIn_ptr (P : Program) (d : Nat) (t : TypeId) {e} (h : P.underlying t = some (.pointer e)) (w : World) (b o : Nat) : (Op.equalIn (d + 1) t (.pointer none) (.pointer (some ⟨b, o, none⟩))).run P w = .ok false w := by
  simp [Op.equalIn, run_underlying h]
theorem eq_chan (w : World) (c c2 : Nat) : (Op.equal 71 (.chan (some c)) (.chan (some c2))).run Try.prog w = .ok (c == c2) w := eqIn_chan Try.prog 9999 71 Try.underlying71 w c c2
theorem eq_ptr (w : World) (b o : Nat) : (Op.equal 67 (.pointer none) (.pointer (some ⟨b, o, none⟩))).run Try.prog w = .ok false w := eqIn_ptr Try.prog 9999 67 Try.underlying67 w b o
theorem beq_chan (w : World) (c c2 : Nat) : (binOp .eql 71 (.chan (some c)) (.chan (some c2))).run Try.prog w = .ok (.bool (c == c2)) w := by
  simp only [binOp]
  simp [eq_chan w c c2]
theorem beq_ptr (w : World) (b o : Nat) : (binOp .eql 67 (.pointer none) (.pointer (some ⟨b, o, none⟩))).run Try.prog w = .ok (.bool false) w := by
  simp only [binOp]
  simp [eq_ptr w b o]
set_option maxRecDepth 100000 in
theorem same_nil_nil (w : World) : Calls Try.prog 28 #[.pointer none, .pointer none] w fun e w' => e = .returned (.bool true) ∧ w' = w := by
  go_enter Try.func28, Try.ntmps28
  go_wp2
  go_ret
  exact ⟨rfl, rfl⟩
set_option maxRecDepth 100000 in
theorem same_nil_of (b o : Nat) (w : World) : Calls Try.prog 28 #[.pointer none, .pointer (some ⟨b, o, none⟩)] w fun e w' => e = .returned (.bool false) ∧ w' = w := by
  have he := fun w => beq_ptr w b o
  go_enter Try.func28, Try.ntmps28
  go_wp2
  go_ret
  exact ⟨rfl, rfl⟩
set_option maxRecDepth 100000 in
theorem same_of_nil (b o : Nat) (w : World) : Calls Try.prog 28 #[.pointer (some ⟨b, o, none⟩), .pointer none] w fun e w' => e = .returned (.bool false) ∧ w' = w := by
  have he := fun w => beq_ptr w b o
  go_enter Try.func28, Try.ntmps28
  go_wp2
  go_ret
  exact ⟨rfl, rfl⟩
set_option maxRecDepth 100000 in
set_option maxHeartbeats 1000000 in
theorem same_calls (b o c b2 o2 c2 : Nat) (w : World) (hb : w.cell? ⟨b, o, none⟩ = some (.chan (some c))) (hb2 : w.cell? ⟨b2, o2, none⟩ = some (.chan (some c2))) :
    Calls Try.prog 28 #[.pointer (some ⟨b, o, none⟩), .pointer (some ⟨b2, o2, none⟩)] w fun e w' => e = .returned (.bool (c == c2)) ∧ ∃ n, w' = w.drewN n := by
  have he := fun w => beq_chan w c c2
  go_enter Try.func28, Try.ntmps28
  go_upto_region 3 with (fail)
  go_quiet (fail)
  go_wp2
  go_ret
  exact ⟨rfl, _, rfl⟩
end Go.Proofs.Ytjnlfibcpkobaaa
