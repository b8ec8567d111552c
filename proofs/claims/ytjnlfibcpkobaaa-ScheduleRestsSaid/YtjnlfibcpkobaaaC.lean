/- The closures of package schedule; State.queue and State.watched. -/
import Derived.Test.YtjnlfibcpkobaaaB
namespace Go.Proofs.Ytjnlfibcpkobaaa
open Go.RowKit Go.Sl Go.Sched

theorem cf49 (args : Array Value) (w : World) : (callFunc 49 args).run Try.prog w = .ok (.enter 49 args) w := by kernel_rfl
theorem cf52 (args : Array Value) (w : World) : (callFunc 52 args).run Try.prog w = .ok (.enter 52 args) w := by kernel_rfl
theorem cf53 (args : Array Value) (w : World) : (callFunc 53 args).run Try.prog w = .ok (.enter 53 args) w := by kernel_rfl
theorem cf78 (args : Array Value) (w : World) : (callFunc 78 args).run Try.prog w = .ok (.enter 78 args) w := by kernel_rfl
theorem cf79 (args : Array Value) (w : World) : (callFunc 79 args).run Try.prog w = .ok (.enter 79 args) w := by kernel_rfl

set_option maxHeartbeats 400000 in
theorem answers49 (w0 : World) (b : Nat) (n : Int) (hn : 0 ≤ n) (hn' : n ≤ 1000000) (hc : w0.cell? ⟨b, 0, none⟩ = some (.int .i64 n)) : Answers w0 49 #[.pointer (some ⟨b, 0, none⟩)] (fun k => !formed n k) := by
  intro qv k w hb
  have hc' := hb.at_cell hc
  have hlt := World.block_lt_of_cell? w _ hc'
  simp only at hlt
  clear hc hb
  simp only [List.append_toArray, List.cons_append, List.nil_append]
  go_enter Try.func49, Try.ntmps49
  go_wp2_with fail
  refine (formed_calls qv k.q k.ph k.tk k.lk n hn hn' _).mono ?_
  rintro e w1 ⟨rfl, hb1⟩
  have hb2 := ((Below.refl w.heap.size w).alloc (Nat.le_refl _) _).then hb1
  clear hb1
  go_wp2
  go_ret
  exact ⟨rfl, hb2⟩

set_option maxHeartbeats 400000 in
theorem answers52 (w0 : World) : Answers w0 52 #[] (fun k => !asleep k) := by
  intro qv k w hb
  clear hb
  simp only [Array.append_empty]
  go_enter Try.func52, Try.ntmps52
  go_wp2_with fail
  refine (asleep_calls qv k.q k.ph k.tk k.lk _).mono ?_
  rintro e w1 ⟨rfl, hb1⟩
  have hb2 := ((Below.refl w.heap.size w).alloc (Nat.le_refl _) _).then hb1
  clear hb1
  go_wp2
  go_ret
  exact ⟨rfl, hb2⟩
theorem answers53 (w0 : World) : Answers w0 53 #[] asleep := by
  intro qv k w _
  simp only [Array.append_empty]
  exact asleep_calls qv k.q k.ph k.tk k.lk w
set_option maxHeartbeats 400000 in
theorem answers78 (w0 : World) : Answers w0 78 #[] (fun k => k.ph != 2) := by
  intro qv k w hb
  clear hb
  simp only [Array.append_empty]
  go_enter Try.func78, Try.ntmps78
  go_wp2
  go_ret
  exact ⟨rfl, (Below.refl _ _).alloc (Nat.le_refl _) _⟩
set_option maxHeartbeats 400000 in
theorem answers79 (w0 : World) (b : Nat) (n : Int) (hc : w0.cell? ⟨b, 0, none⟩ = some (.int .i64 n)) : Answers w0 79 #[.pointer (some ⟨b, 0, none⟩)] (fun k => k.ph == 1 && decide (k.lk ≤ n)) := by
  intro qv k w hb
  have hc' := hb.at_cell hc
  have hlt := World.block_lt_of_cell? w _ hc'
  simp only at hlt
  have hc2 : ∀ o, (w.alloc o).cell? ⟨b, 0, none⟩ = some (.int .i64 n) := fun o => by rw [World.cell?_alloc_past _ _ _ hlt]; exact hc'
  clear hc hb hc' hlt
  have hc3 := hc2 (.cells #[qv, .int .i64 k.ph, .int .i64 k.tk, .int .i64 k.lk] 42)
  clear hc2
  simp only [List.append_toArray, List.cons_append, List.nil_append]
  cases hp : (k.ph == 1)
  all_goals
    go_enter Try.func79, Try.ntmps79
    go_wp2
    go_ret
    exact ⟨ret_bool (by simp), (Below.refl _ _).alloc (Nat.le_refl _) _⟩

set_option maxHeartbeats 400000 in
theorem queue_inj_calls (wsV injV : Value) (w : World) : Calls Try.prog 54 #[.agg #[wsV, injV], .int .i64 0] w fun e w' => e = .returned injV ∧ Below w.heap.size w w' := by
  go_enter Try.func54, Try.ntmps54
  go_wp2
  go_ret
  exact ⟨rfl, (Below.refl _ _).alloc (Nat.le_refl _) _⟩
set_option maxHeartbeats 400000 in
theorem queue_at_calls (wsV injV : Value) (qs : List Value) (ws : List Wk) (k : Nat) (w : World) (h : RWs w wsV qs ws) (hk : k < ws.length) (hb : ws.length ≤ 1000000) :
    Calls Try.prog 54 #[.agg #[wsV, injV], .int .i64 ((k : Int) + 1)] w fun e w' => e = .returned (qs.getD k undef) ∧ Below w.heap.size w w' := by
  rcases h.cases with ⟨rfl, a, c, rfl⟩ | ⟨h0, b, o, c, rfl, hc⟩
  · simp at hk
  · have c0 := (hc k hk).1
    have hlt := World.block_lt_of_cell? w _ c0
    simp only at hlt
    have hc3 : (w.alloc (.cells #[.slice (some ⟨b, o, none⟩) ws.length c, injV] 26)).cell? ⟨b, o + k * 4, none⟩ = some (qs.getD k undef) := by rw [World.cell?_alloc_past _ _ _ hlt]; exact c0
    have hz : (((k : Int) + 1) == 0) = false := beq_eq_false_iff_ne.2 (by omega)
    clear hc c0 hlt h
    generalize hn : ws.length = n at *
    clear hn
    generalize hq : qs.getD k undef = qv at *
    clear hq
    go_enter Try.func54, Try.ntmps54
    go_wp2
    go_ret
    exact ⟨rfl, (Below.refl _ _).alloc (Nat.le_refl _) _⟩
set_option maxHeartbeats 400000 in
theorem watched_calls (wsV injV : Value) (qs : List Value) (s : St) (k : Int) (w : World) (h : RWs w wsV qs s.ws) (hb : s.ws.length ≤ 1000000) :
    Calls Try.prog 55 #[.agg #[wsV, injV], .int .i64 k] w fun e w' => e = .returned (.bool (Sched.watched s k)) ∧ Below w.heap.size w w' := by
  have hb2 : Below w.heap.size w ((w.alloc (.cells #[wsV, injV] 26)).alloc (.cells #[.int .i64 k] 3)) := ((Below.refl _ _).alloc (Nat.le_refl _) _).alloc (by simp) _
  have h2 := h.below hb2
  have ha := answers79 ((w.alloc (.cells #[wsV, injV] 26)).alloc (.cells #[.int .i64 k] 3)) (w.heap.size + 1) k (by rw [World.cell?_alloc_at _ _ _ _ (by simp)]; rfl)
  go_enter Try.func55, Try.ntmps55
  go_wp2_with fail
  refine (containsFunc_calls wsV qs s.ws 79 _ _ _ h2 hb ha cf79).mono ?_
  rintro e w1 ⟨rfl, hb1⟩
  replace hb1 := hb2.then hb1
  clear hb2 h2 ha h
  go_wp2
  go_ret
  exact ⟨rfl, hb1⟩
end Go.Proofs.Ytjnlfibcpkobaaa
