/- What the law ScheduleWakes keeps, as plain data. No program. -/
import Derived.Test.YtjnlfibcpkobaaaPc
namespace Go.Proofs.Ytjnlfibcpkobaaa
open Go.RowKit Go.Sl Go.Sched

/-- Push of a new task by a worker that runs. -/
theorem push_ok {s : St} (h : Ok s) {x : Nat} (hx : x < s.ws.length) (h3 : (s.ws.getD x wk0).ph = 3) {t : Int} (ht : 0 ≤ t) (hn : t ∉ tasks s) (hl : (tasks s).length < 2000) :
    pushS s x t = ((pushS s x t).1, (pushS s x t).2.1, 0) ∧ Ok (pushS s x t).1 ∧ (pushS s x t).1.ws.length = s.ws.length ∧ List.Perm (qT (pushS s x t).1) (t :: qT s) ∧ List.Perm (rT (pushS s x t).1) (rT s) := by
  have hp : putE s t = 0 := by unfold putE; rw [if_neg hn, if_neg (by omega)]
  have e : pushS s x t = ((wake (upd s x fun k => { k with q := k.q ++ [t] })).1, (wake (upd s x fun k => { k with q := k.q ++ [t] })).2, 0) := by
    unfold pushS
    rw [if_neg (by rw [(valid_iff s).2 h]; decide), if_neg (by omega), Int.toNat_natCast, if_neg (by rw [h3]; decide), if_neg (by rw [hp]; decide)]
  obtain ⟨a, b, h1, h2, h4, h5⟩ := upd_parts s x hx fun k => { k with q := k.q ++ [t] }
  have hpq : List.Perm (qT (upd s x fun k => { k with q := k.q ++ [t] })) (t :: qT s) := by
    refine h1.trans (List.Perm.trans ?_ (h2.symm.cons t))
    simp only [List.append_assoc, List.singleton_append]
    exact List.perm_middle
  have hpr : List.Perm (rT (upd s x fun k => { k with q := k.q ++ [t] })) (rT s) := h4.trans h5.symm
  have hpt : List.Perm (tasks (upd s x fun k => { k with q := k.q ++ [t] })) (t :: tasks s) := by
    refine (tasks_perm _).trans ?_
    refine (hpq.append hpr).trans ?_
    exact (tasks_perm s).symm.cons t
  obtain ⟨w1, w2, w3⟩ := wake_tasks (upd s x fun k => { k with q := k.q ++ [t] })
  rw [e]
  refine ⟨rfl, ?_, (wake_len _).trans (upd_len _ _ _), w2.trans hpq, w3.trans hpr⟩
  refine ok_wake (by rw [upd_len]; exact h.n1) (by rw [upd_len]; exact h.n64) (fun u hu => ?_) (by rw [hpt.length_eq]; simp; omega) (fun y hy => ?_) ?_
  · rw [upd_len]
    rcases upd_mem hu with rfl | hu
    · exact (formed_q _ _ _).trans (h.form _ (getD_mem hx))
    · exact h.form u hu
  · rcases List.mem_cons.1 (hpt.mem_iff.1 hy) with rfl | hy
    · exact ht
    · exact h.pos y hy
  · exact hpt.nodup_iff.2 (List.nodup_cons.2 ⟨hn, h.nd⟩)
/-- Push by a worker that does not run. -/
theorem push_no {s : St} (h : Ok s) {x : Nat} (hx : x < s.ws.length) (h3 : (s.ws.getD x wk0).ph ≠ 3) {t : Int} (ht : 0 ≤ t) : pushS s x t = (⟨[], []⟩, 0, 310) := by
  unfold pushS
  rw [if_neg (by rw [(valid_iff s).2 h]; decide), if_neg (by omega), Int.toNat_natCast, if_pos h3]

/-- What was put in, taken, ended, beside the state, ahead of operation k. -/
structure WInv (k : Nat) (s : St) (put taken ended : List Int) : Prop where
  ok : Ok s
  nd : put.Nodup
  lt : ∀ x ∈ put, x < k
  few : put.length ≤ k
  q : List.Perm put (taken ++ qT s)
  r : List.Perm taken (ended ++ rT s)

theorem WInv.notin {k : Nat} {s : St} {put taken ended : List Int} (h : WInv k s put taken ended) : (k : Int) ∉ tasks s := by
  intro hm
  rcases List.mem_append.1 ((tasks_perm s).mem_iff.1 hm) with hm | hm
  · have := h.lt _ (h.q.mem_iff.2 (List.mem_append_right _ hm)); omega
  · have := h.lt _ (h.q.mem_iff.2 (List.mem_append_left _ (h.r.mem_iff.2 (List.mem_append_right _ hm)))); omega
theorem WInv.tasks_few {k : Nat} {s : St} {put taken ended : List Int} (h : WInv k s put taken ended) : (tasks s).length ≤ k := by
  have h1 := (tasks_perm s).length_eq
  have h2 := h.q.length_eq
  have h3 := h.r.length_eq
  have h4 := h.few
  simp only [List.length_append] at h1 h2 h3
  omega
theorem WInv.next {k : Nat} {s : St} {put taken ended : List Int} (h : WInv k s put taken ended) : WInv (k + 1) s put taken ended :=
  ⟨h.ok, h.nd, fun x hx => by have := h.lt x hx; omega, by have := h.few; omega, h.q, h.r⟩
/-- A task was put in. -/
theorem WInv.put {k : Nat} {s s' : St} {put taken ended : List Int} (h : WInv k s put taken ended) (hok : Ok s') (hq : List.Perm (qT s') ((k : Int) :: qT s)) (hr : List.Perm (rT s') (rT s)) : WInv (k + 1) s' (put ++ [(k : Int)]) taken ended := by
  refine ⟨hok, ?_, fun x hx => ?_, by have := h.few; simp; omega, ?_, h.r.trans (hr.symm.append_left _)⟩
  · refine List.nodup_append.2 ⟨h.nd, by simp, fun x hx y hy => ?_⟩
    simp only [List.mem_singleton] at hy
    have := h.lt x hx
    omega
  · rcases List.mem_append.1 hx with hx | hx
    · have := h.lt x hx; omega
    · simp only [List.mem_singleton] at hx
      omega
  · refine (h.q.append_right _).trans ?_
    rw [List.append_assoc]
    refine List.Perm.append_left _ ?_
    exact (List.perm_append_comm).trans hq.symm
/-- A step: what is taken, what ends. -/
theorem WInv.step {k : Nat} {s : St} {put taken ended : List Int} (h : WInv k s put taken ended) {i : Nat} (hi : i < s.ws.length) (c : Int) :
    WInv (k + 1) (stepS s i c).1 put (if (stepS s i c).2.kind = 1 ∨ (stepS s i c).2.kind = 2 then taken ++ [(stepS s i c).2.task] else taken) (if (stepS s i c).2.kind = 3 then ended ++ [(stepS s i c).2.task] else ended) := by
  have he := step_eff s i c hi
  have hok := ok_step h.ok hi c
  generalize stepS s i c = r at *
  rcases he.parts with ⟨hk, h1, h2⟩ | ⟨hk, h1, h2⟩ | ⟨hk, h1, h2⟩
  · rw [if_pos hk, if_neg (by omega)]
    refine ⟨hok, h.nd, h.next.lt, h.next.few, ?_, ?_⟩
    · refine h.q.trans ?_
      rw [List.append_assoc]
      exact h1.append_left _
    · refine (h.r.append_right _).trans ?_
      rw [List.append_assoc]
      refine List.Perm.append_left _ ?_
      exact List.perm_append_comm.trans h2.symm
  · rw [if_neg (by omega), if_pos hk]
    refine ⟨hok, h.nd, h.next.lt, h.next.few, h.q.trans (h1.append_left _), ?_⟩
    refine h.r.trans ?_
    rw [List.append_assoc]
    exact h2.append_left _
  · rw [if_neg (by omega), if_neg (by omega)]
    exact ⟨hok, h.nd, h.next.lt, h.next.few, h.q.trans (h1.append_left _), h.r.trans (h2.append_left _)⟩

theorem Ok.sleep {s : St} (h : Ok s) (hs : ∀ u ∈ s.ws, u.ph = 2) : qT s = [] := by
  rcases h.seen with ⟨u, hu, ha⟩ | hs2
  · rw [asleep, hs u hu] at ha
    cases ha
  · have hw : ∀ j, Sched.watched s j = false := by
      intro j
      unfold Sched.watched
      rw [List.any_eq_false]
      intro u hu
      rw [hs u hu]
      simp
    have hq : ∀ j, j ≤ s.ws.length → Sched.queue s j = [] := fun j hj => (hs2 j hj).resolve_right (by rw [hw]; decide)
    unfold qT
    rw [List.append_eq_nil_iff]
    refine ⟨hq 0 (Nat.zero_le _), ?_⟩
    rw [List.flatMap_eq_nil_iff]
    intro u hu
    obtain ⟨i, hi, rfl⟩ := List.getElem_of_mem hu
    have := hq (i + 1) (by omega)
    unfold Sched.queue at this
    rw [if_neg (by omega)] at this
    simpa [List.getD, hi] using this
/-- At the end: each taken once, each ended once, only what was taken ended. -/
theorem WInv.fin {k : Nat} {s : St} {put taken ended : List Int} (h : WInv k s put taken ended) : taken.Nodup ∧ ended.Nodup ∧ (∀ x ∈ ended, x ∈ taken) ∧ put.length = taken.length + (qT s).length := by
  have h1 := (List.nodup_append.1 (h.q.nodup_iff.1 h.nd)).1
  refine ⟨h1, (List.nodup_append.1 (h.r.nodup_iff.1 h1)).1, fun x hx => h.r.mem_iff.2 (List.mem_append_left _ hx), ?_⟩
  have := h.q.length_eq
  rw [List.length_append] at this
  exact this
theorem WInv.start {n : Nat} (h1 : 1 ≤ n) (h2 : n ≤ 64) : WInv 0 ⟨List.replicate n wkN, []⟩ [] [] [] := by
  have hq : qT ⟨List.replicate n wkN, []⟩ = [] := by
    unfold qT
    simp only [List.nil_append, List.flatMap_eq_nil_iff, List.mem_replicate]
    rintro x ⟨_, rfl⟩
    rfl
  have hr : rT ⟨List.replicate n wkN, []⟩ = [] := by
    unfold rT
    simp only [List.flatMap_eq_nil_iff, List.mem_replicate]
    rintro x ⟨_, rfl⟩
    rfl
  exact ⟨new_ok h1 h2, by simp, by simp, by simp, by rw [hq]; simp, by rw [hr]; simp⟩
end Go.Proofs.Ytjnlfibcpkobaaa
