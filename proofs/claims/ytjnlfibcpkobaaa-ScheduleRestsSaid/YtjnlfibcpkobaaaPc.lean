/- Play of two scripts; what Submit and Push put in. No program. -/
import Derived.Test.YtjnlfibcpkobaaaPp
namespace Go.Proofs.Ytjnlfibcpkobaaa
open Go.RowKit Go.Sl Go.Sched

theorem who_lt (s : St) (x : Int) (h0 : 0 < s.ws.length) : who s x < s.ws.length := by
  obtain ⟨_, _, _, _, _, _, _, h⟩ := who_facts s x h0
  exact h
theorem play_ok : ∀ (l : List (Int × Int)) (s : St), Ok s → Ok (playS s l).1 ∧ (playS s l).1.ws.length = s.ws.length
  | [], s, h => ⟨h, rfl⟩
  | (x, c) :: l, s, h => by
    by_cases hr : restS s = true
    · rw [playS_rest s _ hr]; exact ⟨h, rfl⟩
    · have hr2 : restS s = false := by simpa using hr
      rw [playS_step (p := (x, c)) hr2]
      have hw := who_lt s x h.n1
      have h2 := play_ok l (stepS s (who s x) c).1 (ok_step h hw c)
      exact ⟨h2.1, h2.2.trans (step_eff s (who s x) c hw).len⟩
theorem play_append : ∀ (l m : List (Int × Int)) (s : St), restS (playS s l).1 = false → playS s (l ++ m) = ((playS (playS s l).1 m).1, (playS s l).2 ++ (playS (playS s l).1 m).2)
  | [], m, s, _ => by simp [playS]
  | (x, c) :: l, m, s, h => by
    by_cases hr : restS s = true
    · rw [playS_rest s _ hr] at h
      rw [hr] at h
      cases h
    · have hr2 : restS s = false := by simpa using hr
      rw [playS_step (p := (x, c)) hr2] at h ⊢
      have ih := play_append l m (stepS s (who s x) c).1 h
      rw [List.cons_append, playS_step (p := (x, c)) hr2]
      simp only
      rw [ih]
      simp only [List.append_assoc]
theorem play_few : ∀ (l : List (Int × Int)) (s : St), (playS s l).2.length ≤ l.length
  | [], s => by simp [playS]
  | (x, c) :: l, s => by
    by_cases hr : restS s = true
    · rw [playS_rest s _ hr]; simp
    · have hr2 : restS s = false := by simpa using hr
      rw [playS_step (p := (x, c)) hr2]
      have := play_few l (stepS s (who s x) c).1
      simp only [List.length_append, List.length_cons]
      split
      · simp only [List.length_nil]; omega
      · simp only [List.length_cons, List.length_nil]; omega

theorem wake_tasks (s : St) : List.Perm (tasks (wake s).1) (tasks s) ∧ List.Perm (qT (wake s).1) (qT s) ∧ List.Perm (rT (wake s).1) (rT s) := by
  unfold wake
  cases hf : s.ws.findIdx? asleep with
  | none => exact ⟨List.Perm.refl _, List.Perm.refl _, List.Perm.refl _⟩
  | some i =>
    rw [List.findIdx?_eq_some_iff_getElem] at hf
    obtain ⟨hi, ha, -⟩ := hf
    have hg : s.ws.getD i wk0 = s.ws[i] := by simp [List.getD, hi]
    have hne : (s.ws.getD i wk0).ph ≠ 3 := by
      rw [hg]
      unfold asleep at ha
      simp only [Bool.or_eq_true, beq_iff_eq] at ha
      omega
    obtain ⟨a, b, h1, h2, h4, h5⟩ := upd_parts s i hi fun k => { k with ph := 0, lk := 0 }
    have e : rOf (s.ws.getD i wk0) = [] := by unfold rOf; rw [if_neg hne]
    rw [e] at h5
    exact ⟨(tasks_perm _).trans (List.Perm.trans ((h1.trans h2.symm).append (h4.trans h5.symm)) (tasks_perm s).symm), h1.trans h2.symm, h4.trans h5.symm⟩

/-- Submit of a new task. -/
theorem submit_ok {s : St} (h : Ok s) {t : Int} (ht : 0 ≤ t) (hn : t ∉ tasks s) (hl : (tasks s).length < 2000) :
    submitS s t = ((submitS s t).1, (submitS s t).2.1, 0) ∧ Ok (submitS s t).1 ∧ List.Perm (tasks (submitS s t).1) (t :: tasks s) ∧ (submitS s t).1.ws.length = s.ws.length ∧ List.Perm (qT (submitS s t).1) (t :: qT s) ∧ List.Perm (rT (submitS s t).1) (rT s) := by
  have hp : putE s t = 0 := by unfold putE; rw [if_neg hn, if_neg (by omega)]
  have e : submitS s t = ((wake { s with inj := s.inj ++ [t] }).1, (wake { s with inj := s.inj ++ [t] }).2, 0) := by
    unfold submitS
    rw [if_neg (by rw [(valid_iff s).2 h]; decide), if_neg (by omega), if_neg (by rw [hp]; decide)]
  have hpt : List.Perm (tasks { s with inj := s.inj ++ [t] }) (t :: tasks s) := by
    unfold tasks
    simp only [List.append_assoc, List.singleton_append]
    exact List.perm_middle
  have hpq : List.Perm (qT { s with inj := s.inj ++ [t] }) (t :: qT s) := by
    unfold qT
    simp only [List.append_assoc, List.singleton_append]
    exact List.perm_middle
  obtain ⟨w1, w2, w3⟩ := wake_tasks { s with inj := s.inj ++ [t] }
  rw [e]
  refine ⟨rfl, ?_, w1.trans hpt, wake_len _, w2.trans hpq, w3⟩
  refine ok_wake h.n1 h.n64 h.form (by rw [hpt.length_eq]; simp; omega) (fun x hx => ?_) ?_
  · rcases List.mem_cons.1 (hpt.mem_iff.1 hx) with rfl | hx
    · exact ht
    · exact h.pos x hx
  · exact hpt.nodup_iff.2 (List.nodup_cons.2 ⟨hn, h.nd⟩)
theorem new_ok {n : Nat} (h1 : 1 ≤ n) (h2 : n ≤ 64) : Ok ⟨List.replicate n wkN, []⟩ := by
  have ht : tasks ⟨List.replicate n wkN, []⟩ = [] := by
    unfold tasks
    simp only [List.nil_append, List.flatMap_eq_nil_iff, List.mem_replicate]
    rintro x ⟨_, rfl⟩
    rfl
  refine ⟨by simpa using h1, by simpa using h2, fun k hk => ?_, by rw [ht]; simp, by rw [ht]; simp, by rw [ht]; simp, Or.inl ⟨wkN, by simp; omega, rfl⟩⟩
  obtain ⟨_, rfl⟩ := List.mem_replicate.1 hk
  refine (formed_iff _ _).2 ⟨Or.inl rfl, Int.le_refl 0, ?_, Or.inr ⟨by decide, rfl⟩⟩
  show (0 : Int) ≤ most _ 0
  unfold most
  rw [if_pos rfl]
  omega
end Go.Proofs.Ytjnlfibcpkobaaa
