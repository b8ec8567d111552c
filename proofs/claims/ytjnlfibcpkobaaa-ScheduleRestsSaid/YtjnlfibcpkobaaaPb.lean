/- Right states stay right. No program. -/
import Derived.Test.YtjnlfibcpkobaaaPa
import Derived.Test.YtjnlfibcpkobaaaQ
namespace Go.Proofs.Ytjnlfibcpkobaaa
open Go.RowKit Go.Sl Go.Sched

theorem Eff.tasks {s : St} {i : Nat} {r : St × Ev} (h : Eff s i r) : ∃ l, List.Perm (tasks s) (l ++ tasks r.1) := by
  rcases h.parts with ⟨_, h1, h2⟩ | ⟨_, h1, h2⟩ | ⟨_, h1, h2⟩
  · refine ⟨[], (tasks_perm s).trans (List.Perm.trans ?_ (tasks_perm r.1).symm)⟩
    refine (h1.append_right _).trans ?_
    refine List.Perm.trans ?_ (h2.symm.append_left _)
    exact (List.perm_middle).symm
  · refine ⟨[r.2.task], (tasks_perm s).trans (List.Perm.trans ?_ ((tasks_perm r.1).symm.append_left _))⟩
    refine (h1.append_right _).trans ?_
    refine (h2.append_left _).trans ?_
    exact List.perm_middle
  · exact ⟨[], (tasks_perm s).trans (List.Perm.trans ((h1.append_right _).trans (h2.append_left _)) (tasks_perm r.1).symm)⟩

theorem upd_mem {s : St} {i : Nat} {f : Wk → Wk} {k : Wk} (h : k ∈ (upd s i f).ws) : k = f (s.ws.getD i wk0) ∨ k ∈ s.ws := mem_set h
theorem upd_self {s : St} {i : Nat} {f : Wk → Wk} (hi : i < s.ws.length) : f (s.ws.getD i wk0) ∈ (upd s i f).ws := mem_set_self hi

theorem formed_iff (n : Int) (k : Wk) : formed n k = true ↔ (k.ph = 0 ∨ k.ph = 1 ∨ k.ph = 2 ∨ k.ph = 3) ∧ 0 ≤ k.lk ∧ k.lk ≤ most n k.ph ∧ ((k.ph = 3 ∧ 0 ≤ k.tk) ∨ (k.ph ≠ 3 ∧ k.tk = -1)) := by
  unfold formed
  simp only [Bool.and_eq_true, Bool.or_eq_true, decide_eq_true_eq, beq_iff_eq, bne_iff_ne, or_assoc, and_assoc]

theorem formed_q (n : Int) (k : Wk) (q : List Int) : formed n { k with q := q } = formed n k := rfl

/-- A step that leaves a worker awake. -/
theorem ok_awake {s : St} (h : Ok s) {i : Nat} {r : St × Ev} (he : Eff s i r) (hf : ∀ k ∈ r.1.ws, formed s.ws.length k = true) (hw : ∃ k ∈ r.1.ws, asleep k = false) : Ok r.1 := by
  obtain ⟨l, hl⟩ := he.tasks
  exact h.of_tasks he.len hf l hl (Or.inl hw)

theorem ok_runs {s s1 : St} (h : Ok s) (hl : s1.ws.length = s.ws.length) (hf : ∀ k ∈ s1.ws, formed s.ws.length k = true) {i : Nat} (hi : i < s.ws.length) {t k src : Int} (hk : k = 1 ∨ k = 2) (he : Eff s i (runs s1 i t, ⟨k, i, t, src⟩)) : Ok (runs s1 i t) := by
  have hi1 : i < s1.ws.length := by rw [hl]; exact hi
  have ht : 0 ≤ t := by
    rcases he.parts with ⟨_, h1, _⟩ | ⟨hk3, _⟩ | ⟨hk3, _⟩
    · exact h.pos t ((tasks_perm s).mem_iff.2 (List.mem_append_left _ (h1.mem_iff.2 (by simp))))
    · simp only at hk3; omega
    · simp only at hk3; omega
  refine ok_awake h he (fun u hu => ?_) ⟨_, upd_self hi1, by simp [asleep]⟩
  rcases upd_mem hu with rfl | hu
  · rw [formed_iff]
    simp [most, ht]
  · exact hf u hu

theorem ok_sk {s : St} (h : Ok s) {i : Nat} (hi : i < s.ws.length) (c : Int) (h0 : (s.ws.getD i wk0).ph = 0) : Ok (sk s i c).1 := by
  have he := Eff.sk c hi h0
  have hfi := (formed_iff _ _).1 (h.form _ (getD_mem hi))
  obtain ⟨-, f1, f2, f3⟩ := hfi
  rw [h0] at f2 f3
  have f4 : (s.ws.getD i wk0).tk = -1 := by rcases f3 with ⟨h, _⟩ | ⟨_, h⟩ <;> omega
  have hann : (upd s i fun k => { k with ph := 1, lk := 0 }, (⟨4, i, -1, -1⟩ : Ev)) = sk s i c → Ok (sk s i c).1 := by
    intro e
    obtain ⟨l, hl⟩ := he.tasks
    rw [← e] at hl ⊢
    refine h.of_tasks (upd_len _ _ _) (fun u hu => ?_) l hl (Or.inr fun j hj => Or.inr ?_)
    · rcases upd_mem hu with rfl | hu
      · exact (formed_iff _ _).2 ⟨Or.inr (Or.inl rfl), Int.le_refl 0, by show (0 : Int) ≤ most _ 1; simp [most], Or.inr ⟨by show (1 : Int) ≠ 3; decide, f4⟩⟩
      · exact h.form u hu
    · unfold Sched.watched
      rw [List.any_eq_true]
      exact ⟨_, upd_self hi, by simp⟩
  by_cases hq : (s.ws.getD i wk0).q ≠ []
  · have e : sk s i c = (runs (upd s i fun k => { k with q := k.q.dropLast }) i ((s.ws.getD i wk0).q.getLastD 0), ⟨1, i, (s.ws.getD i wk0).q.getLastD 0, i⟩) := by unfold sk; rw [if_pos hq]
    rw [e] at he ⊢
    refine ok_runs h (upd_len _ _ _) (fun u hu => ?_) hi (Or.inl rfl) he
    rcases upd_mem hu with rfl | hu
    · exact (formed_q _ _ _).trans (h.form _ (getD_mem hi))
    · exact h.form u hu
  by_cases hj : s.inj ≠ []
  · have e : sk s i c = (runs { s with inj := s.inj.tail } i (s.inj.headD 0), ⟨1, i, s.inj.headD 0, -1⟩) := by unfold sk; rw [if_neg hq, if_pos hj]
    rw [e] at he ⊢
    exact ok_runs (s1 := { s with inj := s.inj.tail }) h rfl h.form hi (Or.inl rfl) he
  by_cases hn : s.ws.length ≤ 1
  · exact hann (by unfold sk; rw [if_neg hq, if_neg hj, if_pos hn])
  by_cases hv : (s.ws.getD (victim s.ws.length i c) wk0).q ≠ []
  · have e : sk s i c = (runs (upd s (victim s.ws.length i c) fun k => { k with q := k.q.tail }) i ((s.ws.getD (victim s.ws.length i c) wk0).q.headD 0), ⟨2, i, (s.ws.getD (victim s.ws.length i c) wk0).q.headD 0, (victim s.ws.length i c : Nat)⟩) := by
      unfold sk; rw [if_neg hq, if_neg hj, if_neg hn, if_pos hv]
    obtain ⟨x', y, -, -, -, -, -, -, -, -, hvn⟩ := victim_bounds s.ws.length i c (by omega)
    rw [e] at he ⊢
    refine ok_runs h (upd_len _ _ _) (fun u hu => ?_) hi (Or.inr rfl) he
    rcases upd_mem hu with rfl | hu
    · exact (formed_q _ _ _).trans (h.form _ (getD_mem hvn))
    · exact h.form u hu
  by_cases hl : (s.ws.getD i wk0).lk + 1 = (s.ws.length : Int) - 1
  · exact hann (by unfold sk; rw [if_neg hq, if_neg hj, if_neg hn, if_neg hv, if_pos hl])
  · have e : sk s i c = (upd s i fun k => { k with lk := k.lk + 1 }, ⟨0, i, -1, -1⟩) := by unfold sk; rw [if_neg hq, if_neg hj, if_neg hn, if_neg hv, if_neg hl]
    rw [e] at he ⊢
    refine ok_awake h he (fun u hu => ?_) ⟨_, upd_self hi, by simp only [asleep, h0]; decide⟩
    rcases upd_mem hu with rfl | hu
    · refine (formed_iff _ _).2 ⟨Or.inl h0, by show 0 ≤ (s.ws.getD i wk0).lk + 1; omega, ?_, Or.inr ⟨by show (s.ws.getD i wk0).ph ≠ 3; omega, f4⟩⟩
      show (s.ws.getD i wk0).lk + 1 ≤ most _ (s.ws.getD i wk0).ph
      rw [h0]
      unfold most at f2 ⊢
      rw [if_pos rfl] at f2 ⊢
      omega
    · exact h.form u hu

theorem queue_upd (s : St) (i : Nat) (f : Wk → Wk) (hf : (f (s.ws.getD i wk0)).q = (s.ws.getD i wk0).q) (hi : i < s.ws.length) (j : Nat) : Sched.queue (upd s i f) j = Sched.queue s j := by
  unfold Sched.queue
  by_cases hj : j = 0
  · rw [if_pos hj, if_pos hj]; rfl
  · rw [if_neg hj, if_neg hj]
    have := getD_upd s i (j - 1) f hi
    unfold wk0 at this hf
    rw [this]
    split
    · rename_i e; rw [hf, e]
    · rfl

theorem ok_chk {s : St} (h : Ok s) {i : Nat} (hi : i < s.ws.length) (h1 : (s.ws.getD i wk0).ph = 1) : Ok (chk s i).1 := by
  have he := Eff.chk hi h1
  have hfi := (formed_iff _ _).1 (h.form _ (getD_mem hi))
  obtain ⟨-, f1, f2, f3⟩ := hfi
  rw [h1] at f2 f3
  have f4 : (s.ws.getD i wk0).tk = -1 := by rcases f3 with ⟨h, _⟩ | ⟨_, h⟩ <;> omega
  by_cases hq : (Sched.queue s (s.ws.getD i wk0).lk.toNat).isEmpty = false
  · have e : chk s i = (upd s i fun k => { k with ph := 0, lk := 0 }, ⟨5, i, -1, -1⟩) := by unfold chk; rw [if_pos hq]
    rw [e] at he ⊢
    refine ok_awake h he (fun u hu => ?_) ⟨_, upd_self hi, by simp [asleep]⟩
    rcases upd_mem hu with rfl | hu
    · exact (formed_iff _ _).2 ⟨Or.inl rfl, Int.le_refl 0, by show (0 : Int) ≤ most _ 0; unfold most; rw [if_pos rfl]; omega, Or.inr ⟨by show (0 : Int) ≠ 3; decide, f4⟩⟩
    · exact h.form u hu
  have hqe : Sched.queue s (s.ws.getD i wk0).lk.toNat = [] := by
    cases hx : Sched.queue s (s.ws.getD i wk0).lk.toNat with
    | nil => rfl
    | cons a b => rw [hx] at hq; simp at hq
  -- the others see what they saw; what this one saw alone is empty now
  have seen : ∀ (f : Wk → Wk), (f (s.ws.getD i wk0)).q = (s.ws.getD i wk0).q → (∀ j : Nat, (j : Int) ≤ s.ws.length → (s.ws.getD i wk0).lk ≤ j → j ≠ (s.ws.getD i wk0).lk.toNat → ((f (s.ws.getD i wk0)).ph == 1 && decide ((f (s.ws.getD i wk0)).lk ≤ j)) = true) →
      (∃ k ∈ (upd s i f).ws, asleep k = false) ∨ ∀ j, j ≤ s.ws.length → Sched.queue (upd s i f) j = [] ∨ Sched.watched (upd s i f) j = true := by
    intro f hfq hfw
    rcases h.seen with ⟨k, hk, hka⟩ | hs
    · refine Or.inl ⟨k, mem_set_other hk (fun e => ?_), hka⟩
      rw [e] at hka
      simp [asleep] at hka
      exact hka.1 (by simpa using h1)
    · refine Or.inr fun j hj => ?_
      rw [queue_upd s i f hfq hi]
      rcases hs j hj with h2 | h2
      · exact Or.inl h2
      by_cases hjl : j = (s.ws.getD i wk0).lk.toNat
      · subst hjl; exact Or.inl hqe
      refine Or.inr ?_
      unfold Sched.watched at h2 ⊢
      rw [List.any_eq_true] at h2 ⊢
      obtain ⟨k, hk, hk2⟩ := h2
      by_cases hke : k = s.ws.getD i wk0
      · subst hke
        simp only [Bool.and_eq_true, beq_iff_eq, decide_eq_true_eq] at hk2
        exact ⟨_, upd_self hi, hfw j (by omega) hk2.2 hjl⟩
      · exact ⟨k, mem_set_other hk hke, hk2⟩
  obtain ⟨l, hl⟩ := he.tasks
  have hf2 : most (s.ws.length : Int) 1 = s.ws.length := by simp [most]
  by_cases hn : (s.ws.getD i wk0).lk = s.ws.length
  · have e : chk s i = (upd s i fun k => { k with ph := 2, lk := 0 }, ⟨6, i, -1, -1⟩) := by unfold chk; rw [if_neg hq, if_pos hn]
    rw [e] at hl ⊢
    refine h.of_tasks (upd_len _ _ _) (fun u hu => ?_) l hl (seen _ rfl fun j hj hlj hne => ?_)
    · rcases upd_mem hu with rfl | hu
      · exact (formed_iff _ _).2 ⟨Or.inr (Or.inr (Or.inl rfl)), Int.le_refl 0, by show (0 : Int) ≤ most _ 2; simp [most], Or.inr ⟨by show (2 : Int) ≠ 3; decide, f4⟩⟩
      · exact h.form u hu
    · omega
  · have e : chk s i = (upd s i fun k => { k with lk := k.lk + 1 }, ⟨0, i, -1, -1⟩) := by unfold chk; rw [if_neg hq, if_neg hn]
    rw [e] at hl ⊢
    refine h.of_tasks (upd_len _ _ _) (fun u hu => ?_) l hl (seen _ rfl fun j hj hlj hne => ?_)
    · rcases upd_mem hu with rfl | hu
      · refine (formed_iff _ _).2 ⟨Or.inr (Or.inl h1), by show 0 ≤ (s.ws.getD i wk0).lk + 1; omega, ?_, Or.inr ⟨by show (s.ws.getD i wk0).ph ≠ 3; omega, f4⟩⟩
        show (s.ws.getD i wk0).lk + 1 ≤ most _ (s.ws.getD i wk0).ph
        rw [h1, hf2]
        omega
      · exact h.form u hu
    · show ((s.ws.getD i wk0).ph == 1 && decide ((s.ws.getD i wk0).lk + 1 ≤ j)) = true
      rw [h1]
      simp only [Bool.and_eq_true, beq_iff_eq, decide_eq_true_eq, true_and]
      omega

theorem ok_ends {s : St} (h : Ok s) {i : Nat} (hi : i < s.ws.length) (h3 : (s.ws.getD i wk0).ph = 3) : Ok (ends s i) := by
  have he := Eff.ends hi h3
  refine ok_awake h he (fun u hu => ?_) ⟨_, upd_self (f := fun k => ⟨k.q, 0, -1, 0⟩) hi, by simp [asleep]⟩
  rcases upd_mem (f := fun k => ⟨k.q, 0, -1, 0⟩) hu with rfl | hu
  · exact (formed_iff _ _).2 ⟨Or.inl rfl, Int.le_refl 0, by show (0 : Int) ≤ most _ 0; unfold most; rw [if_pos rfl]; omega, Or.inr ⟨by show (0 : Int) ≠ 3; decide, rfl⟩⟩
  · exact h.form u hu

theorem ok_step {s : St} (h : Ok s) {i : Nat} (hi : i < s.ws.length) (c : Int) : Ok (stepS s i c).1 := by
  unfold stepS
  split
  · exact ok_sk h hi c (by assumption)
  split
  · exact ok_chk h hi (by assumption)
  split
  · exact ok_ends h hi (by assumption)
  · exact h

/-- A first worker that announced itself wakes: what all but the queues say is right again. -/
theorem ok_wake {s : St} (n1 : 1 ≤ s.ws.length) (n64 : s.ws.length ≤ 64) (form : ∀ k ∈ s.ws, formed s.ws.length k = true) (few : (tasks s).length ≤ 2000) (pos : ∀ x ∈ tasks s, 0 ≤ x) (nd : (tasks s).Nodup) : Ok (wake s).1 := by
  unfold wake
  cases hf : s.ws.findIdx? asleep with
  | none =>
    refine ⟨n1, n64, form, few, pos, nd, Or.inl ?_⟩
    rw [List.findIdx?_eq_none_iff] at hf
    obtain ⟨k, hk⟩ := List.exists_mem_of_length_pos n1
    exact ⟨k, hk, by simpa using hf k hk⟩
  | some i =>
    rw [List.findIdx?_eq_some_iff_getElem] at hf
    obtain ⟨hi, ha, -⟩ := hf
    have hg : s.ws.getD i wk0 = s.ws[i] := by simp [List.getD, hi]
    have hfi := (formed_iff _ _).1 (form _ (getD_mem hi))
    have hne : (s.ws.getD i wk0).ph ≠ 3 := by
      rw [hg]
      unfold asleep at ha
      simp only [Bool.or_eq_true, beq_iff_eq] at ha
      omega
    have f4 : (s.ws.getD i wk0).tk = -1 := by rcases hfi.2.2.2 with ⟨h, _⟩ | ⟨_, h⟩; exact absurd h hne; exact h
    have ht : List.Perm (tasks (upd s i fun k => { k with ph := 0, lk := 0 })) (tasks s) := by
      obtain ⟨a, b, h1, h2, h4, h5⟩ := upd_parts s i hi fun k => { k with ph := 0, lk := 0 }
      have e : rOf (s.ws.getD i wk0) = [] := by unfold rOf; rw [if_neg hne]
      rw [e] at h5
      exact (tasks_perm _).trans (List.Perm.trans ((h1.trans h2.symm).append (h4.trans h5.symm)) (tasks_perm s).symm)
    refine ⟨by rw [upd_len]; exact n1, by rw [upd_len]; exact n64, fun u hu => ?_, by rw [ht.length_eq]; exact few, fun x hx => pos x (ht.mem_iff.1 hx), ht.nodup_iff.2 nd, Or.inl ⟨_, upd_self (f := fun k => { k with ph := 0, lk := 0 }) hi, by simp [asleep]⟩⟩
    rw [upd_len]
    rcases upd_mem (f := fun k => { k with ph := 0, lk := 0 }) hu with rfl | hu
    · exact (formed_iff _ _).2 ⟨Or.inl rfl, Int.le_refl 0, by show (0 : Int) ≤ most _ 0; unfold most; rw [if_pos rfl]; omega, Or.inr ⟨by show (0 : Int) ≠ 3; decide, f4⟩⟩
    · exact form u hu
end Go.Proofs.Ytjnlfibcpkobaaa
