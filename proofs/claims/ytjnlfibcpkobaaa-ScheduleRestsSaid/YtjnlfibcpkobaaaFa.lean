/- Steps in turn bring a right state to rest. No program. -/
import Derived.Test.YtjnlfibcpkobaaaPd
namespace Go.Proofs.Ytjnlfibcpkobaaa
open Go.RowKit Go.Sl Go.Sched

/-- A worker that has announced itself has no task of its own. -/
def Bare (s : St) : Prop := ∀ k ∈ s.ws, asleep k = true → k.q = []
/-- What is still to be done. -/
def phi (s : St) : Nat := 2 * (qT s).length + (rT s).length
/-- Steps of workers by a list. -/
def run (s : St) : List (Nat × Int) → St
  | [] => s
  | p :: l => run (stepS s p.1 p.2).1 l
theorem run_append : ∀ (l m : List (Nat × Int)) (s : St), run s (l ++ m) = run (run s l) m
  | [], _, _ => rfl
  | p :: l, m, s => run_append l m (stepS s p.1 p.2).1

/-- A step either does something, or leaves all but its own worker's phase and look alone. -/
def Quiet (s : St) (i : Nat) (s' : St) : Prop := s'.inj = s.inj ∧ s'.ws.length = s.ws.length ∧ (∀ j, (s'.ws.getD j wk0).q = (s.ws.getD j wk0).q) ∧ ∀ j, j ≠ i → s'.ws.getD j wk0 = s.ws.getD j wk0
theorem quiet_upd (s : St) (i : Nat) (hi : i < s.ws.length) (f : Wk → Wk) (hf : (f (s.ws.getD i wk0)).q = (s.ws.getD i wk0).q) : Quiet s i (upd s i f) := by
  refine ⟨rfl, upd_len _ _ _, fun j => ?_, fun j hj => ?_⟩
  · rw [getD_upd _ _ _ _ hi]
    split
    · rename_i h; rw [h]; exact hf
    · rfl
  · rw [getD_upd _ _ _ _ hi, if_neg hj]
theorem step_cases (s : St) (i : Nat) (hi : i < s.ws.length) (c : Int) : phi (stepS s i c).1 < phi s ∨ (phi (stepS s i c).1 = phi s ∧ Quiet s i (stepS s i c).1 ∧ (s.ws.getD i wk0).ph ≠ 3 ∧ ¬ ((s.ws.getD i wk0).ph = 0 ∧ ((s.ws.getD i wk0).q ≠ [] ∨ s.inj ≠ [])) ∧
    ((s.ws.getD i wk0).ph = 1 → (s.ws.getD i wk0).lk = 0 → s.inj ≠ [] → ((stepS s i c).1.ws.getD i wk0).ph = 0)) := by
  have he := step_eff s i c hi
  have hphi : ((stepS s i c).2.kind = 1 ∨ (stepS s i c).2.kind = 2 ∨ (stepS s i c).2.kind = 3 → phi (stepS s i c).1 < phi s) ∧ ((stepS s i c).2.kind = 0 ∨ (stepS s i c).2.kind = 4 ∨ (stepS s i c).2.kind = 5 ∨ (stepS s i c).2.kind = 6 → phi (stepS s i c).1 = phi s) := by
    unfold phi
    rcases he.parts with ⟨hk, h1, h2⟩ | ⟨hk, h1, h2⟩ | ⟨hk, h1, h2⟩
    · have a := h1.length_eq; have b := h2.length_eq
      simp only [List.length_cons] at a b
      exact ⟨fun _ => by omega, fun h => by omega⟩
    · have a := h1.length_eq; have b := h2.length_eq
      simp only [List.length_cons] at a b
      exact ⟨fun _ => by omega, fun h => by omega⟩
    · have a := h1.length_eq; have b := h2.length_eq
      exact ⟨fun h => by omega, fun _ => by omega⟩
  unfold stepS at hphi ⊢
  by_cases h0 : (s.ws.getD i wk0).ph = 0
  · rw [if_pos h0] at hphi ⊢
    unfold sk at hphi ⊢
    by_cases hq : (s.ws.getD i wk0).q ≠ []
    · rw [if_pos hq] at hphi ⊢
      exact Or.inl (hphi.1 (Or.inl rfl))
    rw [if_neg hq] at hphi ⊢
    by_cases hj : s.inj ≠ []
    · rw [if_pos hj] at hphi ⊢
      exact Or.inl (hphi.1 (Or.inl rfl))
    rw [if_neg hj] at hphi ⊢
    have hno : ¬ ((s.ws.getD i wk0).ph = 0 ∧ ((s.ws.getD i wk0).q ≠ [] ∨ s.inj ≠ [])) := fun h => h.2.elim hq hj
    by_cases hn : s.ws.length ≤ 1
    · rw [if_pos hn] at hphi ⊢
      exact Or.inr ⟨hphi.2 (Or.inr (Or.inl rfl)), quiet_upd s i hi _ rfl, by omega, hno, fun h => by omega⟩
    rw [if_neg hn] at hphi ⊢
    by_cases hv : (s.ws.getD (victim s.ws.length i c) wk0).q ≠ []
    · rw [if_pos hv] at hphi ⊢
      exact Or.inl (hphi.1 (Or.inr (Or.inl rfl)))
    rw [if_neg hv] at hphi ⊢
    by_cases hl : (s.ws.getD i wk0).lk + 1 = (s.ws.length : Int) - 1
    · rw [if_pos hl] at hphi ⊢
      exact Or.inr ⟨hphi.2 (Or.inr (Or.inl rfl)), quiet_upd s i hi _ rfl, by omega, hno, fun h => by omega⟩
    · rw [if_neg hl] at hphi ⊢
      exact Or.inr ⟨hphi.2 (Or.inl rfl), quiet_upd s i hi _ rfl, by omega, hno, fun h => by omega⟩
  rw [if_neg h0] at hphi ⊢
  by_cases h1 : (s.ws.getD i wk0).ph = 1
  · rw [if_pos h1] at hphi ⊢
    unfold chk at hphi ⊢
    by_cases hq : (Sched.queue s (s.ws.getD i wk0).lk.toNat).isEmpty = false
    · rw [if_pos hq] at hphi ⊢
      refine Or.inr ⟨hphi.2 (Or.inr (Or.inr (Or.inl rfl))), quiet_upd s i hi _ rfl, by omega, fun h => h0 h.1, fun _ _ _ => ?_⟩
      rw [getD_upd _ _ _ _ hi, if_pos rfl]
    rw [if_neg hq] at hphi ⊢
    have hx : (s.ws.getD i wk0).lk = 0 → s.inj ≠ [] → False := by
      intro hl hj
      apply hq
      rw [hl]
      simpa [Sched.queue] using hj
    by_cases hl : (s.ws.getD i wk0).lk = s.ws.length
    · rw [if_pos hl] at hphi ⊢
      exact Or.inr ⟨hphi.2 (Or.inr (Or.inr (Or.inr rfl))), quiet_upd s i hi _ rfl, by omega, fun h => h0 h.1, fun _ a b => (hx a b).elim⟩
    · rw [if_neg hl] at hphi ⊢
      exact Or.inr ⟨hphi.2 (Or.inl rfl), quiet_upd s i hi _ rfl, by omega, fun h => h0 h.1, fun _ a b => (hx a b).elim⟩
  rw [if_neg h1] at hphi ⊢
  by_cases h3 : (s.ws.getD i wk0).ph = 3
  · rw [if_pos h3] at hphi ⊢
    exact Or.inl (hphi.1 (Or.inr (Or.inr rfl)))
  · rw [if_neg h3] at hphi ⊢
    exact Or.inr ⟨rfl, ⟨rfl, rfl, fun _ => rfl, fun _ _ => rfl⟩, h3, fun h => h0 h.1, fun h => absurd h h1⟩
theorem step_le (s : St) (i : Nat) (hi : i < s.ws.length) (c : Int) : phi (stepS s i c).1 ≤ phi s := by
  rcases step_cases s i hi c with h | ⟨h, -⟩ <;> omega
theorem step_len (s : St) (i : Nat) (hi : i < s.ws.length) (c : Int) : (stepS s i c).1.ws.length = s.ws.length := (step_eff s i c hi).len
theorem run_le : ∀ (l : List (Nat × Int)) (s : St), (∀ p ∈ l, p.1 < s.ws.length) → phi (run s l) ≤ phi s ∧ (run s l).ws.length = s.ws.length
  | [], s, _ => ⟨Nat.le_refl _, rfl⟩
  | p :: l, s, h => by
    have hp := h p (by simp)
    have hl := step_len s p.1 hp p.2
    have := run_le l (stepS s p.1 p.2).1 (fun q hq => by rw [hl]; exact h q (by simp [hq]))
    have h2 := step_le s p.1 hp p.2
    exact ⟨Nat.le_trans this.1 h2, this.2.trans hl⟩

/-- A worker whose next step does something. -/
def able (s : St) (j : Nat) : Prop := (s.ws.getD j wk0).ph = 3 ∨ ((s.ws.getD j wk0).ph = 0 ∧ ((s.ws.getD j wk0).q ≠ [] ∨ s.inj ≠ []))
theorem able_runs : ∀ (l : List (Nat × Int)) (s : St) (j : Nat), (∀ p ∈ l, p.1 < s.ws.length) → able s j → (∃ p ∈ l, p.1 = j) → phi (run s l) < phi s
  | [], _, _, _, _, h => by obtain ⟨p, hp, -⟩ := h; cases hp
  | p :: l, s, j, h, ha, hj => by
    have hp := h p (by simp)
    have hl := step_len s p.1 hp p.2
    have hr : ∀ q ∈ l, q.1 < (stepS s p.1 p.2).1.ws.length := fun q hq => by rw [hl]; exact h q (by simp [hq])
    have hle := (run_le l (stepS s p.1 p.2).1 hr).1
    show phi (run (stepS s p.1 p.2).1 l) < phi s
    rcases step_cases s p.1 hp p.2 with h1 | ⟨h1, ⟨q1, q2, q3, q4⟩, h3, h0, -⟩
    · omega
    · by_cases e : p.1 = j
      · subst e
        exact absurd ha (fun h => h.elim h3 h0)
      · have ha2 : able (stepS s p.1 p.2).1 j := by unfold able at ha ⊢; rw [q4 j (Ne.symm e), q1]; exact ha
        have hj2 : ∃ p ∈ l, p.1 = j := by
          obtain ⟨q, hq, hqj⟩ := hj
          rcases List.mem_cons.1 hq with rfl | hq
          · exact absurd hqj e
          · exact ⟨q, hq, hqj⟩
        have := able_runs l _ j hr ha2 hj2
        omega
theorem watch_runs : ∀ (l m : List (Nat × Int)) (s : St) (j : Nat), j < s.ws.length → (∀ p ∈ l ++ m, p.1 < s.ws.length) → (s.ws.getD j wk0).ph = 1 → (s.ws.getD j wk0).lk = 0 → s.inj ≠ [] → (∃ p ∈ l, p.1 = j) → (∃ p ∈ m, p.1 = j) → phi (run s (l ++ m)) < phi s
  | [], _, _, _, _, _, _, _, _, h, _ => by obtain ⟨p, hp, -⟩ := h; cases hp
  | p :: l, m, s, j, hjl, h, h1, h2, hi, hj, hm => by
    have hp := h p (by simp)
    have hl := step_len s p.1 hp p.2
    have hr : ∀ q ∈ l ++ m, q.1 < (stepS s p.1 p.2).1.ws.length := fun q hq => by rw [hl]; exact h q (List.mem_cons_of_mem _ hq)
    have hle := (run_le (l ++ m) (stepS s p.1 p.2).1 hr).1
    show phi (run (stepS s p.1 p.2).1 (l ++ m)) < phi s
    rcases step_cases s p.1 hp p.2 with hd | ⟨hd, ⟨q1, q2, q3, q4⟩, h3, h0, hf⟩
    · omega
    · by_cases e : p.1 = j
      · subst e
        have ha : able (stepS s p.1 p.2).1 p.1 := Or.inr ⟨hf h1 h2 hi, Or.inr (by rw [q1]; exact hi)⟩
        have := able_runs (l ++ m) _ p.1 hr ha (by obtain ⟨q, hq, e⟩ := hm; exact ⟨q, List.mem_append_right _ hq, e⟩)
        omega
      · have hj2 : ∃ p ∈ l, p.1 = j := by
          obtain ⟨q, hq, hqj⟩ := hj
          rcases List.mem_cons.1 hq with rfl | hq
          · exact absurd hqj e
          · exact ⟨q, hq, hqj⟩
        have := watch_runs l m _ j (by rw [hl]; exact hjl) hr (by rw [q4 j (Ne.symm e)]; exact h1) (by rw [q4 j (Ne.symm e)]; exact h2) (by rw [q1]; exact hi) hj2 hm
        omega

/-- A list in which each worker has a turn. -/
def Turn (n : Nat) (l : List (Nat × Int)) : Prop := (∀ p ∈ l, p.1 < n) ∧ ∀ j, j < n → ∃ p ∈ l, p.1 = j
theorem Turn.append {n : Nat} {l m : List (Nat × Int)} (h : Turn n l) (k : Turn n m) : Turn n (l ++ m) :=
  ⟨fun p hp => (List.mem_append.1 hp).elim (h.1 p) (k.1 p), fun j hj => by obtain ⟨p, hp, e⟩ := h.2 j hj; exact ⟨p, List.mem_append_left _ hp, e⟩⟩

theorem two_turns {s : St} (h : Ok s) (hb : Bare s) (h0 : 0 < phi s) {l m : List (Nat × Int)} (hl : Turn s.ws.length l) (hm : Turn s.ws.length m) : phi (run s (l ++ m)) < phi s := by
  have hall := (hl.append hm).1
  have ab : ∀ j, j < s.ws.length → able s j → phi (run s (l ++ m)) < phi s := fun j hj ha => able_runs _ s j hall ha ((hl.append hm).2 j hj)
  by_cases hr : ∃ k ∈ s.ws, k.ph = 3
  · obtain ⟨k, hk, h3⟩ := hr
    obtain ⟨i, hi, rfl⟩ := List.mem_iff_getElem.1 hk
    exact ab i hi (Or.inl (by simpa [List.getD, hi] using h3))
  have hr0 : rT s = [] := by
    unfold rT
    rw [List.flatMap_eq_nil_iff]
    intro k hk
    unfold rOf
    rw [if_neg fun e => hr ⟨k, hk, e⟩]
  have hq0 : qT s ≠ [] := by
    intro e
    unfold phi at h0
    rw [hr0, e] at h0
    simp at h0
  have form := fun k hk => (formed_iff _ k).1 (h.form k hk)
  by_cases hq : ∃ k ∈ s.ws, k.q ≠ []
  · obtain ⟨k, hk, hq⟩ := hq
    have hna : asleep k ≠ true := fun e => hq (hb k hk e)
    have hph := (form k hk).1
    have h0 : k.ph = 0 := by
      have hna2 : ¬ (k.ph = 1 ∨ k.ph = 2) := fun h => hna (by unfold asleep; simpa using h)
      have : k.ph ≠ 3 := fun e => hr ⟨k, hk, e⟩
      omega
    obtain ⟨i, hi, rfl⟩ := List.mem_iff_getElem.1 hk
    exact ab i hi (Or.inr ⟨by simpa [List.getD, hi] using h0, Or.inl (by simpa [List.getD, hi] using hq)⟩)
  have hj : s.inj ≠ [] := by
    intro e
    apply hq0
    unfold qT
    rw [e, List.nil_append, List.flatMap_eq_nil_iff]
    intro k hk
    exact Classical.byContradiction fun hne => hq ⟨k, hk, hne⟩
  by_cases hs : ∃ k ∈ s.ws, k.ph = 0
  · obtain ⟨k, hk, h0⟩ := hs
    obtain ⟨i, hi, rfl⟩ := List.mem_iff_getElem.1 hk
    exact ab i hi (Or.inr ⟨by simpa [List.getD, hi] using h0, Or.inr hj⟩)
  rcases h.seen with ⟨k, hk, ha⟩ | hw
  · have hph := (form k hk).1
    unfold asleep at ha
    simp only [Bool.or_eq_false_iff, beq_eq_false_iff_ne] at ha
    rcases hph with e | e | e | e
    · exact absurd ⟨k, hk, e⟩ hs
    · exact absurd e ha.1
    · exact absurd e ha.2
    · exact absurd ⟨k, hk, e⟩ hr
  · rcases hw 0 (Nat.zero_le _) with e | e
    · exact absurd (by simpa [Sched.queue] using e) hj
    · unfold Sched.watched at e
      rw [List.any_eq_true] at e
      obtain ⟨k, hk, e⟩ := e
      simp only [Bool.and_eq_true, beq_iff_eq, decide_eq_true_eq] at e
      have hlk := (form k hk).2.1
      obtain ⟨i, hi, rfl⟩ := List.mem_iff_getElem.1 hk
      have hg : s.ws.getD i wk0 = s.ws[i] := by simp [List.getD, hi]
      exact watch_runs l m s i hi hall (by rw [hg]; exact e.1) (by rw [hg]; omega) hj (hl.2 i hi) (hm.2 i hi)

theorem asl_iff (k : Wk) : asleep k = true ↔ k.ph = 1 ∨ k.ph = 2 := by unfold asleep; simp
/-- A step keeps bare what is bare. -/
theorem bare_upd {s : St} (hb : Bare s) (i : Nat) (f : Wk → Wk) (hf : asleep (f (s.ws.getD i wk0)) = true → (f (s.ws.getD i wk0)).q = []) : Bare (upd s i f) := by
  intro k hk ha
  rcases upd_mem hk with rfl | hk
  · exact hf ha
  · exact hb k hk ha
theorem bare_step {s : St} (hb : Bare s) (i : Nat) (hi : i < s.ws.length) (c : Int) : Bare (stepS s i c).1 := by
  unfold stepS
  by_cases h0 : (s.ws.getD i wk0).ph = 0
  · rw [if_pos h0]
    unfold sk
    have hruns : ∀ (s' : St) (t : Int), Bare s' → Bare (runs s' i t) := fun s' t h => bare_upd h i _ (fun ha => by simp [asleep] at ha)
    by_cases hq : (s.ws.getD i wk0).q ≠ []
    · rw [if_pos hq]
      refine hruns _ _ (bare_upd hb i _ (fun ha => ?_))
      have := (asl_iff _).1 ha
      simp only at this
      omega
    rw [if_neg hq]
    have hq2 : (s.ws.getD i wk0).q = [] := Classical.byContradiction hq
    by_cases hj : s.inj ≠ []
    · rw [if_pos hj]
      exact hruns _ _ hb
    rw [if_neg hj]
    by_cases hn : s.ws.length ≤ 1
    · rw [if_pos hn]; exact bare_upd hb i _ (fun _ => hq2)
    rw [if_neg hn]
    by_cases hv : (s.ws.getD (victim s.ws.length i c) wk0).q ≠ []
    · rw [if_pos hv]
      refine hruns _ _ (bare_upd hb _ _ (fun ha => ?_))
      obtain ⟨x, y, -, -, -, -, -, -, -, -, hvn⟩ := victim_bounds s.ws.length i c (by omega)
      have := hb _ (getD_mem hvn) ha
      show (s.ws.getD (victim s.ws.length i c) wk0).q.tail = []
      rw [this]
      rfl
    rw [if_neg hv]
    by_cases hl : (s.ws.getD i wk0).lk + 1 = (s.ws.length : Int) - 1
    · rw [if_pos hl]; exact bare_upd hb i _ (fun _ => hq2)
    · rw [if_neg hl]; exact bare_upd hb i _ (fun _ => hq2)
  rw [if_neg h0]
  by_cases h1 : (s.ws.getD i wk0).ph = 1
  · rw [if_pos h1]
    have hq2 : (s.ws.getD i wk0).q = [] := hb _ (getD_mem hi) ((asl_iff _).2 (Or.inl h1))
    unfold chk
    split
    · exact bare_upd hb i _ (fun _ => hq2)
    split
    · exact bare_upd hb i _ (fun _ => hq2)
    · exact bare_upd hb i _ (fun _ => hq2)
  rw [if_neg h1]
  by_cases h3 : (s.ws.getD i wk0).ph = 3
  · rw [if_pos h3]; exact bare_upd hb i _ (fun ha => by simp [asleep] at ha)
  · rw [if_neg h3]; exact hb
theorem bare_wake {s : St} (hb : Bare s) : Bare (wake s).1 := by
  unfold wake
  split
  · exact bare_upd hb _ _ (fun ha => by simp [asleep] at ha)
  · exact hb
theorem run_keeps : ∀ (l : List (Nat × Int)) (s : St), Ok s → Bare s → (∀ p ∈ l, p.1 < s.ws.length) → Ok (run s l) ∧ Bare (run s l)
  | [], _, h, hb, _ => ⟨h, hb⟩
  | p :: l, s, h, hb, hl => by
    have hp := hl p (by simp)
    have e := step_len s p.1 hp p.2
    exact run_keeps l _ (ok_step h hp p.2) (bare_step hb p.1 hp p.2) (fun q hq => by rw [e]; exact hl q (by simp [hq]))

/-- How many steps of its own a worker has to go to sleep, where no task is left. -/
def pot (n : Nat) (k : Wk) : Int := if k.ph = 0 then (n + 2) + (n - k.lk) else if k.ph = 1 then n - k.lk + 1 else 0
theorem phi_zero {s : St} (h : phi s = 0) : s.inj = [] ∧ (∀ k ∈ s.ws, k.q = [] ∧ k.ph ≠ 3) := by
  unfold phi at h
  have h1 : qT s = [] := List.eq_nil_of_length_eq_zero (by omega)
  have h2 : rT s = [] := List.eq_nil_of_length_eq_zero (by omega)
  unfold qT at h1
  rw [List.append_eq_nil_iff, List.flatMap_eq_nil_iff] at h1
  unfold rT at h2
  rw [List.flatMap_eq_nil_iff] at h2
  refine ⟨h1.1, fun k hk => ⟨h1.2 k hk, fun e => ?_⟩⟩
  have := h2 k hk
  unfold rOf at this
  rw [if_pos e] at this
  cases this
theorem pot_step {s : St} (h : Ok s) (h0 : phi s = 0) (i : Nat) (hi : i < s.ws.length) (c : Int) : (pot s.ws.length ((stepS s i c).1.ws.getD i wk0) ≤ pot s.ws.length (s.ws.getD i wk0) - 1 ∨ pot s.ws.length ((stepS s i c).1.ws.getD i wk0) = 0) ∧ ∀ j, j ≠ i → (stepS s i c).1.ws.getD j wk0 = s.ws.getD j wk0 := by
  obtain ⟨hj, hk⟩ := phi_zero h0
  have hq : ∀ v, v < s.ws.length → (s.ws.getD v wk0).q = [] := fun v hv => (hk _ (getD_mem hv)).1
  have h3 : (s.ws.getD i wk0).ph ≠ 3 := (hk _ (getD_mem hi)).2
  have hf := (formed_iff _ _).1 (h.form _ (getD_mem hi))
  have hlk := hf.2.1
  have hlm := hf.2.2.1
  have hn1 := h.n1
  unfold most at hlm
  rcases step_cases s i hi c with hd | ⟨-, hQ, -⟩
  · omega
  refine ⟨?_, hQ.2.2.2⟩
  unfold stepS
  by_cases e0 : (s.ws.getD i wk0).ph = 0
  · rw [if_pos e0] at hlm ⊢
    unfold sk
    rw [if_neg (by rw [hq i hi]; simp), if_neg (by rw [hj]; simp)]
    have pe : pot s.ws.length (s.ws.getD i wk0) = ((s.ws.length : Int) + 2) + (s.ws.length - (s.ws.getD i wk0).lk) := by unfold pot; rw [if_pos e0]
    rw [pe]
    by_cases hn : s.ws.length ≤ 1
    · rw [if_pos hn]
      simp only
      rw [getD_upd _ _ _ _ hi, if_pos rfl]
      left
      simp only [pot, if_neg (show ¬ (1 : Int) = 0 by decide), if_true]
      omega
    rw [if_neg hn]
    obtain ⟨x, y, -, -, -, -, -, -, -, -, hvn⟩ := victim_bounds s.ws.length i c (by omega)
    rw [if_neg (by rw [hq _ hvn]; simp)]
    by_cases hl : (s.ws.getD i wk0).lk + 1 = (s.ws.length : Int) - 1
    · rw [if_pos hl]
      simp only
      rw [getD_upd _ _ _ _ hi, if_pos rfl]
      left
      simp only [pot, if_neg (show ¬ (1 : Int) = 0 by decide), if_true]
      omega
    · rw [if_neg hl]
      simp only
      rw [getD_upd _ _ _ _ hi, if_pos rfl]
      left
      simp only [pot, e0, if_true]
      omega
  rw [if_neg e0] at hlm ⊢
  by_cases e1 : (s.ws.getD i wk0).ph = 1
  · rw [if_pos e1] at hlm ⊢
    have pe : pot s.ws.length (s.ws.getD i wk0) = s.ws.length - (s.ws.getD i wk0).lk + 1 := by unfold pot; rw [if_neg e0, if_pos e1]
    rw [pe]
    unfold chk
    have hemp : (Sched.queue s (s.ws.getD i wk0).lk.toNat) = [] := by
      unfold Sched.queue
      split
      · exact hj
      · have := hq ((s.ws.getD i wk0).lk.toNat - 1) (by omega)
        simpa [wk0] using this
    rw [if_neg (by rw [hemp]; simp)]
    by_cases hl : (s.ws.getD i wk0).lk = s.ws.length
    · rw [if_pos hl]
      simp only
      rw [getD_upd _ _ _ _ hi, if_pos rfl]
      right
      simp [pot]
    · rw [if_neg hl]
      simp only
      rw [getD_upd _ _ _ _ hi, if_pos rfl]
      left
      simp only [pot, e1, if_neg (show ¬ (1 : Int) = 0 by decide), if_true]
      omega
  · rw [if_neg e1, if_neg h3]
    right
    unfold pot
    rw [if_neg e0, if_neg e1]
theorem pot_nonneg {s : St} (h : Ok s) {i : Nat} (hi : i < s.ws.length) : 0 ≤ pot s.ws.length (s.ws.getD i wk0) ∧ pot s.ws.length (s.ws.getD i wk0) ≤ 2 * s.ws.length + 2 := by
  have hf := (formed_iff _ _).1 (h.form _ (getD_mem hi))
  have hlk := hf.2.1
  have hlm := hf.2.2.1
  have hn1 := h.n1
  unfold most at hlm
  unfold pot
  by_cases e0 : (s.ws.getD i wk0).ph = 0
  · rw [if_pos e0] at hlm ⊢; omega
  rw [if_neg e0] at hlm ⊢
  by_cases e1 : (s.ws.getD i wk0).ph = 1
  · rw [if_pos e1] at hlm ⊢; omega
  · rw [if_neg e1]; omega
theorem pot_run : ∀ (l : List (Nat × Int)) (s : St) (j : Nat), Ok s → Bare s → phi s = 0 → j < s.ws.length → (∀ p ∈ l, p.1 < s.ws.length) →
    pot s.ws.length ((run s l).ws.getD j wk0) ≤ max 0 (pot s.ws.length (s.ws.getD j wk0) - (l.countP fun p => p.1 == j))
  | [], s, j, h, _, _, hj, _ => by
    have := pot_nonneg h hj
    simp only [run, List.countP_nil]
    omega
  | p :: l, s, j, h, hb, h0, hj, hl => by
    have hp := hl p (by simp)
    have e := step_len s p.1 hp p.2
    obtain ⟨p1, p2⟩ := pot_step h h0 p.1 hp p.2
    have h0' : phi (stepS s p.1 p.2).1 = 0 := by have := step_le s p.1 hp p.2; omega
    have hok := ok_step h hp p.2
    have ih := pot_run l (stepS s p.1 p.2).1 j hok (bare_step hb p.1 hp p.2) h0' (by rw [e]; exact hj) (fun q hq => by rw [e]; exact hl q (by simp [hq]))
    rw [e] at ih
    show pot s.ws.length ((run (stepS s p.1 p.2).1 l).ws.getD j wk0) ≤ _
    by_cases ej : p.1 = j
    · subst ej
      rw [List.countP_cons_of_pos (by simp)]
      have := pot_nonneg h hj
      rcases p1 with p1 | p1 <;> omega
    · rw [List.countP_cons_of_neg (by simpa using ej)]
      rw [p2 j (Ne.symm ej)] at ih
      exact ih

/-- Many turns, one behind the other. -/
inductive Turns (n : Nat) : Nat → List (Nat × Int) → Prop
  | zero : Turns n 0 []
  | succ {k : Nat} {l m : List (Nat × Int)} : Turn n l → Turns n k m → Turns n (k + 1) (l ++ m)
theorem Turns.few {n k : Nat} {l : List (Nat × Int)} (h : Turns n k l) : ∀ p ∈ l, p.1 < n := by
  induction h with
  | zero => intro p hp; cases hp
  | succ h1 _ ih => intro p hp; exact (List.mem_append.1 hp).elim (h1.1 p) (ih p)
theorem Turns.count {n k : Nat} {l : List (Nat × Int)} (h : Turns n k l) {j : Nat} (hj : j < n) : k ≤ l.countP fun p => p.1 == j := by
  induction h with
  | zero => exact Nat.zero_le _
  | succ h1 _ ih =>
    rw [List.countP_append]
    have : 0 < List.countP (fun p => p.1 == j) (_ : List (Nat × Int)) := List.countP_pos_iff.2 (by obtain ⟨p, hp, e⟩ := h1.2 j hj; exact ⟨p, hp, by simpa using e⟩)
    omega
theorem Turns.split {n : Nat} : ∀ {a b : Nat} {l : List (Nat × Int)}, Turns n (a + b) l → ∃ x y, l = x ++ y ∧ Turns n a x ∧ Turns n b y
  | 0, b, l, h => ⟨[], l, rfl, .zero, by rwa [Nat.zero_add] at h⟩
  | a + 1, b, l, h => by
    rw [Nat.add_right_comm] at h
    cases h with
    | succ h1 h2 =>
      obtain ⟨x, y, rfl, h3, h4⟩ := Turns.split h2
      exact ⟨_ ++ x, y, by rw [List.append_assoc], .succ h1 h3, h4⟩
theorem Turns.two {n : Nat} {l : List (Nat × Int)} (h : Turns n 2 l) : ∃ x y, l = x ++ y ∧ Turn n x ∧ Turn n y := by
  cases h with
  | succ h1 h2 =>
    cases h2 with
    | succ h3 h4 =>
      cases h4 with
      | zero => exact ⟨_, _, by rw [List.append_nil], h1, h3⟩

theorem drains : ∀ (m : Nat) (s : St) (l : List (Nat × Int)), Ok s → Bare s → phi s ≤ m → Turns s.ws.length (2 * m) l → phi (run s l) = 0
  | 0, s, l, _, _, hm, h => by
    have := (run_le l s h.few).1
    omega
  | m + 1, s, l, hok, hb, hm, h => by
    obtain ⟨x, y, rfl, hx, hy⟩ := Turns.split (a := 2) (b := 2 * m) (by rw [show 2 + 2 * m = 2 * (m + 1) by omega]; exact h)
    have hlx := run_le x s hx.few
    obtain ⟨k1, k2⟩ := run_keeps x s hok hb hx.few
    rw [run_append]
    refine drains m (run s x) y k1 k2 ?_ (by rw [hlx.2]; exact hy)
    by_cases h0 : 0 < phi s
    · obtain ⟨u, v, rfl, hu, hv⟩ := hx.two
      have := two_turns hok hb h0 hu hv
      omega
    · omega
theorem rests {s : St} {l : List (Nat × Int)} {a b : Nat} (hok : Ok s) (hb : Bare s) (ha : phi s ≤ a) (h2 : 2 * s.ws.length + 2 ≤ b) (h : Turns s.ws.length (2 * a + b) l) : restS (run s l) = true := by
  obtain ⟨x, y, rfl, hx, hy⟩ := h.split
  have h0 := drains a s x hok hb ha hx
  obtain ⟨k1, k2⟩ := run_keeps x s hok hb hx.few
  have hlx := (run_le x s hx.few).2
  rw [run_append]
  generalize run s x = t at *
  rw [← hlx] at hy h2
  have hly := run_le y t hy.few
  have h0' : phi (run t y) = 0 := by omega
  obtain ⟨z1, z2⟩ := phi_zero h0'
  have kk := run_keeps y t k1 k2 hy.few
  unfold restS
  have ht : tasks (run t y) = [] := by
    have := (tasks_perm (run t y)).length_eq
    unfold phi at h0'
    rw [List.length_append] at this
    exact List.eq_nil_of_length_eq_zero (by omega)
  rw [ht]
  simp only [List.length_nil, decide_true, Bool.true_and, Bool.not_eq_true', List.any_eq_false]
  intro k hk
  obtain ⟨j, hj, rfl⟩ := List.mem_iff_getElem.1 hk
  have hj2 : j < t.ws.length := by rw [hly.2] at hj; exact hj
  have hp := pot_run y t j k1 k2 h0 hj2 hy.few
  have hc := hy.count hj2
  have hn := pot_nonneg k1 hj2
  have hn2 := pot_nonneg kk.1 (i := j) hj
  rw [hly.2] at hn2
  have hp0 : pot t.ws.length ((run t y).ws.getD j wk0) = 0 := by omega
  have hg : (run t y).ws.getD j wk0 = (run t y).ws[j] := by simp [List.getD, hj]
  rw [hg] at hp0
  have hf := (formed_iff _ _).1 (kk.1.form _ hk)
  have hlk := hf.2.1
  have hlm := hf.2.2.1
  rw [hly.2] at hlm
  have hn1 := k1.n1
  have h3 := (z2 _ hk).2
  unfold most at hlm
  unfold pot at hp0
  by_cases e0 : ((run t y).ws[j]).ph = 0
  · rw [if_pos e0] at hp0 hlm; omega
  rw [if_neg e0] at hp0 hlm
  by_cases e1 : ((run t y).ws[j]).ph = 1
  · rw [if_pos e1] at hp0 hlm; omega
  · have : ((run t y).ws[j]).ph = 2 := by omega
    simp [this]

theorem step_rest {s : St} (h : restS s = true) (i : Nat) (hi : i < s.ws.length) (c : Int) : stepS s i c = (s, ⟨0, i, -1, -1⟩) := by
  unfold restS at h
  simp only [Bool.and_eq_true, Bool.not_eq_true', List.any_eq_false] at h
  have := h.2 _ (getD_mem hi)
  have h2 : (s.ws.getD i wk0).ph = 2 := by simpa using this
  unfold stepS
  rw [if_neg (by omega), if_neg (by omega), if_neg (by omega)]
theorem run_rest : ∀ (l : List (Nat × Int)) (s : St), restS s = true → (∀ p ∈ l, p.1 < s.ws.length) → run s l = s
  | [], _, _, _ => rfl
  | p :: l, s, h, hl => by
    show run (stepS s p.1 p.2).1 l = s
    rw [step_rest h p.1 (hl p (by simp)) p.2]
    exact run_rest l s h (fun q hq => hl q (by simp [hq]))
/-- Play goes to the state that the steps lead to. -/
theorem play_run (n : Nat) : ∀ (l : List (Nat × Int)) (s : St), s.ws.length = n → (∀ p ∈ l, p.1 < n) → (playS s (l.map fun p => ((p.1 : Int), p.2))).1 = run s l
  | [], _, _, _ => rfl
  | p :: l, s, hn, hl => by
    have hp := hl p (by simp)
    by_cases hr : restS s = true
    · rw [playS_rest _ _ hr, run_rest _ _ hr (by rw [hn]; exact hl)]
    · have hr2 : restS s = false := by simpa using hr
      rw [List.map_cons, playS_step hr2]
      have hw : who s (p.1 : Int) = p.1 := by
        unfold who
        rw [hn]
        have e1 : ((p.1 : Int)).tmod (n : Int) = (p.1 : Int) := Int.tmod_eq_of_lt (by omega) (by omega)
        rw [e1]
        have e2 : ((p.1 : Int) + (n : Int)).tmod (n : Int) = (p.1 : Int) := by
          rw [Int.tmod_eq_emod_of_nonneg (by omega), Int.add_emod_right]
          exact Int.emod_eq_of_lt (by omega) (by omega)
        rw [e2]
        omega
      rw [hw]
      show _ = run (stepS s p.1 p.2).1 l
      exact play_run n l _ ((step_len s p.1 (by omega) p.2).trans hn) (fun q hq => hl q (by simp [hq]))
/-- The script: worker i modulo n at place i. -/
def script (n : Nat) (f : Nat → Int) (a k : Nat) : List (Nat × Int) := (List.range' (n * a) (n * k)).map fun i => (i % n, f i)
theorem script_turns (n : Nat) (hn : 0 < n) (f : Nat → Int) : ∀ (k a : Nat), Turns n k (script n f a k)
  | 0, a => by simp [script]; exact .zero
  | k + 1, a => by
    have e : script n f a (k + 1) = (List.range' (n * a) n).map (fun i => (i % n, f i)) ++ script n f (a + 1) k := by
      unfold script
      rw [← List.map_append, Nat.mul_succ, Nat.mul_succ, Nat.add_comm (n * k) n, List.range'_append_1]
    rw [e]
    refine .succ ⟨fun p hp => ?_, fun j hj => ?_⟩ (script_turns n hn f k (a + 1))
    · obtain ⟨i, -, rfl⟩ := List.mem_map.1 hp
      exact Nat.mod_lt _ hn
    · refine ⟨((n * a + j) % n, f (n * a + j)), List.mem_map.2 ⟨n * a + j, List.mem_range'_1.2 ⟨by omega, by omega⟩, rfl⟩, ?_⟩
      show (n * a + j) % n = j
      rw [Nat.mul_add_mod, Nat.mod_eq_of_lt hj]
/-- How many tasks end in Play. -/
theorem play_ends : ∀ (l : List (Int × Int)) (s : St), Ok s → ((playS s l).2.filter fun e => e.kind == 3).length ≤ (tasks s).length
  | [], s, _ => by simp [playS]
  | p :: l, s, h => by
    by_cases hr : restS s = true
    · rw [playS_rest _ _ hr]; simp
    · have hr2 : restS s = false := by simpa using hr
      have hw := who_lt s p.1 h.n1
      have he := step_eff s (who s p.1) p.2 hw
      have ih := play_ends l (stepS s (who s p.1) p.2).1 (ok_step h hw p.2)
      rw [playS_step hr2]
      simp only [List.filter_append, List.length_append]
      have t1 := (tasks_perm s).length_eq
      have t2 := (tasks_perm (stepS s (who s p.1) p.2).1).length_eq
      rw [List.length_append] at t1 t2
      rcases he.parts with ⟨hk, h1, h2⟩ | ⟨hk, h1, h2⟩ | ⟨hk, h1, h2⟩
      · have a := h1.length_eq; have b := h2.length_eq
        simp only [List.length_cons] at a b
        have h3 : ((stepS s (who s p.1) p.2).2.kind == 3) = false := by rw [beq_eq_false_iff_ne]; omega
        have h4 : ¬ (stepS s (who s p.1) p.2).2.kind = 0 := by omega
        rw [if_neg h4]
        simp only [List.filter_cons, h3, List.filter_nil, Bool.false_eq_true, if_false, List.length_nil]
        omega
      · have a := h1.length_eq; have b := h2.length_eq
        simp only [List.length_cons] at a b
        have h3 : ((stepS s (who s p.1) p.2).2.kind == 3) = true := by rw [beq_iff_eq]; exact hk
        have h4 : ¬ (stepS s (who s p.1) p.2).2.kind = 0 := by omega
        rw [if_neg h4]
        simp only [List.filter_cons, h3, List.filter_nil, if_true, List.length_cons, List.length_nil]
        omega
      · have a := h1.length_eq; have b := h2.length_eq
        have h3 : ((stepS s (who s p.1) p.2).2.kind == 3) = false := by rw [beq_eq_false_iff_ne]; omega
        split
        · simp only [List.filter_nil, List.length_nil]; omega
        · simp only [List.filter_cons, h3, List.filter_nil, Bool.false_eq_true, if_false, List.length_nil]; omega
end Go.Proofs.Ytjnlfibcpkobaaa
