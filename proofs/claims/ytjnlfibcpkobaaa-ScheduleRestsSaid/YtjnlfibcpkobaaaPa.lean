/- The scheduler's steps as plain data: what they do to tasks, and that right states stay right. No program. -/
import Derived.Test.YtjnlfibcpkobaaaM
namespace Go.Proofs.Ytjnlfibcpkobaaa
open Go.RowKit Go.Sl Go.Sched

/-- What a worker's step does. -/
def stepS (s : St) (i : Nat) (c : Int) : St × Ev :=
  if (s.ws.getD i wk0).ph = 0 then sk s i c
  else if (s.ws.getD i wk0).ph = 1 then chk s i
  else if (s.ws.getD i wk0).ph = 3 then (ends s i, ⟨3, i, (s.ws.getD i wk0).tk, i⟩)
  else (s, ⟨0, i, -1, -1⟩)
/-- What lies in queues, and what runs. -/
def qT (s : St) : List Int := s.inj ++ s.ws.flatMap fun k => k.q
def rOf (k : Wk) : List Int := if k.ph = 3 then [k.tk] else []
def rT (s : St) : List Int := s.ws.flatMap rOf

theorem perm_set {α : Type} : ∀ (l : List α) (i : Nat) (x d : α), i < l.length → ∃ r, List.Perm (l.set i x) (x :: r) ∧ List.Perm l (l.getD i d :: r)
  | [], _, _, _, h => by simp at h
  | y :: l, 0, x, d, _ => ⟨l, by simp, by simp⟩
  | y :: l, i + 1, x, d, h => by
    obtain ⟨r, h1, h2⟩ := perm_set l i x d (by simpa using h)
    refine ⟨y :: r, ?_, ?_⟩
    · simp only [List.set_cons_succ]
      exact (h1.cons y).trans (List.Perm.swap _ _ _)
    · simp only [List.getD_cons_succ]
      exact (h2.cons y).trans (List.Perm.swap _ _ _)
theorem upd_ws (s : St) (i : Nat) (f : Wk → Wk) : (upd s i f).ws = s.ws.set i (f (s.ws.getD i wk0)) := rfl
theorem upd_inj (s : St) (i : Nat) (f : Wk → Wk) : (upd s i f).inj = s.inj := rfl

/-- One worker is turned: queues and what runs, both ways beside a rest. -/
theorem upd_parts (s : St) (i : Nat) (hi : i < s.ws.length) (f : Wk → Wk) : ∃ a b, List.Perm (qT (upd s i f)) ((f (s.ws.getD i wk0)).q ++ a) ∧ List.Perm (qT s) ((s.ws.getD i wk0).q ++ a) ∧
    List.Perm (rT (upd s i f)) (rOf (f (s.ws.getD i wk0)) ++ b) ∧ List.Perm (rT s) (rOf (s.ws.getD i wk0) ++ b) := by
  obtain ⟨r, h1, h2⟩ := perm_set s.ws i (f (s.ws.getD i wk0)) wk0 hi
  refine ⟨s.inj ++ r.flatMap fun k => k.q, r.flatMap rOf, ?_, ?_, ?_, ?_⟩
  · refine ((h1.flatMap_right (fun k => k.q)).append_left s.inj).trans ?_
    simp only [List.flatMap_cons]
    exact List.perm_append_comm_assoc _ _ _
  · refine ((h2.flatMap_right (fun k => k.q)).append_left s.inj).trans ?_
    simp only [List.flatMap_cons]
    exact List.perm_append_comm_assoc _ _ _
  · refine (h1.flatMap_right rOf).trans ?_
    simp
  · refine (h2.flatMap_right rOf).trans ?_
    simp

theorem tasks_perm (s : St) : List.Perm (tasks s) (qT s ++ rT s) := by
  unfold tasks qT rT
  rw [List.append_assoc]
  refine List.Perm.append_left _ ?_
  induction s.ws with
  | nil => simp
  | cons k l ih =>
    simp only [List.flatMap_cons]
    have : List.Perm (own k ++ l.flatMap own) (k.q ++ rOf k ++ (l.flatMap (fun k => k.q) ++ l.flatMap rOf)) := by
      show List.Perm ((k.q ++ rOf k) ++ l.flatMap own) _
      exact ih.append_left _
    refine this.trans ?_
    simp only [List.append_assoc]
    refine List.Perm.append_left _ ?_
    exact List.perm_append_comm_assoc _ _ _

/-- A right state. -/
structure Ok (s : St) : Prop where
  n1 : 1 ≤ s.ws.length
  n64 : s.ws.length ≤ 64
  form : ∀ k ∈ s.ws, formed s.ws.length k = true
  few : (tasks s).length ≤ 2000
  pos : ∀ x ∈ tasks s, 0 ≤ x
  nd : (tasks s).Nodup
  seen : (∃ k ∈ s.ws, asleep k = false) ∨ ∀ j, j ≤ s.ws.length → Sched.queue s j = [] ∨ Sched.watched s j = true
theorem valid_iff (s : St) : valid s = true ↔ Ok s := by
  unfold valid
  simp only [Bool.and_eq_true, Bool.or_eq_true, decide_eq_true_eq, Bool.not_eq_true', List.any_eq_false, List.any_eq_true, List.all_eq_true, List.mem_range, List.isEmpty_iff]
  constructor
  · rintro ⟨⟨⟨⟨⟨⟨h1, h2⟩, h3⟩, h4⟩, h5⟩, h6⟩, h7⟩
    exact ⟨h1, h2, fun k hk => by simpa using h3 k hk, h4, h5, h6, h7.imp (fun ⟨k, hk, h⟩ => ⟨k, hk, by simpa using h⟩) fun h j hj => h j (by omega)⟩
  · intro h
    exact ⟨⟨⟨⟨⟨⟨h.n1, h.n64⟩, fun k hk => by simpa using h.form k hk⟩, h.few⟩, h.pos⟩, h.nd⟩, h.seen.imp (fun ⟨k, hk, h⟩ => ⟨k, hk, by simpa using h⟩) fun h j hj => h j (by omega)⟩

theorem getD_mem {s : St} {i : Nat} (hi : i < s.ws.length) : s.ws.getD i wk0 ∈ s.ws := by
  rw [List.getD, List.getElem?_eq_getElem hi]
  exact List.getElem_mem hi
theorem mem_set {l : List Wk} {i : Nat} {x k : Wk} (h : k ∈ l.set i x) : k = x ∨ k ∈ l := (List.mem_or_eq_of_mem_set h).symm
theorem mem_set_self {l : List Wk} {i : Nat} {x : Wk} (h : i < l.length) : x ∈ l.set i x := List.mem_iff_getElem.2 ⟨i, by simpa using h, by simp⟩
theorem mem_set_other {l : List Wk} {i : Nat} {x k : Wk} (hk : k ∈ l) (hne : k ≠ l.getD i wk0) : k ∈ l.set i x := by
  obtain ⟨j, hj, rfl⟩ := List.mem_iff_getElem.1 hk
  have : i ≠ j := by
    rintro rfl
    exact hne (by simp [List.getD, hj])
  exact List.mem_iff_getElem.2 ⟨j, by simpa using hj, by simp [this]⟩

/-- A state with the tasks of a right one, or fewer, is right, where its workers are formed and its queues seen to. -/
theorem Ok.of_tasks {s s' : St} (h : Ok s) (hl : s'.ws.length = s.ws.length) (hf : ∀ k ∈ s'.ws, formed s.ws.length k = true) (r : List Int) (ht : List.Perm (tasks s) (r ++ tasks s'))
    (hs : (∃ k ∈ s'.ws, asleep k = false) ∨ ∀ j, j ≤ s.ws.length → Sched.queue s' j = [] ∨ Sched.watched s' j = true) : Ok s' := by
  have hlen := ht.length_eq
  rw [List.length_append] at hlen
  refine ⟨by rw [hl]; exact h.n1, by rw [hl]; exact h.n64, by rw [hl]; exact hf, by have := h.few; omega, fun x hx => h.pos x (ht.mem_iff.2 (by simp [hx])), ?_, by rw [hl]; exact hs⟩
  have := ht.nodup_iff.1 h.nd
  exact (List.nodup_append.1 this).2.1

theorem getD_upd (s : St) (i j : Nat) (f : Wk → Wk) (hi : i < s.ws.length) : (upd s i f).ws.getD j wk0 = if j = i then f (s.ws.getD i wk0) else s.ws.getD j wk0 := by
  rw [upd_ws, getD_set]
  by_cases h : j = i
  · simp [h, hi]
  · simp [h]
theorem upd_upd (s : St) (i : Nat) (f g : Wk → Wk) (hi : i < s.ws.length) : upd (upd s i f) i g = upd s i fun k => g (f k) := by
  have h := getD_upd s i i f hi
  rw [if_pos rfl] at h
  show St.mk ((upd s i f).ws.set i (g ((upd s i f).ws.getD i wk0))) _ = _
  rw [h]
  simp [upd]

/-- What one step does. -/
structure Eff (s : St) (i : Nat) (r : St × Ev) : Prop where
  len : r.1.ws.length = s.ws.length
  worker : r.2.worker = i
  parts : ((r.2.kind = 1 ∨ r.2.kind = 2) ∧ List.Perm (qT s) (r.2.task :: qT r.1) ∧ List.Perm (rT r.1) (r.2.task :: rT s)) ∨
    (r.2.kind = 3 ∧ List.Perm (qT s) (qT r.1) ∧ List.Perm (rT s) (r.2.task :: rT r.1)) ∨
    ((r.2.kind = 0 ∨ r.2.kind = 4 ∨ r.2.kind = 5 ∨ r.2.kind = 6) ∧ List.Perm (qT s) (qT r.1) ∧ List.Perm (rT s) (rT r.1))
  src : r.2.kind = 1 ∨ r.2.kind = 2 → r.2.src = -1 ∨ ∃ v : Nat, v < s.ws.length ∧ r.2.src = v ∧ (s.ws.getD v wk0).q ≠ [] ∧
    (r.2.kind = 1 → (s.ws.getD v wk0).q.getLastD 0 = r.2.task) ∧ (r.2.kind = 2 → (s.ws.getD v wk0).q.headD 0 = r.2.task)

theorem Eff.quiet {s : St} {i : Nat} (hi : i < s.ws.length) (f : Wk → Wk) (k : Int) (hk : k = 0 ∨ k = 4 ∨ k = 5 ∨ k = 6) (h3 : (s.ws.getD i wk0).ph ≠ 3) (h3' : (f (s.ws.getD i wk0)).ph ≠ 3) (hq : (f (s.ws.getD i wk0)).q = (s.ws.getD i wk0).q) :
    Eff s i (upd s i f, ⟨k, i, -1, -1⟩) := by
  obtain ⟨a, b, h1, h2, h4, h5⟩ := upd_parts s i hi f
  rw [hq] at h1
  simp only [rOf, h3, h3', if_false] at h4 h5
  refine ⟨upd_len _ _ _, rfl, Or.inr (Or.inr ⟨hk, h2.trans h1.symm, h5.trans h4.symm⟩), ?_⟩
  intro h
  simp only at h
  omega

theorem Eff.none {s : St} {i : Nat} : Eff s i (s, ⟨0, i, -1, -1⟩) :=
  ⟨rfl, rfl, Or.inr (Or.inr ⟨Or.inl rfl, List.Perm.refl _, List.Perm.refl _⟩), fun h => by simp only at h; omega⟩
theorem Eff.ends {s : St} {i : Nat} (hi : i < s.ws.length) (h3 : (s.ws.getD i wk0).ph = 3) : Eff s i (ends s i, ⟨3, i, (s.ws.getD i wk0).tk, i⟩) := by
  obtain ⟨a, b, h1, h2, h4, h5⟩ := upd_parts s i hi fun k => ⟨k.q, 0, -1, 0⟩
  have e1 : rOf (s.ws.getD i wk0) = [(s.ws.getD i wk0).tk] := by unfold rOf; rw [if_pos h3]
  have e2 : rOf ⟨(s.ws.getD i wk0).q, 0, -1, 0⟩ = [] := by simp [rOf]
  rw [e1] at h5
  rw [e2] at h4
  refine ⟨upd_len _ _ _, rfl, Or.inr (Or.inl ⟨rfl, h2.trans h1.symm, ?_⟩), ?_⟩
  · exact h5.trans ((h4.symm).cons _)
  · intro h; simp only at h; omega
theorem Eff.sk {s : St} {i : Nat} (c : Int) (hi : i < s.ws.length) (h0 : (s.ws.getD i wk0).ph = 0) : Eff s i (sk s i c) := by
  have h3 : (s.ws.getD i wk0).ph ≠ 3 := by omega
  have hr : rOf (s.ws.getD i wk0) = [] := by unfold rOf; rw [if_neg h3]
  unfold Proofs.Ytjnlfibcpkobaaa.sk
  split
  · rename_i hq
    have e : runs (upd s i fun k => { k with q := k.q.dropLast }) i ((s.ws.getD i wk0).q.getLastD 0) = upd s i fun k => ⟨k.q.dropLast, 3, (s.ws.getD i wk0).q.getLastD 0, 0⟩ := upd_upd s i _ _ hi
    rw [e]
    obtain ⟨a, b, h1, h2, h4, h5⟩ := upd_parts s i hi fun k => ⟨k.q.dropLast, 3, (s.ws.getD i wk0).q.getLastD 0, 0⟩
    have e2 : (s.ws.getD i wk0).q = (s.ws.getD i wk0).q.dropLast ++ [(s.ws.getD i wk0).q.getLastD 0] := by
      have := List.dropLast_concat_getLast hq
      have hl : (s.ws.getD i wk0).q.getLastD 0 = (s.ws.getD i wk0).q.getLast hq := by
        rw [List.getLastD_eq_getLast?, List.getLast?_eq_some_getLast hq]
        rfl
      rw [hl]
      exact this.symm
    refine ⟨upd_len _ _ _, rfl, Or.inl ⟨Or.inl rfl, ?_, ?_⟩, fun _ => Or.inr ⟨i, hi, rfl, hq, fun _ => rfl, fun h => by simp at h⟩⟩
    · refine h2.trans ?_
      refine List.Perm.trans ?_ (h1.symm.cons _)
      show List.Perm _ ((s.ws.getD i wk0).q.getLastD 0 :: ((s.ws.getD i wk0).q.dropLast ++ a))
      conv => lhs; rw [e2]
      simp only [List.append_assoc]
      exact List.perm_middle
    · refine h4.trans ?_
      rw [hr] at h5
      exact h5.symm.cons _
  split
  · rename_i hq hj
    obtain ⟨x, r, hx⟩ := List.exists_cons_of_ne_nil hj
    obtain ⟨a, b, h1, h2, h4, h5⟩ := upd_parts { s with inj := s.inj.tail } i hi fun k => ⟨k.q, 3, s.inj.headD 0, 0⟩
    rw [hx] at h1 h2 h4 h5 ⊢
    simp only [List.headD_cons, List.tail_cons] at h1 h2 h4 h5 ⊢
    refine ⟨upd_len _ _ _, rfl, Or.inl ⟨Or.inl rfl, ?_, ?_⟩, fun _ => Or.inl rfl⟩
    · have e3 : qT s = x :: qT { s with inj := r } := by simp [qT, hx]
      rw [e3]
      exact ((h2.trans h1.symm).cons _)
    · refine h4.trans ?_
      have h5' : List.Perm (rT s) (rOf (s.ws.getD i wk0) ++ b) := h5
      rw [hr] at h5'
      exact h5'.symm.cons _
  split
  · exact Eff.quiet hi _ 4 (by omega) h3 (by simp) rfl
  split
  · rename_i hq hj hn hv
    obtain ⟨x', y, -, -, -, -, -, -, hv1, hv2, hvn⟩ := victim_bounds s.ws.length i c (by omega)
    have hvi : victim s.ws.length i c ≠ i := by
      by_cases hy : (i : Int) ≤ y
      · have := hv1 hy; omega
      · have := hv2 hy; omega
    clear hv1 hv2
    generalize victim s.ws.length i c = v at *
    obtain ⟨x, r, hx⟩ := List.exists_cons_of_ne_nil hv
    rw [hx]
    simp only [List.headD_cons]
    obtain ⟨a, b, h1, h2, h4, h5⟩ := upd_parts s v hvn fun k => { k with q := k.q.tail }
    rw [hx] at h1 h2
    simp only [List.tail_cons] at h1
    have hl2 : i < (upd s v fun k => { k with q := k.q.tail }).ws.length := by rw [upd_len]; exact hi
    obtain ⟨a', b', h1', h2', h4', h5'⟩ := upd_parts (upd s v fun k => { k with q := k.q.tail }) i hl2 fun k => ⟨k.q, 3, x, 0⟩
    have e4 : rOf { s.ws.getD v wk0 with q := (s.ws.getD v wk0).q.tail } = rOf (s.ws.getD v wk0) := rfl
    rw [e4] at h4
    have e5 : (upd s v fun k => { k with q := k.q.tail }).ws.getD i wk0 = s.ws.getD i wk0 := by rw [getD_upd _ _ _ _ hvn, if_neg (by omega)]
    rw [e5] at h1' h2' h4' h5'
    refine ⟨by rw [runs, upd_len, upd_len], rfl, Or.inl ⟨Or.inr rfl, ?_, ?_⟩, fun _ => Or.inr ⟨v, hvn, rfl, hv, fun h => by simp at h, fun _ => by rw [hx]; rfl⟩⟩
    · refine h2.trans ?_
      refine List.Perm.cons _ (h1.symm.trans ?_)
      exact h2'.trans h1'.symm
    · refine h4'.trans ?_
      rw [hr] at h5'
      exact (h5'.symm.trans (h4.trans h5.symm)).cons _
  split
  · exact Eff.quiet hi _ 4 (by omega) h3 (by simp) rfl
  · exact Eff.quiet hi _ 0 (by omega) h3 h3 rfl
theorem Eff.chk {s : St} {i : Nat} (hi : i < s.ws.length) (h1 : (s.ws.getD i wk0).ph = 1) : Eff s i (chk s i) := by
  have h3 : (s.ws.getD i wk0).ph ≠ 3 := by omega
  unfold Proofs.Ytjnlfibcpkobaaa.chk
  split
  · exact Eff.quiet hi _ 5 (by omega) h3 (by simp) rfl
  split
  · exact Eff.quiet hi _ 6 (by omega) h3 (by simp) rfl
  · exact Eff.quiet hi _ 0 (by omega) h3 h3 rfl
theorem step_eff (s : St) (i : Nat) (c : Int) (hi : i < s.ws.length) : Eff s i (stepS s i c) := by
  unfold stepS
  split
  · exact Eff.sk c hi (by assumption)
  split
  · exact Eff.chk hi (by assumption)
  split
  · exact Eff.ends hi (by assumption)
  · exact Eff.none
end Go.Proofs.Ytjnlfibcpkobaaa
