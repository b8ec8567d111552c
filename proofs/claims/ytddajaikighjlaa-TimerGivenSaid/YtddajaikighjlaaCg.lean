/- TimerGiven's plain law: custodians one below the other. No program. -/
import Derived.Test.YtddajaikighjlaaCf
namespace Go.Proofs.Ytddajaikighjlaa
open Go.RowKit Go.Sl Go.Mp Go.Wh

/-- What lies below the j-th of five. -/
def lnk (Q : Nat → Nat) (j : Nat) : List Part := if j < 4 then [(0, some (j + 1, Q (j + 1)))] else []
def whos (l : List Int) : List Part := l.map fun x => (x, none)
theorem fold_whos (f : (Nat → Bool) → Nat → (Nat → Bool) × List Int) : ∀ (l : List Int) (acc : (Nat → Bool) × List Int), (whos l).foldl (stepS f) acc = (acc.1, acc.2 ++ l)
  | [], acc => by simp [whos]
  | x :: l, acc => by
    show (whos l).foldl (stepS f) (stepS f acc (x, none)) = _
    rw [fold_whos f l]
    simp [stepS]
/-- The chain: from D on all are disposed of; A: who was given to the others. -/
structure Chn (Q : Nat → Nat) (P : Nat → List Part) (d : Nat → Bool) (D : Nat) (A : Nat → List Int) : Prop where
  le : D ≤ 5
  done : ∀ j, j < 5 → d j = decide (D ≤ j)
  parts : ∀ j, j < D → P j = lnk Q j ++ whos (A j)
theorem range_split {D j : Nat} (h : j ≤ D) : List.range D = List.range j ++ List.range' j (D - j) := by
  have h2 := List.range'_append_1 (s := 0) (m := j) (n := D - j)
  rw [Nat.zero_add, show j + (D - j) = D by omega] at h2
  rw [List.range_eq_range', List.range_eq_range']
  exact h2.symm
theorem flat_congr {A B : Nat → List Int} : ∀ (l : List Nat), (∀ k ∈ l, A k = B k) → l.flatMap A = l.flatMap B
  | [], _ => rfl
  | x :: l, h => by rw [List.flatMap_cons, List.flatMap_cons, h x (by simp), flat_congr l fun k hk => h k (by simp [hk])]
theorem chn_dis {Q : Nat → Nat} {P : Nat → List Part} {D : Nat} {A : Nat → List Int} (hle : D ≤ 5) (hP : ∀ j, j < D → P j = lnk Q j ++ whos (A j)) : ∀ (m j : Nat) (d : Nat → Bool), j < 5 → 5 ≤ m + j → (∀ k, j ≤ k → k < 5 → d k = decide (D ≤ k)) →
    (∀ k, k < 5 → (disS P m d j).1 k = (d k || decide (j ≤ k))) ∧ ((disS P m d j).2).Perm ((List.range' j (D - j)).flatMap A)
  | 0, j, d, hj, hm, _ => by omega
  | m + 1, j, d, hj, hm, hd => by
    by_cases hD : D ≤ j
    · have hdj : d j = true := by rw [hd j (Nat.le_refl _) hj]; simpa using hD
      rw [dis_done hdj]
      refine ⟨fun k hk => ?_, ?_⟩
      · show d k = _
        by_cases h : j ≤ k
        · rw [hd k h hk]
          have : D ≤ k := by omega
          simp [this]
        · simp [h]
      · rw [show D - j = 0 by omega]
        exact List.Perm.refl _
    · have hdj : d j = false := by rw [hd j (Nat.le_refl _) hj]; simpa using hD
      have e0 : disS P (m + 1) d j = (P j).foldl (stepS (disS P m)) (setD d j, []) := by
        show (if d j = true then _ else _) = _
        rw [if_neg (by rw [hdj]; decide)]
      rw [e0, hP j (by omega), List.foldl_append, fold_whos]
      have hr : List.range' j (D - j) = j :: List.range' (j + 1) (D - (j + 1)) := by
        rw [show D - j = (D - (j + 1)) + 1 by omega, List.range'_succ]
      by_cases h4 : j < 4
      · have e1 : (lnk Q j).foldl (stepS (disS P m)) (setD d j, []) = disS P m (setD d j) (j + 1) := by
          unfold lnk
          rw [if_pos h4]
          simp [stepS]
        obtain ⟨h1, h2⟩ := chn_dis hle hP m (j + 1) (setD d j) (by omega) (by omega) fun k hk1 hk2 => by
          rw [setD_ne d (by omega)]
          exact hd k (by omega) hk2
        rw [e1]
        refine ⟨fun k hk => ?_, ?_⟩
        · show (disS P m (setD d j) (j + 1)).1 k = _
          rw [h1 k hk]
          by_cases e : k = j
          · subst e
            rw [setD_self]
            simp
          · rw [setD_ne d e]
            congr 1
            by_cases h : j + 1 ≤ k
            · simp [h, show j ≤ k by omega]
            · simp [h, show ¬ j ≤ k by omega]
        · rw [hr, List.flatMap_cons]
          exact (List.Perm.append_right _ h2).trans List.perm_append_comm
      · have e1 : (lnk Q j).foldl (stepS (disS P m)) (setD d j, []) = (setD d j, []) := by
          unfold lnk
          rw [if_neg h4]
          rfl
        rw [e1]
        refine ⟨fun k hk => ?_, ?_⟩
        · show setD d j k = _
          by_cases e : k = j
          · subst e
            rw [setD_self]
            simp
          · rw [setD_ne d e]
            simp [show ¬ j ≤ k by omega]
        · rw [hr, List.flatMap_cons, show D - (j + 1) = 0 by omega]
          simp
/-- Behind so many: who came out, and who was given. -/
def Gvn (Q : Nat → Nat) (P : Nat → List Part) (d : Nat → Bool) (out : List Int) (k : Nat) : Prop :=
  ∃ D A, Chn Q P d D A ∧ (out ++ (List.range D).flatMap A).Perm ((List.range k).map (Int.ofNat ·))
theorem flat_upd (A : Nat → List Int) (j D : Nat) (x : Int) (hj : j < D) : ((List.range D).flatMap (upd A j (A j ++ [x]))).Perm ((List.range D).flatMap A ++ [x]) := by
  rw [range_split (show j ≤ D by omega), show D - j = (D - (j + 1)) + 1 by omega, List.range'_succ, List.flatMap_append, List.flatMap_append, List.flatMap_cons, List.flatMap_cons, upd_self]
  have e1 : (List.range j).flatMap (upd A j (A j ++ [x])) = (List.range j).flatMap A := by
    refine flat_congr _ fun k hk => upd_ne _ _ ?_
    have := List.mem_range.1 hk
    omega
  have e2 : (List.range' (j + 1) (D - (j + 1))).flatMap (upd A j (A j ++ [x])) = (List.range' (j + 1) (D - (j + 1))).flatMap A := by
    refine flat_congr _ fun k hk => upd_ne _ _ ?_
    have := List.mem_range'_1.1 hk
    omega
  rw [e1, e2]
  simp only [List.append_assoc]
  refine List.Perm.append_left _ (List.Perm.append_left _ ?_)
  exact List.perm_append_comm
theorem range_next (k : Nat) : (List.range (k + 1)).map (Int.ofNat ·) = (List.range k).map (Int.ofNat ·) ++ [(k : Int)] := by
  rw [List.range_succ, List.map_append]
  rfl
theorem gvn_done {Q : Nat → Nat} {P : Nat → List Part} {d : Nat → Bool} {out : List Int} {k : Nat} (h : Gvn Q P d out k) : Gvn Q P d (out ++ [(k : Int)]) (k + 1) := by
  obtain ⟨D, A, hc, hp⟩ := h
  refine ⟨D, A, hc, ?_⟩
  rw [range_next, List.append_assoc]
  refine (List.Perm.append_left _ List.perm_append_comm).trans ?_
  rw [← List.append_assoc]
  exact hp.append_right _
theorem gvn_give {Q : Nat → Nat} {P : Nat → List Part} {d : Nat → Bool} {out : List Int} {k j : Nat} (h : Gvn Q P d out k) (hj : j < 5) (hd : d j = false) : Gvn Q (upd P j (P j ++ [((k : Int), none)])) d out (k + 1) := by
  obtain ⟨D, A, hc, hp⟩ := h
  have hjD : j < D := by
    have := hc.done j hj
    rw [hd] at this
    have := this.symm
    rw [decide_eq_false_iff_not] at this
    omega
  refine ⟨D, upd A j (A j ++ [(k : Int)]), ⟨hc.le, hc.done, fun i hi => ?_⟩, ?_⟩
  · by_cases e : i = j
    · subst e
      rw [upd_self, upd_self, hc.parts i hi]
      simp [whos]
    · rw [upd_ne _ _ e, upd_ne _ _ e]
      exact hc.parts i hi
  · rw [range_next]
    refine (List.Perm.append_left _ (flat_upd A j D _ hjD)).trans ?_
    rw [← List.append_assoc]
    exact hp.append_right _
theorem gvn_dispose {Q : Nat → Nat} {P : Nat → List Part} {d : Nat → Bool} {out : List Int} {k j : Nat} (h : Gvn Q P d out k) (hj : j < 5) :
    Gvn Q (fun i => if d i = false ∧ (disS P 5 d j).1 i = true then [] else P i) (disS P 5 d j).1 (out ++ (disS P 5 d j).2) k ∧ ∀ i, i < 5 → (disS P 5 d j).1 i = (d i || decide (j ≤ i)) := by
  obtain ⟨D, A, hc, hp⟩ := h
  obtain ⟨h1, h2⟩ := chn_dis hc.le hc.parts 5 j d hj (by omega) fun k _ hk => hc.done k hk
  refine ⟨⟨min D j, A, ⟨by omega, fun i hi => ?_, fun i hi => ?_⟩, ?_⟩, h1⟩
  · rw [h1 i hi, hc.done i hi]
    by_cases a : D ≤ i
    · simp [a, show min D j ≤ i by omega]
    · by_cases b : j ≤ i
      · simp [b, show min D j ≤ i by omega]
      · simp [a, b, show ¬ min D j ≤ i by omega]
  · have hi5 : i < 5 := by have := hc.le; omega
    have hfa : (disS P 5 d j).1 i = false := by
      rw [h1 i hi5, hc.done i hi5]
      simp [show ¬ D ≤ i by omega, show ¬ j ≤ i by omega]
    show (if _ then _ else _) = _
    rw [if_neg (by rw [hfa]; rintro ⟨-, h⟩; exact absurd h (by decide))]
    exact hc.parts i (by omega)
  · rw [List.append_assoc]
    refine List.Perm.trans (List.Perm.append_left _ ?_) hp
    by_cases hjD : j ≤ D
    · rw [show min D j = j by omega, range_split hjD, List.flatMap_append]
      exact (h2.append_right _).trans List.perm_append_comm
    · rw [show D - j = 0 by omega] at h2
      rw [show min D j = D by omega]
      have : (disS P 5 d j).2 = [] := List.Perm.eq_nil (by simpa using h2)
      rw [this]
      exact List.Perm.refl _
theorem gvn_zero {Q : Nat → Nat} {P : Nat → List Part} {d : Nat → Bool} (hd : ∀ j, j < 5 → d j = false) (hP : ∀ j, j < 5 → P j = lnk Q j) : Gvn Q P d [] 0 :=
  ⟨5, fun _ => [], ⟨Nat.le_refl _, fun j hj => by rw [hd j hj]; simp; omega, fun j hj => by rw [hP j hj]; simp [whos]⟩, by simp⟩
theorem gvn_all {Q : Nat → Nat} {P : Nat → List Part} {d : Nat → Bool} {out : List Int} {k : Nat} (h : Gvn Q P d out k) (hd : d 0 = true) : out.Perm ((List.range k).map (Int.ofNat ·)) ∧ ∀ j, j < 5 → d j = true := by
  obtain ⟨D, A, hc, hp⟩ := h
  have h0 := hc.done 0 (by omega)
  rw [hd] at h0
  have hD : D = 0 := by
    have := h0.symm
    rw [decide_eq_true_iff] at this
    omega
  subst hD
  exact ⟨by simpa using hp, fun j hj => by rw [hc.done j hj]; simp⟩
theorem sort_range {out : List Int} {k : Nat} (h : out.Perm ((List.range k).map (Int.ofNat ·))) : (out.mergeSort fun x y => decide (x ≤ y)) = (List.range k).map (Int.ofNat ·) := by
  refine List.Perm.eq_of_pairwise (le := fun x y : Int => x ≤ y) (fun a b _ _ h1 h2 => Int.le_antisymm h1 h2) ?_ ?_ ((List.mergeSort_perm _ _).trans h)
  · have := List.pairwise_mergeSort (le := fun x y : Int => decide (x ≤ y)) (fun a b c h1 h2 => by simp at *; omega) (fun a b => by simp; omega) out
    exact this.imp fun h => by simpa using h
  · rw [List.pairwise_map]
    exact List.pairwise_lt_range.imp fun h => by simp; omega
end Go.Proofs.Ytddajaikighjlaa
