/- Sort and Compact on a row of the call's own. -/
import Derived.Test.YtjnlfibcpkobaaaD
import Derived.Test.YtjnlfibcpkobaaaShelf
import Derived.Sort.OwnSortedInts
import Derived.Lib.LazyBuf
namespace Go.Proofs.Ytjnlfibcpkobaaa
open Go.RowKit Go.Sl Go.Sched

theorem sort_own (v : Value) (xs : List Int) (base : Nat) (w : World) (h : w.ownsRow base 3 1 v xs.length (xs.map (Value.int .i64))) (hb : xs.length ≤ 1000000) (hB : base ≤ w.heap.size) :
    Calls Try.prog 14 #[v] w fun e w' => e = .returned (.tuple #[]) ∧ w'.ownsRow base 3 1 v xs.length ((xs.mergeSort fun x y => decide (x ≤ y)).map (Value.int .i64)) ∧ Below base w w' := by
  rcases h.2 with ⟨rfl, h0⟩ | ⟨g, cap, cur, rfl, hg, hc, h1, h2, h3, h4⟩
  · have hx : xs = [] := List.eq_nil_of_length_eq_zero h0
    subst hx
    refine (Try.slices_Sort_int_none none 0 w).mono ?_
    rintro e w' ⟨rfl, rfl⟩
    exact ⟨rfl, by simpa using h, Below.refl _ _⟩
  · rw [Nat.mul_one] at h4
    have hH := holds_of_blockI hc h4
    have hlt : g < w.heap.size := (Array.getElem?_eq_some_iff.1 hc).1
    refine (Try.slices_Sort_int g 0 cap xs w hH hlt (by omega)).mono ?_
    rintro e w' ⟨rfl, n, os, rfl⟩
    have hl : (xs.mergeSort fun x y => decide (x ≤ y)).length = xs.length := by simp
    refine ⟨rfl, ownsRow_sortedI hl hg hc h1 h2 h3, ?_⟩
    exact (Below.refl base w).grown (grownBy_sortedI _) hB (fun k hk => by cases hk; exact hg)

theorem compact_own (v : Value) (xs : List Int) (base : Nat) (w : World) (h : w.ownsRow base 3 1 v xs.length (xs.map (Value.int .i64))) (hb : xs.length ≤ 1000000) :
    Calls Try.prog 15 #[v] w fun e w' => (∃ a c, e = .returned (.slice a (Lib.compact xs).length c)) ∧ Below base w w' := by
  rcases h.2 with ⟨rfl, h0⟩ | ⟨g, cap, cur, rfl, hg, hc, h1, h2, h3, h4⟩
  · have hx : xs = [] := List.eq_nil_of_length_eq_zero h0
    subst hx
    refine (Try.slices_Compact_int_empty none 0 w).mono ?_
    rintro e w' ⟨rfl, rfl⟩
    exact ⟨⟨_, _, rfl⟩, Below.refl _ _⟩
  · rw [Nat.mul_one] at h4
    have hH := holds_of_blockI hc h4
    refine (Try.slices_Compact_int_cells g 0 xs.length cap xs w (Nat.le_refl _) (by omega) h1 (fun j hj => ?_) (fun j hj => ?_)).mono ?_
    · have := h.cellAt j (by omega)
      rw [Nat.zero_add, this]
      simp [List.getD, hj]
    · simp [World.frozen?, hc]
    rintro e w' ⟨rfl, q, rfl⟩
    rw [List.take_of_length_le (Nat.le_refl _)]
    exact ⟨⟨_, _, rfl⟩, Go.below_setCells hg _ _ _ ((Below.refl _ _).drewN q)⟩

theorem keeps_all (zs : List Int) (hs : zs.Pairwise (· ≤ ·)) : (∀ j, j < zs.length → Lib.keeps zs.toArray j = true) ↔ zs.Nodup := by
  rw [List.pairwise_iff_getElem] at hs
  unfold List.Nodup
  rw [List.pairwise_iff_getElem]
  constructor
  · intro h i j hi hj hij he
    have hj' := h j hj
    simp only [Lib.keeps, decide_eq_true_eq] at hj'
    rcases hj' with h0 | hne
    · omega
    · apply hne
      have a1 : zs.toArray[j]! = zs[j] := by simp [hj]
      have a2 : zs.toArray[j - 1]! = zs[j - 1] := by simp [show j - 1 < zs.length by omega]
      rw [a1, a2]
      have l1 := hs (j - 1) j (by omega) hj (by omega)
      have l2 : zs[i] ≤ zs[j - 1] := by
        by_cases e : i = j - 1
        · subst e; exact Int.le_refl _
        · exact hs i (j - 1) hi (by omega) (by omega)
      omega
  · intro h j hj
    simp only [Lib.keeps, decide_eq_true_eq]
    by_cases h0 : j = 0
    · exact Or.inl h0
    · refine Or.inr ?_
      have a1 : zs.toArray[j]! = zs[j] := by simp [hj]
      have a2 : zs.toArray[j - 1]! = zs[j - 1] := by simp [show j - 1 < zs.length by omega]
      rw [a1, a2]
      exact fun e => h (j - 1) j (by omega) hj (by omega) e.symm

theorem compact_len (zs : List Int) (hs : zs.Pairwise (· ≤ ·)) : ((Lib.compact zs).length = zs.length) ↔ zs.Nodup := by
  rw [← keeps_all zs hs]
  unfold Lib.compact Lib.compactUpTo
  rw [List.length_map]
  constructor
  · intro h j hj
    have := List.filter_eq_self.1 (List.length_filter_eq_length_iff.1 (by simpa using h) |> fun k => List.filter_eq_self.2 k) j (List.mem_range.2 hj)
    exact this
  · intro h
    rw [List.filter_eq_self.2 (fun j hj => h j (List.mem_range.1 hj))]
    simp

def sorted (xs : List Int) : List Int := xs.mergeSort fun x y => decide (x ≤ y)
theorem sorted_pair (xs : List Int) : (sorted xs).Pairwise (· ≤ ·) := by
  have := List.pairwise_mergeSort (le := fun x y : Int => decide (x ≤ y)) (fun a b c h1 h2 => by simp at *; omega) (fun a b => by simp; omega) xs
  exact this.imp (fun h => by simpa using h)
theorem sorted_perm (xs : List Int) : (sorted xs).Perm xs := List.mergeSort_perm _ _
theorem sorted_nodup (xs : List Int) : (sorted xs).Nodup ↔ xs.Nodup := (sorted_perm xs).nodup_iff
theorem sorted_length (xs : List Int) : (sorted xs).length = xs.length := (sorted_perm xs).length_eq
theorem sorted_head (xs : List Int) (h : 0 < xs.length) : ((sorted xs).getD 0 0 < 0) ↔ ∃ x ∈ xs, x < 0 := by
  have hl := sorted_length xs
  have hp := sorted_perm xs
  have hs := sorted_pair xs
  cases e : sorted xs with
  | nil => rw [e] at hl; simp at hl; omega
  | cons a r =>
    rw [e] at hp hs
    simp only [List.getD_cons_zero]
    constructor
    · intro ha; exact ⟨a, hp.mem_iff.1 (by simp), ha⟩
    · rintro ⟨x, hx, hx0⟩
      rcases List.mem_cons.1 (hp.mem_iff.2 hx) with rfl | hr
      · exact hx0
      · have := (List.pairwise_cons.1 hs).1 x hr
        omega
end Go.Proofs.Ytjnlfibcpkobaaa
