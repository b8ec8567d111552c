/- Insertion sort of pairs by their second number: it keeps the order of the first. No program. -/
import Derived.Test.YtddajaikighjlaaSd
namespace Go.Proofs.Ytddajaikighjlaa
open Go.Sort Go.Proofs Go.Mp Go.Wh

def ltA (x y : Int × Int) : Bool := decide (x.2 < y.2)
def ltB (x y : Int × Int) : Bool := decide (x.2 < y.2) || (x.2 == y.2 && decide (x.1 < y.1))
theorem swp_size (d : Array (Int × Int)) (i j : Nat) : (swp d i j).size = d.size := by simp [swp]
theorem inn_size (lt : Int × Int → Int × Int → Bool) (a : Nat) : ∀ (j : Nat) (d : Array (Int × Int)), (insInner lt a j d).size = d.size
  | 0, _ => rfl
  | j + 1, d => by
    unfold insInner
    split
    · rw [inn_size lt a j, swp_size]
    · rfl
theorem out_size (lt : Int × Int → Int × Int → Bool) (a b : Nat) : ∀ (n i : Nat) (d : Array (Int × Int)), b - i = n → (insOuter lt a b i d).size = d.size
  | 0, i, d, h => by unfold insOuter; rw [if_neg (by omega)]
  | n + 1, i, d, h => by
    unfold insOuter
    rw [if_pos (by omega), out_size lt a b n (i + 1) _ (by omega), inn_size]
theorem ins_size (lt : Int × Int → Int × Int → Bool) (d : Array (Int × Int)) (a b : Nat) : (Sort.insertionSort lt d a b).size = d.size := out_size lt a b _ _ d rfl
theorem bang (a : Array (Int × Int)) (t : Nat) : a[t]! = (a[t]?).getD default := by
  by_cases h : t < a.size
  · rw [getElem!_pos a t h, Array.getElem?_eq_getElem h]; rfl
  · rw [getElem!_neg a t h, Array.getElem?_eq_none (by omega)]; rfl
theorem swp_get (d : Array (Int × Int)) (j : Nat) (hj : j + 1 < d.size) (t : Nat) : (swp d (j + 1) j)[t]! = if t = j then d[j + 1]! else if t = j + 1 then d[j]! else d[t]! := by
  unfold swp
  rw [bang, Array.getElem?_setIfInBounds, Array.getElem?_setIfInBounds]
  by_cases h1 : t = j
  · subst h1
    rw [if_pos rfl, if_pos rfl, if_pos (by simp; omega)]
    rfl
  · rw [if_neg (Ne.symm h1), if_neg h1]
    by_cases h2 : t = j + 1
    · subst h2
      rw [if_pos rfl, if_pos rfl, if_pos hj]
      rfl
    · rw [if_neg (Ne.symm h2), if_neg h2, bang d t]
theorem inner_eq (lt : Int × Int → Int × Int → Bool) (P : Int × Int → Prop) (hlt : ∀ x y, P x → P y → lt x y = ltA x y) (a : Nat) : ∀ (j : Nat) (d : Array (Int × Int)), j < d.size → (∀ t : Nat, P d[t]!) → (∀ t, t < j → d[t]!.1 < d[j]!.1) → insInner lt a j d = insInner ltB a j d
  | 0, _, _, _, _ => rfl
  | j + 1, d, hj, hP, h => by
    have hc : lt d[j + 1]! d[j]! = ltB d[j + 1]! d[j]! := by
      have := h j (by omega)
      rw [hlt _ _ (hP _) (hP _)]
      unfold ltA ltB
      rw [show decide (d[j + 1]!.1 < d[j]!.1) = false from decide_eq_false (by omega), Bool.and_false, Bool.or_false]
    unfold insInner
    rw [hc]
    split
    · refine inner_eq lt P hlt a j _ (by rw [swp_size]; omega) (fun t => ?_) fun t ht => ?_
      · rw [swp_get d j hj]
        split
        · exact hP _
        · split
          · exact hP _
          · exact hP _
      · rw [swp_get d j hj, swp_get d j hj, if_neg (by omega), if_neg (by omega), if_pos rfl]
        exact h t (by omega)
    · rfl
theorem inner_mem (lt : Int × Int → Int × Int → Bool) (a : Nat) : ∀ (j : Nat) (d : Array (Int × Int)), j < d.size → (∀ t, t ≤ j → ∃ s, s ≤ j ∧ (insInner lt a j d)[t]! = d[s]!) ∧ ∀ t, j < t → (insInner lt a j d)[t]! = d[t]!
  | 0, d, _ => ⟨fun t ht => ⟨t, ht, rfl⟩, fun _ _ => rfl⟩
  | j + 1, d, hj => by
    unfold insInner
    split
    · obtain ⟨h1, h2⟩ := inner_mem lt a j (swp d (j + 1) j) (by rw [swp_size]; omega)
      constructor
      · intro t ht
        by_cases e : t = j + 1
        · subst e
          refine ⟨j, by omega, ?_⟩
          rw [h2 _ (by omega), swp_get d j hj, if_neg (by omega), if_pos rfl]
        · obtain ⟨s, hs, e2⟩ := h1 t (by omega)
          rw [e2, swp_get d j hj]
          by_cases e3 : s = j
          · exact ⟨j + 1, by omega, by rw [if_pos e3]⟩
          · exact ⟨s, by omega, by rw [if_neg e3, if_neg (by omega)]⟩
      · intro t ht
        rw [h2 t (by omega), swp_get d j hj, if_neg (by omega), if_neg (by omega)]
    · exact ⟨fun t ht => ⟨t, ht, rfl⟩, fun _ _ => rfl⟩
theorem outer_eq (lt : Int × Int → Int × Int → Bool) (P : Int × Int → Prop) (hlt : ∀ x y, P x → P y → lt x y = ltA x y) (a b : Nat) : ∀ (n i : Nat) (d : Array (Int × Int)), b - i = n → b ≤ d.size → (∀ t : Nat, P d[t]!) → (∀ t s, t < s → i ≤ s → s < d.size → d[t]!.1 < d[s]!.1) → insOuter lt a b i d = insOuter ltB a b i d
  | 0, i, d, h, _, _, _ => by
    unfold insOuter
    rw [if_neg (by omega), if_neg (by omega)]
  | n + 1, i, d, h, hb, hP, ho => by
    unfold insOuter
    rw [if_pos (by omega), if_pos (by omega), inner_eq lt P hlt a i d (by omega) hP (fun t ht => ho t i ht (Nat.le_refl _) (by omega))]
    obtain ⟨h1, h2⟩ := inner_mem ltB a i d (by omega)
    refine outer_eq lt P hlt a b n (i + 1) _ (by omega) (by rw [inn_size]; exact hb) (fun t => ?_) fun t s hts his hs => ?_
    · by_cases ht : t ≤ i
      · obtain ⟨q, -, e⟩ := h1 t ht
        rw [e]
        exact hP q
      · rw [h2 t (by omega)]
        exact hP t
    · rw [inn_size] at hs
      rw [h2 s (by omega)]
      by_cases ht : t ≤ i
      · obtain ⟨q, hq, e⟩ := h1 t ht
        rw [e]
        exact ho q s (by omega) (by omega) hs
      · rw [h2 t (by omega)]
        exact ho t s hts (by omega) hs
theorem swoB : Sort.SWO ltB where
  irrefl x := by simp [ltB]
  trans x y z h1 h2 := by
    unfold ltB at *
    simp only [Bool.or_eq_true, Bool.and_eq_true, decide_eq_true_eq, beq_iff_eq] at *
    omega
  ntrans x y z h1 h2 := by
    unfold ltB at *
    simp only [Bool.or_eq_false_iff, Bool.and_eq_false_imp, decide_eq_false_iff_not, beq_iff_eq] at *
    constructor
    · omega
    · intro e
      have := h1.2
      have := h2.2
      omega
def PA (x : Int × Int) : Prop := 0 ≤ x.2 ∧ x.2 ≤ 1099511627776
theorem ltOf_A (x y : Int × Int) (hx : PA x) (hy : PA y) : ltOf cfA x y = ltA x y := by
  unfold ltOf cfA ltA PA at *
  rw [show Go.RowKit.wrap64 (x.2 - y.2) = x.2 - y.2 from IntWalk.wrap64_in _ (by omega)]
  by_cases h : x.2 < y.2
  · rw [decide_eq_true (by omega), decide_eq_true h]
  · rw [decide_eq_false (by omega), decide_eq_false h]
/-- The list that the stable sort leaves. -/
def stS (l : List (Int × Int)) : List (Int × Int) := (Sort.insertionSort (ltOf cfA) l.toArray 0 l.length).toList
theorem stS_len (l : List (Int × Int)) : (stS l).length = l.length := by simp [stS, ins_size]
theorem stS_sorted {l : List (Int × Int)} (hP : ∀ x ∈ l, PA x) (ho : l.Pairwise fun x y => x.1 < y.1) : (stS l).Perm l ∧ (stS l).Pairwise fun x y => ltB y x = false := by
  have hPd : ∀ t : Nat, PA (l.toArray)[t]! := by
    intro t
    rw [bang]
    cases h : l.toArray[t]? with
    | none => exact ⟨by decide, by decide⟩
    | some x => exact hP x (by simpa using List.mem_of_getElem? (by simpa using h))
  have hE : Sort.insertionSort (ltOf cfA) l.toArray 0 l.length = Sort.insertionSort ltB l.toArray 0 l.length := by
    unfold Sort.insertionSort
    refine outer_eq _ PA ltOf_A 0 l.length _ _ _ rfl (by simp) hPd fun t s hts _ hs => ?_
    have hs' : s < l.length := by simpa using hs
    rw [getElem!_pos _ t (by simp; omega), getElem!_pos _ s (by simpa using hs')]
    simp only [List.getElem_toArray]
    exact List.pairwise_iff_getElem.1 ho t s (by omega) hs' hts
  obtain ⟨h1, h2⟩ := insertionSort_holds swoB l.toArray 0 l.length (Nat.zero_le _) (by simp)
  unfold stS
  rw [hE]
  obtain ⟨d', hd⟩ : ∃ d', Sort.insertionSort ltB l.toArray 0 l.length = d' := ⟨_, rfl⟩
  rw [hd] at h1 h2 ⊢
  have hsz : d'.size = l.length := by simpa using h1.1
  refine ⟨?_, ?_⟩
  · have := h1.2.2
    simpa [Array.extract_eq_self_of_le, hsz] using this
  · rw [List.pairwise_iff_getElem]
    intro i j hi hj hij
    have hi' : i < d'.size := by simpa using hi
    have hj' : j < d'.size := by simpa using hj
    have := h2 i j (Nat.zero_le _) hij (by omega)
    rw [getElem!_pos d' i hi', getElem!_pos d' j hj'] at this
    simpa using this
end Go.Proofs.Ytddajaikighjlaa
