/- Rows of timers: as the sort reads and leaves them; the order of timers. No program. -/
import Derived.Test.YtddajaikighjlaaWs
import Derived.Shelf.SlSortCmp.WholeK
import Derived.Sort.OwnSorted
namespace Go.Mp
open Go.RowKit Go.ChangeMaps Go.Wh Go.Sort Go.Proofs

instance : Inhabited Tm := ⟨tm0⟩
def encT (t : Tm) : List Value := [.int .i64 t.id, .int .i64 t.when, .int .i64 t.iv, .int .i64 t.ord]
theorem encT_len (t : Tm) : (encT t).length = 4 := rfl
theorem flat_get {α : Type} (enc : α → List Value) (k : Nat) (hk : ∀ x, (enc x).length = k) (k0 : 0 < k) : ∀ (l : List α) (i : Nat), (l.flatMap enc)[i]? = (l[i / k]?).bind fun x => (enc x)[i % k]?
  | [], i => by simp
  | a :: l, i => by
    rw [List.flatMap_cons]
    by_cases h : i < k
    · rw [List.getElem?_append_left (by rw [hk]; exact h), Nat.div_eq_of_lt h, Nat.mod_eq_of_lt h]
      rfl
    · have hik : k ≤ i := by omega
      rw [List.getElem?_append_right (by rw [hk]; exact hik), hk, flat_get enc k hk k0 l (i - k), Nat.div_eq_sub_div k0 hik, Nat.mod_eq_sub_mod hik]
      rfl
theorem flat_len {α : Type} (enc : α → List Value) (k : Nat) (hk : ∀ x, (enc x).length = k) : ∀ (l : List α), (l.flatMap enc).length = l.length * k
  | [] => by simp
  | a :: l => by rw [List.flatMap_cons, List.length_append, hk, flat_len enc k hk l, List.length_cons, Nat.add_mul, Nat.one_mul, Nat.add_comm]
theorem flatK_list {α : Type} [Inhabited α] (enc : α → List Value) (k : Nat) (hk : ∀ x, (enc x).length = k) (k0 : 0 < k) (l : List α) : (flatK enc k l.toArray).toList = l.flatMap enc := by
  apply List.ext_getElem?
  intro i
  rw [flat_get enc k hk k0]
  by_cases h : i < l.length * k
  · have h1 : i / k < l.length := Nat.div_lt_of_lt_mul (by rwa [Nat.mul_comm])
    have h2 : i % k < k := Nat.mod_lt _ k0
    have h3 : i % k < (enc l[i / k]).length := by rw [hk]; exact h2
    rw [List.getElem?_eq_getElem h1, Option.bind_some, List.getElem?_eq_getElem (l := enc l[i / k]) h3, Array.getElem?_toList]
    have hs : i < (flatK enc k l.toArray).size := by simpa using h
    rw [Array.getElem?_eq_getElem hs]
    have := get_flatK enc k l.toArray i (by simpa using h)
    rw [getElem!_pos _ i hs] at this
    rw [this]
    congr 1
    have e1 : l.toArray[i / k]! = l[i / k] := by simp [h1]
    rw [e1, getElem!_pos _ _ (by rw [hk]; exact h2)]
  · have h1 : l.length ≤ i / k := (Nat.le_div_iff_mul_le k0).2 (by omega)
    rw [List.getElem?_eq_none h1, Array.getElem?_toList, Array.getElem?_eq_none (by simp; omega)]
    rfl
theorem holdsK_block {α : Type} [Inhabited α] (enc : α → List Value) (k : Nat) (hk : ∀ x, (enc x).length = k) (k0 : 0 < k) {w : World} {g : Nat} {cur : Array Value} {e : TypeId} {l : List α} (hb : w.heap[g]? = some (.cells cur e (0, 0))) (ht : cur.toList.take (l.length * k) = l.flatMap enc) :
    HoldsK enc k w g 0 l.toArray := by
  intro j hj
  have hj' : j < l.length * k := by simpa using hj
  refine ⟨?_, by simp [World.frozen?, hb]⟩
  have h1 : (cur.toList.take (l.length * k))[j]? = (flatK enc k l.toArray).toList[j]? := by rw [ht, flatK_list enc k hk k0]
  rw [List.getElem?_take_of_lt hj'] at h1
  simp only [World.cell?, hb, Nat.zero_add]
  simp only [Option.isSome_none, Bool.false_eq_true, if_false]
  rw [← Array.getElem?_toList, h1, Array.getElem?_toList, Array.getElem?_eq_getElem hj, getElem!_pos _ j hj]
  rfl
theorem heap_sortedK {α : Type} [Inhabited α] (enc : α → List Value) (k : Nat) {w : World} {g n : Nat} {os : Array Obj} {cur : Array Value} {e : TypeId} {fr : Nat × Nat} (d : Array α) (hb : w.heap[g]? = some (.cells cur e fr)) :
    (sortWorldK enc k w g 0 n d os).heap[g]? = some (.cells (putCells id 0 (flatK enc k d) cur) e fr) := by
  have hg : g < w.heap.size := (Array.getElem?_eq_some_iff.1 hb).1
  unfold sortWorldK putRowK
  rw [heap_grow_old _ _ (by simpa using hg)]
  simp [putRow, mapBlock, Sort.ahead, Array.getElem?_modify, hb, onCells]
theorem grownBy_sortedK {α : Type} [Inhabited α] (enc : α → List Value) (k : Nat) {w : World} {g n : Nat} {os : Array Obj} (d : Array α) : w.grownBy (sortWorldK enc k w g 0 n d os) (some g) := by
  unfold sortWorldK putRowK
  refine ⟨rfl, rfl, rfl, by simp, fun j hj hne => ?_⟩
  rw [heap_grow_old _ _ (by simpa using hj)]
  have : g ≠ j := fun e => hne (by rw [e])
  simp [putRow, mapBlock, Sort.ahead, Array.getElem?_modify, this]
theorem take_putCellsK (cur F : Array Value) (h : F.size ≤ cur.size) : (putCells id 0 F cur).toList.take F.size = F.toList := by
  apply List.ext_getElem?
  intro j
  by_cases hj : j < F.size
  · rw [List.getElem?_take_of_lt hj, Array.getElem?_toList]
    simp [putCells, hj, show j < cur.size by omega]
  · rw [List.getElem?_take_eq_none (by omega), List.getElem?_eq_none (by simp; omega)]

/-! ### The order -/
theorem before_total (a b : Tm) : before a b = false → before b a = true := by
  unfold before
  intro h
  simp only [Bool.or_eq_false_iff, decide_eq_false_iff_not, Bool.and_eq_false_imp, beq_iff_eq, Bool.or_eq_true, decide_eq_true_eq, Bool.and_eq_true] at *
  by_cases e : a.when = b.when
  · have := h.2 e; right; exact ⟨e.symm, by omega⟩
  · left; omega
theorem before_trans {a b c : Tm} (h1 : before a b = true) (h2 : before b c = true) : before a c = true := by
  unfold before at *
  simp only [decide_eq_true_eq, beq_iff_eq, Bool.or_eq_true, Bool.and_eq_true] at *
  omega
theorem ins_perm (t : Tm) : ∀ l, (ins t l).Perm (t :: l)
  | [] => List.Perm.refl _
  | u :: l => by
    unfold ins
    split
    · exact List.Perm.refl _
    · exact ((ins_perm t l).cons u).trans (List.Perm.swap t u l)
theorem srt_perm : ∀ l, (srt l).Perm l
  | [] => List.Perm.refl _
  | t :: l => (ins_perm t _).trans ((srt_perm l).cons t)
theorem ins_sorted (t : Tm) : ∀ l, l.Pairwise (fun a b => before a b = true) → (ins t l).Pairwise (fun a b => before a b = true)
  | [], _ => by simp [ins]
  | u :: l, h => by
    unfold ins
    rw [List.pairwise_cons] at h
    split
    · rename_i hb
      rw [List.pairwise_cons]
      refine ⟨fun x hx => ?_, List.pairwise_cons.2 h⟩
      rcases List.mem_cons.1 hx with rfl | hx
      · exact hb
      · exact before_trans hb (h.1 x hx)
    · rename_i hb
      rw [List.pairwise_cons]
      refine ⟨fun x hx => ?_, ins_sorted t l h.2⟩
      rcases List.mem_cons.1 ((ins_perm t l).mem_iff.1 hx) with rfl | hx
      · exact before_total _ _ (by simpa using hb)
      · exact h.1 x hx
theorem srt_sorted : ∀ l, (srt l).Pairwise (fun a b => before a b = true)
  | [] => List.Pairwise.nil
  | t :: l => ins_sorted t _ (srt_sorted l)
/-- Timers with different numbers in their order: only one list is sorted. -/
theorem sorted_unique : ∀ (l l' : List Tm), l.Perm l' → (l.map (·.ord)).Nodup → l.Pairwise (fun a b => before a b = true) → l'.Pairwise (fun a b => before a b = true) → l = l'
  | [], l', hp, _, _, _ => (List.nil_perm.1 hp).symm
  | a :: l, [], hp, _, _, _ => by simp at hp
  | a :: l, b :: l', hp, hn, h, h' => by
    have hab : a = b := by
      have hb : b ∈ a :: l := hp.mem_iff.2 (by simp)
      have ha : a ∈ b :: l' := hp.mem_iff.1 (by simp)
      rcases List.mem_cons.1 hb with e | hb
      · exact e.symm
      · rcases List.mem_cons.1 ha with e | ha
        · exact e
        · have h1 := (List.pairwise_cons.1 h).1 b hb
          have h2 := (List.pairwise_cons.1 h').1 a ha
          exfalso
          have ho : a.ord = b.ord := by
            unfold before at h1 h2
            simp only [decide_eq_true_eq, beq_iff_eq, Bool.or_eq_true, Bool.and_eq_true] at h1 h2
            omega
          rw [List.map_cons, List.nodup_cons] at hn
          exact hn.1 (List.mem_map.2 ⟨b, hb, ho.symm⟩)
    subst hab
    rw [List.map_cons, List.nodup_cons] at hn
    rw [sorted_unique l l' ((List.perm_cons a).1 hp) hn.2 (List.pairwise_cons.1 h).2 (List.pairwise_cons.1 h').2]
theorem srt_unique {l l' : List Tm} (hp : l'.Perm l) (hn : (l.map (·.ord)).Nodup) (h : l'.Pairwise (fun a b => before a b = true)) : l' = srt l :=
  sorted_unique l' (srt l) (hp.trans (srt_perm l).symm) ((hp.map _).nodup_iff.2 hn) h (srt_sorted l)
end Go.Mp
