/- SortFunc 74 at timers. -/
import Derived.Test.YtddajaikighjlaaEa
import Derived.Test.YtddajaikighjlaaSo
import Derived.Test.YtddajaikighjlaaShelf
import Derived.Shelf.SlSortCmp.NoneTotal
namespace Go.Proofs.Ytddajaikighjlaa
open Go.RowKit Go.Mp Go.Wh

theorem lt_before (a b : Tm) : ltOf cf b a = !before a b := by
  unfold ltOf cf cmpI before
  by_cases h1 : b.when < a.when
  · simp [h1, show ¬ a.when < b.when by omega, show ¬ a.when = b.when by omega]
  · by_cases h2 : a.when < b.when
    · simp [h1, h2]
    · have e : a.when = b.when := by omega
      by_cases h3 : b.ord < a.ord
      · simp [e, h3, show ¬ a.ord ≤ b.ord by omega]
      · by_cases h4 : a.ord < b.ord
        · simp [e, h3, h4, show a.ord ≤ b.ord by omega]
        · simp [e, h3, h4, show a.ord ≤ b.ord by omega]
theorem swo : Sort.SWO (ltOf cf) where
  irrefl x := by rw [lt_before]; simp [before]
  trans x y z h1 h2 := by
    rw [lt_before] at *
    simp only [Bool.not_eq_true'] at *
    by_cases h : before z x = true
    · exfalso
      have h3 := before_total _ _ h1
      have := before_trans h h3
      rw [h2] at this
      cases this
    · simpa using h
  ntrans x y z h1 h2 := by
    rw [lt_before] at *
    simp only [Bool.not_eq_false'] at *
    exact before_trans h2 h1

set_option maxHeartbeats 1000000 in
theorem sortT_calls (v : Value) (l : List Tm) (base : Nat) (w : World) (h : w.ownsRow base 129 4 v l.length (l.flatMap encT)) (hb : l.length ≤ 1000000) (hB : base ≤ w.heap.size) (hn : (l.map (·.ord)).Nodup) :
    Calls Try.prog 74 #[v, .func (.func 75) #[] #[]] w fun e w' => e = .returned (.tuple #[]) ∧ w'.ownsRow base 129 4 v l.length ((srt l).flatMap encT) ∧ Below base w w' := by
  have hlen : (srt l).length = l.length := (srt_perm l).length_eq
  rcases h.2 with ⟨rfl, h0⟩ | ⟨g, cap, cur, rfl, hg, hc, h1, h2, h3, h4⟩
  · have hx : l = [] := List.eq_nil_of_length_eq_zero h0
    subst hx
    have hcon := AnyF.slices_SortFunc_none Try.sortTm none 0 (.func (.func 75) #[] #[]) w
    change Calls Try.prog 74 _ _ _ at hcon
    refine hcon.mono ?_
    rintro e w' ⟨rfl, rfl⟩
    exact ⟨rfl, h, Below.refl _ _⟩
  · have hH := holdsK_block encT 4 encT_len (by omega) (l := l) hc h4
    have hlt : g < w.heap.size := (Array.getElem?_eq_some_iff.1 hc).1
    have eg : ∀ args w, (callFunc 75 args).run Try.prog w = .ok (.enter 75 args) w := enters_of Try.func75 (by kernel_rfl) rfl
    have hcon := AnyQ.slices_SortFunc Try.sortTm 4 Try.isAgg129 Try.sizeOf129 encT encT_len (fun x v hv => by simp [encT] at hv; rcases hv with rfl | rfl | rfl | rfl <;> rfl) cf swo 75 #[] g 0 cap l.toArray w eg (fun _ _ _ _ x y => earlier_calls x y _) hH hlt (by simp; omega)
    change Calls Try.prog 74 _ _ _ at hcon
    simp only [List.size_toArray] at hcon
    refine hcon.mono ?_
    rintro e w' ⟨rfl, d', n, os, hp, hs, rfl⟩
    have hsz : d'.size = l.length := hp.1
    have hperm : d'.toList.Perm l := by
      have := hp.2.2
      simpa [Array.extract_eq_self_of_le, hsz] using this
    have hd : d'.toList = srt l := by
      refine srt_unique hperm hn ?_
      rw [List.pairwise_iff_getElem]
      intro i j hi hj hij
      have := hs i j (Nat.zero_le _) hij (by simpa [hsz] using hj)
      rw [lt_before] at this
      have hi' : i < d'.size := by simpa using hi
      have hj' : j < d'.size := by simpa using hj
      rw [getElem!_pos d' i hi', getElem!_pos d' j hj'] at this
      simpa using this
    have hd2 : d' = (srt l).toArray := by rw [← hd]
    subst hd2
    have hfs : (Sort.flatK encT 4 (srt l).toArray).size = l.length * 4 := by simp [hlen]
    refine ⟨rfl, ⟨by rw [flat_len encT 4 encT_len, hlen], .inr ⟨g, cap, _, rfl, hg, heap_sortedK encT 4 _ hc, h1, h2, by simp [Sort.putCells, h3], ?_⟩⟩, (Below.refl base w).grown (grownBy_sortedK encT 4 _) hB (fun k hk => by cases hk; exact hg)⟩
    rw [← hfs, take_putCellsK _ _ (by rw [hfs, h3]; omega), flatK_list encT 4 encT_len (by omega)]
end Go.Proofs.Ytddajaikighjlaa
