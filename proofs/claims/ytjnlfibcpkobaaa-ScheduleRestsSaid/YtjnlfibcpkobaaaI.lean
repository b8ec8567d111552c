/- first, end, wake. -/
import Derived.Test.YtjnlfibcpkobaaaH
namespace Go.Proofs.Ytjnlfibcpkobaaa
open Go.RowKit Go.Sl Go.Sched

theorem TyI.make {A : Nat → Prop} {w : World} {b o n c : Nat} {xs : List Int} {cur : Array Value} (hA : A b) (hl : xs.length = n) (hnc : n ≤ c) (hcm : c ≤ maxLen) (hb : w.heap[b]? = some (.cells cur 3 (0, 0)))
    (hc : ∀ i, i < n → w.cell? ⟨b, o + i, none⟩ = some (.int .i64 (xs.getD i 0))) : TyI A w (.slice (some ⟨b, o, none⟩) n c) xs := by
  subst hl
  refine ⟨⟨by simp, ?_⟩, fun ad k c' he => by cases he; exact ⟨⟨hnc, hcm⟩, cur, hb⟩, fun ad k c' he => by cases he; exact hA⟩
  by_cases h0 : xs.length = 0
  · exact Or.inl ⟨h0, Or.inr ⟨_, _, by rw [h0]⟩⟩
  · refine Or.inr ⟨by omega, b, o, c, rfl, fun i u hu => ?_⟩
    have hi : i < xs.length := by simpa using (List.getElem?_eq_some_iff.1 hu).1
    rw [hc i hi]
    simp [hi] at hu
    rw [← hu]
    simp [List.getD, hi]

set_option maxRecDepth 100000 in
set_option maxHeartbeats 1000000 in
theorem first_calls {A : Nat → Prop} (b o : Nat) (v : Value) (x : Int) (r : List Int) (w : World) (hc : w.cell? ⟨b, o, none⟩ = some v) (hf : w.frozen? ⟨b, o, none⟩ = false) (h : TyI A w v (x :: r)) :
    Calls Try.prog 81 #[.pointer (some ⟨b, o, none⟩)] w fun e w' => e = .returned (.int .i64 x) ∧ ∃ v', w' = w.setCell ⟨b, o, none⟩ v' ∧ TyI A w v' r := by
  rcases h.1.cases with ⟨hnil, _⟩ | ⟨h0, b2, o2, cap, rfl, hcell⟩
  · cases hnil
  · obtain ⟨⟨hnc, hcm⟩, cur, hcur⟩ := h.2 _ _ _ rfl
    have HA := Lib.hid (h.3 _ _ _ rfl)
    have hx := hcell 0 h0
    simp only [Nat.add_zero, List.getD_cons_zero] at hx
    have hlen : (x :: r).length = r.length + 1 := rfl
    rw [hlen] at hc hnc h0 hcell
    have HC := Lib.hid hcell
    have HCU := Lib.hid hcur
    clear hcell hcur h
    generalize hn : r.length = n at hc hnc h0
    have NN := Lib.hid hn
    clear hn
    unfold maxLen at hcm
    go_enter Try.func81, Try.ntmps81
    go_wp2
    all_goals
      go_ret
      refine ⟨rfl, _, rfl, ?_⟩
      refine TyI.make HA.out NN.out (by omega) (by unfold maxLen; omega) HCU.out (fun i hi => ?_)
    · omega
    · have := HC.out (i + 1) (by rw [NN.out]; omega)
      rw [show o2 + 1 + i = o2 + (i + 1) by omega, this]
      simp
end Go.Proofs.Ytjnlfibcpkobaaa
