/- rests, Resting. -/
import Derived.Test.YtjnlfibcpkobaaaZ
namespace Go.Proofs.Ytjnlfibcpkobaaa
open Go.RowKit Go.Sl Go.Sched

/-- All workers sleep and no task is left. -/
def restS (s : St) : Bool := decide ((tasks s).length = 0) && !(s.ws.any fun k => k.ph != 2)

set_option maxRecDepth 100000 in
set_option maxHeartbeats 4000000 in
theorem rests_calls (wsV injV : Value) (qs : List Value) (s : St) (w : World) (h : StV w wsV injV qs s) (hs : small s) :
    Calls Try.prog 46 #[.agg #[wsV, injV]] w fun e w' => e = .returned (.bool (restS s)) ∧ Below w.heap.size w w' := by
  obtain ⟨hs1, hs2⟩ := hs
  have hb : Below w.heap.size w (w.alloc (.cells #[wsV, injV] 26)) := (Below.refl _ _).alloc (Nat.le_refl _) _
  have c0 : (w.alloc (.cells #[wsV, injV] 26)).cell? ⟨w.heap.size, 0, none⟩ = some wsV := by rw [World.cell?_alloc_at _ _ _ _ (by simp)]; rfl
  have c1 : (w.alloc (.cells #[wsV, injV] 26)).cell? ⟨w.heap.size, 1, none⟩ = some injV := by rw [World.cell?_alloc_at _ _ _ _ (by simp)]; rfl
  have hst := h.below hb
  have ht := tasks_calls wsV injV qs s _ hst.ws hst.inj hst.qu hs1 hs2
  unfold restS
  generalize hr : (!(s.ws.any fun k => k.ph != 2)) = r
  have HR := Lib.hid hr
  have ST := Lib.hid hst
  clear hr hst h
  go_enter Try.func46, Try.ntmps46
  go_wp2_with fail
  refine ht.mono ?_
  rintro e w1 ⟨v, rfl, hown, hb1⟩
  obtain ⟨va, vc, rfl⟩ := (SlI.of_owns hown).form
  replace c0 := hb1.at_cell c0
  replace c1 := hb1.at_cell c1
  generalize hmm : (tasks s).length = m at *
  have MM := Lib.hid hmm
  clear hown ht hmm
  by_cases hm : m = 0
  · subst hm
    go_wp2_with fail
    refine (containsFunc_calls _ qs s.ws 78 _ _ w1 (ST.out.ws.below hb1) (by omega) (answers78 w1) cf78).mono ?_
    rintro e w2 ⟨rfl, hb2⟩
    have HB := Lib.hid (hb.then (hb1.then hb2))
    clear hb hb1 hb2
    rw [show (s.ws.any fun k => k.ph != 2) = !r by rw [← HR.out]; simp]
    go_wp2_with fail
    go_ret
    exact ⟨by rw [decide_eq_true MM.out]; simp, HB.out⟩
  · have g1 : ¬ (m : Int) = 0 := by omega
    have HB := Lib.hid (hb.then hb1)
    clear hb hb1
    go_wp2_with fail
    go_ret
    exact ⟨by rw [decide_eq_false (by rw [MM.out]; exact hm)]; simp, HB.out⟩

set_option maxRecDepth 100000 in
set_option maxHeartbeats 4000000 in
theorem resting_calls (wsV injV : Value) (qs : List Value) (s : St) (w : World) (h : StV w wsV injV qs s) (hs : small s) :
    Calls Try.prog 21 #[.agg #[wsV, injV]] w fun e w' => e = .returned (.tuple #[.bool (valid s && restS s), .int .i64 (if valid s then 0 else 14)]) ∧ Below w.heap.size w w' := by
  have hb : Below w.heap.size w (w.alloc (.cells #[wsV, injV] 26)) := (Below.refl _ _).alloc (Nat.le_refl _) _
  have c0 : (w.alloc (.cells #[wsV, injV] 26)).cell? ⟨w.heap.size, 0, none⟩ = some wsV := by rw [World.cell?_alloc_at _ _ _ _ (by simp)]; rfl
  have c1 : (w.alloc (.cells #[wsV, injV] 26)).cell? ⟨w.heap.size, 1, none⟩ = some injV := by rw [World.cell?_alloc_at _ _ _ _ (by simp)]; rfl
  have hst := h.below hb
  have hval := valid_calls wsV injV qs s _ hst hs
  have ST := Lib.hid hst
  clear hst h
  cases hv : valid s with
  | false =>
    rw [hv] at hval
    simp only [Bool.false_eq_true, if_false, Bool.false_and] at hval ⊢
    clear hv
    go_enter Try.func21, Try.ntmps21
    go_wp2_with fail
    refine hval.mono ?_
    rintro e w1 ⟨rfl, hb1⟩
    have HB := Lib.hid (hb.then hb1)
    clear hb hb1 hval c0 c1
    go_wp2_with fail
    go_ret2
    exact ⟨rfl, HB.out⟩
  | true =>
    rw [hv] at hval
    simp only [if_true, Bool.true_and] at hval ⊢
    clear hv
    go_enter Try.func21, Try.ntmps21
    go_wp2_with fail
    refine hval.mono ?_
    rintro e w1 ⟨rfl, hb1⟩
    replace c0 := hb1.at_cell c0
    replace c1 := hb1.at_cell c1
    replace ST := Lib.hid (ST.out.below hb1)
    have HB := Lib.hid (hb.then hb1)
    clear hb hb1 hval
    go_wp2_with fail
    refine (rests_calls wsV injV qs s _ ST.out hs).mono ?_
    rintro e w2 ⟨rfl, hb2⟩
    replace HB := Lib.hid (HB.out.then hb2)
    clear hb2 c0 c1
    go_wp2_with fail
    go_ret2
    exact ⟨rfl, HB.out⟩
end Go.Proofs.Ytjnlfibcpkobaaa
