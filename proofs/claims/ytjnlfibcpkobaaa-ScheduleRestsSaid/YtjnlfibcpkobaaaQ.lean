/- put. -/
import Derived.Test.YtjnlfibcpkobaaaO
namespace Go.Proofs.Ytjnlfibcpkobaaa
open Go.RowKit Go.Sl Go.Sched

theorem contains_own (v : Value) (xs : List Int) (t : Int) (w : World) (h : SlI w v xs) (hb : xs.length ≤ 1000000) :
    Calls Try.prog 17 #[v, .int .i64 t] w fun e w' => e = .returned (.bool (decide (t ∈ xs))) ∧ Below w.heap.size w w' := by
  rcases h.cases with ⟨rfl, a, c, rfl⟩ | ⟨h0, b, o, c, rfl, hc⟩
  · refine (Try.slices_Contains_int_empty a c t w).mono ?_
    rintro e w' ⟨rfl, rfl⟩
    exact ⟨ret_bool (by simp), Below.refl _ _⟩
  · refine (Try.slices_Contains_int b o xs.length c xs t w (Nat.le_refl _) (by omega) hc).mono ?_
    rintro e w' ⟨rfl, rfl⟩
    exact ⟨ret_bool (by rw [List.take_length]; simp), Below.refl _ _⟩

def putE (s : St) (t : Int) : Int := if t ∈ tasks s then 6 else if 2000 ≤ (tasks s).length then 8 else 0

set_option maxRecDepth 100000 in
set_option maxHeartbeats 1000000 in
theorem put_calls (wsV injV : Value) (qs : List Value) (s : St) (w : World) (h : StV w wsV injV qs s) (hs : small s) (t : Int) :
    Calls Try.prog 35 #[.agg #[wsV, injV], .int .i64 t] w fun e w' => e = .returned (.int .i64 (putE s t)) ∧ Below w.heap.size w w' := by
  obtain ⟨hs1, hs2⟩ := hs
  have hb : Below w.heap.size w (w.alloc (.cells #[wsV, injV] 26)) := (Below.refl _ _).alloc (Nat.le_refl _) _
  have h1 := h.below hb
  generalize hE : putE s t = E
  unfold putE at hE
  have HE := Lib.hid hE
  clear hE h
  go_enter Try.func35, Try.ntmps35
  go_wp2_with fail
  refine (tasks_calls _ injV qs s _ h1.ws h1.inj h1.qu (by omega) (by omega)).mono ?_
  rintro e w2 ⟨vl, rfl, hown, hb2⟩
  replace hb := hb.then hb2
  have hsl := SlI.of_owns hown
  clear hown hb2 h1
  go_wp2_with fail
  refine (contains_own vl (tasks s) t w2 hsl (by omega)).mono ?_
  rintro e w3 ⟨rfl, hb3⟩
  replace hb := hb.then hb3
  obtain ⟨a, c, rfl⟩ := hsl.form
  clear hsl hb3
  by_cases hm : t ∈ tasks s
  · obtain rfl := HE.out.symm.trans (if_pos hm)
    simp only [hm, decide_true]
    clear hm
    go_wp2
    go_ret
    exact ⟨rfl, hb⟩
  · replace HE := Lib.hid (HE.out.symm.trans (if_neg hm))
    simp only [hm, decide_false]
    clear hm
    generalize (tasks s).length = n at *
    by_cases hl : 2000 ≤ n
    · obtain rfl := HE.out.trans (if_pos hl)
      have g : (2000 : Int) ≤ (n : Int) := by omega
      go_wp2
      go_ret
      exact ⟨rfl, hb⟩
    · obtain rfl := HE.out.trans (if_neg hl)
      have g : ¬ (2000 : Int) ≤ (n : Int) := by omega
      go_wp2
      go_ret
      exact ⟨rfl, hb⟩
end Go.Proofs.Ytjnlfibcpkobaaa
