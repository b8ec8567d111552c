/- Custodians: IndexFunc 84 and ContainsFunc 72 over what was given, with a function that may write. -/
import Derived.Test.YtddajaikighjlaaCb
namespace Go.Proofs.Ytddajaikighjlaa
open Go.RowKit Go.Sl Go.Mp Go.Wh

def ptrV (x : Part) : Value := .pointer (x.2.map fun q => ⟨q.2, 0, none⟩)
/-- What is asked of a function value: from I at one element to I at the next, or to T. -/
def Walks (base : Nat) (v : Value) (l : List Part) (f : FuncId) (caps : Array Value) (I T : Nat → World → Prop) : Prop :=
  (∀ j w, I j w → w.ownsRow base 168 2 v l.length (l.flatMap encP2)) ∧
  ∀ (j : Nat) (x : Part) (w : World), l[j]? = some x → I j w → Calls Try.prog f (#[.agg #[.int .i64 x.1, ptrV x]] ++ caps) w fun e w' => ∃ b, e = .returned (.bool b) ∧ ((b = true ∧ T j w') ∨ (b = false ∧ I (j + 1) w'))
set_option maxRecDepth 100000 in
set_option maxHeartbeats 1000000 in
theorem index84_calls (base : Nat) (v : Value) (l : List Part) (f : FuncId) (caps : Array Value) (I T : Nat → World → Prop) (w : World) (h0 : I 0 w) (hb : l.length ≤ 1000000) (hw : Walks base v l f caps I T) (hcf : ∀ (args : Array Value) (w : World), (callFunc f args).run Try.prog w = .ok (.enter f args) w) :
    Calls Try.prog 84 #[v, .func (.func f) #[] caps] w fun e w' => ∃ r : Int, e = .returned (.int .i64 r) ∧ ((r = -1 ∧ I l.length w') ∨ (∃ j : Nat, r = j ∧ j < l.length ∧ T j w')) := by
  obtain ⟨a, c, rfl⟩ := own_form (hw.1 0 w h0)
  obtain ⟨n, hn⟩ : ∃ n, l.length = n := ⟨_, rfl⟩
  rw [hn] at hb ⊢
  have HN := Lib.hid hn
  have H0 := Lib.hid h0
  have HW := Lib.hid hw
  clear h0 hw hn
  go_enter Try.func84, Try.ntmps84
  go_wp2_with fail
  go_loopw [8] (fun i wr => ∃ k : Nat, k ≤ n ∧ i = .int .i64 k ∧ Hid (I k wr)) (fun i _ => n - (intOf i).toNat)
  case atStart => exact ⟨0, Nat.zero_le _, rfl, H0⟩
  case round =>
    obtain ⟨k, hk, rfl, hI⟩ := hrel
    by_cases hlt : k < n
    · obtain ⟨x, e1⟩ : ∃ p, l[k]? = some p := ⟨_, List.getElem?_eq_getElem (by have := HN.out; omega)⟩
      obtain ⟨g, cap, hf, x1, y1⟩ := part_at (HW.out.1 k wr hI.out) e1
      rw [HN.out] at hf
      simp only [Value.slice.injEq] at hf
      obtain ⟨rfl, -, rfl⟩ := hf
      have hc := HW.out.2 k x wr e1 hI.out
      unfold ptrV at hc
      obtain ⟨x, pv⟩ := x
      obtain ⟨p, hp⟩ : ∃ p : Option Addr, (pv.map fun q : Nat × Nat => (⟨q.2, 0, none⟩ : Addr)) = p := ⟨_, rfl⟩
      simp only [hp] at y1 hc x1
      have hlt' : (k : Int) < (n : Int) := by omega
      clear e1 hp
      go_wp2_with fail
      refine hc.mono ?_
      rintro e w1 ⟨b, rfl, ⟨rfl, hT⟩ | ⟨rfl, hI2⟩⟩
      · have HT := Lib.hid hT
        clear hT x1 y1 hc
        go_wp2_with fail
        go_ret
        exact ⟨(k : Int), rfl, Or.inr ⟨k, rfl, hlt, HT.out⟩⟩
      · have HI2 := Lib.hid hI2
        clear hI2 x1 y1 hc
        go_wp2_with fail
        go_roundw
        case rel => exact ⟨k + 1, by omega, by go_num, HI2⟩
        case measure => simp [intOf]; omega
    · have hke : k = n := by omega
      subst hke
      have hlt' : ¬ (k : Int) < (k : Int) := by omega
      go_wp2_with fail
      go_ret
      exact ⟨-1, rfl, Or.inl ⟨rfl, hI.out⟩⟩
set_option maxRecDepth 100000 in
theorem contains72_calls (base : Nat) (v : Value) (l : List Part) (f : FuncId) (caps : Array Value) (I T : Nat → World → Prop) (w : World) (h0 : I 0 w) (hb : l.length ≤ 1000000) (hw : Walks base v l f caps I T) (hcf : ∀ (args : Array Value) (w : World), (callFunc f args).run Try.prog w = .ok (.enter f args) w) :
    Calls Try.prog 72 #[v, .func (.func f) #[] caps] w fun e w' => ∃ b : Bool, e = .returned (.bool b) ∧ ((b = false ∧ I l.length w') ∨ (b = true ∧ ∃ j : Nat, j < l.length ∧ T j w')) := by
  have hc := index84_calls base v l f caps I T w h0 hb hw hcf
  go_enter Try.func72, Try.ntmps72
  go_wp2_with fail
  refine hc.mono ?_
  rintro e w1 ⟨r, rfl, ⟨rfl, hI⟩ | ⟨j, rfl, hj, hT⟩⟩
  · have HI := Lib.hid hI
    clear hI hc
    go_wp2_with fail
    go_ret
    exact ⟨false, rfl, Or.inl ⟨rfl, HI.out⟩⟩
  · have HT := Lib.hid hT
    have hj0 : (0 : Int) ≤ (j : Int) := by omega
    clear hT hc
    go_wp2_with fail
    go_ret
    exact ⟨true, rfl, Or.inr ⟨rfl, j, hj, HT.out⟩⟩
end Go.Proofs.Ytddajaikighjlaa
