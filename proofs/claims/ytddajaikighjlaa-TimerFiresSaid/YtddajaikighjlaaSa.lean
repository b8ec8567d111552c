/- TimerFires' slices of set: closures 47 49, IndexFunc 76, ContainsFunc 46. -/
import Derived.Test.YtddajaikighjlaaRk
namespace Go.Proofs.Ytddajaikighjlaa
open Go.RowKit Go.Sl Go.Mp Go.Wh

theorem cf47 (args : Array Value) (w : World) : (callFunc 47 args).run Try.prog w = .ok (.enter 47 args) w := by kernel_rfl
theorem cf49 (args : Array Value) (w : World) : (callFunc 49 args).run Try.prog w = .ok (.enter 49 args) w := by kernel_rfl
theorem f47_calls (a b q : Int) (p : Addr) (w : World) (hp : w.cell? p = some (.int .i64 q)) : Calls Try.prog 47 #[.agg #[.int .i64 a, .int .i64 b], .pointer (some p)] w fun e w' => e = .returned (.bool (a == q)) ∧ Below w.heap.size w w' := by
  have hb := Lib.hid ((Below.refl w.heap.size w).alloc (Nat.le_refl _) (.cells #[.int .i64 a, .int .i64 b] 122))
  have hp2 := hb.out.at_cell hp
  have hl := World.block_lt_of_cell? w _ hp
  have hne : ¬ p.block = w.heap.size := Nat.ne_of_lt hl
  go_enter Try.func47, Try.ntmps47
  go_wp2
  go_ret
  exact ⟨rfl, hb.out⟩
theorem f49_calls (a b q : Int) (p : Addr) (w : World) (hp : w.cell? p = some (.int .i64 q)) : Calls Try.prog 49 #[.agg #[.int .i64 a, .int .i64 b], .pointer (some p)] w fun e w' => e = .returned (.bool (a == q)) ∧ Below w.heap.size w w' := by
  have hb := Lib.hid ((Below.refl w.heap.size w).alloc (Nat.le_refl _) (.cells #[.int .i64 a, .int .i64 b] 122))
  have hp2 := hb.out.at_cell hp
  have hl := World.block_lt_of_cell? w _ hp
  have hne : ¬ p.block = w.heap.size := Nat.ne_of_lt hl
  go_enter Try.func49, Try.ntmps49
  go_wp2
  go_ret
  exact ⟨rfl, hb.out⟩

/-- What a function value answers of an element, in whatever later world. -/
def AnswersF (w0 : World) (f : FuncId) (caps : Array Value) (p : Int × Int → Bool) : Prop :=
  ∀ (a b : Int) (w : World), Below w0.heap.size w0 w → Calls Try.prog f (#[.agg #[.int .i64 a, .int .i64 b]] ++ caps) w fun e w' => e = .returned (.bool (p (a, b))) ∧ Below w.heap.size w w'

set_option maxRecDepth 100000 in
set_option maxHeartbeats 1000000 in
theorem index76_calls (v : Value) (L : List (Int × Int)) (f : FuncId) (caps : Array Value) (p : Int × Int → Bool) (w : World) (h : SlF w v L) (hb : L.length ≤ 1000000) (hp : AnswersF w f caps p) (hcf : ∀ (args : Array Value) (w : World), (callFunc f args).run Try.prog w = .ok (.enter f args) w) :
    Calls Try.prog 76 #[v, .func (.func f) #[] caps] w fun e w' => (∃ r : Int, e = .returned (.int .i64 r) ∧ ((r = -1 ∧ ∀ x ∈ L, p x = false) ∨ (∃ (k : Nat) (x : Int × Int), r = k ∧ L[k]? = some x ∧ p x = true ∧ ∀ y ∈ L.take k, p y = false))) ∧ Below w.heap.size w w' := by
  obtain ⟨a, c, rfl⟩ := SlV.form h
  obtain ⟨n, hn⟩ : ∃ n, L.length = n := ⟨_, rfl⟩
  rw [hn] at hb ⊢
  have HN := Lib.hid hn
  have H := Lib.hid h
  have HP := Lib.hid hp
  clear h hp hn
  go_enter Try.func76, Try.ntmps76
  go_wp2_with fail
  go_loopw [8] (fun i wr => ∃ k : Nat, k ≤ n ∧ i = .int .i64 k ∧ Below w.heap.size w wr ∧ ∀ y ∈ L.take k, p y = false) (fun i _ => n - (intOf i).toNat)
  case atStart => exact ⟨0, Nat.zero_le _, rfl, Below.refl _ _, fun y hy => by simp at hy⟩
  case round =>
    obtain ⟨k, hk, rfl, hbel, hno⟩ := hrel
    have A := Lib.hid hno
    have HB := Lib.hid hbel
    clear hno
    by_cases hlt : k < n
    · obtain ⟨⟨x, y⟩, e1⟩ : ∃ p, L[k]? = some p := ⟨_, List.getElem?_eq_getElem (by have := HN.out; omega)⟩
      obtain ⟨g, o, cap, hf, x1, y1⟩ := SlF.at H.out e1
      rw [HN.out] at hf
      simp only [Value.slice.injEq] at hf
      obtain ⟨rfl, -, rfl⟩ := hf
      replace x1 := hbel.at_cell x1
      replace y1 := hbel.at_cell y1
      have E1 := Lib.hid e1
      have hlt' : (k : Int) < (n : Int) := by omega
      clear e1 hbel
      cases hpk : p (x, y) with
      | true =>
        have PK := Lib.hid hpk
        clear hpk
        go_wp2_with fail
        refine (HP.out x y wr HB.out).mono ?_
        rintro e w1 ⟨rfl, hb1⟩
        rw [PK.out]
        have HB1 := Lib.hid (HB.out.then hb1)
        clear hb1 x1 y1
        go_wp2_with fail
        go_ret
        exact ⟨⟨(k : Int), rfl, Or.inr ⟨k, (x, y), rfl, E1.out, PK.out, A.out⟩⟩, HB1.out⟩
      | false =>
        have PK := Lib.hid hpk
        clear hpk
        go_wp2_with fail
        refine (HP.out x y wr HB.out).mono ?_
        rintro e w1 ⟨rfl, hb1⟩
        rw [PK.out]
        have HB1 := Lib.hid (HB.out.then hb1)
        clear hb1 x1 y1
        go_wp2_with fail
        go_roundw
        case rel =>
          refine ⟨k + 1, by omega, by go_num, HB1.out, fun z hz => ?_⟩
          rw [List.take_add_one, E1.out] at hz
          simp only [Option.toList_some, List.mem_append, List.mem_singleton] at hz
          rcases hz with hz | rfl
          · exact A.out z hz
          · exact PK.out
        case measure => simp [intOf]; omega
    · have hke : k = n := by omega
      subst hke
      have hlt' : ¬ (k : Int) < (k : Int) := by omega
      go_wp2_with fail
      go_ret
      refine ⟨⟨-1, rfl, Or.inl ⟨rfl, fun x y hx => A.out (x, y) ?_⟩⟩, HB.out⟩
      rw [List.take_of_length_le (by rw [HN.out]; exact Nat.le_refl _)]
      exact hx
set_option maxHeartbeats 400000 in
theorem contains46_calls (v : Value) (L : List (Int × Int)) (f : FuncId) (caps : Array Value) (p : Int × Int → Bool) (w : World) (h : SlF w v L) (hb : L.length ≤ 1000000) (hp : AnswersF w f caps p) (hcf : ∀ (args : Array Value) (w : World), (callFunc f args).run Try.prog w = .ok (.enter f args) w) :
    Calls Try.prog 46 #[v, .func (.func f) #[] caps] w fun e w' => e = .returned (.bool (L.any p)) ∧ Below w.heap.size w w' := by
  go_enter Try.func46, Try.ntmps46
  go_wp2_with fail
  refine (index76_calls v L f caps p w h hb hp hcf).mono ?_
  rintro e w1 ⟨⟨r, rfl, hr⟩, hb1⟩
  have hx : decide (0 ≤ r) = L.any p := by
    rcases hr with ⟨rfl, hr⟩ | ⟨k, x, rfl, hk, hp, _⟩
    · symm
      rw [show decide ((0 : Int) ≤ -1) = false by decide, List.any_eq_false]
      intro x hx
      simp [hr x hx]
    · rw [decide_eq_true (by omega)]
      symm
      rw [List.any_eq_true]
      exact ⟨x, List.mem_of_getElem? hk, hp⟩
  have X := Lib.hid hx
  clear hx hr h hp hcf
  go_wp2
  go_ret
  exact ⟨by rw [← X.out]; rfl, hb1⟩
end Go.Proofs.Ytddajaikighjlaa
