/- SortStableFunc 50 of up to 20 pairs. -/
import Derived.Test.YtddajaikighjlaaSg
namespace Go.Proofs.Ytddajaikighjlaa
open Go.RowKit Go.Sl Go.Mp Go.Wh

theorem ins_none (a : Option Addr) (n c : Nat) (x : Int) (hx : 0 ≤ x ∧ x ≤ 1000) (f : Value) (w : World) : Calls Try.prog 89 #[.slice a n c, .int .i64 x, .int .i64 x, f] w fun e w' => e = .returned (.tuple #[]) ∧ w' = w := by
  have g1 : IntKind.i64.wrap (x + 1) = x + 1 := IntWalk.i64_in _ (by omega)
  have g2 : ¬ x + 1 < x := by omega
  go_enter Try.func89, Try.ntmps89
  go_wp2_with fail
  go_loopw [8] (fun i wr => i = .int .i64 (x + 1) ∧ wr = w) (fun _ _ => 0)
  case atStart => exact ⟨rfl, rfl⟩
  case round =>
    obtain ⟨rfl, rfl⟩ := hrel
    go_wp2_with fail
    refine bodyPost_end (results_none rfl _ _ _) rfl ?_
    exact ⟨rfl, rfl⟩

set_option maxRecDepth 100000 in
set_option maxHeartbeats 2000000 in
theorem stable77_calls (v : Value) (l : List (Int × Int)) (base : Nat) (w : World) (h : w.ownsRow base 122 2 v l.length (l.flatMap encF)) (hn : l.length ≤ 20) :
    Calls Try.prog 77 #[v, .int .i64 (l.length : Int), .func (.func 51) #[] #[]] w fun e w' => e = .returned (.tuple #[]) ∧ w'.ownsRow base 122 2 v l.length ((stS l).flatMap encF) ∧ w.grownBy w' v.ownBlock := by
  obtain ⟨va, vc, rfl⟩ := own_form h
  have hnone := fun x hx w => ins_none va l.length vc x hx (.func (.func 51) #[] #[]) w
  have H := Lib.hid h
  have hins := fun h0 => ins89_calls _ l base 0 l.length w h h0 (by omega) (Nat.zero_le _) (Nat.le_refl _) (by rw [ins_size]; simp)
  obtain ⟨n, hn2⟩ : ∃ n, l.length = n := ⟨_, rfl⟩
  have hst : stS l = (Sort.insertionSort (Go.Proofs.ltOf cfA) l.toArray 0 n).toList := by rw [← hn2]; rfl
  rw [hn2] at hn hnone hins h ⊢
  rw [← hst] at hins
  have HN := Lib.hid hn2
  have HINS := Lib.hid hins
  have HNONE := Lib.hid hnone
  have HO := Lib.hid h
  clear hins hnone hn2 hst h
  by_cases h0 : n = 0
  · subst h0
    have hl : l = [] := List.eq_nil_of_length_eq_zero HN.out
    subst hl
    go_enter Try.func77, Try.ntmps77
    go_wp2_with fail
    go_loopw [7, 8] (fun x y wr => x = .int .i64 0 ∧ y = .int .i64 20 ∧ wr = w) (fun _ _ _ => 0)
    case atStart => exact ⟨rfl, rfl, rfl⟩
    case round =>
      obtain ⟨rfl, rfl, rfl⟩ := hrel
      go_wp2_with fail
      refine (HNONE.out 0 (by omega) wr).mono ?_
      rintro e w2 ⟨rfl, rfl⟩
      go_wp2_with fail
      go_loopw [6] (fun x wq => x = .int .i64 20 ∧ wq = w2) (fun _ _ => 0)
      case atStart => exact ⟨rfl, rfl⟩
      case round =>
        obtain ⟨rfl, rfl⟩ := hrel
        go_wp2_with fail
        refine bodyPost_end (results_none rfl _ _ _) rfl ?_
        exact ⟨rfl, by rw [show stS [] = [] from List.eq_nil_of_length_eq_zero (stS_len [])]; exact HO.out, ⟨rfl, rfl, rfl, Nat.le_refl _, fun _ _ _ => rfl⟩⟩
  · by_cases h20 : n = 20
    · subst h20
      go_enter Try.func77, Try.ntmps77
      go_wp2_with fail
      go_loopw [7, 8] (fun x y wr => (x = .int .i64 0 ∧ y = .int .i64 20 ∧ wr = w) ∨ (x = .int .i64 20 ∧ y = .int .i64 40 ∧ wr.ownsRow base 122 2 (.slice va 20 vc) 20 ((stS l).flatMap encF) ∧ w.grownBy wr (Value.slice va 20 vc).ownBlock)) (fun _ y _ => 40 - (intOf y).toNat)
      case atStart =>
        left
        exact ⟨rfl, rfl, rfl⟩
      case round =>
        rcases hrel with ⟨rfl, rfl, rfl⟩ | ⟨rfl, rfl, hown, hbel⟩
        · go_wp2_with fail
          refine (HINS.out (by omega)).mono ?_
          rintro e w2 ⟨rfl, ho2, hb2⟩
          have O2 := Lib.hid ho2
          have B2 := Lib.hid hb2
          clear ho2 hb2
          go_wp2_with fail
          go_roundw
          case rel => exact ⟨_, _, _, _, _, _, _, _, _, _, _, _, _, _, Or.inr ⟨rfl, rfl, O2.out, B2.out⟩, rfl⟩
          case measure => simp [intOf]
        · have O2 := Lib.hid hown
          have B2 := Lib.hid hbel
          clear hown hbel
          go_wp2_with fail
          refine (HNONE.out 20 (by omega) wr).mono ?_
          rintro e w2 ⟨rfl, rfl⟩
          go_wp2_with fail
          go_loopw [6] (fun x wq => x = .int .i64 20 ∧ wq = w2) (fun _ _ => 0)
          case atStart => exact ⟨rfl, rfl⟩
          case round =>
            obtain ⟨rfl, rfl⟩ := hrel
            go_wp2_with fail
            refine bodyPost_end (results_none rfl _ _ _) rfl ?_
            exact ⟨rfl, O2.out, B2.out⟩
    · have g1 : ¬ (20 : Int) ≤ (n : Int) := by omega
      have g2 : ¬ (20 : Int) < (n : Int) := by omega
      go_enter Try.func77, Try.ntmps77
      go_wp2_with fail
      go_loopw [7, 8] (fun x y wr => x = .int .i64 0 ∧ y = .int .i64 20 ∧ wr = w) (fun _ _ _ => 0)
      case atStart => exact ⟨rfl, rfl, rfl⟩
      case round =>
        obtain ⟨rfl, rfl, rfl⟩ := hrel
        go_wp2_with fail
        refine (HINS.out (by omega)).mono ?_
        rintro e w2 ⟨rfl, ho2, hb2⟩
        have O2 := Lib.hid ho2
        have B2 := Lib.hid hb2
        clear ho2 hb2
        go_wp2_with fail
        go_loopw [6] (fun x wq => x = .int .i64 20 ∧ wq = w2) (fun _ _ => 0)
        case atStart => exact ⟨rfl, rfl⟩
        case round =>
          obtain ⟨rfl, rfl⟩ := hrel
          go_wp2_with fail
          refine bodyPost_end (results_none rfl _ _ _) rfl ?_
          exact ⟨rfl, O2.out, B2.out⟩
theorem sort50_calls (v : Value) (l : List (Int × Int)) (base : Nat) (w : World) (h : w.ownsRow base 122 2 v l.length (l.flatMap encF)) (hn : l.length ≤ 20) :
    Calls Try.prog 50 #[v, .func (.func 51) #[] #[]] w fun e w' => e = .returned (.tuple #[]) ∧ w'.ownsRow base 122 2 v l.length ((stS l).flatMap encF) ∧ w.grownBy w' v.ownBlock := by
  have hc := stable77_calls v l base w h hn
  obtain ⟨va, vc, rfl⟩ := own_form h
  clear h
  go_enter Try.func50, Try.ntmps50
  go_wp2_with fail
  refine hc.mono ?_
  rintro e w2 ⟨rfl, ho2, hb2⟩
  have O2 := Lib.hid ho2
  have B2 := Lib.hid hb2
  clear ho2 hb2 hc
  go_wp2_with fail
  refine bodyPost_end (results_none rfl _ _ _) rfl ?_
  exact ⟨rfl, O2.out, B2.out⟩
end Go.Proofs.Ytddajaikighjlaa
