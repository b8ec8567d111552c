/- cmp.Or 86, earlier 75. -/
import Derived.Test.YtddajaikighjlaaSf
import Derived.Sort.Grow
namespace Go.Proofs.Ytddajaikighjlaa
open Go.RowKit Go.Mp Go.Wh

set_option maxHeartbeats 400000 in
theorem or_calls (b off : Nat) (x y : Int) (w : World) (h0 : w.cell? ⟨b, off, none⟩ = some (.int .i64 x)) (h1 : w.cell? ⟨b, off + 1, none⟩ = some (.int .i64 y)) :
    Calls Try.prog 86 #[.slice (some ⟨b, off, none⟩) 2 2] w fun e w' => e = .returned (.int .i64 (if x = 0 then y else x)) ∧ w' = w := by
  go_enter Try.func86, Try.ntmps86
  go_wp2
  go_loopw [8] (fun k wr => ∃ kk : Nat, k = .int .i64 (kk : Int) ∧ wr = w ∧ kk ≤ 2 ∧ (0 < kk → x = 0) ∧ (1 < kk → y = 0)) (fun k _ => 2 - (intOf k).toNat)
  case atStart => exact ⟨0, rfl, rfl, by omega, by omega, by omega⟩
  case round =>
    obtain ⟨kk, rfl, rfl, hk, e0, e1⟩ := hrel
    have : kk = 0 ∨ kk = 1 ∨ kk = 2 := by omega
    rcases this with rfl | rfl | rfl
    · clear e0 e1 hk
      by_cases hx : x = 0
      · subst hx
        go_wp2
        go_roundw
        case rel => exact ⟨1, by go_num, (by first | rfl | trivial), by omega, by simp, by omega⟩
        case measure => simp [intOf]
      · go_wp2
        go_ret
        exact ⟨by first | rfl | (simp [hx]; done), rfl⟩
    · have hx := e0 (by omega)
      subst hx
      clear e0 e1 hk
      by_cases hy : y = 0
      · subst hy
        go_wp2
        go_roundw
        case rel => exact ⟨2, by go_num, (by first | rfl | trivial), by omega, by simp, by simp⟩
        case measure => simp [intOf]
      · go_wp2
        go_ret
        exact ⟨by first | rfl | (simp [hy]; done), rfl⟩
    · have hx := e0 (by omega)
      have hy := e1 (by omega)
      subst hx hy
      clear e0 e1 hk
      go_wp2
      go_ret
      exact ⟨rfl, rfl⟩

def cf (a b : Tm) : Int := if cmpI a.when b.when = 0 then cmpI a.ord b.ord else cmpI a.when b.when
set_option maxHeartbeats 1000000 in
theorem earlier_calls (a b : Tm) (W : World) : Calls Try.prog 75 #[tmV a, tmV b] W fun e w' => e = .returned (.int .i64 (cf a b)) ∧ ∃ q os, w' = Sort.grow (W.drewN q) os := by
  unfold cf
  obtain ⟨ai, aw, av, ao⟩ := a
  obtain ⟨bi, bw, bv, bo⟩ := b
  simp only [show tmV ⟨ai, aw, av, ao⟩ = .agg #[.int .i64 ai, .int .i64 aw, .int .i64 av, .int .i64 ao] from rfl, show tmV ⟨bi, bw, bv, bo⟩ = .agg #[.int .i64 bi, .int .i64 bw, .int .i64 bv, .int .i64 bo] from rfl]
  have k1 := fun w => cmp_calls aw bw w
  have k2 := fun w => cmp2_calls ao bo w
  generalize cmpI aw bw = x at k1 ⊢
  generalize cmpI ao bo = y at k2 ⊢
  have k3 := fun b w h0 h1 => or_calls b 0 x y w h0 h1
  obtain ⟨r, hr⟩ : ∃ r, (if x = 0 then y else x) = r := ⟨_, rfl⟩
  rw [hr] at ⊢
  simp only [hr] at k3
  clear hr
  go_enter Try.func75, Try.ntmps75
  go_upto_region 1 with (fail)
  have ha : ∀ n, (((W.alloc (.cells #[.int .i64 ai, .int .i64 aw, .int .i64 av, .int .i64 ao] 129)).alloc (.cells #[.int .i64 bi, .int .i64 bw, .int .i64 bv, .int .i64 bo] 129)).drewN n).heap.size = W.heap.size + 2 := fun n => by show (((W.alloc _).alloc _)).heap.size = _; simp
  obtain ⟨W2, hW2⟩ : ∃ W2, (W.alloc (.cells #[.int .i64 ai, .int .i64 aw, .int .i64 av, .int .i64 ao] 129)).alloc (.cells #[.int .i64 bi, .int .i64 bw, .int .i64 bv, .int .i64 bo] 129) = W2 := ⟨_, rfl⟩
  have hA : W2.heap[W.heap.size]? = some (.cells #[.int .i64 ai, .int .i64 aw, .int .i64 av, .int .i64 ao] 129 (0, 0)) := by
    rw [← hW2]; exact (Below.heap_alloc _ _ _ (by simp)).trans (heap_alloc_new _ _)
  have hB : W2.heap[W.heap.size + 1]? = some (.cells #[.int .i64 bi, .int .i64 bw, .int .i64 bv, .int .i64 bo] 129 (0, 0)) := by
    have := heap_alloc_new (W.alloc (.cells #[.int .i64 ai, .int .i64 aw, .int .i64 av, .int .i64 ao] 129)) (.cells #[.int .i64 bi, .int .i64 bw, .int .i64 bv, .int .i64 bo] 129)
    rw [World.size_alloc] at this
    rw [← hW2]; exact this
  rw [hW2]
  have a1 : W2.cell? ⟨W.heap.size, 1, none⟩ = some (.int .i64 aw) := by unfold World.cell?; simp only [hA]; rfl
  have a3 : W2.cell? ⟨W.heap.size, 3, none⟩ = some (.int .i64 ao) := by unfold World.cell?; simp only [hA]; rfl
  have b1 : W2.cell? ⟨W.heap.size + 1, 1, none⟩ = some (.int .i64 bw) := by unfold World.cell?; simp only [hB]; rfl
  have b3 : W2.cell? ⟨W.heap.size + 1, 3, none⟩ = some (.int .i64 bo) := by unfold World.cell?; simp only [hB]; rfl
  have n1 := World.new_ne W2 ⟨W.heap.size, 1, none⟩ a1
  have n3 := World.new_ne W2 ⟨W.heap.size + 1, 1, none⟩ b1
  go_region_held3 (fun w' => w'.cell? ⟨W.heap.size, 1, none⟩ = some (.int .i64 aw) ∧ w'.cell? ⟨W.heap.size, 3, none⟩ = some (.int .i64 ao) ∧ w'.cell? ⟨W.heap.size + 1, 1, none⟩ = some (.int .i64 bw) ∧ w'.cell? ⟨W.heap.size + 1, 3, none⟩ = some (.int .i64 bo)) (go_keep) (first | (go_at_call 87; refine (k1 _).mono ?_; rintro e w' ⟨rfl, rfl⟩) | (go_at_call 88; refine (k2 _).mono ?_; rintro e w' ⟨rfl, rfl⟩) | (go_at_call 86; refine (k3 _ _ (by go_keep) (by go_keep)).mono ?_; rintro e w' ⟨rfl, rfl⟩))
  all_goals
    go_wp2
    go_ret
    exact ⟨rfl, 1, _, by rw [← hW2, Sort.alloc_eq_grow, Sort.alloc_eq_grow, Sort.alloc_eq_grow, Sort.grow_grow, Sort.grow_grow]; rfl⟩
end Go.Proofs.Ytddajaikighjlaa
