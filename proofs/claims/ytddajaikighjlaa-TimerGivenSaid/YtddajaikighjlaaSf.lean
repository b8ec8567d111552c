/- Slot 22, Cancel 18, Now 44. -/
import Derived.Test.YtddajaikighjlaaSe
namespace Go.Proofs.Ytddajaikighjlaa
open Go.RowKit Go.Mp Go.Wh

set_option maxRecDepth 100000 in
set_option maxHeartbeats 1000000 in
theorem slot_calls (R : Refs) (X : Nat) (W : Wh) (id : Int) (w : World) (h : WhAt R w X W) :
    Calls Try.prog 22 #[.pointer (some ⟨X, 0, none⟩), .int .i64 id] w fun e w' => e = .returned (.tuple #[.int .i64 (slotS W id).1, .int .i64 (slotS W id).2.1, .int .i64 (slotS W id).2.2]) ∧ Below w.heap.size w w' := by
  have cp := h.cp
  have hX : X < w.heap.size := h.foot_lt (Or.inl rfl)
  have hl := look_pl h id
  have eS : slotS W id = if (getA W.pl id (0, 0)).2 then ((getA W.pl id (0, 0)).1.1, (getA W.pl id (0, 0)).1.2, 0) else (0, 0, 5) := rfl
  rw [eS]
  clear eS
  generalize getA W.pl id (0, 0) = g at hl ⊢
  obtain ⟨⟨k, s⟩, b⟩ := g
  simp only [show plV (k, s) = .agg #[.int .i64 k, .int .i64 s] from rfl] at hl
  simp only
  have hba : Below w.heap.size w (w.alloc (.cells #[.int .i64 k, .int .i64 s] 159)) := (Below.refl _ _).alloc (Nat.le_refl _) _
  have hP := heap_alloc_new w (.cells #[.int .i64 k, .int .i64 s] 159)
  have p0 : (w.alloc (.cells #[.int .i64 k, .int .i64 s] 159)).cell? ⟨w.heap.size, 0, none⟩ = some (.int .i64 k) := by unfold World.cell?; simp only [hP]; rfl
  have p1 : (w.alloc (.cells #[.int .i64 k, .int .i64 s] 159)).cell? ⟨w.heap.size, 1, none⟩ = some (.int .i64 s) := by unfold World.cell?; simp only [hP]; rfl
  have HB := Lib.hid hba
  clear h hba hP
  cases b
  · go_enter Try.func22, Try.ntmps22
    go_wp2_with (fail)
    go_ret3
    exact ⟨rfl, HB.out⟩
  · go_enter Try.func22, Try.ntmps22
    go_upto_region 6 with (fail)
    go_quiet (fail)
    go_wp2_with (fail)
    go_ret3
    exact ⟨rfl, HB.out.trans ((below_drewN _ _ _).mono HB.out.size)⟩

set_option maxRecDepth 100000 in
set_option maxHeartbeats 1000000 in
theorem cancel_calls (R : Refs) (X : Nat) (W : Wh) (id : Int) (w : World) (h : WhAt R w X W) (k s : Nat) (hk : k < 7) (hs : s < 64) (hp : (getA W.pl id (0, 0)).1 = ((k : Int), (s : Int))) :
    Calls Try.prog 18 #[.pointer (some ⟨X, 0, none⟩), .int .i64 id] w fun e w' => e = .returned (.bool (cancelS W id).2) ∧ WhAt R w' X (cancelS W id).1 ∧ Step R R X w w' := by
  have H := Lib.hid h
  have ct := h.ct
  have hX : X < w.heap.size := h.foot_lt (Or.inl rfl)
  have hl := look_tm h id
  have eS : cancelS W id = if (getA W.tm id tm0).2 then ((takeS W id).1, true) else (W, false) := rfl
  rw [eS]
  clear eS
  generalize getA W.tm id tm0 = g at hl ⊢
  obtain ⟨⟨ui, uw, uv, uo⟩, b⟩ := g
  simp only [show tmV ⟨ui, uw, uv, uo⟩ = .agg #[.int .i64 ui, .int .i64 uw, .int .i64 uv, .int .i64 uo] from rfl] at hl
  have hba : Below w.heap.size w (w.alloc (.cells #[.int .i64 ui, .int .i64 uw, .int .i64 uv, .int .i64 uo] 129)) := (Below.refl _ _).alloc (Nat.le_refl _) _
  have H1 := h.below hba
  have HB := Lib.hid hba
  have HT := take_calls R X W id _ H1 k s hk hs hp
  have HH1 := Lib.hid H1
  clear h hba hp H1
  generalize takeS W id = tk at HT ⊢
  obtain ⟨W', ⟨ti, tw, tv, to_⟩⟩ := tk
  cases b
  · go_enter Try.func18, Try.ntmps18
    go_wp2_with (fail)
    go_ret
    exact ⟨rfl, HH1.out, Step.of_below HB.out⟩
  · go_enter Try.func18, Try.ntmps18
    go_wp2_with (go_at_call 59; refine HT.mono ?_; rintro e w' ⟨rfl, H', st'⟩; replace H' := Lib.hid H'; replace st' := Lib.hid st')
    go_ret
    exact ⟨rfl, H'.out, (Step.of_below HB.out).trans st'.out⟩

set_option maxHeartbeats 1000000 in
theorem now_calls (R : Refs) (X : Nat) (W : Wh) (w : World) (h : WhAt R w X W) :
    Calls Try.prog 44 #[.pointer (some ⟨X, 0, none⟩)] w fun e w' => e = .returned (.int .i64 W.now) ∧ w = w' := by
  have c0 := h.c0
  go_enter Try.func44, Try.ntmps44
  go_wp2_with (fail)
  go_ret
  exact ⟨rfl, rfl⟩
end Go.Proofs.Ytddajaikighjlaa
