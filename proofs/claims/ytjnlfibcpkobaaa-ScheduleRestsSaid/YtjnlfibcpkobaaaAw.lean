/- awake: the chapter's example. -/
import Derived.Test.YtjnlfibcpkobaaaY
import Derived.Test.YtjnlfibcpkobaaaRa
namespace Go.Proofs.Ytjnlfibcpkobaaa
open Go.RowKit Go.Sl Go.Sched

def aw0 : St := ⟨[wkN, wkN], []⟩
def aw1 : St := ⟨[wkN, wkN], [7]⟩
def aw2 : St := ⟨[⟨[], 3, 7, 0⟩, wkN], []⟩
def aw3 : St := ⟨[⟨[], 3, 7, 0⟩, ⟨[], 1, -1, 0⟩], []⟩
def aw4 : St := ⟨[⟨[8], 3, 7, 0⟩, ⟨[], 0, -1, 0⟩], []⟩
def aw5 : St := ⟨[⟨[], 3, 7, 0⟩, ⟨[], 3, 8, 0⟩], []⟩
theorem aw0_is : newS 2 = (aw0, 0) := by decide +kernel
theorem aw1_is : submitS aw0 7 = (aw1, -1, 0) := by decide +kernel
theorem aw2_is : stepR aw1 0 0 = (aw2, ⟨1, 0, 7, -1⟩, 0) := by decide +kernel
theorem aw3_is : stepR aw2 1 0 = (aw3, ⟨4, 1, -1, -1⟩, 0) := by decide +kernel
theorem aw4_is : pushS aw3 0 8 = (aw4, 1, 0) := by decide +kernel
theorem aw5_is : stepR aw4 1 5 = (aw5, ⟨2, 1, 8, 0⟩, 0) := by decide +kernel
theorem aw_small : small aw0 ∧ small aw1 ∧ small aw2 ∧ small aw3 ∧ small aw4 := by
  unfold small
  decide +kernel
theorem facts26 {W : World} {X : Nat} {x y : Value} (h : W.heap[X]? = some (.cells #[x, y] 26 (0, 0))) : W.cell? ⟨X, 0, none⟩ = some x ∧ W.cell? ⟨X, 1, none⟩ = some y ∧ ∀ j, W.frozen? ⟨X, j, none⟩ = false := by
  refine ⟨?_, ?_, fun j => ?_⟩
  · simp [World.cell?, h]
  · simp [World.cell?, h]
  · simp [World.frozen?, h]

/-- A state is put into a variable. -/
theorem stT_put {A : Nat → Prop} {w : World} {a b x y : Value} {q : List Value} {s : St} {X : Nat} (h : StT A w a b q s) (hX : w.heap[X]? = some (.cells #[x, y] 26 (0, 0))) :
    StT A ((w.setCell ⟨X, 0, none⟩ a).setCell ⟨X, 1, none⟩ b) a b q s ∧ ((w.setCell ⟨X, 0, none⟩ a).setCell ⟨X, 1, none⟩ b).heap[X]? = some (.cells #[a, b] 26 (0, 0)) := by
  have z1 := heap_setCell_same w X 0 _ 26 a hX
  have z2 := heap_setCell_same _ X 1 _ 26 b z1
  exact ⟨(h.setCell (a := ⟨X, 0, none⟩) a hX (by decide) (by decide)).setCell (a := ⟨X, 1, none⟩) b z1 (by decide) (by decide), z2⟩

theorem stT_put_alloc {A : Nat → Prop} {w : World} {a b x y : Value} {q : List Value} {s : St} {X : Nat} (h : StT A w a b q s) (hX : w.heap[X]? = some (.cells #[x, y] 26 (0, 0))) (o : Obj) {B : Nat} {v : World} (hb : Below B v w) (hBX : B ≤ X) :
    StT A (((w.setCell ⟨X, 0, none⟩ a).setCell ⟨X, 1, none⟩ b).alloc o) a b q s ∧ (((w.setCell ⟨X, 0, none⟩ a).setCell ⟨X, 1, none⟩ b).alloc o).heap[X]? = some (.cells #[a, b] 26 (0, 0)) ∧
      (((w.setCell ⟨X, 0, none⟩ a).setCell ⟨X, 1, none⟩ b).alloc o).heap[w.heap.size]? = some o ∧ Below B v (((w.setCell ⟨X, 0, none⟩ a).setCell ⟨X, 1, none⟩ b).alloc o) := by
  obtain ⟨h1, h2⟩ := stT_put h hX
  have hL := (Array.getElem?_eq_some_iff.1 h2).1
  have hb2 := (hb.setCell (p := ⟨X, 0, none⟩) hBX a).setCell (p := ⟨X, 1, none⟩) hBX b
  refine ⟨h1.below ((Below.refl _ _).alloc (Nat.le_refl _) _), (heap_alloc_old _ _ hL).trans h2, ?_, hb2.alloc (by have := (Array.getElem?_eq_some_iff.1 hX).1; simp; omega) _⟩
  have := heap_alloc_new ((w.setCell ⟨X, 0, none⟩ a).setCell ⟨X, 1, none⟩ b) o
  simpa using this

theorem max6 (w : World) : (Builtin.max_ #[27, 27, 27, 27, 27, 27] 27 #[.int .i64 0, .int .i64 0, .int .i64 0, .int .i64 0, .int .i64 0, .int .i64 0]).run Try.prog w = .ok (.int .i64 0) w := by kernel_rfl
theorem put_keep (w : World) (a b : Value) {X k : Nat} (h : k ≠ X) : ((w.setCell ⟨X, 0, none⟩ a).setCell ⟨X, 1, none⟩ b).heap[k]? = w.heap[k]? := by
  rw [Below.heap_setCell _ ⟨X, 1, none⟩ _ k h, Below.heap_setCell _ ⟨X, 0, none⟩ _ k h]
theorem put_alloc_keep (w : World) (a b : Value) (o : Obj) {X k : Nat} (h : k ≠ X) (hk : k < w.heap.size) : (((w.setCell ⟨X, 0, none⟩ a).setCell ⟨X, 1, none⟩ b).alloc o).heap[k]? = w.heap[k]? := by
  rw [heap_alloc_old _ _ (by simpa using hk), put_keep w a b h]

set_option maxRecDepth 100000 in
set_option maxHeartbeats 4000000 in
theorem awake_calls (w : World) : Calls Try.prog 10 #[] w fun e w' => e = .returned (.bool true) ∧ Below w.heap.size w w' := by
  have h0 := new_calls 2 w
  rw [aw0_is] at h0
  obtain ⟨m0, m1, m2, m3, m4⟩ := aw_small
  generalize hl0 : aw0 = A0 at *
  go_enter Try.func10, Try.ntmps10
  go_wp2_with fail
  refine h0.mono ?_
  rintro e w1 ⟨va, vb, q0, rfl, hs0, hb1⟩
  obtain ⟨a0, c0, rfl⟩ := hs0.st.ws.form
  obtain ⟨a1, c1, rfl⟩ := hs0.inj.1.form
  go_wp2_with fail
  have hb2 := hb1.alloc hb1.size (.cells #[.slice a0 A0.ws.length c0, .slice a1 A0.inj.length c1] 26)
  have hs1 := hs0.below ((Below.refl w1.heap.size w1).alloc (Nat.le_refl _) (.cells #[.slice a0 A0.ws.length c0, .slice a1 A0.inj.length c1] 26))
  have h1 := submit_calls _ _ q0 A0 _ hs1.st m0 7
  rw [← hl0, aw1_is, hl0] at h1
  refine h1.mono ?_
  rintro e w2 ⟨va, vb, q1, rfl, hs2, hb3⟩
  have hX := (hb3.block w1.heap.size (by simp)).trans (heap_alloc_new _ _)
  clear h0 h1 hs0 hs1 hl0
  generalize hl1 : aw1 = A1 at *
  obtain ⟨a2, c2, rfl⟩ := hs2.st.ws.form
  obtain ⟨a3, c3, rfl⟩ := hs2.inj.1.form
  obtain ⟨x0, x1, xf⟩ := facts26 hX
  have Y := Lib.hid (stT_put hs2 hX)
  have hbX : w.heap.size ≤ w1.heap.size := hb1.size
  replace hb3 := ((hb2.then hb3).setCell (p := ⟨w1.heap.size, 0, none⟩) hbX (.slice a2 A1.ws.length c2)).setCell (p := ⟨w1.heap.size, 1, none⟩) hbX (.slice a3 A1.inj.length c3)
  have B3 := Lib.hid hb3
  clear hs2 hX hb1 hb2 hb3
  go_wp2_with fail
  have h2 := step_calls _ _ q1 A1 _ Y.out.1.st m1 0 0
  rw [← hl1, aw2_is, hl1] at h2
  refine h2.mono ?_
  rintro e w3 ⟨va, vb, q2, rfl, hs3, hb4⟩
  have hX := (hb4.block w1.heap.size (Array.getElem?_eq_some_iff.1 Y.out.2).1).trans Y.out.2
  have B4 := Lib.hid (B3.out.then hb4)
  have L4 := (Array.getElem?_eq_some_iff.1 hX).1
  clear h2 Y B3 hl1 x0 x1 xf hb4
  generalize hl2 : aw2 = A2 at *
  obtain ⟨a4, c4, rfl⟩ := hs3.st.ws.form
  obtain ⟨a5, c5, rfl⟩ := hs3.inj.1.form
  unfold evV
  have hza : Below w3.heap.size w3 (w3.alloc z38) := (Below.refl _ _).alloc (Nat.le_refl _) _
  obtain ⟨x0, x1, xf⟩ := facts26 ((hza.block w1.heap.size L4).trans hX)
  obtain ⟨y0, y1, yf⟩ := facts26 hX
  have nX : ¬ w3.heap.size = w1.heap.size := by omega
  have nX2 : ¬ w1.heap.size = w3.heap.size := by omega
  go_wp2_with fail
  have Y := Lib.hid (stT_put_alloc hs3 hX (.cells #[.int .i64 1, .int .i64 0, .int .i64 7, .int .i64 (-1)] 38) B4.out hbX)
  clear hs3 hX x0 x1 xf y0 y1 yf hza
  have h3 := step_calls _ _ q2 A2 _ Y.out.1.st m2 1 0
  rw [← hl2, aw3_is, hl2] at h3
  refine h3.mono ?_
  rintro e w4 ⟨va, vb, q3, rfl, hs4, hb5⟩
  have hX := (hb5.block w1.heap.size (Array.getElem?_eq_some_iff.1 Y.out.2.1).1).trans Y.out.2.1
  have V5 := (hb5.block w3.heap.size (Array.getElem?_eq_some_iff.1 Y.out.2.2.1).1).trans Y.out.2.2.1
  have B5 := Lib.hid (Y.out.2.2.2.then hb5)
  have L5 := (Array.getElem?_eq_some_iff.1 hX).1
  have L5v := (Array.getElem?_eq_some_iff.1 V5).1
  clear h3 Y B4 hl2 hb5
  generalize hl3 : aw3 = A3 at *
  obtain ⟨a6, c6, rfl⟩ := hs4.st.ws.form
  obtain ⟨a7, c7, rfl⟩ := hs4.inj.1.form
  unfold evV
  have hza : Below w4.heap.size w4 (w4.alloc z38) := (Below.refl _ _).alloc (Nat.le_refl _) _
  obtain ⟨x0, x1, xf⟩ := facts26 ((hza.block w1.heap.size L5).trans hX)
  obtain ⟨y0, y1, yf⟩ := facts26 hX
  have mX : ¬ w4.heap.size = w1.heap.size := by omega
  have mX2 : ¬ w1.heap.size = w4.heap.size := by omega
  have VV5 := Lib.hid V5
  clear V5
  go_wp2_with fail
  have Y := Lib.hid (stT_put_alloc hs4 hX (.cells #[.int .i64 4, .int .i64 1, .int .i64 (-1), .int .i64 (-1)] 38) B5.out hbX)
  clear hs4 hX x0 x1 xf y0 y1 yf hza
  have h4 := push_calls _ _ q3 A3 _ Y.out.1.st m3 0 8
  rw [← hl3, aw4_is, hl3] at h4
  refine h4.mono ?_
  rintro e w5 ⟨va, vb, q4, rfl, hs5, hb6⟩
  have hX := (hb6.block w1.heap.size (Array.getElem?_eq_some_iff.1 Y.out.2.1).1).trans Y.out.2.1
  have V7 := Lib.hid ((hb6.block w4.heap.size (Array.getElem?_eq_some_iff.1 Y.out.2.2.1).1).trans Y.out.2.2.1)
  have W5 := Lib.hid ((hb6.block w3.heap.size (by simp; omega)).trans ((put_alloc_keep w4 _ _ _ nX L5v).trans VV5.out))
  have B6 := Lib.hid (Y.out.2.2.2.then hb6)
  have L6 := hb6.size
  simp only [World.alloc, Array.size_push, World.setCell] at L6
  clear h4 Y B5 hl3 hb6 VV5
  generalize hl4 : aw4 = A4 at *
  obtain ⟨a8, c8, rfl⟩ := hs5.st.ws.form
  obtain ⟨a9, c9, rfl⟩ := hs5.inj.1.form
  obtain ⟨y0, y1, yf⟩ := facts26 hX
  have Y := Lib.hid (stT_put hs5 hX)
  replace B6 := Lib.hid ((B6.out.setCell (p := ⟨w1.heap.size, 0, none⟩) hbX (.slice a8 A4.ws.length c8)).setCell (p := ⟨w1.heap.size, 1, none⟩) hbX (.slice a9 A4.inj.length c9))
  replace V7 := Lib.hid ((put_keep w5 (.slice a8 A4.ws.length c8) (.slice a9 A4.inj.length c9) mX).trans V7.out)
  replace W5 := Lib.hid ((put_keep w5 (.slice a8 A4.ws.length c8) (.slice a9 A4.inj.length c9) nX).trans W5.out)
  clear hs5 hX
  go_wp2_with fail
  have h5 := step_calls _ _ q4 A4 _ Y.out.1.st m4 1 5
  rw [← hl4, aw5_is, hl4] at h5
  refine h5.mono ?_
  rintro e w6 ⟨va, vb, q5, rfl, hs6, hb7⟩
  replace V7 := Lib.hid ((hb7.block w4.heap.size (Array.getElem?_eq_some_iff.1 V7.out).1).trans V7.out)
  replace W5 := Lib.hid ((hb7.block w3.heap.size (Array.getElem?_eq_some_iff.1 W5.out).1).trans W5.out)
  have B7 := Lib.hid (B6.out.then hb7)
  clear h5 Y B6 hl4 hb7 y0 y1 yf
  generalize hl5 : aw5 = A5 at *
  obtain ⟨b0, d0, rfl⟩ := hs6.st.ws.form
  obtain ⟨b1, d1, rfl⟩ := hs6.inj.1.form
  unfold evV
  go_upto_region 7 with (fail)
  have hb8 : Below w6.heap.size w6 ((w6.alloc (.cells #[.slice b0 A5.ws.length d0, .slice b1 A5.inj.length d1] 26)).alloc (.cells #[.int .i64 2, .int .i64 1, .int .i64 8, .int .i64 0] 38)) := ((Below.refl _ _).alloc (Nat.le_refl _) _).alloc (by simp) _
  obtain ⟨e0, e1, e2, e3, -⟩ := res_facts ((hb8.block w3.heap.size (Array.getElem?_eq_some_iff.1 W5.out).1).trans W5.out)
  obtain ⟨f0, f1, f2, f3, -⟩ := res_facts ((hb8.block w4.heap.size (Array.getElem?_eq_some_iff.1 V7.out).1).trans V7.out)
  have HB := Lib.hid (B7.out.then hb8)
  clear hb8 hs6 V7 W5 B7
  have mx := max6
  go_wp2_with fail
  go_ret
  exact ⟨rfl, HB.out⟩
end Go.Proofs.Ytjnlfibcpkobaaa
