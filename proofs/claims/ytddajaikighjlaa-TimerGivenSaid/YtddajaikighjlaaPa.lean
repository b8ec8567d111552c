/- Promises: what they are; check 65, right 67, slices.Clone[int] 30, clone 66. -/
import Derived.Test.YtddajaikighjlaaSl
import Derived.Test.YtddajaikighjlaaShelf
import Derived.Test.YtddajaikighjlaaFx
import Derived.Test.YtddajaikighjlaaTi
namespace Go.Proofs.Ytddajaikighjlaa
open Go.RowKit Go.Sl

/-- A promise. -/
structure Pr where
  ph : Int
  val : Int
  wt : List Int
def prV (p : Pr) (v : Value) : Value := .agg #[.int .i64 p.ph, .int .i64 p.val, v]
def pr0 : Pr := ⟨0, 0, []⟩
def okP (p : Pr) : Int := if p.ph < 0 ∨ 2 < p.ph ∨ (p.ph = 0 ∧ p.val ≠ 0) ∨ (p.ph ≠ 0 ∧ 0 < p.wt.length) then 2 else 0
def awaitS (p : Pr) (who : Int) : Pr × List (Int × Int × Int) × Int :=
  if okP p ≠ 0 then (pr0, [], okP p) else if p.ph ≠ 0 then (p, [(who, p.ph, p.val)], 0) else if 1000 ≤ p.wt.length then (pr0, [], 8) else (⟨p.ph, p.val, p.wt ++ [who]⟩, [], 0)
def decideS (p : Pr) (f : Bool) (x : Int) : Pr × List (Int × Int × Int) × Int :=
  if okP p ≠ 0 then (pr0, [], okP p) else if p.ph ≠ 0 then (p, [], 0) else (⟨if f then 1 else 2, x, []⟩, p.wt.map fun who => (who, if f then 1 else 2, x), 0)
def encP (t : Int × Int × Int) : List Value := [.int .i64 t.1, .int .i64 t.2.1, .int .i64 t.2.2]
theorem okP_two {p : Pr} (h : okP p ≠ 0) : okP p = 2 := by unfold okP at h ⊢; split at h <;> simp_all
theorem okP_zero {p : Pr} (h : okP p = 0) : ¬ (p.ph < 0 ∨ 2 < p.ph ∨ (p.ph = 0 ∧ p.val ≠ 0) ∨ (p.ph ≠ 0 ∧ 0 < p.wt.length)) := by
  unfold okP at h
  split at h
  · cases h
  · assumption
theorem okP_phase {p : Pr} (h : okP p = 0) : 0 ≤ p.ph ∧ p.ph ≤ 2 := by
  have := okP_zero h
  constructor <;> · refine Int.not_lt.1 fun h2 => this ?_; simp [h2]
theorem okP_empty {p : Pr} (h : okP p = 0) (h1 : p.ph ≠ 0) : p.wt = [] := by
  have := okP_zero h
  refine List.eq_nil_of_length_eq_zero ?_
  refine Nat.eq_zero_of_not_pos fun h2 => this ?_
  simp [h1, h2]

set_option maxHeartbeats 1000000 in
theorem check_calls (p : Pr) (v : Value) (w : World) (h : ∃ a c, v = .slice a p.wt.length c) : Calls Try.prog 65 #[prV p v] w fun e w' => e = .returned (.int .i64 (okP p)) ∧ Below w.heap.size w w' := by
  obtain ⟨a, c, rfl⟩ := h
  obtain ⟨ph, val, wt⟩ := p
  unfold prV okP
  simp only
  generalize wt.length = n
  have hb := Lib.hid ((Below.refl w.heap.size w).alloc (Nat.le_refl _) (.cells #[.int .i64 ph, .int .i64 val, .slice a n c] 60))
  by_cases h1 : ph < 0
  · rw [if_pos (Or.inl h1)]
    go_enter Try.func65, Try.ntmps65
    go_wp2
    go_ret
    exact ⟨rfl, hb.out⟩
  by_cases h2 : 2 < ph
  · rw [if_pos (Or.inr (Or.inl h2))]
    go_enter Try.func65, Try.ntmps65
    go_wp2
    go_ret
    exact ⟨rfl, hb.out⟩
  by_cases h3 : ph = 0
  · subst h3
    by_cases h4 : val = 0
    · subst h4
      rw [if_neg (by simp)]
      go_enter Try.func65, Try.ntmps65
      go_wp2
      go_ret
      exact ⟨rfl, hb.out⟩
    · rw [if_pos (by simp [h4])]
      go_enter Try.func65, Try.ntmps65
      go_wp2
      go_ret
      exact ⟨rfl, hb.out⟩
  · have h5 : 0 < ph := by omega
    by_cases h4 : n = 0
    · subst h4
      rw [if_neg (by simp; omega)]
      go_enter Try.func65, Try.ntmps65
      go_wp2
      go_ret
      exact ⟨rfl, hb.out⟩
    · have h6 : 0 < (n : Int) := by omega
      rw [if_pos (by simp [h3]; omega)]
      go_enter Try.func65, Try.ntmps65
      go_wp2
      · go_ret
        exact ⟨rfl, hb.out⟩
      all_goals
        rename_i hx
        exfalso
        rcases hx with hx | hx
        · simp [h3] at hx
        · omega

set_option maxHeartbeats 1000000 in
theorem right_calls (p : Pr) (v : Value) (w : World) (h : ∃ a c, v = .slice a p.wt.length c) : Calls Try.prog 67 #[prV p v] w fun e w' => e = .returned (.int .i64 (okP p)) ∧ Below w.heap.size w w' := by
  obtain ⟨a, c, rfl⟩ := h
  obtain ⟨ph, val, wt⟩ := p
  unfold prV okP
  simp only
  generalize wt.length = n
  have hb := Lib.hid ((Below.refl w.heap.size w).alloc (Nat.le_refl _) (.cells #[.int .i64 ph, .int .i64 val, .slice a n c] 75))
  by_cases h1 : ph < 0
  · rw [if_pos (Or.inl h1)]
    go_enter Try.func67, Try.ntmps67
    go_wp2
    go_ret
    exact ⟨rfl, hb.out⟩
  by_cases h2 : 2 < ph
  · rw [if_pos (Or.inr (Or.inl h2))]
    go_enter Try.func67, Try.ntmps67
    go_wp2
    go_ret
    exact ⟨rfl, hb.out⟩
  by_cases h3 : ph = 0
  · subst h3
    by_cases h4 : val = 0
    · subst h4
      rw [if_neg (by simp)]
      go_enter Try.func67, Try.ntmps67
      go_wp2
      go_ret
      exact ⟨rfl, hb.out⟩
    · rw [if_pos (by simp [h4])]
      go_enter Try.func67, Try.ntmps67
      go_wp2
      go_ret
      exact ⟨rfl, hb.out⟩
  · have h5 : 0 < ph := by omega
    by_cases h4 : n = 0
    · subst h4
      rw [if_neg (by simp; omega)]
      go_enter Try.func67, Try.ntmps67
      go_wp2
      go_ret
      exact ⟨rfl, hb.out⟩
    · have h6 : 0 < (n : Int) := by omega
      rw [if_pos (by simp [h3]; omega)]
      go_enter Try.func67, Try.ntmps67
      go_wp2
      · go_ret
        exact ⟨rfl, hb.out⟩
      all_goals
        rename_i hx
        exfalso
        rcases hx with hx | hx
        · simp [h3] at hx
        · omega

theorem own_none (w : World) (b : Nat) (e : TypeId) (k : Nat) : w.ownsRow b e k (.slice none 0 0) 0 [] := World.ownsRow_nil _ _ _ _
/-- A slice of ints is copied. -/
theorem cloneI_calls (v : Value) (L : List Int) (w : World) (h : SlI w v L) (hL : L.length ≤ 1000000000) : Calls Try.prog 30 #[v] w fun e w' => ∃ v', e = .returned v' ∧ w'.ownsRow w.heap.size 3 1 v' L.length (L.map (Value.int .i64)) ∧ Below w.heap.size w w' := by
  obtain ⟨hl, ⟨h0, rfl | ⟨a, c, rfl⟩⟩ | ⟨h0, b, o, c, rfl, hc⟩⟩ := h
  · have hL0 := List.eq_nil_of_length_eq_zero h0
    subst hL0
    refine (Try.slices_Clone_int_nil 0 0 w).mono ?_
    rintro e w' ⟨rfl, rfl⟩
    exact ⟨_, rfl, own_none _ _ _ _, Below.refl _ _⟩
  · have hL0 := List.eq_nil_of_length_eq_zero h0
    subst hL0
    refine (Try.slices_Clone_int_zero a c w).mono ?_
    rintro e w' ⟨v', rfl, ho, -, hb⟩
    exact ⟨_, rfl, ho, hb⟩
  · refine (Try.slices_Clone_int b o L.length c L w (Nat.le_refl _) (by omega) fun j hj => hc j _ (by simp [List.getD, hj])).mono ?_
    rintro e w' ⟨v', rfl, ho, -, hb⟩
    rw [List.take_length] at ho
    exact ⟨_, rfl, ho, hb⟩
theorem size60 : (Try.prog.info? 60).map (·.size) = some 3 := by kernel_rfl
theorem size75 : (Try.prog.info? 75).map (·.size) = some 3 := by kernel_rfl
theorem cells_of_row {w : World} {b : Nat} {t : TypeId} {cs : Array Value} {f : Nat × Nat} (h : w.heap[b]? = some (.cells cs t f)) : ∀ j u, cs[j]? = some u → w.cell? ⟨b, j, none⟩ = some u := by
  intro j u hu
  unfold World.cell?
  simp only [h]
  exact hu

theorem size_setCell (w : World) (a : Addr) (v : Value) : (w.setCell a v).heap.size = w.heap.size := by
  simp
/-- A row of three cells. -/
theorem row3 {w : World} {b : Nat} {t : TypeId} {x y z : Value} (h : w.heap[b]? = some (.cells #[x, y, z] t (0, 0))) : w.cell? ⟨b, 0, none⟩ = some x ∧ w.cell? ⟨b, 1, none⟩ = some y ∧ w.cell? ⟨b, 2, none⟩ = some z ∧ ∀ j, w.frozen? ⟨b, j, none⟩ = false :=
  ⟨cells_of_row h 0 _ rfl, cells_of_row h 1 _ rfl, cells_of_row h 2 _ rfl, fun j => by simp [World.frozen?, h]⟩
/-- Its three cells are written. -/
theorem fill3 {w : World} {b : Nat} {t : TypeId} {x y z : Value} (h : w.heap[b]? = some (.cells #[x, y, z] t (0, 0))) (p q r : Value) :
    (((w.setCell ⟨b, 0, none⟩ p).setCell ⟨b, 1, none⟩ q).setCell ⟨b, 2, none⟩ r).heap[b]? = some (.cells #[p, q, r] t (0, 0)) ∧
      (((w.setCell ⟨b, 0, none⟩ p).setCell ⟨b, 1, none⟩ q).setCell ⟨b, 2, none⟩ r).heap.size = w.heap.size ∧
      ∀ k, k ≠ b → (((w.setCell ⟨b, 0, none⟩ p).setCell ⟨b, 1, none⟩ q).setCell ⟨b, 2, none⟩ r).heap[k]? = w.heap[k]? := by
  have z1 := heap_setCell_same w b 0 _ t p h
  have z2 := heap_setCell_same _ b 1 _ t q z1
  have z3 := heap_setCell_same _ b 2 _ t r z2
  refine ⟨z3, by simp, fun k hk => ?_⟩
  rw [Below.heap_setCell _ ⟨b, 2, none⟩ _ k hk, Below.heap_setCell _ ⟨b, 1, none⟩ _ k hk, Below.heap_setCell _ ⟨b, 0, none⟩ _ k hk]
theorem below_fill3 {B : Nat} {a w : World} (h : Below B a w) {b : Nat} (hb : B ≤ b) (p q r : Value) : Below B a (((w.setCell ⟨b, 0, none⟩ p).setCell ⟨b, 1, none⟩ q).setCell ⟨b, 2, none⟩ r) :=
  ((h.setCell (p := ⟨b, 0, none⟩) hb p).setCell (p := ⟨b, 1, none⟩) hb q).setCell (p := ⟨b, 2, none⟩) hb r

set_option maxHeartbeats 1000000 in
theorem clone_calls (p : Pr) (v : Value) (w : World) (h : SlI w v p.wt) (hL : p.wt.length ≤ 1000000000) : Calls Try.prog 66 #[prV p v] w fun e w' => ∃ v', e = .returned (prV p v') ∧ w'.ownsRow w.heap.size 3 1 v' p.wt.length (p.wt.map (Value.int .i64)) ∧ Below w.heap.size w w' := by
  obtain ⟨ph, val, L⟩ := p
  unfold prV
  simp only at h hL ⊢
  obtain ⟨a, c, rfl⟩ := h.form
  obtain ⟨w1, hw1⟩ : ∃ w1, (w.alloc (.cells #[.int .i64 ph, .int .i64 val, .slice a L.length c] 60)).alloc (.cells #[.int .i64 0, .int .i64 0, .slice none 0 0] 60) = w1 := ⟨_, rfl⟩
  have hb1 : Below w.heap.size w w1 := by rw [← hw1]; exact ((Below.refl w.heap.size w).alloc (Nat.le_refl _) _).alloc (by simp) _
  have hz : w1.heap.size = w.heap.size + 2 := by rw [← hw1]; simp
  have g0 : w1.heap[w.heap.size]? = some (.cells #[.int .i64 ph, .int .i64 val, .slice a L.length c] 60 (0, 0)) := by
    rw [← hw1, heap_alloc_old _ _ (by simp)]
    exact heap_alloc_new _ _
  have g1 : w1.heap[w.heap.size + 1]? = some (.cells #[.int .i64 0, .int .i64 0, .slice none 0 0] 60 (0, 0)) := by
    rw [← hw1]
    exact heap_alloc_new (w.alloc (.cells #[.int .i64 ph, .int .i64 val, .slice a L.length c] 60)) _ |> fun h => by simpa using h
  have hcl := cloneI_calls _ L w1 (h.below hb1) hL
  have B1 := Lib.hid hb1
  have Z1 := Lib.hid hz
  have G0 := Lib.hid g0
  have G1 := Lib.hid g1
  clear h hb1 hz g0 g1
  generalize L.length = n at *
  generalize L.map (Value.int .i64) = us at *
  go_enter Try.func66, Try.ntmps66
  obtain ⟨x0, x1, x2, -⟩ := row3 G0.out
  go_wp2_with fail
  refine hcl.mono ?_
  rintro e w2 ⟨v', rfl, ho, hb2⟩
  obtain ⟨av, cv, rfl⟩ := own_form ho
  have z0 := (hb2.block w.heap.size (by rw [Z1.out]; omega)).trans G0.out
  have z1 := (hb2.block (w.heap.size + 1) (by rw [Z1.out]; omega)).trans G1.out
  obtain ⟨w3, hw3⟩ : ∃ w3, w2.setCell ⟨w.heap.size, 2, none⟩ (.slice av n cv) = w3 := ⟨_, rfl⟩
  have z2 : (w2.setCell ⟨w.heap.size, 2, none⟩ (.slice av n cv)).heap[w.heap.size]? = some (.cells #[.int .i64 ph, .int .i64 val, .slice av n cv] 60 (0, 0)) := heap_setCell_same w2 w.heap.size 2 _ 60 _ z0
  have z3 := (Below.heap_setCell w2 ⟨w.heap.size, 2, none⟩ (.slice av n cv) (w.heap.size + 1) (by simp)).trans z1
  have o3 : w3.ownsRow w1.heap.size 3 1 (.slice av n cv) n us := by
    rw [← hw3]
    exact own_same ho fun g hg => Below.heap_setCell _ ⟨w.heap.size, 2, none⟩ _ _ (by have := (ho.lt g hg).1; rw [Z1.out] at this; simp only; omega)
  rw [hw3] at z2 z3
  have b3 : Below w.heap.size w w3 := by
    rw [← hw3]
    exact (B1.out.trans (hb2.mono B1.out.size)).setCell (p := ⟨w.heap.size, 2, none⟩) (Nat.le_refl _) _
  obtain ⟨-, -, c2, f0⟩ := row3 z0
  obtain ⟨d0, d1, d2, -⟩ := row3 z2
  obtain ⟨e0, e1, e2, f1⟩ := row3 z3
  obtain ⟨r1, r2, r3⟩ := fill3 z3 (.int .i64 ph) (.int .i64 val) (.slice av n cv)
  have R1 := Lib.hid r1
  have R3 := Lib.hid r3
  have O3 := Lib.hid o3
  have B3 := Lib.hid (below_fill3 b3 (b := w.heap.size + 1) (by omega) (.int .i64 ph) (.int .i64 val) (.slice av n cv))
  clear hcl hw1 x0 x1 x2 ho hb2 z0 z1 z2 z3 o3 b3 r1 r2 r3
  go_wp2_with fail
  refine bodyPost_ret (results_cell_row rfl _ _ (w.heap.size + 1) 60 _ (0, 0) _ rfl R1.out Try.underlying60 rfl size60) rfl ?_
  refine ⟨_, rfl, ?_, B3.out⟩
  refine own_le ?_ B1.out.size
  exact own_same O3.out fun g hg => R3.out g (by have := (O3.out.lt g hg).1; rw [Z1.out] at this; omega)
theorem results_cell3 {fn : Func} {p a b : Tmp} {ty : TypeId} (h : fn.results = #[.cell p ty, .tmp a, .tmp b]) (tmps : Array Value) (w : World) (g : Nat) (t : TypeId) (cs : Array Value) (fr : Nat × Nat) (fs : Array Field)
    (hp : tmps.getD p undef = .pointer (some ⟨g, 0, none⟩)) (hg : w.heap[g]? = some (.cells cs t fr))
    (hu : Try.prog.underlying ty = some (.struct fs)) (hi : (Try.prog.info? ty).map (·.size) = some cs.size) :
    (results fn tmps).run Try.prog w = .ok (.tuple #[.agg cs, tmps.getD a undef, tmps.getD b undef]) w := by
  have hp' : tmps[p]?.getD undef = .pointer (some ⟨g, 0, none⟩) := by simpa using hp
  simp [results, h, hp', asAddr, run_loadVar_row w g t ty cs fr (.struct fs) hg hu rfl hi]
theorem results_cell2 {fn : Func} {p a : Tmp} {ty : TypeId} (h : fn.results = #[.cell p ty, .tmp a]) (tmps : Array Value) (w : World) (g : Nat) (t : TypeId) (cs : Array Value) (fr : Nat × Nat) (fs : Array Field)
    (hp : tmps.getD p undef = .pointer (some ⟨g, 0, none⟩)) (hg : w.heap[g]? = some (.cells cs t fr))
    (hu : Try.prog.underlying ty = some (.struct fs)) (hi : (Try.prog.info? ty).map (·.size) = some cs.size) :
    (results fn tmps).run Try.prog w = .ok (.tuple #[.agg cs, tmps.getD a undef]) w := by
  have hp' : tmps[p]?.getD undef = .pointer (some ⟨g, 0, none⟩) := by simpa using hp
  simp [results, h, hp', asAddr, run_loadVar_row w g t ty cs fr (.struct fs) hg hu rfl hi]
end Go.Proofs.Ytddajaikighjlaa
