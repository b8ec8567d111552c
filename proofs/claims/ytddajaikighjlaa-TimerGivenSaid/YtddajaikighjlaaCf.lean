/- Custodians: the state of a law that holds many; Sort 53. -/
import Derived.Test.YtddajaikighjlaaCe
import Derived.Test.YtddajaikighjlaaShelf
import Derived.Sort.OwnSortedInts
import Derived.Lib.LazyBuf
namespace Go.Proofs.Ytddajaikighjlaa
open Go.RowKit Go.Sl Go.Mp Go.Wh

def upd {α : Type} (f : Nat → α) (i : Nat) (x : α) : Nat → α := fun k => if k = i then x else f k
theorem upd_self {α : Type} (f : Nat → α) (i : Nat) (x : α) : upd f i x i = x := by simp [upd]
theorem upd_ne {α : Type} (f : Nat → α) {i k : Nat} (x : α) (h : k ≠ i) : upd f i x k = f k := by simp [upd, h]
structure CS (w0 : World) (N : Nat) (S C Q : Nat → Nat) (P : Nat → List Part) (V : Nat → Value) (d : Nat → Bool) (w : World) : Prop where
  bel : Below w0.heap.size w0 w
  gs : GS w0.heap.size N S C P V d w
  cu : ∀ j, j < N → CuB w (Q j) (C j) (S j)
  ge : ∀ j, j < N → w0.heap.size ≤ S j
  cinj : ∀ i k, i < N → k < N → C i = C k → i = k
  vinj : ∀ i k g, i < N → k < N → (V i).ownBlock = some g → (V k).ownBlock = some g → i = k
  clt : ∀ j, j < N → C j < w.heap.size
section
variable {w0 : World} {N : Nat} {S C Q : Nat → Nat} {P : Nat → List Part} {V : Nat → Value} {d d' : Nat → Bool} {w w' : World}
theorem CS.below (h : CS w0 N S C Q P V d w) (hb : Below w.heap.size w w') : CS w0 N S C Q P V d w' :=
  ⟨h.bel.then hb, h.gs.kc (Kc.of_below hb), fun j hj => Kc.of_below hb _ _ _ _ (h.cu j hj), h.ge, h.cinj, h.vinj, fun j hj => Nat.lt_of_lt_of_le (h.clt j hj) hb.size⟩
/-- Another block of cells is written. -/
theorem CS.other (h : CS w0 N S C Q P V d w) {X : Nat} {cs : Array Value} {t : TypeId} {f : Nat × Nat} (hX : w.heap[X]? = some (.cells cs t f)) (h1 : t ≠ 102) (h2 : t ≠ 166) (h3 : t ≠ 168) (hge : w0.heap.size ≤ X) (hk : Kpt (fun g => g = X) w w') : CS w0 N S C Q P V d w' := by
  have key : ∀ (g : Nat) (cs2 : Array Value) (t2 : TypeId) (f2 : Nat × Nat), w.heap[g]? = some (.cells cs2 t2 f2) → t2 ≠ t → w'.heap[g]? = some (.cells cs2 t2 f2) := fun g cs2 t2 f2 hg ht => hk.row hg fun e => by
    rw [e, hX] at hg
    simp only [Option.some.injEq, Obj.cells.injEq] at hg
    exact ht hg.2.1.symm
  have own : ∀ {n : Nat} {v : Value} {xs : List Value}, w.ownsRow w0.heap.size 168 2 v n xs → w'.ownsRow w0.heap.size 168 2 v n xs := fun ho => own_same ho fun g hg => by
    obtain ⟨cs2, hc, -⟩ := own_cells ho hg
    exact (key g _ _ _ hc (Ne.symm h3)).trans hc.symm
  refine ⟨h.bel.trans (hk.below h.bel.size fun g hg => hg ▸ hge), ⟨fun i hi => key _ _ _ _ (h.gs.stk i hi) (Ne.symm h2), fun i hi => own (h.gs.row i hi), fun i hi x hx k q hq => ?_, h.gs.inj⟩, fun j hj => key _ _ _ _ (h.cu j hj) (Ne.symm h1), h.ge, h.cinj, h.vinj, fun j hj => Nat.lt_of_lt_of_le (h.clt j hj) hk.size⟩
  obtain ⟨a1, a2⟩ := h.gs.part i hi x hx k q hq
  exact ⟨a1, key _ _ _ _ a2 (Ne.symm h1)⟩
/-- One more. -/
theorem CS.make (h : CS w0 N S C Q P V d w) (hb : Below w.heap.size w w') (hc : CuB w' (w.heap.size + 2) w.heap.size (w.heap.size + 1)) (hs : Stk w' (w.heap.size + 1) nilV false) :
    CS w0 (N + 1) (upd S N (w.heap.size + 1)) (upd C N w.heap.size) (upd Q N (w.heap.size + 2)) (upd P N []) (upd V N nilV) (upd d N false) w' := by
  have h' := h.below hb
  have hsl : ∀ j, j < N → S j < w.heap.size := fun j hj => (Array.getElem?_eq_some_iff.1 (h.gs.stk j hj)).1
  have sp : ∀ j, j < N + 1 → j = N ∨ (j ≠ N ∧ j < N) := fun j hj => by omega
  refine ⟨h'.bel, ⟨fun i hi => ?_, fun i hi => ?_, fun i hi x hx k q hq => ?_, fun i k hi hk e => ?_⟩, fun i hi => ?_, fun i hi => ?_, fun i k hi hk e => ?_, fun i k g hi hk e1 e2 => ?_, fun i hi => ?_⟩
  · rcases sp i hi with rfl | ⟨hne, hl⟩
    · rw [upd_self, upd_self, upd_self]; exact hs
    · rw [upd_ne _ _ hne, upd_ne _ _ hne, upd_ne _ _ hne]; exact h'.gs.stk i hl
  · rcases sp i hi with rfl | ⟨hne, hl⟩
    · rw [upd_self, upd_self]; exact own_nil _ _ _ _
    · rw [upd_ne _ _ hne, upd_ne _ _ hne]; exact h'.gs.row i hl
  · rcases sp i hi with rfl | ⟨hne, hl⟩
    · rw [upd_self] at hx; simp at hx
    · rw [upd_ne _ _ hne] at hx
      obtain ⟨a1, a2⟩ := h'.gs.part i hl x hx k q hq
      rw [upd_ne _ _ (by omega), upd_ne _ _ (by omega)]
      exact ⟨by omega, a2⟩
  · rcases sp i hi with rfl | ⟨hne, hl⟩ <;> rcases sp k hk with rfl | ⟨hne2, hl2⟩
    · rfl
    · rw [upd_self, upd_ne _ _ hne2] at e
      have := hsl k hl2
      omega
    · rw [upd_self, upd_ne _ _ hne] at e
      have := hsl i hl
      omega
    · rw [upd_ne _ _ hne, upd_ne _ _ hne2] at e
      exact h.gs.inj i k hl hl2 e
  · rcases sp i hi with rfl | ⟨hne, hl⟩
    · rw [upd_self, upd_self, upd_self]; exact hc
    · rw [upd_ne _ _ hne, upd_ne _ _ hne, upd_ne _ _ hne]; exact h'.cu i hl
  · rcases sp i hi with rfl | ⟨hne, hl⟩
    · rw [upd_self]
      have := h.bel.size
      omega
    · rw [upd_ne _ _ hne]; exact h.ge i hl
  · rcases sp i hi with rfl | ⟨hne, hl⟩ <;> rcases sp k hk with rfl | ⟨hne2, hl2⟩
    · rfl
    · rw [upd_self, upd_ne _ _ hne2] at e
      have := h.clt k hl2
      omega
    · rw [upd_self, upd_ne _ _ hne] at e
      have := h.clt i hl
      omega
    · rw [upd_ne _ _ hne, upd_ne _ _ hne2] at e
      exact h.cinj i k hl hl2 e
  · rcases sp i hi with rfl | ⟨hne, hl⟩ <;> rcases sp k hk with rfl | ⟨hne2, hl2⟩
    · rfl
    · rw [upd_self] at e1; simp [nilV, Value.ownBlock] at e1
    · rw [upd_self] at e2; simp [nilV, Value.ownBlock] at e2
    · rw [upd_ne _ _ hne] at e1
      rw [upd_ne _ _ hne2] at e2
      exact h.vinj i k g hl hl2 e1 e2
  · rcases sp i hi with rfl | ⟨hne, hl⟩
    · rw [upd_self]
      have := (Array.getElem?_eq_some_iff.1 hs).1
      omega
    · rw [upd_ne _ _ hne]
      exact h'.clt i hl
/-- A part more. -/
theorem CS.grow (h : CS w0 N S C Q P V d w) {i : Nat} (hi : i < N) {v' : Value} {x : Part} (hx : ∀ k q, x.2 = some (k, q) → k < N ∧ CuB w q (C k) (S k)) (hd : d i = false) (hs : Stk w' (S i) v' false) (ho : w'.ownsRow w0.heap.size 168 2 v' ((P i).length + 1) ((P i ++ [x]).flatMap encP2)) (hk : Kpt (fun g => g = S i ∨ (V i).ownBlock = some g) w w')
    (hf : ∀ g, v'.ownBlock = some g → (V i).ownBlock = some g ∨ w.heap.size ≤ g) : CS w0 N S C Q (upd P i (P i ++ [x])) (upd V i v') d w' := by
  have ty : ∀ g, (g = S i ∨ (V i).ownBlock = some g) → ∃ cs t f, w.heap[g]? = some (.cells cs t f) ∧ (t = 166 ∨ t = 168) ∧ w0.heap.size ≤ g := by
    rintro g (rfl | hg)
    · exact ⟨_, _, _, h.gs.stk i hi, Or.inl rfl, h.ge i hi⟩
    · obtain ⟨cs, hc, hb⟩ := own_cells (h.gs.row i hi) hg
      exact ⟨_, _, _, hc, Or.inr rfl, hb⟩
  have cu : ∀ q c s, CuB w q c s → CuB w' q c s := fun q c s hq => hk.row hq fun hg => by
    obtain ⟨cs, t, f, hc, ht, -⟩ := ty q hg
    rw [hq] at hc
    simp only [Option.some.injEq, Obj.cells.injEq] at hc
    rcases ht with rfl | rfl
    · exact absurd hc.2.1 (by decide)
    · exact absurd hc.2.1 (by decide)
  refine ⟨h.bel.trans (hk.below h.bel.size fun g hg => by
    obtain ⟨_, _, _, _, _, h⟩ := ty g hg
    exact h), ⟨fun j hj => ?_, fun j hj => ?_, fun j hj y hy k q hq => ?_, h.gs.inj⟩, fun j hj => cu _ _ _ (h.cu j hj), h.ge, h.cinj, fun a b g ha hb e1 e2 => ?_, fun j hj => Nat.lt_of_lt_of_le (h.clt j hj) hk.size⟩
  · by_cases e : j = i
    · subst e; rw [upd_self, hd]; exact hs
    · rw [upd_ne _ _ e]
      refine hk.row (h.gs.stk j hj) ?_
      rintro (hg | hg)
      · exact e (h.gs.inj j i hj hi hg)
      · obtain ⟨cs, hc, -⟩ := own_cells (h.gs.row i hi) hg
        have h2 := h.gs.stk j hj
        unfold Stk at h2
        rw [h2] at hc
        simp only [Option.some.injEq, Obj.cells.injEq] at hc
        exact absurd hc.2.1 (by decide)
  · by_cases e : j = i
    · subst e
      rw [upd_self, upd_self, List.length_append]
      exact ho
    · rw [upd_ne _ _ e, upd_ne _ _ e]
      refine hk.own (h.gs.row j hj) fun g hg => ?_
      rintro (rfl | hg2)
      · obtain ⟨cs, hc, -⟩ := own_cells (h.gs.row j hj) hg
        have h2 := h.gs.stk i hi
        unfold Stk at h2
        rw [h2] at hc
        simp only [Option.some.injEq, Obj.cells.injEq] at hc
        exact absurd hc.2.1 (by decide)
      · exact e (h.vinj j i g hj hi hg hg2)
  · by_cases e : j = i
    · subst e
      rw [upd_self] at hy
      rcases List.mem_append.1 hy with hy | hy
      · obtain ⟨a1, a2⟩ := h.gs.part j hj y hy k q hq
        exact ⟨a1, cu _ _ _ a2⟩
      · simp only [List.mem_singleton] at hy
        subst hy
        obtain ⟨a1, a2⟩ := hx k q hq
        exact ⟨a1, cu _ _ _ a2⟩
    · rw [upd_ne _ _ e] at hy
      obtain ⟨a1, a2⟩ := h.gs.part j hj y hy k q hq
      exact ⟨a1, cu _ _ _ a2⟩
  · have lt : ∀ j, j < N → ∀ g, (V j).ownBlock = some g → g < w.heap.size := fun j hj g hg => ((h.gs.row j hj).lt g hg).2
    by_cases e : a = i <;> by_cases e' : b = i
    · omega
    · subst e
      rw [upd_self] at e1
      rw [upd_ne _ _ e'] at e2
      rcases hf g e1 with h1 | h1
      · exact h.vinj a b g ha hb h1 e2
      · have := lt b hb g e2
        omega
    · subst e'
      rw [upd_self] at e2
      rw [upd_ne _ _ e] at e1
      rcases hf g e2 with h1 | h1
      · exact h.vinj a b g ha hb e1 h1
      · have := lt a ha g e1
        omega
    · rw [upd_ne _ _ e] at e1
      rw [upd_ne _ _ e'] at e2
      exact h.vinj a b g ha hb e1 e2
/-- Some are disposed of. -/
theorem CS.disposed (h : CS w0 N S C Q P V d w) (a : Aft N S d d' (fun _ => nilV) w w') : CS w0 N S C Q (fun k => if d k = false ∧ d' k = true then [] else P k) (fun k => if d k = false ∧ d' k = true then nilV else V k) d' w' := by
  have hD := h.gs.ds.aft a
  have ge : ∀ g, (∃ k, k < N ∧ g = S k ∧ d k = false ∧ d' k = true) → w0.heap.size ≤ g := fun g ⟨k, hk, e, _, _⟩ => e ▸ h.ge k hk
  refine ⟨h.bel.trans (a.kpt.below h.bel.size ge), ⟨fun i hi => ?_, fun i hi => ?_, fun i hi y hy k q hq => ?_, h.gs.inj⟩, fun j hj => ?_, h.ge, h.cinj, fun i k g hi hk e1 e2 => ?_, fun j hj => Nat.lt_of_lt_of_le (h.clt j hj) a.kpt.size⟩
  · by_cases e : d i = false ∧ d' i = true
    · simp only [e, and_self, if_true]
      exact a.new i hi e.1 e.2
    · simp only [e, if_false]
      have hdd : d' i = d i := by
        cases h1 : d i with
        | true => exact a.up i h1
        | false =>
          cases h2 : d' i with
          | true => exact absurd ⟨h1, h2⟩ e
          | false => rfl
      rw [hdd]
      refine a.kpt.row (h.gs.stk i hi) ?_
      rintro ⟨k, hk, e2, h1, h2⟩
      rw [← h.gs.inj i k hi hk e2] at h1 h2
      exact e ⟨h1, h2⟩
  · by_cases e : d i = false ∧ d' i = true
    · simp only [e, and_self, if_true]
      exact own_nil _ _ _ _
    · simp only [e, if_false]
      exact hD.row i hi
  · by_cases e : d i = false ∧ d' i = true
    · simp only [e, and_self, if_true] at hy
      simp at hy
    · simp only [e, if_false] at hy
      exact hD.part i hi y hy k q hq
  · refine a.kpt.row (h.cu j hj) ?_
    rintro ⟨k, hk, e, -, -⟩
    exact cu_stk (h.cu j hj) (h.gs.stk k hk) e
  · by_cases e : d i = false ∧ d' i = true
    · simp [e, nilV, Value.ownBlock] at e1
    · by_cases e' : d k = false ∧ d' k = true
      · simp [e', nilV, Value.ownBlock] at e2
      · simp only [e, if_false] at e1
        simp only [e', if_false] at e2
        exact h.vinj i k g hi hk e1 e2
end
theorem sort53_calls (v : Value) (xs : List Int) (base : Nat) (w : World) (h : w.ownsRow base 3 1 v xs.length (xs.map (Value.int .i64))) (hb : xs.length ≤ 1000000) (hB : base ≤ w.heap.size) :
    Calls Try.prog 53 #[v] w fun e w' => e = .returned (.tuple #[]) ∧ w'.ownsRow base 3 1 v xs.length ((xs.mergeSort fun x y => decide (x ≤ y)).map (Value.int .i64)) ∧ w.grownBy w' v.ownBlock ∧ Below base w w' := by
  rcases h.2 with ⟨rfl, h0⟩ | ⟨g, cap, cur, rfl, hg, hc, h1, h2, h3, h4⟩
  · have hx : xs = [] := List.eq_nil_of_length_eq_zero h0
    subst hx
    refine (Try.slices_Sort_int_none none 0 w).mono ?_
    rintro e w' ⟨rfl, rfl⟩
    exact ⟨rfl, by simpa using h, ⟨rfl, rfl, rfl, Nat.le_refl _, fun _ _ _ => rfl⟩, Below.refl _ _⟩
  · rw [Nat.mul_one] at h4
    have hH := holds_of_blockI hc h4
    have hlt : g < w.heap.size := (Array.getElem?_eq_some_iff.1 hc).1
    refine (Try.slices_Sort_int g 0 cap xs w hH hlt (by omega)).mono ?_
    rintro e w' ⟨rfl, n, os, rfl⟩
    have hl : (xs.mergeSort fun x y => decide (x ≤ y)).length = xs.length := by simp
    exact ⟨rfl, ownsRow_sortedI hl hg hc h1 h2 h3, grownBy_sortedI _, (Below.refl base w).grown (grownBy_sortedI _) hB (fun k hk => by cases hk; exact hg)⟩
end Go.Proofs.Ytddajaikighjlaa
