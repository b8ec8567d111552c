/- Wheels in memory: a block of cells and its maps. No program. -/
import Derived.Test.YtddajaikighjlaaWm
namespace Go.Mp
open Go.RowKit Go.ChangeMaps Go.Wh

def tmV (t : Tm) : Value := .agg #[.int .i64 t.id, .int .i64 t.when, .int .i64 t.iv, .int .i64 t.ord]
def plV (p : Int × Int) : Value := .agg #[.int .i64 p.1, .int .i64 p.2]
/-- The maps' blocks. -/
structure Refs where
  rt : Nat
  rp : Nat
  sl : Nat → Option Nat
/-- A block of the wheels. -/
def Foot (R : Refs) (X k : Nat) : Prop := k = X ∨ k = R.rt ∨ k = R.rp ∨ ∃ i, i < 448 ∧ R.sl i = some k
/-- A slot's map, nil or not. -/
def SlotI (w : World) (o : Option Nat) (l : List (Int × Bool)) : Prop := match o with
  | none => l = []
  | some r => MapI w r (mv Value.bool l)

structure WhAt (R : Refs) (w : World) (X : Nat) (W : Wh) : Prop where
  blk : ∃ cs, w.heap[X]? = some (.cells cs 142 (0, 0)) ∧ cs.size = 452
  c0 : w.cell? ⟨X, 0, none⟩ = some (.int .i64 W.now)
  c1 : w.cell? ⟨X, 1, none⟩ = some (.int .i64 W.ord)
  cs : ∀ i, i < 448 → w.cell? ⟨X, 2 + i, none⟩ = some (.map (R.sl i))
  ct : w.cell? ⟨X, 450, none⟩ = some (.map (some R.rt))
  cp : w.cell? ⟨X, 451, none⟩ = some (.map (some R.rp))
  len : W.sl.length = 448
  ms : ∀ i, i < 448 → SlotI w (R.sl i) (W.sl.getD i [])
  mt : MapI w R.rt (mv tmV W.tm)
  mp : MapI w R.rp (mv plV W.pl)
  d1 : R.rt ≠ R.rp
  d2 : ∀ i, i < 448 → R.sl i ≠ some R.rt ∧ R.sl i ≠ some R.rp
  d3 : ∀ i j r, i < 448 → j < 448 → R.sl i = some r → R.sl j = some r → i = j

theorem SlotI.same {w w' : World} {o : Option Nat} {l : List (Int × Bool)} (h : SlotI w o l) (hb : ∀ r, o = some r → w'.heap[r]? = w.heap[r]?) : SlotI w' o l := by
  cases o with
  | none => exact h
  | some r => exact MapI.same h (hb r rfl)
theorem SlotI.val {w : World} {o : Option Nat} {l : List (Int × Bool)} (h : SlotI w o l) : MapV w (.map o) (mv Value.bool l) := by
  cases o with
  | none =>
    unfold SlotI at h
    subst h
    exact Or.inl ⟨rfl, rfl⟩
  | some r => exact Or.inr ⟨r, rfl, h⟩
theorem MapI.ne_cells {w : World} {r X : Nat} {L : List (Int × Value)} {cs : Array Value} {t : TypeId} {f : Nat × Nat} (h : MapI w r L) (hX : w.heap[X]? = some (.cells cs t f)) : r ≠ X := by
  rintro rfl
  obtain ⟨es, c, hb, -⟩ := h
  rw [hb] at hX
  cases hX
theorem WhAt.foot_lt {R : Refs} {w : World} {X k : Nat} {W : Wh} (h : WhAt R w X W) (hk : Foot R X k) : k < w.heap.size := by
  rcases hk with rfl | rfl | rfl | ⟨i, hi, e⟩
  · obtain ⟨cs, hb, -⟩ := h.blk
    exact (Array.getElem?_eq_some_iff.1 hb).1
  · exact h.mt.lt
  · exact h.mp.lt
  · have := h.ms i hi
    rw [e] at this
    exact MapI.lt this
/-- The wheels stay while their blocks stay. -/
theorem WhAt.same {R : Refs} {w w' : World} {X : Nat} {W : Wh} (h : WhAt R w X W) (hb : ∀ k, Foot R X k → w'.heap[k]? = w.heap[k]?) : WhAt R w' X W := by
  have hX := hb X (Or.inl rfl)
  have hc : ∀ j, w'.cell? ⟨X, j, none⟩ = w.cell? ⟨X, j, none⟩ := fun j => World.cell?_of_block hX
  obtain ⟨cs, hb1, hb2⟩ := h.blk
  exact ⟨⟨cs, hX.trans hb1, hb2⟩, (hc 0).trans h.c0, (hc 1).trans h.c1, fun i hi => (hc _).trans (h.cs i hi), (hc 450).trans h.ct, (hc 451).trans h.cp, h.len,
    fun i hi => (h.ms i hi).same fun r e => hb r (Or.inr (Or.inr (Or.inr ⟨i, hi, e⟩))), h.mt.same (hb _ (Or.inr (Or.inl rfl))), h.mp.same (hb _ (Or.inr (Or.inr (Or.inl rfl)))), h.d1, h.d2, h.d3⟩
theorem WhAt.below {R : Refs} {w w' : World} {X : Nat} {W : Wh} (h : WhAt R w X W) (hb : Below w.heap.size w w') : WhAt R w' X W := h.same fun k hk => hb.block k (h.foot_lt hk)
theorem WhAt.free {R : Refs} {w : World} {X : Nat} {W : Wh} (h : WhAt R w X W) (j : Nat) : w.frozen? ⟨X, j, none⟩ = false := by
  obtain ⟨cs, hb, -⟩ := h.blk
  simp [World.frozen?, hb]

/-- The timers' map turns. -/
theorem WhAt.turnT {R : Refs} {w w' : World} {X : Nat} {W : Wh} (h : WhAt R w X W) {tm : List (Int × Tm)} (hm : MapI w' R.rt (mv tmV tm)) (hg : w.grownBy w' (some R.rt)) : WhAt R w' X { W with tm := tm } := by
  obtain ⟨cs, hb1, hb2⟩ := h.blk
  have hbl : ∀ k, Foot R X k → k ≠ R.rt → w'.heap[k]? = w.heap[k]? := fun k hk hne => hg.block k (h.foot_lt hk) (fun e => hne (by simpa using e))
  have hX := hbl X (Or.inl rfl) (Ne.symm (h.mt.ne_cells hb1))
  have hc : ∀ j, w'.cell? ⟨X, j, none⟩ = w.cell? ⟨X, j, none⟩ := fun j => World.cell?_of_block hX
  exact ⟨⟨cs, hX.trans hb1, hb2⟩, (hc 0).trans h.c0, (hc 1).trans h.c1, fun i hi => (hc _).trans (h.cs i hi), (hc 450).trans h.ct, (hc 451).trans h.cp, h.len,
    fun i hi => (h.ms i hi).same fun r e => hbl r (Or.inr (Or.inr (Or.inr ⟨i, hi, e⟩))) (fun e2 => (h.d2 i hi).1 (by rw [e, e2])), hm, h.mp.same (hbl _ (Or.inr (Or.inr (Or.inl rfl))) (Ne.symm h.d1)), h.d1, h.d2, h.d3⟩
/-- The places' map turns. -/
theorem WhAt.turnP {R : Refs} {w w' : World} {X : Nat} {W : Wh} (h : WhAt R w X W) {pl : List (Int × (Int × Int))} (hm : MapI w' R.rp (mv plV pl)) (hg : w.grownBy w' (some R.rp)) : WhAt R w' X { W with pl := pl } := by
  obtain ⟨cs, hb1, hb2⟩ := h.blk
  have hbl : ∀ k, Foot R X k → k ≠ R.rp → w'.heap[k]? = w.heap[k]? := fun k hk hne => hg.block k (h.foot_lt hk) (fun e => hne (by simpa using e))
  have hX := hbl X (Or.inl rfl) (Ne.symm (h.mp.ne_cells hb1))
  have hc : ∀ j, w'.cell? ⟨X, j, none⟩ = w.cell? ⟨X, j, none⟩ := fun j => World.cell?_of_block hX
  exact ⟨⟨cs, hX.trans hb1, hb2⟩, (hc 0).trans h.c0, (hc 1).trans h.c1, fun i hi => (hc _).trans (h.cs i hi), (hc 450).trans h.ct, (hc 451).trans h.cp, h.len,
    fun i hi => (h.ms i hi).same fun r e => hbl r (Or.inr (Or.inr (Or.inr ⟨i, hi, e⟩))) (fun e2 => (h.d2 i hi).2 (by rw [e, e2])), h.mt.same (hbl _ (Or.inr (Or.inl rfl)) h.d1), hm, h.d1, h.d2, h.d3⟩
/-- A slot's map turns. -/
theorem WhAt.turnS {R : Refs} {w w' : World} {X : Nat} {W : Wh} (h : WhAt R w X W) {i r : Nat} (hi : i < 448) (hr : R.sl i = some r) {l : List (Int × Bool)} (hm : MapI w' r (mv Value.bool l)) (hg : w.grownBy w' (some r)) : WhAt R w' X { W with sl := W.sl.set i l } := by
  obtain ⟨cs, hb1, hb2⟩ := h.blk
  have hmr : MapI w r (mv Value.bool (W.sl.getD i [])) := by have := h.ms i hi; rw [hr] at this; exact this
  have hbl : ∀ k, Foot R X k → k ≠ r → w'.heap[k]? = w.heap[k]? := fun k hk hne => hg.block k (h.foot_lt hk) (fun e => hne (by simpa using e))
  have hX := hbl X (Or.inl rfl) (Ne.symm (hmr.ne_cells hb1))
  have hc : ∀ j, w'.cell? ⟨X, j, none⟩ = w.cell? ⟨X, j, none⟩ := fun j => World.cell?_of_block hX
  refine ⟨⟨cs, hX.trans hb1, hb2⟩, (hc 0).trans h.c0, (hc 1).trans h.c1, fun i hi => (hc _).trans (h.cs i hi), (hc 450).trans h.ct, (hc 451).trans h.cp, by simp [h.len],
    fun j hj => ?_, h.mt.same (hbl _ (Or.inr (Or.inl rfl)) (fun e => (h.d2 i hi).1 (by rw [hr, e]))), h.mp.same (hbl _ (Or.inr (Or.inr (Or.inl rfl))) (fun e => (h.d2 i hi).2 (by rw [hr, e]))), h.d1, h.d2, h.d3⟩
  by_cases e : j = i
  · subst e
    have : (W.sl.set j l).getD j [] = l := by simp [List.getD, h.len, hj]
    show SlotI w' (R.sl j) ((W.sl.set j l).getD j [])
    rw [this, hr]
    exact hm
  · have : (W.sl.set i l).getD j [] = W.sl.getD j [] := by simp [List.getD, List.getElem?_set_ne (Ne.symm e)]
    show SlotI w' (R.sl j) ((W.sl.set i l).getD j [])
    rw [this]
    exact (h.ms j hj).same fun q e2 => hbl q (Or.inr (Or.inr (Or.inr ⟨j, hj, e2⟩))) (fun e3 => e (h.d3 j i r hj hi (by rw [e2, e3]) hr))

theorem cell_set {w : World} {X : Nat} {cs : Array Value} {t : TypeId} (hb : w.heap[X]? = some (.cells cs t (0, 0))) (j i : Nat) (v : Value) (hj : j < cs.size) :
    (w.setCell ⟨X, j, none⟩ v).cell? ⟨X, i, none⟩ = (if i = j then some v else w.cell? ⟨X, i, none⟩) ∧ (w.setCell ⟨X, j, none⟩ v).heap[X]? = some (.cells (cs.set! j v) t (0, 0)) := by
  have h1 := heap_setCell_same w X j cs t v hb
  refine ⟨?_, ?_⟩
  · have e1 : ∀ (W : World) (c : Array Value), W.heap[X]? = some (.cells c t (0, 0)) → W.cell? ⟨X, i, none⟩ = c[i]? := fun W c h => by simp [World.cell?, h]
    rw [e1 _ _ h1, e1 _ _ hb]
    by_cases e : i = j
    · subst e; simp [hj]
    · have e2 : ¬ j = i := fun h => e h.symm
      simp [e, e2]
  · rw [h1]
    simp
/-- A cell of the block is written: the rest stays. -/
theorem WhAt.cell_at {R : Refs} {w : World} {X : Nat} {W : Wh} (h : WhAt R w X W) {j : Nat} (hj : j < 452) (v : Value) :
    (∃ cs, (w.setCell ⟨X, j, none⟩ v).heap[X]? = some (.cells cs 142 (0, 0)) ∧ cs.size = 452) ∧ (∀ i, (w.setCell ⟨X, j, none⟩ v).cell? ⟨X, i, none⟩ = if i = j then some v else w.cell? ⟨X, i, none⟩) ∧ ∀ k, k ≠ X → (w.setCell ⟨X, j, none⟩ v).heap[k]? = w.heap[k]? := by
  obtain ⟨cs, hb1, hb2⟩ := h.blk
  refine ⟨⟨_, (cell_set hb1 j 0 v (by omega)).2, by simp [hb2]⟩, fun i => (cell_set hb1 j i v (by omega)).1, fun k hk => Below.heap_setCell w ⟨X, j, none⟩ v k hk⟩
theorem WhAt.setNow {R : Refs} {w : World} {X : Nat} {W : Wh} (h : WhAt R w X W) (n : Int) : WhAt R (w.setCell ⟨X, 0, none⟩ (.int .i64 n)) X { W with now := n } := by
  obtain ⟨cs0, hb1, -⟩ := h.blk
  obtain ⟨a1, a2, a3⟩ := h.cell_at (j := 0) (by omega) (.int .i64 n)
  refine ⟨a1, by rw [a2, if_pos rfl], by rw [a2, if_neg (by omega)]; exact h.c1, fun i hi => by rw [a2, if_neg (by omega)]; exact h.cs i hi, by rw [a2, if_neg (by omega)]; exact h.ct, by rw [a2, if_neg (by omega)]; exact h.cp, h.len,
    fun i hi => (h.ms i hi).same fun r e => a3 r ?_, h.mt.same (a3 _ (h.mt.ne_cells hb1)), h.mp.same (a3 _ (h.mp.ne_cells hb1)), h.d1, h.d2, h.d3⟩
  have := h.ms i hi
  rw [e] at this
  exact MapI.ne_cells this hb1
theorem WhAt.setOrd {R : Refs} {w : World} {X : Nat} {W : Wh} (h : WhAt R w X W) (n : Int) : WhAt R (w.setCell ⟨X, 1, none⟩ (.int .i64 n)) X { W with ord := n } := by
  obtain ⟨cs0, hb1, -⟩ := h.blk
  obtain ⟨a1, a2, a3⟩ := h.cell_at (j := 1) (by omega) (.int .i64 n)
  refine ⟨a1, by rw [a2, if_neg (by omega)]; exact h.c0, by rw [a2, if_pos rfl], fun i hi => by rw [a2, if_neg (by omega)]; exact h.cs i hi, by rw [a2, if_neg (by omega)]; exact h.ct, by rw [a2, if_neg (by omega)]; exact h.cp, h.len,
    fun i hi => (h.ms i hi).same fun r e => a3 r ?_, h.mt.same (a3 _ (h.mt.ne_cells hb1)), h.mp.same (a3 _ (h.mp.ne_cells hb1)), h.d1, h.d2, h.d3⟩
  have := h.ms i hi
  rw [e] at this
  exact MapI.ne_cells this hb1
/-- A nil slot gets an empty map. -/
def Refs.with (R : Refs) (i r : Nat) : Refs := { R with sl := fun j => if j = i then some r else R.sl j }
theorem WhAt.newSlot {R : Refs} {w : World} {X : Nat} {W : Wh} (h : WhAt R w X W) {i r : Nat} (hi : i < 448) (hn : R.sl i = none) (hr : MapI w r []) (hf : ¬ Foot R X r) : WhAt (R.with i r) (w.setCell ⟨X, 2 + i, none⟩ (.map (some r))) X W := by
  obtain ⟨cs0, hb1, -⟩ := h.blk
  obtain ⟨a1, a2, a3⟩ := h.cell_at (j := 2 + i) (by omega) (.map (some r))
  have hse : ∀ j, (R.with i r).sl j = if j = i then some r else R.sl j := fun _ => rfl
  have key : ∀ j q, j < 448 → R.sl j = some q → q ≠ r := fun j q hj e e2 => hf (Or.inr (Or.inr (Or.inr ⟨j, hj, by rw [e, e2]⟩)))
  refine ⟨a1, by rw [a2, if_neg (by omega)]; exact h.c0, by rw [a2, if_neg (by omega)]; exact h.c1, fun j hj => ?_, by rw [a2, if_neg (by omega)]; exact h.ct, by rw [a2, if_neg (by omega)]; exact h.cp, h.len, fun j hj => ?_,
    h.mt.same (a3 _ (h.mt.ne_cells hb1)), h.mp.same (a3 _ (h.mp.ne_cells hb1)), h.d1, fun j hj => ?_, fun j k q hj hk e1 e2 => ?_⟩
  · rw [a2, hse]
    by_cases e : j = i
    · subst e; simp
    · rw [if_neg (by omega), if_neg e]; exact h.cs j hj
  · rw [hse]
    by_cases e : j = i
    · subst e
      rw [if_pos rfl]
      have := h.ms j hj
      rw [hn] at this
      unfold SlotI at this ⊢
      simp only
      rw [this]
      exact hr.same (a3 _ (hr.ne_cells hb1))
    · rw [if_neg e]
      refine (h.ms j hj).same fun q e2 => a3 q ?_
      have := h.ms j hj
      rw [e2] at this
      exact MapI.ne_cells this hb1
  · rw [hse]
    by_cases e : j = i
    · subst e
      rw [if_pos rfl]
      exact ⟨fun e2 => hf (Or.inr (Or.inl (Option.some.inj e2))), fun e2 => hf (Or.inr (Or.inr (Or.inl (Option.some.inj e2))))⟩
    · rw [if_neg e]; exact h.d2 j hj
  · rw [hse] at e1 e2
    by_cases ej : j = i
    · by_cases ek : k = i
      · rw [ej, ek]
      · rw [if_pos ej] at e1
        rw [if_neg ek] at e2
        exact absurd (by simpa using e1.symm) (key k q hk e2)
    · rw [if_neg ej] at e1
      by_cases ek : k = i
      · rw [if_pos ek] at e2
        exact absurd (by simpa using e2.symm) (key j q hj e1)
      · rw [if_neg ek] at e2
        exact h.d3 j k q hj hk e1 e2
end Go.Mp
