/- What an operation on wheels leaves: the blocks that are not the wheels' stay. No program. -/
import Derived.Test.YtddajaikighjlaaMo
import Derived.Deep.QuietTactic
namespace Go.Mp
open Go.RowKit Go.ChangeMaps Go.Wh

theorem below_drewN (B : Nat) (w : World) (n : Nat) : Below B w (w.drewN n) := ⟨rfl, rfl, rfl, Nat.le_refl _, fun _ _ => rfl⟩
theorem below_drew (B : Nat) (w : World) : Below B w w.drew := ⟨rfl, rfl, rfl, Nat.le_refl _, fun _ _ => rfl⟩
structure Step (R R' : Refs) (X : Nat) (w w' : World) : Prop where
  os : w'.os = w.os
  tape : w'.tape = w.tape
  output : w'.output = w.output
  size : w.heap.size ≤ w'.heap.size
  block : ∀ k, k < w.heap.size → ¬ Foot R X k → w'.heap[k]? = w.heap[k]?
  foot : ∀ k, Foot R' X k → Foot R X k ∨ w.heap.size ≤ k
theorem Step.refl (R : Refs) (X : Nat) (w : World) : Step R R X w w := ⟨rfl, rfl, rfl, Nat.le_refl _, fun _ _ _ => rfl, fun _ h => Or.inl h⟩
theorem Step.trans {R R' R'' : Refs} {X : Nat} {w w' w'' : World} (h : Step R R' X w w') (h2 : Step R' R'' X w' w'') : Step R R'' X w w'' :=
  ⟨h2.os.trans h.os, h2.tape.trans h.tape, h2.output.trans h.output, Nat.le_trans h.size h2.size,
    fun k hk hf => (h2.block k (Nat.lt_of_lt_of_le hk h.size) (fun h3 => (h.foot k h3).elim hf (fun h4 => absurd h4 (by omega)))).trans (h.block k hk hf),
    fun k hk => (h2.foot k hk).elim (fun h3 => h.foot k h3) (fun h3 => Or.inr (Nat.le_trans h.size h3))⟩
theorem Step.of_below {R : Refs} {X : Nat} {w w' : World} (h : Below w.heap.size w w') : Step R R X w w' :=
  ⟨h.os, h.tape, h.output, h.size, fun k hk _ => h.block k hk, fun _ h => Or.inl h⟩
theorem Step.of_grown {R : Refs} {X r : Nat} {w w' : World} (h : w.grownBy w' (some r)) (hr : Foot R X r) : Step R R X w w' :=
  ⟨h.os, h.tape, h.output, h.size, fun k hk hf => h.block k hk (fun e => by cases e; exact hf hr), fun _ h => Or.inl h⟩
theorem Step.of_cell {R : Refs} {X j : Nat} {w : World} (v : Value) : Step R R X w (w.setCell ⟨X, j, none⟩ v) := by
  refine ⟨rfl, rfl, rfl, ?_, fun k _ hf => Below.heap_setCell w ⟨X, j, none⟩ v k (fun e => hf (Or.inl e)), fun _ h => Or.inl h⟩
  show w.heap.size ≤ (w.heap.modify _ _).size
  rw [Array.size_modify]
  exact Nat.le_refl _
theorem size_setCell (w : World) (a : Addr) (v : Value) : (w.setCell a v).heap.size = w.heap.size := by
  show (w.heap.modify _ _).size = _
  rw [Array.size_modify]
theorem Step.put {R R' : Refs} {X : Nat} {w w' : World} (h : Step R R' X w w') {a : Addr} (ha : w.heap.size ≤ a.block) (v : Value) : Step R R' X w (w'.setCell a v) :=
  ⟨h.os, h.tape, h.output, by rw [size_setCell]; exact h.size, fun k hk hf => (Below.heap_setCell w' a v k (by omega)).trans (h.block k hk hf), h.foot⟩
theorem WhAt.put {R : Refs} {w : World} {X : Nat} {W : Wh} (h : WhAt R w X W) {a : Addr} (ha : ¬ Foot R X a.block) (v : Value) : WhAt R (w.setCell a v) X W :=
  h.same fun k hk => Below.heap_setCell w a v k (fun e => ha (e ▸ hk))
/-- A nil slot gets a map that was just made. -/
theorem Step.newSlot {R : Refs} {X i r : Nat} {w w' : World} (h : Step R R X w w') (hr : w.heap.size ≤ r) : Step R (R.with i r) X w w' :=
  ⟨h.os, h.tape, h.output, h.size, h.block, fun k hk => by
    rcases hk with rfl | rfl | rfl | ⟨j, hj, e⟩
    · exact Or.inl (Or.inl rfl)
    · exact Or.inl (Or.inr (Or.inl rfl))
    · exact Or.inl (Or.inr (Or.inr (Or.inl rfl)))
    · have e' : (if j = i then some r else R.sl j) = some k := e
      by_cases hji : j = i
      · rw [if_pos hji] at e'; cases e'; exact Or.inr hr
      · rw [if_neg hji] at e'; exact Or.inl (Or.inr (Or.inr (Or.inr ⟨j, hj, e'⟩)))⟩
theorem Step.below {R R' : Refs} {X n : Nat} {w w' : World} (h : Step R R' X w w') (hn : n ≤ w.heap.size) (hf : ∀ k, Foot R X k → n ≤ k) : Below n w w' :=
  ⟨h.os, h.tape, h.output, h.size, fun k hk => h.block k (by omega) (fun h2 => by have := hf k h2; omega)⟩
theorem Foot.slot {R : Refs} {X i r : Nat} (hi : i < 448) (h : R.sl i = some r) : Foot R X r := Or.inr (Or.inr (Or.inr ⟨i, hi, h⟩))
theorem WhAt.slotAt {R : Refs} {w : World} {X : Nat} {W : Wh} (h : WhAt R w X W) {i r : Nat} (hi : i < 448) (hr : R.sl i = some r) : MapI w r (mv Value.bool (W.sl.getD i [])) := by
  have := h.ms i hi
  rw [hr] at this
  exact this
theorem WhAt.slot_ne {R : Refs} {w : World} {X : Nat} {W : Wh} (h : WhAt R w X W) {i r : Nat} (hi : i < 448) (hr : R.sl i = some r) : X ≠ r := by
  obtain ⟨cs, hb, -⟩ := h.blk
  exact Ne.symm ((h.slotAt hi hr).ne_cells hb)
theorem WhAt.rt_ne {R : Refs} {w : World} {X : Nat} {W : Wh} (h : WhAt R w X W) : X ≠ R.rt := by
  obtain ⟨cs, hb, -⟩ := h.blk
  exact Ne.symm (h.mt.ne_cells hb)
theorem WhAt.rp_ne {R : Refs} {w : World} {X : Nat} {W : Wh} (h : WhAt R w X W) : X ≠ R.rp := by
  obtain ⟨cs, hb, -⟩ := h.blk
  exact Ne.symm (h.mp.ne_cells hb)
/-- What is no block of the wheels is not X, not a map. -/
theorem WhAt.apart {R : Refs} {w : World} {X k : Nat} {W : Wh} (h : WhAt R w X W) {cs : Array Value} {t : TypeId} {f : Nat × Nat} (hk : w.heap[k]? = some (.cells cs t f)) (hX : k ≠ X) : ¬ Foot R X k := by
  rintro (e | e | e | ⟨i, hi, e⟩)
  · exact hX e
  · exact h.mt.ne_cells hk e.symm
  · exact h.mp.ne_cells hk e.symm
  · exact (h.slotAt hi e).ne_cells hk rfl
theorem grown_cell {w w' : World} {r : Nat} (h : w.grownBy w' (some r)) {p : Addr} {v : Value} (hc : w.cell? p = some v) (hne : p.block ≠ r) : w'.cell? p = some v := by
  have hlt : p.block < w.heap.size := World.block_lt_of_cell? w _ hc
  exact (World.cell?_of_block (h.block p.block hlt (fun e => hne (by simpa using e)))).trans hc
theorem grown_trans {a b c : World} {r : Nat} (h : a.grownBy b (some r)) (h2 : b.grownBy c (some r)) : a.grownBy c (some r) :=
  ⟨h2.os.trans h.os, h2.tape.trans h.tape, h2.output.trans h.output, Nat.le_trans h.size h2.size, fun k hk hne => (h2.block k (Nat.lt_of_lt_of_le hk h.size) hne).trans (h.block k hk hne)⟩
theorem keep8 {w w' : World} {r : Nat} (g : w.grownBy w' (some r)) {X B P : Nat} {i j : Nat} {v1 v2 v3 v4 v5 v6 v7 v8 : Value} (hX : X ≠ r) (hB : B ≠ r) (hP : P ≠ r)
    (h : w.cell? ⟨X, i, none⟩ = some v1 ∧ w.cell? ⟨X, j, none⟩ = some v2 ∧ w.cell? ⟨B, 0, none⟩ = some v3 ∧ w.cell? ⟨B, 1, none⟩ = some v4 ∧ w.cell? ⟨B, 2, none⟩ = some v5 ∧ w.cell? ⟨B, 3, none⟩ = some v6 ∧ w.cell? ⟨P, 0, none⟩ = some v7 ∧ w.cell? ⟨P, 1, none⟩ = some v8) :
    w'.cell? ⟨X, i, none⟩ = some v1 ∧ w'.cell? ⟨X, j, none⟩ = some v2 ∧ w'.cell? ⟨B, 0, none⟩ = some v3 ∧ w'.cell? ⟨B, 1, none⟩ = some v4 ∧ w'.cell? ⟨B, 2, none⟩ = some v5 ∧ w'.cell? ⟨B, 3, none⟩ = some v6 ∧ w'.cell? ⟨P, 0, none⟩ = some v7 ∧ w'.cell? ⟨P, 1, none⟩ = some v8 :=
  ⟨grown_cell g h.1 hX, grown_cell g h.2.1 hX, grown_cell g h.2.2.1 hB, grown_cell g h.2.2.2.1 hB, grown_cell g h.2.2.2.2.1 hB, grown_cell g h.2.2.2.2.2.1 hB, grown_cell g h.2.2.2.2.2.2.1 hP, grown_cell g h.2.2.2.2.2.2.2 hP⟩
/-- The timers' map gets an entry, in two steps. -/
theorem WhAt.entT {R : Refs} {w : World} {X : Nat} {W : Wh} (h : WhAt R w X W) {P : Program} {t k e : TypeId} (ht : P.underlying t = some (.map k e)) (hk : P.underlying k = some (.int .i64)) {z : Value} (hz : ∀ w, (zeroValue e).run P w = .ok z w) (x : Int) (v : Tm) :
    ∃ w1 w2 u st, (Instr.mapEntry t (.map (some R.rt)) (.int .i64 x)).run P w = .ok (.tuple #[u, .int .i64 (st : Nat)]) w1 ∧ (Instr.entryStore t (.map (some R.rt)) (.int .i64 (st : Nat)) (tmV v)).run P w1 = .ok () w2 ∧
      w.grownBy w1 (some R.rt) ∧ w1.grownBy w2 (some R.rt) ∧ WhAt R w2 X { W with tm := putA W.tm x v } := by
  obtain ⟨w1, st, run1, m1, s1, g1, z1⟩ := run_mapEntry (P := P) ht hk hz h.mt x
  obtain ⟨w2, run2, m2, g2, z2⟩ := run_entryStore (P := P) (t := t) m1 s1 (tmV v)
  rw [put_put, mv_put] at m2
  exact ⟨w1, w2, _, st, run1, run2, g1, g2, h.turnT m2 (grown_trans g1 g2)⟩
theorem WhAt.entP {R : Refs} {w : World} {X : Nat} {W : Wh} (h : WhAt R w X W) {P : Program} {t k e : TypeId} (ht : P.underlying t = some (.map k e)) (hk : P.underlying k = some (.int .i64)) {z : Value} (hz : ∀ w, (zeroValue e).run P w = .ok z w) (x : Int) (v : Int × Int) :
    ∃ w1 w2 u st, (Instr.mapEntry t (.map (some R.rp)) (.int .i64 x)).run P w = .ok (.tuple #[u, .int .i64 (st : Nat)]) w1 ∧ (Instr.entryStore t (.map (some R.rp)) (.int .i64 (st : Nat)) (plV v)).run P w1 = .ok () w2 ∧
      w.grownBy w1 (some R.rp) ∧ w1.grownBy w2 (some R.rp) ∧ WhAt R w2 X { W with pl := putA W.pl x v } := by
  obtain ⟨w1, st, run1, m1, s1, g1, z1⟩ := run_mapEntry (P := P) ht hk hz h.mp x
  obtain ⟨w2, run2, m2, g2, z2⟩ := run_entryStore (P := P) (t := t) m1 s1 (plV v)
  rw [put_put, mv_put] at m2
  exact ⟨w1, w2, _, st, run1, run2, g1, g2, h.turnP m2 (grown_trans g1 g2)⟩
end Go.Mp
