/- Slices as lists: what a slice's value reads as in a world; how that lasts. No program. -/
import Derived.WalkKit
import Derived.Below
import Derived.Lib.Hide
import Derived.Carry
import Derived.Deep.Draws
import Derived.Maps.AppendAt
import Derived.BigFrame
namespace Go.Sl
open Go.RowKit

theorem _root_.Go.RowKit.Below.then {w0 w1 w2 : World} (h : Below w0.heap.size w0 w1) (k : Below w1.heap.size w1 w2) : Below w0.heap.size w0 w2 := h.trans (k.mono h.size)
theorem _root_.Go.RowKit.Below.drewN {B : Nat} {w W : World} (h : Below B w W) (n : Nat) : Below B w (W.drewN n) := ⟨h.os, h.tape, h.output, h.size, h.block⟩
theorem _root_.Go.RowKit.Below.at_cell {w w' : World} (hb : Below w.heap.size w w') {a : Addr} {v : Value} (hc : w.cell? a = some v) : w'.cell? a = some v :=
  (hb.cell (World.block_lt_of_cell? w _ hc)).trans hc

/-- A slice of n elements of sz cells each reads as the cells cs. -/
def SlV (w : World) (v : Value) (n sz : Nat) (cs : List Value) : Prop :=
  cs.length = n * sz ∧ ((n = 0 ∧ (v = .slice none 0 0 ∨ ∃ ad cap, v = .slice (some ad) 0 cap)) ∨
    (0 < n ∧ ∃ b o cap, v = .slice (some ⟨b, o, none⟩) n cap ∧ ∀ i u, cs[i]? = some u → w.cell? ⟨b, o + i, none⟩ = some u))

theorem SlV.below {w w' : World} {v : Value} {n sz : Nat} {cs : List Value} (h : SlV w v n sz cs) (hb : Below w.heap.size w w') : SlV w' v n sz cs := by
  obtain ⟨hl, h | ⟨h0, b, o, cap, hv, hc⟩⟩ := h
  · exact ⟨hl, Or.inl h⟩
  · exact ⟨hl, Or.inr ⟨h0, b, o, cap, hv, fun i u hi => hb.at_cell (hc i u hi)⟩⟩
theorem SlV.form {w : World} {v : Value} {n sz : Nat} {cs : List Value} (h : SlV w v n sz cs) : ∃ a cap, v = .slice a n cap := by
  obtain ⟨_, ⟨rfl, rfl | ⟨a, c, rfl⟩⟩ | ⟨_, b, o, c, rfl, _⟩⟩ := h
  · exact ⟨_, _, rfl⟩
  · exact ⟨_, _, rfl⟩
  · exact ⟨_, _, rfl⟩
theorem SlV.nil (w : World) (sz : Nat) : SlV w (.slice none 0 0) 0 sz [] := ⟨by simp, Or.inl ⟨rfl, Or.inl rfl⟩⟩
theorem SlV.of_owns {w : World} {base : Nat} {e : TypeId} {sz : Nat} {v : Value} {n : Nat} {cs : List Value} (h : w.ownsRow base e sz v n cs) : SlV w v n sz cs := by
  refine ⟨h.1, ?_⟩
  rcases h.2 with ⟨rfl, rfl⟩ | ⟨g, cap, cur, rfl, _, _, _, _, _, _⟩
  · exact Or.inl ⟨rfl, Or.inl rfl⟩
  · by_cases hn : n = 0
    · subst hn; exact Or.inl ⟨rfl, Or.inr ⟨_, _, rfl⟩⟩
    · refine Or.inr ⟨by omega, g, 0, cap, rfl, fun i u hi => ?_⟩
      have hlt : i < n * sz := by
        have := (List.getElem?_eq_some_iff.1 hi).1
        rw [h.1] at this; exact this
      have := h.cellAt i hlt
      rw [Nat.zero_add, this, hi]

/-- A slice of ints. -/
def SlI (w : World) (v : Value) (xs : List Int) : Prop := SlV w v xs.length 1 (xs.map (Value.int .i64))
theorem SlI.below {w w' : World} {v : Value} {xs : List Int} (h : SlI w v xs) (hb : Below w.heap.size w w') : SlI w' v xs := SlV.below h hb
theorem SlI.form {w : World} {v : Value} {xs : List Int} (h : SlI w v xs) : ∃ a cap, v = .slice a xs.length cap := SlV.form h
theorem SlI.nil (w : World) : SlI w (.slice none 0 0) [] := SlV.nil w 1
theorem SlI.cases {w : World} {v : Value} {xs : List Int} (h : SlI w v xs) : (xs = [] ∧ ∃ a cap, v = .slice a 0 cap) ∨
    (0 < xs.length ∧ ∃ b o cap, v = .slice (some ⟨b, o, none⟩) xs.length cap ∧ ∀ i, i < xs.length → w.cell? ⟨b, o + i, none⟩ = some (.int .i64 (xs.getD i 0))) := by
  obtain ⟨_, ⟨h0, rfl | ⟨a, c, rfl⟩⟩ | ⟨h0, b, o, c, rfl, hc⟩⟩ := h
  · exact Or.inl ⟨List.eq_nil_of_length_eq_zero h0, none, 0, rfl⟩
  · exact Or.inl ⟨List.eq_nil_of_length_eq_zero h0, some a, c, rfl⟩
  · exact Or.inr ⟨h0, b, o, c, rfl, fun i hi => hc i _ (by simp [List.getD, hi])⟩
theorem SlI.cases3 {w : World} {v : Value} {xs : List Int} (h : SlI w v xs) : (xs = [] ∧ v = .slice none 0 0) ∨
    (∃ ad cap, v = .slice (some ad) xs.length cap ∧ ∀ j u, (xs.map (Value.int .i64))[j]? = some u → w.cell? (ad.add j) = some u) := by
  obtain ⟨_, ⟨h0, rfl | ⟨a, c, rfl⟩⟩ | ⟨h0, b, o, c, rfl, hc⟩⟩ := h
  · exact Or.inl ⟨List.eq_nil_of_length_eq_zero h0, rfl⟩
  · refine Or.inr ⟨a, c, by rw [h0], fun j u hu => ?_⟩
    have := List.eq_nil_of_length_eq_zero h0
    subst this
    simp at hu
  · exact Or.inr ⟨⟨b, o, none⟩, c, rfl, fun j u hu => by rw [show ((⟨b, o, none⟩ : Addr).add j) = ⟨b, o + j, none⟩ by simp [Addr.add]]; exact hc j u hu⟩
theorem SlI.of_owns {w : World} {base : Nat} {e : TypeId} {v : Value} {n : Nat} {xs : List Int} (h : w.ownsRow base e 1 v n (xs.map (Value.int .i64))) : SlI w v xs := by
  have hl := h.1
  simp only [List.length_map, Nat.mul_one] at hl
  subst hl
  exact SlV.of_owns h

theorem oneCell_ints (xs : List Int) : ∀ u ∈ xs.map (Value.int .i64), u.oneCell' = true := by
  intro u hu
  obtain ⟨x, _, rfl⟩ := List.mem_map.1 hu
  rfl
theorem owns_empty (w : World) (e : TypeId) (sz : Nat) : (w.alloc (.cells #[] e)).ownsRow w.heap.size e sz (.slice (some ⟨w.heap.size, 0, none⟩) 0 0) 0 [] :=
  ⟨by simp, Or.inr ⟨w.heap.size, 0, #[], rfl, Nat.le_refl _, by show (w.heap.push (Obj.cells #[] e))[w.heap.size]? = _; simp, Nat.le_refl _, by decide, by simp, by simp⟩⟩
theorem run_append_sl {P : Program} {w : World} (base : Nat) (t ty e : TypeId) (i : TypeInfo) (z : Value) (size bytes : Nat) (ht : P.underlying t = some (.slice e)) (hi : P.info? e = some i) (hz : i.zero = some z)
    (hsize : i.size = size) (hby : i.bytes = bytes) (hzs : z.cells.size = size) (hsz : 0 < size) (v : Value) (n : Nat) (xs : List Value) (hown : w.ownsRow base e size v n xs)
    (u : Value) (m : Nat) (news : List Value) (hu : SlV w u m size news) (h1 : ∀ c ∈ news, c.oneCell' = true) (h63 : n + m ≤ maxLen) (hbytes : (n + m) * bytes ≤ 140737488355328) (hbase : base ≤ w.heap.size) :
    ∃ v' w', (Builtin.append_ #[t, t] ty #[v, u]).run P w = .ok v' w' ∧ w'.ownsRow base e size v' (n + m) (xs ++ news) ∧ w.grownBy w' v.ownBlock := by
  have hl := hu.1
  rcases hu.2 with ⟨rfl, rfl | ⟨ad, c, rfl⟩⟩ | ⟨h0, b, o, c, rfl, hc⟩
  · have hn : news = [] := List.eq_nil_of_length_eq_zero (by simpa using hl)
    subst hn
    exact ⟨v, w, run_append_owned_none (P := P) (w := w) base t ty e i size ht hi v n xs hown, by simpa using hown, ⟨rfl, rfl, rfl, Nat.le_refl _, fun _ _ _ => rfl⟩⟩
  · have hn : news = [] := List.eq_nil_of_length_eq_zero (by simpa using hl)
    subst hn
    obtain ⟨v', w', hr, h2, h3, -⟩ := run_append_own (P := P) (w := w) base t ty e i z size bytes ht hi hz hsize hby hzs hsz v n xs hown ad 0 c [] (by simp) (fun j u hj => by simp at hj) (fun u hu => by simp at hu) h63 hbytes hbase
    exact ⟨v', w', hr, h2, h3⟩
  · obtain ⟨v', w', hr, h2, h3, -⟩ := run_append_own (P := P) (w := w) base t ty e i z size bytes ht hi hz hsize hby hzs hsz v n xs hown ⟨b, o, none⟩ m c news hl (fun j u hj => by rw [Go.WideShapes.add_plain]; exact hc j u hj) h1 h63 hbytes hbase
    exact ⟨v', w', hr, h2, h3⟩

theorem wpList_append_sl {P : Program} {ops : Array Oper} {rest : List Oper} {o : Oper} {a : Act} {w : World} {Q : Exit → Act → World → Prop}
    (hg : o.guard = none) (s x : Operand) (t : TypeId) (hop : o.op = Op.call { callee := Callee.builtin Builtin.append, args := #[s, x], argTypes := #[t, t] })
    (base : Nat) (e : TypeId) (i : TypeInfo) (z : Value) (size bytes : Nat) (ht : P.underlying t = some (.slice e)) (hi : P.info? e = some i) (hz : i.zero = some z)
    (hsize : i.size = size) (hby : i.bytes = bytes) (hzs : z.cells.size = size) (hsz : 0 < size) (v : Value) (n : Nat) (xs : List Value) (hs : a.eval s = v) (hown : w.ownsRow base e size v n xs)
    (u : Value) (m : Nat) (news : List Value) (hx : a.eval x = u) (hu : SlV w u m size news) (h1 : ∀ c ∈ news, c.oneCell' = true) (h63 : n + m ≤ maxLen) (hbytes : (n + m) * bytes ≤ 140737488355328) (hbase : base ≤ w.heap.size)
    (hK : ∀ v' w', w'.ownsRow base e size v' (n + m) (xs ++ news) → w.grownBy w' v.ownBlock → wpList P ops Q rest (a.put o.dst v') w') :
    wpList P ops Q (o :: rest) a w := by
  refine wpList_plain hg fun K hK' => ?_
  obtain ⟨v', w', hrun, r1, r2⟩ := run_append_sl (P := P) base t o.type e i z size bytes ht hi hz hsize hby hzs hsz v n xs hown u m news hu h1 h63 hbytes hbase
  unfold Oper.wp
  simp [execOp, hop, resolve, invoke, builtin, hs, hx, hrun, Result.andThen]
  exact hK' _ _ (hK v' w' r1 r2)
end Go.Sl
