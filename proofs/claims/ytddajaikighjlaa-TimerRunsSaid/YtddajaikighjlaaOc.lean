/- Operations that came in. -/
import Derived.Test.YtddajaikighjlaaOa
import Derived.Test.YtddajaikighjlaaSo
namespace Go.Proofs.Ytddajaikighjlaa
open Go.ChangeShapes Go.WideShapes Go.ChangeAt Go.RowKit Go.LawRow Go.Sl Go.Mp

/-- An operation. -/
structure OpT where
  kind : Int
  id : Int
  time : Int
  iv : Int
def encO (o : OpT) : List Value := [.int .u8 o.kind, .int .u8 o.id, .int .i32 o.time, .int .i32 o.iv]
theorem encO_len (o : OpT) : (encO o).length = 4 := rfl
def OpT.ok (o : OpT) : Prop := 0 ≤ o.kind ∧ o.kind < 256 ∧ 0 ≤ o.id ∧ o.id < 256 ∧ -2147483648 ≤ o.time ∧ o.time < 2147483648 ∧ -2147483648 ≤ o.iv ∧ o.iv < 2147483648
theorem cof44 : Try.prog.cellsOf 44 = 4 := by kernel_rfl
theorem cof5 : Try.prog.cellsOf 5 = 1 := by kernel_rfl
theorem cof21 : Try.prog.cellsOf 21 = 1 := by kernel_rfl
theorem cells4 {w : World} {a : Addr} {cs : List Value} (h : w.cells? 0 a 4 = some cs) : ∃ x y z u, cs = [x, y, z, u] ∧ w.cell? a = some x ∧ w.cell? (a.add 1) = some y ∧ w.cell? (a.add 2) = some z ∧ w.cell? (a.add 3) = some u := by
  unfold World.cells? at h
  rw [if_pos (Nat.zero_le _)] at h
  have hl := mapM_some_length h
  have h0 := mapM_some_get h 0 0 (by simp)
  have h1 := mapM_some_get h 1 1 (by simp)
  have h2 := mapM_some_get h 2 2 (by simp)
  have h3 := mapM_some_get h 3 3 (by simp)
  simp at hl
  match cs, hl with
  | [x, y, z, u], _ =>
    refine ⟨x, y, z, u, rfl, ?_, ?_, ?_, ?_⟩
    · simpa [Addr.add] using h0
    · simpa using h1
    · simpa using h2
    · simpa using h3
theorem bounds_i32z {n : Int} (h : (Lit.int .i32 n).wf = true) : -2147483648 ≤ n ∧ n < 2147483648 := by
  have := bounds_i32 h
  omega
set_option maxRecDepth 100000 in
theorem open_op {H : Type} {enc : TypeId × Value → H} {W : World} {fuel : Nat} {cs : List Value} {y : DataW H × List MemPlace} (h : DataW.trod enc Try.prog W 0 (fun _ => true) true fuel 44 cs = some y) : ∃ o : OpT, cs = encO o ∧ o.ok := by
  obtain ⟨xs, m, -, -, hl, hx, hat⟩ := DataW.trod_struct Try.underlying44 h
  rw [cof44] at hl
  match cs, hl, hx with
  | [a, b, c, d], _, hx =>
    have h0 : DataW.trod enc Try.prog W 0 (fun _ => true) true m 5 (([a, b, c, d].drop 0).take (Try.prog.cellsOf 5)) = xs[0]? := hat 0 _ rfl
    have h1 : DataW.trod enc Try.prog W 0 (fun _ => true) true m 5 (([a, b, c, d].drop 1).take (Try.prog.cellsOf 5)) = xs[1]? := hat 1 _ rfl
    have h2 : DataW.trod enc Try.prog W 0 (fun _ => true) true m 21 (([a, b, c, d].drop 2).take (Try.prog.cellsOf 21)) = xs[2]? := hat 2 _ rfl
    have h3 : DataW.trod enc Try.prog W 0 (fun _ => true) true m 21 (([a, b, c, d].drop 3).take (Try.prog.cellsOf 21)) = xs[3]? := hat 3 _ rfl
    rw [cof5] at h0 h1
    rw [cof21] at h2 h3
    simp only [List.size_toArray, List.length_cons, List.length_nil] at hx
    simp only [List.drop_zero, List.drop_succ_cons] at h0 h1 h2 h3
    rw [List.getElem?_eq_getElem (by omega)] at h0 h1 h2 h3
    simp only [List.take_succ_cons, List.take_zero] at h0 h1 h2 h3
    obtain ⟨x, e0, -, f0⟩ := DataW.trod_int Try.underlying5 h0
    obtain ⟨z, e1, -, f1⟩ := DataW.trod_int Try.underlying5 h1
    obtain ⟨p, e2, -, f2⟩ := DataW.trod_int Try.underlying21 h2
    obtain ⟨q, e3, -, f3⟩ := DataW.trod_int Try.underlying21 h3
    simp only [List.cons.injEq, and_true] at e0 e1 e2 e3
    have b0 := bounds_u8z f0
    have b1 := bounds_u8z f1
    have b2 := bounds_i32z f2
    have b3 := bounds_i32z f3
    exact ⟨⟨x, z, p, q⟩, by simp [encO, e0, e1, e2, e3], b0.1, b0.2, b1.1, b1.2, b2.1, b2.2, b3.1, b3.2⟩
/-- A slice of operations. -/
def SlO (w : World) (v : Value) (l : List OpT) : Prop := SlV w v l.length 4 (l.flatMap encO)
theorem SlO.at {w : World} {v : Value} {l : List OpT} (h : SlO w v l) {k : Nat} {o : OpT} (hk : l[k]? = some o) : ∃ g f cap, v = .slice (some ⟨g, f, none⟩) l.length cap ∧ w.cell? ⟨g, f + k * 4, none⟩ = some (.int .u8 o.kind) ∧ w.cell? ⟨g, f + k * 4 + 1, none⟩ = some (.int .u8 o.id) ∧
    w.cell? ⟨g, f + k * 4 + 2, none⟩ = some (.int .i32 o.time) ∧ w.cell? ⟨g, f + k * 4 + 3, none⟩ = some (.int .i32 o.iv) := by
  have hlt := (List.getElem?_eq_some_iff.1 hk).1
  rcases h.2 with ⟨h0, -⟩ | ⟨h0, g, f, cap, rfl, hc⟩
  · omega
  · have hg : ∀ j, j < 4 → (l.flatMap encO)[k * 4 + j]? = (encO o)[j]? := fun j hj => by
      rw [flat_get encO 4 encO_len (by omega), show (k * 4 + j) / 4 = k by omega, show (k * 4 + j) % 4 = j by omega, hk]
      rfl
    refine ⟨g, f, cap, rfl, hc (k * 4) _ (hg 0 (by omega)), ?_, ?_, ?_⟩
    · rw [Nat.add_assoc]; exact hc (k * 4 + 1) _ (hg 1 (by omega))
    · rw [Nat.add_assoc]; exact hc (k * 4 + 2) _ (hg 2 (by omega))
    · rw [Nat.add_assoc]; exact hc (k * 4 + 3) _ (hg 3 (by omega))
set_option maxRecDepth 100000 in
theorem open_ops {H : Type} {enc : TypeId × Value → H} {W : World} {base : Nat} {v : Value} {d : DataW H} {p : List MemPlace} (hv : Value.okWide Try.prog W .any base 37 v) (h : DataW.Trod enc Try.prog W 0 (fun _ => true) true 37 v d p) : ∃ l : List OpT, SlO W v l ∧ ∀ o ∈ l, o.ok := by
  obtain ⟨a, n, c, rfl⟩ := slice_of_ok Try.underlying37 hv
  obtain ⟨fuel, hf⟩ := h
  rcases DataW.trod_slice Try.underlying37 hf with ⟨hcs, -⟩ | ⟨ad, len, cap, elems, rest, m, -, hcs, -, -, hlc, hcm, hel, hat, -, -⟩
  · simp [Value.cells] at hcs
    obtain ⟨rfl, rfl, rfl⟩ := hcs
    exact ⟨[], SlV.nil W 4, by simp⟩
  · simp [Value.cells] at hcs
    obtain ⟨rfl, rfl, rfl⟩ := hcs
    rw [cof44] at hat
    have each : ∀ i, ∃ o : OpT, o.ok ∧ (i < n → W.cell? (ad.add (i * 4)) = some (.int .u8 o.kind) ∧ W.cell? ((ad.add (i * 4)).add 1) = some (.int .u8 o.id) ∧ W.cell? ((ad.add (i * 4)).add 2) = some (.int .i32 o.time) ∧ W.cell? ((ad.add (i * 4)).add 3) = some (.int .i32 o.iv)) := by
      intro i
      by_cases hi : i < n
      · have h1 := hat i hi
        rw [List.getElem?_eq_getElem (by omega), Option.bind_eq_some_iff] at h1
        obtain ⟨cs, h2, h3⟩ := h1
        obtain ⟨o, rfl, hok⟩ := open_op h3
        obtain ⟨x, y, z, u, e, h4, h5, h6, h7⟩ := cells4 h2
        simp only [encO, List.cons.injEq, and_true] at e
        exact ⟨o, hok, fun _ => ⟨by rw [e.1]; exact h4, by rw [e.2.1]; exact h5, by rw [e.2.2.1]; exact h6, by rw [e.2.2.2]; exact h7⟩⟩
      · exact ⟨⟨0, 0, 0, 0⟩, by unfold OpT.ok; simp only; omega, fun h => absurd h hi⟩
    refine ⟨(List.range n).map fun i => Classical.choose (each i), ?_, fun o ho => ?_⟩
    · refine ⟨by rw [flat_len encO 4 encO_len], ?_⟩
      simp only [List.length_map, List.length_range]
      by_cases h0 : n = 0
      · subst h0
        exact Or.inl ⟨rfl, Or.inr ⟨_, _, rfl⟩⟩
      · obtain ⟨-, hs0⟩ := Classical.choose_spec (each 0)
        have hsp := World.cell?_spot (hs0 (by omega)).1
        obtain ⟨b, f, sp⟩ := ad
        simp [Addr.add] at hsp
        subst hsp
        refine Or.inr ⟨by omega, b, f, c, rfl, fun i u hu => ?_⟩
        rw [flat_get encO 4 encO_len (by omega), List.getElem?_map] at hu
        obtain ⟨o, ho, hu⟩ := Option.bind_eq_some_iff.1 hu
        obtain ⟨j, hj, rfl⟩ := Option.map_eq_some_iff.1 ho
        obtain ⟨hj1, hj2⟩ := List.getElem?_eq_some_iff.1 hj
        simp only [List.getElem_range] at hj2
        simp only [List.length_range] at hj1
        subst hj2
        obtain ⟨-, hs⟩ := Classical.choose_spec (each (i / 4))
        obtain ⟨oo, hoo⟩ : ∃ oo, Classical.choose (each (i / 4)) = oo := ⟨_, rfl⟩
        rw [hoo] at hs hu
        clear hoo
        obtain ⟨h1, h2, h3, h4⟩ := hs hj1
        have e1 : ((⟨b, f, none⟩ : Addr).add (i / 4 * 4)) = ⟨b, f + i / 4 * 4, none⟩ := Go.WideShapes.add_plain _ _ _
        rw [e1] at h1 h2 h3 h4
        rw [Go.WideShapes.add_plain] at h2 h3 h4
        have hm : i % 4 = 0 ∨ i % 4 = 1 ∨ i % 4 = 2 ∨ i % 4 = 3 := by omega
        rcases hm with hm | hm | hm | hm <;> rw [hm] at hu <;> simp only [encO, List.getElem?_cons_zero, List.getElem?_cons_succ, Option.some.injEq] at hu <;> subst hu
        · rw [show f + i = f + i / 4 * 4 by omega]; exact h1
        · rw [show f + i = f + i / 4 * 4 + 1 by omega]; exact h2
        · rw [show f + i = f + i / 4 * 4 + 2 by omega]; exact h3
        · rw [show f + i = f + i / 4 * 4 + 3 by omega]; exact h4
    · obtain ⟨i, -, rfl⟩ := List.mem_map.1 ho
      exact (Classical.choose_spec (each i)).1
end Go.Proofs.Ytddajaikighjlaa
