/- Operations that came in. -/
import Derived.Test.YtjnlfibcpkobaaaOp
namespace Go.Proofs.Ytjnlfibcpkobaaa
open Go.RowKit Go.Sl Go.Sched

structure OpD where
  kind : Int
  worker : Int
  task : Int
  choice : Int
def OpD.fits (o : OpD) : Prop := (0 ≤ o.kind ∧ o.kind < 256) ∧ (0 ≤ o.worker ∧ o.worker < 256)
def opC (o : OpD) : List Value := [.int .u8 o.kind, .int .u8 o.worker, .int .i16 o.task, .int .i64 o.choice]
def op0 : OpD := ⟨0, 0, 0, 0⟩
theorem cof33 : Try.prog.cellsOf 33 = 4 := by kernel_rfl
theorem cof5 : Try.prog.cellsOf 5 = 1 := by kernel_rfl
theorem cof31 : Try.prog.cellsOf 31 = 1 := by kernel_rfl
theorem flatO : ∀ (l : List OpD) (k : Nat), k < l.length → (l.flatMap opC)[k * 4]? = some (.int .u8 (l.getD k op0).kind) ∧ (l.flatMap opC)[k * 4 + 1]? = some (.int .u8 (l.getD k op0).worker) ∧
    (l.flatMap opC)[k * 4 + 2]? = some (.int .i16 (l.getD k op0).task) ∧ (l.flatMap opC)[k * 4 + 3]? = some (.int .i64 (l.getD k op0).choice)
  | [], k, h => by simp at h
  | e :: l, 0, _ => by simp [opC]
  | e :: l, k + 1, h => by
    have := flatO l k (by simpa using h)
    rw [show (k + 1) * 4 = k * 4 + 4 by omega]
    simpa [opC] using this
theorem flatO_len (l : List OpD) : (l.flatMap opC).length = l.length * 4 := by
  induction l with
  | nil => rfl
  | cons e l ih => simp only [List.flatMap_cons, List.length_append, ih, opC, List.length_cons, List.length_nil]; omega
/-- A slice of operations. -/
def SlO (w : World) (v : Value) (l : List OpD) : Prop := SlV w v l.length 4 (l.flatMap opC)

theorem cells4 {w : World} {a : Addr} {cs : List Value} (h : w.cells? 0 a 4 = some cs) : ∃ x y z u, cs = [x, y, z, u] ∧ w.cell? a = some x ∧ w.cell? (a.add 1) = some y ∧ w.cell? (a.add 2) = some z ∧ w.cell? (a.add 3) = some u := by
  unfold World.cells? at h
  rw [if_pos (Nat.zero_le _)] at h
  have hl := mapM_some_length h
  have h0 := mapM_some_get h 0 0 (by simp)
  have h1 := mapM_some_get h 1 1 (by simp)
  have h2 := mapM_some_get h 2 2 (by simp)
  have h3 := mapM_some_get h 3 3 (by simp)
  simp at hl
  match cs, hl with
  | [x, y, z, u], _ => exact ⟨x, y, z, u, rfl, by simpa [Addr.add] using h0, by simpa using h1, by simpa using h2, by simpa using h3⟩
theorem bounds_u8y {n : Int} (h : (Lit.int .u8 n).wf = true) : 0 ≤ n ∧ n < 256 := by
  have := bounds_u8 h
  omega
set_option maxRecDepth 100000 in
theorem open_op {H : Type} {enc : TypeId × Value → H} {W : World} {fuel : Nat} {cs : List Value} {y : DataW H × List MemPlace} (h : DataW.trod enc Try.prog W 0 (fun _ => true) true fuel 33 cs = some y) : ∃ p : OpD, cs = opC p ∧ p.fits := by
  obtain ⟨xs, m, -, -, hl, hx, hat⟩ := DataW.trod_struct Try.underlying33 h
  rw [cof33] at hl
  have hx4 : xs.length = 4 := by simpa using hx
  match cs, hl with
  | [a, b, c, d], _ =>
    have h0 : DataW.trod enc Try.prog W 0 (fun _ => true) true m 5 (([a, b, c, d].drop 0).take (Try.prog.cellsOf 5)) = xs[0]? := hat 0 _ rfl
    have h1 : DataW.trod enc Try.prog W 0 (fun _ => true) true m 5 (([a, b, c, d].drop 1).take (Try.prog.cellsOf 5)) = xs[1]? := hat 1 _ rfl
    have h2 : DataW.trod enc Try.prog W 0 (fun _ => true) true m 31 (([a, b, c, d].drop 2).take (Try.prog.cellsOf 31)) = xs[2]? := hat 2 _ rfl
    have h3 : DataW.trod enc Try.prog W 0 (fun _ => true) true m 3 (([a, b, c, d].drop 3).take (Try.prog.cellsOf 3)) = xs[3]? := hat 3 _ rfl
    rw [cof5] at h0 h1
    rw [cof31] at h2
    rw [cof3] at h3
    rw [List.getElem?_eq_getElem (by omega)] at h0 h1 h2 h3
    simp only [List.drop_zero, List.drop_succ_cons, List.take_succ_cons, List.take_zero] at h0 h1 h2 h3
    obtain ⟨x0, e0, -, w0⟩ := DataW.trod_int Try.underlying5 h0
    obtain ⟨x1, e1, -, w1⟩ := DataW.trod_int Try.underlying5 h1
    obtain ⟨x2, e2, -⟩ := DataW.trod_int Try.underlying31 h2
    obtain ⟨x3, e3, -⟩ := DataW.trod_int Try.underlying3 h3
    simp only [List.cons.injEq, and_true] at e0 e1 e2 e3
    exact ⟨⟨x0, x1, x2, x3⟩, by simp [opC, e0, e1, e2, e3], bounds_u8y w0, bounds_u8y w1⟩
set_option maxRecDepth 100000 in
theorem open_ops {H : Type} {enc : TypeId × Value → H} {W : World} {base : Nat} {v : Value} {d : DataW H} {p : List MemPlace} (hv : Value.okWide Try.prog W .any base 22 v) (h : DataW.Trod enc Try.prog W 0 (fun _ => true) true 22 v d p) : ∃ l : List OpD, SlO W v l ∧ ∀ o ∈ l, o.fits := by
  obtain ⟨a, n, c, rfl⟩ := slice_of_ok Try.underlying22 hv
  obtain ⟨fuel, hf⟩ := h
  rcases DataW.trod_slice Try.underlying22 hf with ⟨hcs, -⟩ | ⟨ad, len, cap, elems, rest, m, -, hcs, -, -, hlc, hcm, hel, hat, -, -⟩
  · simp [Value.cells] at hcs
    obtain ⟨rfl, rfl, rfl⟩ := hcs
    exact ⟨[], SlV.nil W 4, by simp⟩
  · simp [Value.cells] at hcs
    obtain ⟨rfl, rfl, rfl⟩ := hcs
    rw [cof33] at hat
    have each : ∀ i, i < n → ∃ p : OpD, p.fits ∧ W.cell? (ad.add (i * 4)) = some (.int .u8 p.kind) ∧ W.cell? ((ad.add (i * 4)).add 1) = some (.int .u8 p.worker) ∧ W.cell? ((ad.add (i * 4)).add 2) = some (.int .i16 p.task) ∧ W.cell? ((ad.add (i * 4)).add 3) = some (.int .i64 p.choice) := by
      intro i hi
      have h1 := hat i hi
      rw [List.getElem?_eq_getElem (by omega), Option.bind_eq_some_iff] at h1
      obtain ⟨cs, h2, h3⟩ := h1
      obtain ⟨p, rfl, hp⟩ := open_op h3
      obtain ⟨x, y, z, u, e, h4, h5, h6, h7⟩ := cells4 h2
      simp only [opC, List.cons.injEq, and_true] at e
      exact ⟨p, hp, by rw [e.1]; exact h4, by rw [e.2.1]; exact h5, by rw [e.2.2.1]; exact h6, by rw [e.2.2.2]; exact h7⟩
    by_cases h0 : n = 0
    · subst h0
      exact ⟨[], ⟨by simp, Or.inl ⟨rfl, Or.inr ⟨_, _, rfl⟩⟩⟩, by simp⟩
    · obtain ⟨p0, -, hp0, -⟩ := each 0 (by omega)
      have hs := World.cell?_spot hp0
      obtain ⟨b, o, sp⟩ := ad
      simp [Addr.add] at hs
      subst hs
      have each2 : ∀ i, i < n → ∃ p : OpD, p.fits ∧ W.cell? ⟨b, o + i * 4, none⟩ = some (.int .u8 p.kind) ∧ W.cell? ⟨b, o + i * 4 + 1, none⟩ = some (.int .u8 p.worker) ∧ W.cell? ⟨b, o + i * 4 + 2, none⟩ = some (.int .i16 p.task) ∧ W.cell? ⟨b, o + i * 4 + 3, none⟩ = some (.int .i64 p.choice) := by
        intro i hi
        obtain ⟨q, hq, h1, h2, h3, h4⟩ := each i hi
        rw [Go.WideShapes.add_plain] at h1 h2 h3 h4
        rw [Go.WideShapes.add_plain] at h2 h3 h4
        exact ⟨q, hq, h1, h2, h3, h4⟩
      let f : Nat → OpD := fun i => if hi : i < n then (each2 i hi).choose else op0
      have hf2 : ∀ i, i < n → (f i).fits ∧ W.cell? ⟨b, o + i * 4, none⟩ = some (.int .u8 (f i).kind) ∧ W.cell? ⟨b, o + i * 4 + 1, none⟩ = some (.int .u8 (f i).worker) ∧ W.cell? ⟨b, o + i * 4 + 2, none⟩ = some (.int .i16 (f i).task) ∧ W.cell? ⟨b, o + i * 4 + 3, none⟩ = some (.int .i64 (f i).choice) := by
        intro i hi
        have h1 := (each2 i hi).choose_spec
        have e : f i = (each2 i hi).choose := by simp only [f, hi, dif_pos]
        rw [e]
        exact h1
      refine ⟨(List.range n).map f, ⟨?_, Or.inr ⟨?_, b, o, c, ?_, ?_⟩⟩, ?_⟩
      · rw [flatO_len]
      · simp; omega
      · simp
      · intro j u hu
        have hlt := (List.getElem?_eq_some_iff.1 hu).1
        rw [flatO_len] at hlt
        simp only [List.length_map, List.length_range] at hlt
        obtain ⟨g1, g2, g3, g4⟩ := flatO ((List.range n).map f) (j / 4) (by simp; omega)
        have hg : ((List.range n).map f).getD (j / 4) op0 = f (j / 4) := by
          simp [List.getD, show j / 4 < n by omega]
        rw [hg] at g1 g2 g3 g4
        obtain ⟨-, c1, c2, c3, c4⟩ := hf2 (j / 4) (by omega)
        have hm : j = j / 4 * 4 + j % 4 := by omega
        have h2 : j % 4 = 0 ∨ j % 4 = 1 ∨ j % 4 = 2 ∨ j % 4 = 3 := by omega
        rcases h2 with h2 | h2 | h2 | h2
        · rw [h2, Nat.add_zero] at hm
          rw [← hm] at g1 c1
          rw [g1] at hu
          cases hu
          exact c1
        · rw [h2] at hm
          rw [← hm] at g2
          rw [Nat.add_assoc, ← hm] at c2
          rw [g2] at hu
          cases hu
          exact c2
        · rw [h2] at hm
          rw [← hm] at g3
          rw [Nat.add_assoc, ← hm] at c3
          rw [g3] at hu
          cases hu
          exact c3
        · rw [h2] at hm
          rw [← hm] at g4
          rw [Nat.add_assoc, ← hm] at c4
          rw [g4] at hu
          cases hu
          exact c4
      · intro x hx
        obtain ⟨i, hi, rfl⟩ := List.mem_map.1 hx
        exact (hf2 i (by simpa using hi)).1
end Go.Proofs.Ytjnlfibcpkobaaa
