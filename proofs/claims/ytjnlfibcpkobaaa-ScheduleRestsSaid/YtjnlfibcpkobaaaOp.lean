/- A script that came in. -/
import Derived.Test.YtjnlfibcpkobaaaPp
import Derived.OpenShut
namespace Go.Proofs.Ytjnlfibcpkobaaa
open Go.RowKit Go.Sl Go.Sched

theorem cof62 : Try.prog.cellsOf 62 = 2 := by kernel_rfl
theorem cof3 : Try.prog.cellsOf 3 = 1 := by kernel_rfl
theorem flat2_len (l : List (Int × Int)) : (l.flatMap prC).length = l.length * 2 := by
  induction l with
  | nil => rfl
  | cons e l ih => simp only [List.flatMap_cons, List.length_append, ih, prC, List.length_cons, List.length_nil]; omega
set_option maxRecDepth 100000 in
theorem slice_of_ok {W : World} {base : Nat} {v : Value} {t e : TypeId} (hu : Try.prog.underlying t = some (.slice e)) (hv : Value.okWide Try.prog W .any base t v) : ∃ a n c, v = .slice a n c := by
  unfold Value.okWide Cell.okWide Cell.ok at hv
  simp only [hu] at hv
  cases v <;> simp_all
theorem spot_none {w : World} {a : Addr} {v : Value} (h : w.cell? a = some v) : a = ⟨a.block, a.off, none⟩ := by
  have := World.cell?_spot h
  obtain ⟨b, o, s⟩ := a
  simp only at this
  rw [this]
theorem cells2 {w : World} {a : Addr} {cs : List Value} (h : w.cells? 0 a 2 = some cs) : ∃ x y, cs = [x, y] ∧ w.cell? a = some x ∧ w.cell? (a.add 1) = some y := by
  unfold World.cells? at h
  rw [if_pos (Nat.zero_le _)] at h
  have hl := mapM_some_length h
  have h0 := mapM_some_get h 0 0 (by simp)
  have h1 := mapM_some_get h 1 1 (by simp)
  simp at hl
  match cs, hl with
  | [x, y], _ =>
    refine ⟨x, y, rfl, ?_, ?_⟩
    · simpa [Addr.add] using h0
    · simpa using h1
set_option maxRecDepth 100000 in
theorem open_pair {H : Type} {enc : TypeId × Value → H} {W : World} {fuel : Nat} {cs : List Value} {y : DataW H × List MemPlace} (h : DataW.trod enc Try.prog W 0 (fun _ => true) true fuel 62 cs = some y) : ∃ p : Int × Int, cs = prC p := by
  obtain ⟨xs, m, -, -, hl, hx, hat⟩ := DataW.trod_array Try.underlying62 h
  rw [cof62] at hl
  match cs, hl with
  | [a, b], _ =>
    have h0 := hat 0 (by omega)
    have h1 := hat 1 (by omega)
    rw [cof3] at h0 h1
    simp only [Nat.zero_mul, List.drop_zero, Nat.one_mul, List.drop_succ_cons] at h0 h1
    rw [List.getElem?_eq_getElem (by omega)] at h0 h1
    simp only [List.take_succ_cons, List.take_zero] at h0 h1
    obtain ⟨x, e0, -⟩ := DataW.trod_int Try.underlying3 h0
    obtain ⟨z, e1, -⟩ := DataW.trod_int Try.underlying3 h1
    simp only [List.cons.injEq, and_true] at e0 e1
    exact ⟨(x, z), by simp [prC, e0, e1]⟩


set_option maxRecDepth 100000 in
theorem open_script {H : Type} {enc : TypeId × Value → H} {W : World} {base : Nat} {v : Value} {d : DataW H} {p : List MemPlace} (hv : Value.okWide Try.prog W .any base 61 v) (h : DataW.Trod enc Try.prog W 0 (fun _ => true) true 61 v d p) : ∃ l : List (Int × Int), SlP W v l ∧ l.length ≤ maxLen := by
  obtain ⟨a, n, c, rfl⟩ := slice_of_ok Try.underlying61 hv
  obtain ⟨fuel, hf⟩ := h
  rcases DataW.trod_slice Try.underlying61 hf with ⟨hcs, -⟩ | ⟨ad, len, cap, elems, rest, m, -, hcs, -, -, hlc, hcm, hel, hat, -, -⟩
  · simp [Value.cells] at hcs
    obtain ⟨rfl, rfl, rfl⟩ := hcs
    exact ⟨[], SlV.nil W 2, by simp⟩
  · simp [Value.cells] at hcs
    obtain ⟨rfl, rfl, rfl⟩ := hcs
    rw [cof62] at hat
    have each : ∀ i, i < n → ∃ p : Int × Int, W.cell? (ad.add (i * 2)) = some (.int .i64 p.1) ∧ W.cell? ((ad.add (i * 2)).add 1) = some (.int .i64 p.2) := by
      intro i hi
      have h1 := hat i hi
      rw [List.getElem?_eq_getElem (by omega), Option.bind_eq_some_iff] at h1
      obtain ⟨cs, h2, h3⟩ := h1
      obtain ⟨p, rfl⟩ := open_pair h3
      obtain ⟨x, y, e, h4, h5⟩ := cells2 h2
      simp only [prC, List.cons.injEq, and_true] at e
      exact ⟨p, by rw [e.1]; exact h4, by rw [e.2]; exact h5⟩
    by_cases h0 : n = 0
    · subst h0
      exact ⟨[], ⟨by simp, Or.inl ⟨rfl, Or.inr ⟨_, _, rfl⟩⟩⟩, by simp⟩
    · obtain ⟨p0, hp0, -⟩ := each 0 (by omega)
      have hs := World.cell?_spot hp0
      obtain ⟨b, o, sp⟩ := ad
      simp [Addr.add] at hs
      subst hs
      have each2 : ∀ i, i < n → ∃ p : Int × Int, W.cell? ⟨b, o + i * 2, none⟩ = some (.int .i64 p.1) ∧ W.cell? ⟨b, o + i * 2 + 1, none⟩ = some (.int .i64 p.2) := by
        intro i hi
        obtain ⟨q, h1, h2⟩ := each i hi
        rw [Go.WideShapes.add_plain] at h1 h2
        rw [Go.WideShapes.add_plain] at h2
        exact ⟨q, h1, h2⟩
      let f : Nat → Int × Int := fun i => if hi : i < n then (each2 i hi).choose else (0, 0)
      have hf2 : ∀ i, i < n → W.cell? ⟨b, o + i * 2, none⟩ = some (.int .i64 (f i).1) ∧ W.cell? ⟨b, o + i * 2 + 1, none⟩ = some (.int .i64 (f i).2) := by
        intro i hi
        have h1 := (each2 i hi).choose_spec
        have e : f i = (each2 i hi).choose := by simp only [f, hi, dif_pos]
        rw [e]
        exact h1
      refine ⟨(List.range n).map f, ⟨?_, Or.inr ⟨?_, b, o, c, ?_, ?_⟩⟩, ?_⟩
      · rw [flat2_len]
      · simp; omega
      · simp
      · intro j u hu
        have hlt := (List.getElem?_eq_some_iff.1 hu).1
        rw [flat2_len] at hlt
        simp only [List.length_map, List.length_range] at hlt
        obtain ⟨g1, g2⟩ := flat2 ((List.range n).map f) (j / 2) (by simp; omega)
        have hg : ((List.range n).map f).getD (j / 2) (0, 0) = f (j / 2) := by
          simp [List.getD, show j / 2 < n by omega]
        rw [hg] at g1 g2
        obtain ⟨c1, c2⟩ := hf2 (j / 2) (by omega)
        have hm : j = j / 2 * 2 + j % 2 := by omega
        have h2 : j % 2 = 0 ∨ j % 2 = 1 := by omega
        rcases h2 with h2 | h2
        · rw [h2, Nat.add_zero] at hm
          rw [← hm] at g1 c1
          rw [g1] at hu
          cases hu
          exact c1
        · rw [h2] at hm
          rw [← hm] at g2
          rw [Nat.add_assoc, ← hm] at c2
          rw [g2] at hu
          cases hu
          exact c2
      · simp; omega
end Go.Proofs.Ytjnlfibcpkobaaa
