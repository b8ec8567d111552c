/- Promises that came in. -/
import Derived.Test.YtddajaikighjlaaOa
import Derived.Test.YtddajaikighjlaaJo
namespace Go.Proofs.Ytddajaikighjlaa
open Go.ChangeShapes Go.WideShapes Go.ChangeAt Go.RowKit Go.LawRow Go.Sl

theorem cof75 : Try.prog.cellsOf 75 = 3 := by kernel_rfl
theorem cof3 : Try.prog.cellsOf 3 = 1 := by kernel_rfl
theorem cof58 : Try.prog.cellsOf 58 = 1 := by kernel_rfl
theorem cells3 {w : World} {a : Addr} {cs : List Value} (h : w.cells? 0 a 3 = some cs) : ∃ x y z, cs = [x, y, z] ∧ w.cell? a = some x ∧ w.cell? (a.add 1) = some y ∧ w.cell? (a.add 2) = some z := by
  unfold World.cells? at h
  rw [if_pos (Nat.zero_le _)] at h
  have hl := mapM_some_length h
  have h0 := mapM_some_get h 0 0 (by simp)
  have h1 := mapM_some_get h 1 1 (by simp)
  have h2 := mapM_some_get h 2 2 (by simp)
  simp at hl
  match cs, hl with
  | [x, y, z], _ =>
    refine ⟨x, y, z, rfl, ?_, ?_, ?_⟩
    · simpa [Addr.add] using h0
    · simpa using h1
    · simpa using h2
set_option maxRecDepth 100000 in
theorem trod_ints58 {H : Type} {enc : TypeId × Value → H} {W : World} {fuel : Nat} {v : Value} {y : DataW H × List MemPlace} (h : DataW.trod enc Try.prog W 0 (fun _ => true) true fuel 58 [v] = some y) : ∃ l : List Int, SlI W v l := by
  rcases open_ints Try.underlying58 Try.underlying3 cof3 h with ⟨hcs, -⟩ | ⟨ad, len, cap, zs, hcs, -, hlc, hcm, hzl, -, hcell, hwf⟩
  · simp only [List.cons.injEq, and_true] at hcs
    subst hcs
    exact ⟨[], SlI.nil W⟩
  · simp only [List.cons.injEq, and_true] at hcs
    subst hcs
    simp only [if_true] at hzl
    refine ⟨zs.take len, by simp, ?_⟩
    have hlen : (zs.take len).length = len := by simp; omega
    rw [hlen]
    by_cases h0 : len = 0
    · subst h0
      exact Or.inl ⟨rfl, Or.inr ⟨_, _, rfl⟩⟩
    · obtain ⟨b, off, rfl, hc⟩ := ints_at hcell (by omega)
      refine Or.inr ⟨by omega, b, off, cap, rfl, fun j u hu => ?_⟩
      have hlt := (List.getElem?_eq_some_iff.1 hu).1
      simp only [List.length_map, hlen] at hlt
      rw [hc j (by omega)]
      rw [List.getElem?_map, List.getElem?_take_of_lt hlt, List.getElem?_eq_getElem (by omega)] at hu
      simp at hu
      simp [List.getD, show j < zs.length by omega, hu]
set_option maxRecDepth 100000 in
theorem open_promise {H : Type} {enc : TypeId × Value → H} {W : World} {fuel : Nat} {cs : List Value} {y : DataW H × List MemPlace} (h : DataW.trod enc Try.prog W 0 (fun _ => true) true fuel 75 cs = some y) : ∃ (p : Pr) (sv : Value), cs = [.int .i64 p.ph, .int .i64 p.val, sv] ∧ SlI W sv p.wt := by
  obtain ⟨xs, m, -, -, hl, hx, hat⟩ := DataW.trod_struct Try.underlying75 h
  rw [cof75] at hl
  match cs, hl, hx with
  | [a, b, c], _, hx =>
    have h0 : DataW.trod enc Try.prog W 0 (fun _ => true) true m 3 (([a, b, c].drop 0).take (Try.prog.cellsOf 3)) = xs[0]? := hat 0 _ rfl
    have h1 : DataW.trod enc Try.prog W 0 (fun _ => true) true m 3 (([a, b, c].drop 1).take (Try.prog.cellsOf 3)) = xs[1]? := hat 1 _ rfl
    have h2 : DataW.trod enc Try.prog W 0 (fun _ => true) true m 58 (([a, b, c].drop 2).take (Try.prog.cellsOf 58)) = xs[2]? := hat 2 _ rfl
    rw [cof3] at h0 h1
    rw [cof58] at h2
    simp only [List.size_toArray, List.length_cons, List.length_nil] at hx
    simp only [List.drop_zero, List.drop_succ_cons] at h0 h1 h2
    rw [List.getElem?_eq_getElem (by omega)] at h0 h1 h2
    simp only [List.take_succ_cons, List.take_zero] at h0 h1 h2
    obtain ⟨x, e0, -⟩ := DataW.trod_int Try.underlying3 h0
    obtain ⟨z, e1, -⟩ := DataW.trod_int Try.underlying3 h1
    simp only [List.cons.injEq, and_true] at e0 e1
    obtain ⟨l, hs⟩ := trod_ints58 h2
    exact ⟨⟨x, z, l⟩, c, by simp [e0, e1], hs⟩
set_option maxRecDepth 100000 in
theorem open_promises {H : Type} {enc : TypeId × Value → H} {W : World} {base : Nat} {v : Value} {d : DataW H} {p : List MemPlace} (hv : Value.okWide Try.prog W .any base 69 v) (h : DataW.Trod enc Try.prog W 0 (fun _ => true) true 69 v d p) : ∃ l : List Pr, RowP W v l := by
  obtain ⟨a, n, c, rfl⟩ := slice_of_ok Try.underlying69 hv
  obtain ⟨fuel, hf⟩ := h
  rcases DataW.trod_slice Try.underlying69 hf with ⟨hcs, -⟩ | ⟨ad, len, cap, elems, rest, m, -, hcs, -, -, hlc, hcm, hel, hat, -, -⟩
  · simp [Value.cells] at hcs
    obtain ⟨rfl, rfl, rfl⟩ := hcs
    exact ⟨[], none, 0, rfl, fun i p hp => by simp at hp⟩
  · simp [Value.cells] at hcs
    obtain ⟨rfl, rfl, rfl⟩ := hcs
    rw [cof75] at hat
    have each : ∀ i, ∃ (p : Pr) (sv : Value), i < n → W.cell? (ad.add (i * 3)) = some (.int .i64 p.ph) ∧ W.cell? ((ad.add (i * 3)).add 1) = some (.int .i64 p.val) ∧ W.cell? ((ad.add (i * 3)).add 2) = some sv ∧ SlI W sv p.wt := by
      intro i
      by_cases hi : i < n
      · have h1 := hat i hi
        rw [List.getElem?_eq_getElem (by omega), Option.bind_eq_some_iff] at h1
        obtain ⟨cs, h2, h3⟩ := h1
        obtain ⟨p, sv, rfl, hs⟩ := open_promise h3
        obtain ⟨x, y, z, e, h4, h5, h6⟩ := cells3 h2
        simp only [List.cons.injEq, and_true] at e
        exact ⟨p, sv, fun _ => ⟨by rw [e.1]; exact h4, by rw [e.2.1]; exact h5, by rw [e.2.2]; exact h6, hs⟩⟩
      · exact ⟨pr0, undef, fun h => absurd h hi⟩
    refine ⟨(List.range n).map fun i => Classical.choose (each i), some ad, c, by simp, fun i p hp => ?_⟩
    rw [List.getElem?_map, Option.map_eq_some_iff] at hp
    obtain ⟨j, hj, rfl⟩ := hp
    obtain ⟨hj1, hj2⟩ := List.getElem?_eq_some_iff.1 hj
    simp only [List.getElem_range] at hj2
    subst hj2
    simp only [List.length_range] at hj1
    obtain ⟨sv, hs⟩ := Classical.choose_spec (each i)
    obtain ⟨h1, h2, h3, h4⟩ := hs hj1
    obtain ⟨_, _, hs0⟩ := each 0
    have hsp := World.cell?_spot (hs0 (by omega)).1
    obtain ⟨b, o, sp⟩ := ad
    simp [Addr.add] at hsp
    subst hsp
    have e1 : ((⟨b, o, none⟩ : Addr).add (i * 3)) = ⟨b, o + i * 3, none⟩ := Go.WideShapes.add_plain _ _ _
    have e2 : (((⟨b, o, none⟩ : Addr).add (i * 3)).add 1) = ⟨b, o + i * 3 + 1, none⟩ := by rw [e1]; exact Go.WideShapes.add_plain _ _ _
    have e3 : (((⟨b, o, none⟩ : Addr).add (i * 3)).add 2) = ⟨b, o + i * 3 + 2, none⟩ := by rw [e1]; exact Go.WideShapes.add_plain _ _ _
    exact ⟨b, o, sv, rfl, by rw [← e1]; exact h1, by rw [← e2]; exact h2, by rw [← e3]; exact h3, h4⟩
end Go.Proofs.Ytddajaikighjlaa
