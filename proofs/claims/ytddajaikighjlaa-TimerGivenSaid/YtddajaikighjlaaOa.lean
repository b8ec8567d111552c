/- Slices that came in. -/
import Derived.Test.YtddajaikighjlaaLaw
import Derived.Test.YtddajaikighjlaaSl
import Derived.Test.YtddajaikighjlaaProg
import Derived.OpenShut
namespace Go.Proofs.Ytddajaikighjlaa
open Go.ChangeShapes Go.WideShapes Go.ChangeAt Go.RowKit Go.LawRow Go.Sl

set_option maxRecDepth 100000 in
theorem slice_of_ok {W : World} {base : Nat} {v : Value} {t e : TypeId} (hu : Try.prog.underlying t = some (.slice e)) (hv : Value.okWide Try.prog W .any base t v) : ∃ a n c, v = .slice a n c := by
  unfold Value.okWide Cell.okWide Cell.ok at hv
  simp only [hu] at hv
  cases v <;> simp_all
set_option maxRecDepth 100000 in
theorem open_i16s {H : Type} {enc : TypeId × Value → H} {W : World} {base : Nat} {v : Value} {d : DataW H} {p : List MemPlace} (hv : Value.okWide Try.prog W .any base 57 v) (h : DataW.Trod enc Try.prog W 0 (fun _ => true) true 57 v d p) : ∃ l : List Int, SlV W v l.length 1 (l.map (Value.int .i16)) ∧ ∀ x ∈ l, IntKind.i64.wrap x = x := by
  obtain ⟨a, n, c, rfl⟩ := slice_of_ok Try.underlying57 hv
  obtain ⟨fuel, hf⟩ := h
  rcases open_ints Try.underlying57 Try.underlying61 (by kernel_rfl) hf with ⟨hcs, -⟩ | ⟨ad, len, cap, zs, hcs, -, hlc, hcm, hzl, -, hcell, hwf⟩
  · simp [Value.cells] at hcs
    obtain ⟨rfl, rfl, rfl⟩ := hcs
    exact ⟨[], Go.Sl.SlV.nil W 1, by simp⟩
  · simp [Value.cells] at hcs
    obtain ⟨rfl, rfl, rfl⟩ := hcs
    simp only [if_true] at hzl
    have key : SlV W (.slice (some ad) n c) (zs.take n).length 1 ((zs.take n).map (Value.int .i16)) := by
      refine ⟨by simp, ?_⟩
      have hlen : (zs.take n).length = n := by simp; omega
      rw [hlen]
      by_cases h0 : n = 0
      · subst h0
        exact Or.inl ⟨rfl, Or.inr ⟨_, _, rfl⟩⟩
      · obtain ⟨b, off, rfl, hc⟩ := ints_at hcell (by omega)
        refine Or.inr ⟨by omega, b, off, c, rfl, fun j u hu => ?_⟩
        have hlt := (List.getElem?_eq_some_iff.1 hu).1
        simp only [List.length_map, hlen] at hlt
        rw [hc j (by omega)]
        rw [List.getElem?_map, List.getElem?_take_of_lt hlt, List.getElem?_eq_getElem (by omega)] at hu
        simp at hu
        simp [List.getD, show j < zs.length by omega, hu]
    refine ⟨zs.take n, key, fun x hx => ?_⟩
    have := bounds_i16 (hwf x (List.mem_of_mem_take hx))
    exact IntWalk.i64_in _ (by omega)
theorem bounds_u8z {n : Int} (h : (Lit.int .u8 n).wf = true) : 0 ≤ n ∧ n < 256 := by
  have := bounds_u8 h
  omega
set_option maxRecDepth 100000 in
theorem open_u8s {H : Type} {enc : TypeId × Value → H} {W : World} {base : Nat} {v : Value} {d : DataW H} {p : List MemPlace} (hv : Value.okWide Try.prog W .any base 22 v) (h : DataW.Trod enc Try.prog W 0 (fun _ => true) true 22 v d p) : ∃ l : List Int, SlV W v l.length 1 (l.map (Value.int .u8)) ∧ ∀ x ∈ l, 0 ≤ x ∧ x < 256 := by
  obtain ⟨a, n, c, rfl⟩ := slice_of_ok Try.underlying22 hv
  obtain ⟨fuel, hf⟩ := h
  rcases open_ints Try.underlying22 Try.underlying5 (by kernel_rfl) hf with ⟨hcs, -⟩ | ⟨ad, len, cap, zs, hcs, -, hlc, hcm, hzl, -, hcell, hwf⟩
  · simp [Value.cells] at hcs
    obtain ⟨rfl, rfl, rfl⟩ := hcs
    exact ⟨[], Go.Sl.SlV.nil W 1, by simp⟩
  · simp [Value.cells] at hcs
    obtain ⟨rfl, rfl, rfl⟩ := hcs
    simp only [if_true] at hzl
    have key : SlV W (.slice (some ad) n c) (zs.take n).length 1 ((zs.take n).map (Value.int .u8)) := by
      refine ⟨by simp, ?_⟩
      have hlen : (zs.take n).length = n := by simp; omega
      rw [hlen]
      by_cases h0 : n = 0
      · subst h0
        exact Or.inl ⟨rfl, Or.inr ⟨_, _, rfl⟩⟩
      · obtain ⟨b, off, rfl, hc⟩ := ints_at hcell (by omega)
        refine Or.inr ⟨by omega, b, off, c, rfl, fun j u hu => ?_⟩
        have hlt := (List.getElem?_eq_some_iff.1 hu).1
        simp only [List.length_map, hlen] at hlt
        rw [hc j (by omega)]
        rw [List.getElem?_map, List.getElem?_take_of_lt hlt, List.getElem?_eq_getElem (by omega)] at hu
        simp at hu
        simp [List.getD, show j < zs.length by omega, hu]
    refine ⟨zs.take n, key, fun x hx => ?_⟩
    have := bounds_u8 (hwf x (List.mem_of_mem_take hx))
    omega
end Go.Proofs.Ytddajaikighjlaa
