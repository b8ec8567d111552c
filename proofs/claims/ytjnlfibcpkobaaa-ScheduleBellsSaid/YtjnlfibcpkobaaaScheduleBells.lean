/- ScheduleBells of the given program returns true for every input (bytes of any number). No condition. -/
import Derived.Test.YtjnlfibcpkobaaaRows
import Derived.Test.YtjnlfibcpkobaaaLaw
import Derived.Test.YtjnlfibcpkobaaaOp
import Derived.Test.YtjnlfibcpkobaaaLb
namespace Go.Proofs.Ytjnlfibcpkobaaa.ScheduleBells
open Go.ChangeShapes Go.WideShapes Go.ChangeAt Go.RowKit Go.LawRow Go.Proofs.Ytjnlfibcpkobaaa

theorem bounds_u8x {n : Int} (h : (Lit.int .u8 n).wf = true) : 0 ≤ n ∧ n < 256 := by
  have := bounds_u8 h
  omega
set_option maxRecDepth 100000 in
theorem open_bytes {H : Type} {enc : TypeId × Value → H} {W : World} {base : Nat} {v : Value} {d : DataW H} {p : List MemPlace} (hv : Value.okWide Try.prog W .any base 60 v) (h : DataW.Trod enc Try.prog W 0 (fun _ => true) true 60 v d p) : ∃ l : List Int, SlB W v l ∧ ∀ x ∈ l, 0 ≤ x ∧ x < 256 := by
  obtain ⟨a, n, c, rfl⟩ := slice_of_ok Try.underlying60 hv
  obtain ⟨fuel, hf⟩ := h
  rcases open_ints Try.underlying60 Try.underlying5 (by kernel_rfl) hf with ⟨hcs, -⟩ | ⟨ad, len, cap, zs, hcs, -, hlc, hcm, hzl, -, hcell, hwf⟩
  · simp [Value.cells] at hcs
    obtain ⟨rfl, rfl, rfl⟩ := hcs
    exact ⟨[], Go.Sl.SlV.nil W 1, by simp⟩
  · simp [Value.cells] at hcs
    obtain ⟨rfl, rfl, rfl⟩ := hcs
    simp only [if_true] at hzl
    refine ⟨zs.take n, ⟨by simp, ?_⟩, fun x hx => bounds_u8x (hwf x (List.mem_of_mem_take hx))⟩
    have hlen : (zs.take n).length = n := by simp; omega
    rw [hlen]
    by_cases h0 : n = 0
    · subst h0
      exact Or.inl ⟨rfl, Or.inr ⟨_, _, rfl⟩⟩
    · obtain ⟨b, off, rfl, hc⟩ := ints_at hcell (by omega)
      refine Or.inr ⟨by omega, b, off, c, rfl, fun j u hu => ?_⟩
      have hlt := (List.getElem?_eq_some_iff.1 hu).1
      simp only [List.length_map, hlen] at hlt
      rw [hc j (by omega)]
      rw [List.getElem?_map, List.getElem?_take_of_lt hlt, List.getElem?_eq_getElem (by omega)] at hu
      simp at hu
      simp [List.getD, show j < zs.length by omega, hu]
theorem own : ownKnob Try.prog.godebug = none := by kernel_rfl
theorem laidOut : laidOutB Try.prog = true := by kernel_rfl

set_option maxRecDepth 100000 in
theorem lifted (os : Os) (started : os.Started) (H : Type) (enc : TypeId × Value → H) :
    ReturnsInHanded {} Try.checked os 6 .any (Rows.scheduleBellsSpec.pre6 enc Try.prog Try.f6 Rows.scheduleBellsRow.domain false) (Rows.scheduleBellsSpec.post enc Try.prog Try.f6 false true false false) := by
  refine returnsInHanded_of_change (C := Try.checked) own started (by kernel_rfl) Try.func6
    (ChangeSpec.witness6 (enc := enc) (C := Try.checked) false ⟨#[], #[.slice none 0 0], []⟩ 8 (by kernel_rfl) (by kernel_rfl) (by kernel_rfl) (by kernel_rfl)) ?_
  intro W base args ds gs before hval0 hW hcnd _
  have hval : ∀ (j : Nat) t v, Try.f6.params[j]? = some t → args[j]? = some v → Value.okWide Try.prog W .any base t v := hval0
  have hW' := hW
  obtain ⟨p, q, hA0, hV, rfl, hfz, hnd⟩ := hW
  have hA : DataW.TrodAll enc Try.prog W 0 (fun _ => true) true Try.f6.params.toList args.toList ds p := hA0
  rw [Try.params6] at hA hval
  obtain ⟨v0, vs0, d0, ds0, p0, q0, hargs, rfl, rfl, h0, r0⟩ := trodAll_cons hA
  obtain ⟨rfl, rfl, rfl⟩ := trodAll_nil r0
  obtain rfl : args = #[v0] := by cases args; simp_all
  obtain ⟨rfl, rfl⟩ := trodVars_none hV
  obtain ⟨l, s0, hl⟩ := open_bytes (hval 0 60 v0 rfl rfl) h0
  clear hA0 hval0
  refine (law6_calls v0 l W s0 hl).mono fun e W' ⟨he, hg⟩ => ?_
  exact ⟨_, he, law_post laidOut (by kernel_rfl) (by kernel_rfl) Try.underlying4 rfl rfl hW' hg⟩

theorem row_holds : Rows.ScheduleBellsSaid :=
  OpenClaim.holds_of_wide 6 Try.f6 rfl rfl rfl rfl rfl rfl rfl ⟨rfl, rfl, rfl, rfl, rfl⟩ rfl rfl rfl rfl rfl (by kernel_rfl) Try.func6 (by kernel_rfl)
    (of_decide_eq_true (by kernel_rfl)) (by unfold Func.isWrapper; first | (rw [if_pos (by decide +kernel)]; kernel_rfl) | (rw [if_neg (by decide +kernel)]; exact ⟨rfl, rfl⟩))
    (fun os started H enc _ => lifted os started H enc)
end Go.Proofs.Ytjnlfibcpkobaaa.ScheduleBells
