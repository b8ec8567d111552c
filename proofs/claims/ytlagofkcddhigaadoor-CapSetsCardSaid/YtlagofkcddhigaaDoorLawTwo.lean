/- A listed table of strings lies whole in its block. -/
import Derived.Test.YtlagofkcddhigaaDoorLaw
namespace Go.LawRow
open Go.RowKit Go.ChangeShapes Go.WideShapes
variable {H : Type} {enc : TypeId × Value → H} {P : Program}

theorem cells_of_strs {w : World} {base : Nat} {sp : Nat → Bool} {held : Bool} {fuel : Nat} {t e : TypeId} {n : Nat} {cs : List Value} {ss : List (List UInt8)} {p : List MemPlace}
    (ht : P.underlying t = some (.array n e)) (he : P.underlying e = some TypeDesc.string) (hce : P.cellsOf e = 1) (hct : P.cellsOf t = n)
    (h : DataW.trod enc P w base sp held fuel t cs = some (.agg (ss.map fun s => (DataW.lit (.string s) : DataW H)), p)) :
    cs = ss.map fun s => Value.string ⟨s.toArray⟩ := by
  have hc := cell_of_strs ht he hce h
  have hl : cs.length = n ∧ ss.length = n := by
    cases fuel with
    | zero => simp [DataW.trod] at h
    | succ fuel =>
      simp only [DataW.trod, ht] at h
      split at h
      · rename_i hlen
        obtain ⟨xs, hm, hx⟩ := Option.map_eq_some_iff.1 h
        have hxs : xs.map (·.1) = ss.map (fun s => (DataW.lit (.string s) : DataW H)) := by
          have := congrArg Prod.fst hx
          simpa using this
        have hxl : xs.length = n := by simpa using Lib.mapM_length hm
        have := congrArg List.length hxs
        simp at this
        exact ⟨by omega, by omega⟩
      · cases h
  apply List.ext_getElem?
  intro i
  by_cases hi : i < n
  · have h1 : i < ss.length := by omega
    rw [hc i ss[i] (List.getElem?_eq_getElem h1)]
    simp [h1]
  · rw [List.getElem?_eq_none (by omega), List.getElem?_eq_none (by simp; omega)]

theorem laid_strs_block {W : World} {laid : List (String × DataW Unit)} (hf : (laid.filter fun x => x.2.handleName?.isSome) = []) (h : laidMetH P laid W) {n : String} {ss : List (List UInt8)} {g : Nat} {t e : TypeId} {m : Nat}
    (hm : (n, .agg (ss.map fun s => (DataW.lit (.string s) : DataW Unit))) ∈ laid) (hg : P.globalNamed n = some g) (hty : (P.globals[g]?).map (·.type) = some t)
    (ht : P.underlying t = some (.array m e)) (he : P.underlying e = some TypeDesc.string) (hce : P.cellsOf e = 1) (hct : P.cellsOf t = m) :
    ∃ t' fr, W.heap[g]? = some (.cells (ss.map fun s => Value.string ⟨s.toArray⟩).toArray t' fr) := by
  obtain ⟨cs, fuel, p, hv, hd⟩ := laid_get hf h hm hg hty
  have hc := cells_of_strs ht he hce hct hd
  have hcs : cs = (ss.map fun s => Value.string ⟨s.toArray⟩).toArray := by rw [← hc]
  simp only [World.var?, hg, Option.bind_some] at hv
  split at hv
  · rename_i cs' t' fr hh
    cases hv
    exact ⟨t', fr, by rw [hh, ← hcs]⟩
  · cases hv
end Go.LawRow
