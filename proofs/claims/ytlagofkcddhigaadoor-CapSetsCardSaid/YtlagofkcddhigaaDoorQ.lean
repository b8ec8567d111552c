/- slices.Clone at int; the walk of the law CapSets. -/
import Derived.Test.YtlagofkcddhigaaDoorP
import Derived.WalkSpells
namespace Go.Proofs.YtlagofkcddhigaaDoor
open Go.RowKit

set_option maxRecDepth 100000 in
set_option maxHeartbeats 1000000 in
theorem clone_calls (v : Value) (xs : List Int) (w : World) (h : SlI w v xs) (h0 : 0 < xs.length) (hb : xs.length ≤ 1000000) :
    Calls Tryd.prog 50 #[v] w fun e w' => ∃ v', e = .returned v' ∧ SlI w' v' xs ∧ Below w.heap.size w w' := by
  rcases h with ⟨rfl, a, c, rfl⟩ | ⟨_, b, o, c, rfl, hc⟩
  · simp at h0
  · have hl : (xs.map (Value.int .i64)).length = xs.length * 1 := by simp
    have hcl : ∀ j u, (xs.map (Value.int .i64))[j]? = some u → (w.alloc (.cells #[] 3)).cell? ((⟨b, o, none⟩ : Addr).add j) = some u := by
      intro j u hu
      have hj : j < xs.length := by
        have := (List.getElem?_eq_some_iff.1 hu).1
        simpa using this
      have := hc j hj
      rw [show ((⟨b, o, none⟩ : Addr).add j) = ⟨b, o + j, none⟩ by simp [Addr.add], World.cell?_alloc_past _ _ _ (World.block_lt_of_cell? w _ this), this]
      simp [hj] at hu
      simp [List.getD, hj, ← hu]
    have h1c : ∀ u ∈ xs.map (Value.int .i64), u.oneCell' = true := by
      intro u hu
      obtain ⟨x, _, rfl⟩ := List.mem_map.1 hu
      rfl
    have hown : (w.alloc (.cells #[] 3)).ownsRow w.heap.size 3 1 (.slice (some ⟨w.heap.size, 0, none⟩) 0 0) 0 [] :=
      ⟨rfl, Or.inr ⟨w.heap.size, 0, #[], rfl, Nat.le_refl _, by show (w.heap.push (Obj.cells #[] 3))[w.heap.size]? = _; simp, Nat.le_refl _, by decide, rfl, rfl⟩⟩
    generalize hn : xs.length = n at *
    have N := Lib.hid hn
    have HC := Lib.hid hcl
    have H1 := Lib.hid h1c
    have HL := Lib.hid hl
    clear hn hc hcl h1c hl
    have he := Lib.run_eql_slice_nil (P := Tryd.prog) w 42 3 (some ⟨b, o, none⟩) n c 0 0 Tryd.underlying42
    go_enter Tryd.func50, Tryd.ntmps50
    obtain ⟨i0, hif, hz0, hz1, hz2⟩ := info_parts info3
    go_wp2_with (at_builtin; refine wpList_append_own _ rfl _ _ 42 rfl w.heap.size 3 i0 (.int .i64 0) 1 8 Tryd.underlying42 hif hz0 hz1 hz2 rfl (by decide) _ _ _ rfl hown ⟨b, o, none⟩ n c (xs.map (Value.int .i64)) rfl HL.out HC.out ?c2 ?c3 ?c4 ?c5 ?_)
    case c2 => exact H1.out
    case c3 => unfold maxLen; omega
    case c4 => omega
    case c5 => simp
    intro v' w2 hown2 hgrow _
    have hbel2 : Below w.heap.size w w2 := ((Below.refl _ _).alloc (Nat.le_refl _) _).grown hgrow (by simp) (fun k hk => (hown.lt k hk).1)
    have O := Lib.hid (SlI.of_owns (xs := xs) hown2)
    clear hown hown2 hgrow he hif hz0 hz1 hz2
    go_wp2
    go_ret
    exact ⟨_, rfl, O.out, hbel2⟩
end Go.Proofs.YtlagofkcddhigaaDoor
