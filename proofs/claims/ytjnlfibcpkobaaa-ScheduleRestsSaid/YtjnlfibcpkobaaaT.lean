/- slices.Clone at Worker. -/
import Derived.Test.YtjnlfibcpkobaaaQ
namespace Go.Proofs.Ytjnlfibcpkobaaa
open Go.RowKit Go.Sl Go.Sched
theorem info42 : (Try.prog.info? 42).map (fun i => (i.zero, i.size, i.bytes)) = some (some (.agg #[.slice none 0 0, .int .i64 0, .int .i64 0, .int .i64 0]), 4, 48) := by kernel_rfl

theorem wcells_one : ∀ (qs : List Value) (ws : List Wk), (∀ q ∈ qs, ∃ a n c, q = .slice a n c) → ∀ u ∈ wcells qs ws, u.oneCell' = true
  | [], _, _, u, hu => by simp [wcells] at hu
  | _ :: _, [], _, u, hu => by simp [wcells] at hu
  | q :: qs, k :: ws, h, u, hu => by
    simp only [wcells, List.mem_cons] at hu
    rcases hu with rfl | rfl | rfl | rfl | hu
    · obtain ⟨a, n, c, rfl⟩ := h u (by simp)
      rfl
    · rfl
    · rfl
    · rfl
    · exact wcells_one qs ws (fun q hq => h q (by simp [hq])) u hu

set_option maxRecDepth 100000 in
set_option maxHeartbeats 1000000 in
theorem cloneW_calls (v : Value) (qs : List Value) (ws : List Wk) (w : World) (h : RWs w v qs ws) (hq : ∀ q ∈ qs, ∃ a n c, q = .slice a n c) (hb : ws.length ≤ 1000) (h0 : 0 < ws.length) :
    Calls Try.prog 57 #[v] w fun e w' => ∃ v', e = .returned v' ∧ w'.ownsRow w.heap.size 42 4 v' ws.length (wcells qs ws) ∧ Below w.heap.size w w' := by
  obtain ⟨hl, hlen, ⟨hz, _⟩ | ⟨_, b, o, c, rfl, hc⟩⟩ := h
  · omega
  · have hcl : ∀ j u, (wcells qs ws)[j]? = some u → (w.alloc (.cells #[] 42)).cell? ((⟨b, o, none⟩ : Addr).add j) = some u := by
      intro j u hu
      rw [show ((⟨b, o, none⟩ : Addr).add j) = ⟨b, o + j, none⟩ by simp [Addr.add]]
      exact ((Below.refl w.heap.size w).alloc (Nat.le_refl _) _).at_cell (hc j u hu)
    have hown := owns_empty w 42 4
    have H1 := Lib.hid (wcells_one qs ws hq)
    have HC := Lib.hid hcl
    have HL := Lib.hid hlen
    clear hcl hlen hc hl hq
    generalize ws.length = n at *
    have he := Lib.run_eql_slice_nil (P := Try.prog) w 23 42 (some ⟨b, o, none⟩) n c 0 0 Try.underlying23
    obtain ⟨i0, hif, hz0, hz1, hz2⟩ := info_parts info42
    go_enter Try.func57, Try.ntmps57
    go_wp2_with (at_builtin; refine wpList_append_own _ rfl _ _ 23 rfl w.heap.size 42 i0 _ 4 48 Try.underlying23 hif hz0 hz1 hz2 rfl (by decide) _ _ _ rfl hown ⟨b, o, none⟩ n c (wcells qs ws) rfl HL.out HC.out ?c2 ?c3 ?c4 ?c5 ?_)
    case c2 => exact H1.out
    case c3 => unfold maxLen; omega
    case c4 => omega
    case c5 => simp
    intro v' w2 hown2 hgrow _
    have hbel2 : Below w.heap.size w w2 := ((Below.refl _ _).alloc (Nat.le_refl _) _).grown hgrow (by simp) (fun k hk => (hown.lt k hk).1)
    have O := Lib.hid hown2
    clear hown hown2 hgrow he hif hz0 hz1 hz2
    go_wp2
    go_ret
    exact ⟨_, rfl, by simpa using O.out, hbel2⟩
end Go.Proofs.Ytjnlfibcpkobaaa
