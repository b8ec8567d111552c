/- slices.Clone at [2]int and Event; slices.Equal at Event. -/
import Derived.Test.YtjnlfibcpkobaaaRa
namespace Go.Proofs.Ytjnlfibcpkobaaa
open Go.RowKit Go.Sl Go.Sched

theorem info62 : (Try.prog.info? 62).map (fun i => (i.zero, i.size, i.bytes)) = some (some (.agg #[.int .i64 0, .int .i64 0]), 2, 16) := by kernel_rfl
set_option maxRecDepth 100000 in
set_option maxHeartbeats 1000000 in
theorem clone32_calls (v : Value) (n : Nat) (cs : List Value) (w : World) (h : SlV w v n 2 cs) (h1 : ∀ u ∈ cs, u.oneCell' = true) (hb : n ≤ 1000000) :
    Calls Try.prog 32 #[v] w fun e w' => ∃ v', e = .returned v' ∧ w'.ownsRow w.heap.size 62 2 v' n cs ∧ Below w.heap.size w w' := by
  have core : ∀ (ad : Addr) (c : Nat), v = .slice (some ad) n c → (∀ j u, cs[j]? = some u → (w.alloc (.cells #[] 62)).cell? (ad.add j) = some u) →
      Calls Try.prog 32 #[v] w fun e w' => ∃ v', e = .returned v' ∧ w'.ownsRow w.heap.size 62 2 v' n cs ∧ Below w.heap.size w w' := by
    intro ad c hv hcl
    subst hv
    have hown := owns_empty w 62 2
    have H1 := Lib.hid h1
    have HC := Lib.hid hcl
    have HL := Lib.hid h.1
    clear hcl h h1
    have he := Lib.run_eql_slice_nil (P := Try.prog) w 61 62 (some ad) n c 0 0 Try.underlying61
    obtain ⟨i0, hif, hz0, hz1, hz2⟩ := info_parts info62
    go_enter Try.func32, Try.ntmps32
    go_wp2_with (at_builtin; refine wpList_append_own _ rfl _ _ 61 rfl w.heap.size 62 i0 _ 2 16 Try.underlying61 hif hz0 hz1 hz2 rfl (by decide) _ _ _ rfl hown ad n c cs rfl HL.out HC.out ?c2 ?c3 ?c4 ?c5 ?_)
    case c2 => exact H1.out
    case c3 => unfold maxLen; omega
    case c4 => omega
    case c5 => simp
    intro v' w2 hown2 hgrow _
    have hbel2 : Below w.heap.size w w2 := ((Below.refl _ _).alloc (Nat.le_refl _) _).grown hgrow (by simp) (fun k hk => (hown.lt k hk).1)
    have O := Lib.hid hown2
    clear hown hown2 hgrow he hif hz0 hz1 hz2
    go_wp2
    go_ret
    exact ⟨_, rfl, by simpa using O.out, hbel2⟩
  have hl := h.1
  rcases h.2 with ⟨h0, rfl | ⟨ad, c, rfl⟩⟩ | ⟨h0, b, o, c, rfl, hc⟩
  · subst h0
    have hcs : cs = [] := List.eq_nil_of_length_eq_zero (by simpa using hl)
    subst hcs
    have he := Lib.run_eql_slice_nil (P := Try.prog) w 61 62 none 0 0 0 0 Try.underlying61
    clear core
    go_enter Try.func32, Try.ntmps32
    go_wp2
    go_ret
    exact ⟨_, rfl, World.ownsRow_nil _ _ _ _, Below.refl _ _⟩
  · subst h0
    have hcs : cs = [] := List.eq_nil_of_length_eq_zero (by simpa using hl)
    refine core ad c rfl (fun j u hu => ?_)
    rw [hcs] at hu
    simp at hu
  · refine core ⟨b, o, none⟩ c rfl (fun j u hu => ?_)
    rw [show ((⟨b, o, none⟩ : Addr).add j) = ⟨b, o + j, none⟩ by simp [Addr.add]]
    exact ((Below.refl w.heap.size w).alloc (Nat.le_refl _) _).at_cell (hc j u hu)
theorem info38 : (Try.prog.info? 38).map (fun i => (i.zero, i.size, i.bytes)) = some (some (.agg #[.int .i64 0, .int .i64 0, .int .i64 0, .int .i64 0]), 4, 32) := by kernel_rfl
set_option maxRecDepth 100000 in
set_option maxHeartbeats 1000000 in
theorem clone34_calls (v : Value) (n : Nat) (cs : List Value) (w : World) (h : SlV w v n 4 cs) (h1 : ∀ u ∈ cs, u.oneCell' = true) (hb : n ≤ 1000000) :
    Calls Try.prog 34 #[v] w fun e w' => ∃ v', e = .returned v' ∧ w'.ownsRow w.heap.size 38 4 v' n cs ∧ Below w.heap.size w w' := by
  have core : ∀ (ad : Addr) (c : Nat), v = .slice (some ad) n c → (∀ j u, cs[j]? = some u → (w.alloc (.cells #[] 38)).cell? (ad.add j) = some u) →
      Calls Try.prog 34 #[v] w fun e w' => ∃ v', e = .returned v' ∧ w'.ownsRow w.heap.size 38 4 v' n cs ∧ Below w.heap.size w w' := by
    intro ad c hv hcl
    subst hv
    have hown := owns_empty w 38 4
    have H1 := Lib.hid h1
    have HC := Lib.hid hcl
    have HL := Lib.hid h.1
    clear hcl h h1
    have he := Lib.run_eql_slice_nil (P := Try.prog) w 63 38 (some ad) n c 0 0 Try.underlying63
    obtain ⟨i0, hif, hz0, hz1, hz2⟩ := info_parts info38
    go_enter Try.func34, Try.ntmps34
    go_wp2_with (at_builtin; refine wpList_append_own _ rfl _ _ 63 rfl w.heap.size 38 i0 _ 4 32 Try.underlying63 hif hz0 hz1 hz2 rfl (by decide) _ _ _ rfl hown ad n c cs rfl HL.out HC.out ?c2 ?c3 ?c4 ?c5 ?_)
    case c2 => exact H1.out
    case c3 => unfold maxLen; omega
    case c4 => omega
    case c5 => simp
    intro v' w2 hown2 hgrow _
    have hbel2 : Below w.heap.size w w2 := ((Below.refl _ _).alloc (Nat.le_refl _) _).grown hgrow (by simp) (fun k hk => (hown.lt k hk).1)
    have O := Lib.hid hown2
    clear hown hown2 hgrow he hif hz0 hz1 hz2
    go_wp2
    go_ret
    exact ⟨_, rfl, by simpa using O.out, hbel2⟩
  have hl := h.1
  rcases h.2 with ⟨h0, rfl | ⟨ad, c, rfl⟩⟩ | ⟨h0, b, o, c, rfl, hc⟩
  · subst h0
    have hcs : cs = [] := List.eq_nil_of_length_eq_zero (by simpa using hl)
    subst hcs
    have he := Lib.run_eql_slice_nil (P := Try.prog) w 63 38 none 0 0 0 0 Try.underlying63
    clear core
    go_enter Try.func34, Try.ntmps34
    go_wp2
    go_ret
    exact ⟨_, rfl, World.ownsRow_nil _ _ _ _, Below.refl _ _⟩
  · subst h0
    have hcs : cs = [] := List.eq_nil_of_length_eq_zero (by simpa using hl)
    refine core ad c rfl (fun j u hu => ?_)
    rw [hcs] at hu
    simp at hu
  · refine core ⟨b, o, none⟩ c rfl (fun j u hu => ?_)
    rw [show ((⟨b, o, none⟩ : Addr).add j) = ⟨b, o + j, none⟩ by simp [Addr.add]]
    exact ((Below.refl w.heap.size w).alloc (Nat.le_refl _) _).at_cell (hc j u hu)

def evC (e : Ev) : List Value := [.int .i64 e.kind, .int .i64 e.worker, .int .i64 e.task, .int .i64 e.src]
def ev0 : Ev := ⟨0, 0, 0, 0⟩
theorem flat4 : ∀ (l : List Ev) (k : Nat), k < l.length → (l.flatMap evC)[k * 4]? = some (.int .i64 (l.getD k ev0).kind) ∧ (l.flatMap evC)[k * 4 + 1]? = some (.int .i64 (l.getD k ev0).worker) ∧
    (l.flatMap evC)[k * 4 + 2]? = some (.int .i64 (l.getD k ev0).task) ∧ (l.flatMap evC)[k * 4 + 3]? = some (.int .i64 (l.getD k ev0).src)
  | [], k, h => by simp at h
  | e :: l, 0, _ => by simp [evC]
  | e :: l, k + 1, h => by
    have := flat4 l k (by simpa using h)
    rw [show (k + 1) * 4 = k * 4 + 4 by omega]
    simpa [evC] using this
theorem flat4_len (l : List Ev) : (l.flatMap evC).length = l.length * 4 := by
  induction l with
  | nil => rfl
  | cons e l ih => simp only [List.flatMap_cons, List.length_append, ih, evC, List.length_cons, List.length_nil]; omega
theorem flat4_one (l : List Ev) : ∀ u ∈ l.flatMap evC, u.oneCell' = true := by
  intro u hu
  rw [List.mem_flatMap] at hu
  obtain ⟨e, _, hu⟩ := hu
  simp only [evC, List.mem_cons, List.not_mem_nil, or_false] at hu
  rcases hu with rfl | rfl | rfl | rfl <;> rfl
/-- A slice of events. -/
def SlE (w : World) (v : Value) (l : List Ev) : Prop := SlV w v l.length 4 (l.flatMap evC)
theorem SlE.below {w w' : World} {v : Value} {l : List Ev} (h : SlE w v l) (hb : Below w.heap.size w w') : SlE w' v l := SlV.below h hb
theorem SlE.at {w : World} {v : Value} {l : List Ev} (h : SlE w v l) (h0 : 0 < l.length) : ∃ b o c, v = .slice (some ⟨b, o, none⟩) l.length c ∧ ∀ k, k < l.length →
    w.cell? ⟨b, o + k * 4, none⟩ = some (.int .i64 (l.getD k ev0).kind) ∧ w.cell? ⟨b, o + k * 4 + 1, none⟩ = some (.int .i64 (l.getD k ev0).worker) ∧ w.cell? ⟨b, o + k * 4 + 2, none⟩ = some (.int .i64 (l.getD k ev0).task) ∧ w.cell? ⟨b, o + k * 4 + 3, none⟩ = some (.int .i64 (l.getD k ev0).src) := by
  rcases h.2 with ⟨h1, _⟩ | ⟨_, b, o, c, rfl, hc⟩
  · omega
  · refine ⟨b, o, c, rfl, fun k hk => ?_⟩
    obtain ⟨h1, h2, h3, h4⟩ := flat4 l k hk
    exact ⟨hc _ _ h1, by rw [Nat.add_assoc]; exact hc _ _ h2, by rw [Nat.add_assoc]; exact hc _ _ h3, by rw [Nat.add_assoc]; exact hc _ _ h4⟩

set_option maxRecDepth 100000 in
set_option maxHeartbeats 1000000 in
theorem equal33_calls (v v2 : Value) (l : List Ev) (w : World) (h : SlE w v l) (h2 : SlE w v2 l) (hb : l.length ≤ 1000000) :
    Calls Try.prog 33 #[v, v2] w fun e w' => e = .returned (.bool true) ∧ Below w.heap.size w w' := by
  by_cases h0 : l.length = 0
  · obtain ⟨a, c, rfl⟩ := SlV.form h
    obtain ⟨a2, c2, rfl⟩ := SlV.form h2
    rw [h0]
    clear h h2
    go_enter Try.func33, Try.ntmps33
    go_wp2_with fail
    go_loopw [13] (fun i wr => i = .int .i64 0 ∧ Below w.heap.size w wr) (fun i _ => 0)
    case atStart => exact ⟨rfl, Below.refl _ _⟩
    case round =>
      obtain ⟨rfl, hbel⟩ := hrel
      go_wp2
      go_ret
      exact ⟨rfl, hbel⟩
  · obtain ⟨b, o, c, rfl, hc⟩ := h.at (by omega)
    obtain ⟨b2, o2, c2, rfl, hc2⟩ := h2.at (by omega)
    clear h h2 h0
    generalize hn : l.length = n at *
    have N := Lib.hid hn
    clear hn
    go_enter Try.func33, Try.ntmps33
    go_wp2_with fail
    go_loopw [13] (fun i wr => ∃ k : Nat, k ≤ n ∧ i = .int .i64 k ∧ Below w.heap.size w wr) (fun i _ => n - (intOf i).toNat)
    case atStart => exact ⟨0, Nat.zero_le _, rfl, Below.refl _ _⟩
    case round =>
      obtain ⟨k, hk, rfl, hbel⟩ := hrel
      by_cases hlt : k < n
      · obtain ⟨e0, e1, e2, e3⟩ := hc k hlt
        obtain ⟨f0, f1, f2, f3⟩ := hc2 k hlt
        replace e0 := hbel.at_cell e0
        replace e1 := hbel.at_cell e1
        replace e2 := hbel.at_cell e2
        replace e3 := hbel.at_cell e3
        replace f0 := hbel.at_cell f0
        replace f1 := hbel.at_cell f1
        replace f2 := hbel.at_cell f2
        replace f3 := hbel.at_cell f3
        have g1 : (k : Int) < (n : Int) := by omega
        have g2 : (0 : Int) ≤ (k : Int) := by omega
        clear hc hc2
        generalize l.getD k ev0 = e at *
        go_upto_region 6 with (fail)
        go_quiet (fail)
        go_wp2
        go_roundw
        case rel => exact ⟨k + 1, by omega, by go_num, hbel.drewN _⟩
        case measure => simp [intOf]; omega
      · have hkn : k = n := by omega
        subst hkn
        clear hc hc2
        go_wp2
        go_ret
        exact ⟨rfl, hbel⟩
end Go.Proofs.Ytjnlfibcpkobaaa
