/- slices.Clone at int; State.tasks. -/
import Derived.Test.YtjnlfibcpkobaaaC
import Derived.Laws.AppendOwnNone
import Derived.Deep.Onto
namespace Go.Proofs.Ytjnlfibcpkobaaa
open Go.RowKit Go.Sl Go.Sched

theorem info3 : (Try.prog.info? 3).map (fun i => (i.zero, i.size, i.bytes)) = some (some (.int .i64 0), 1, 8) := by kernel_rfl

set_option maxRecDepth 100000 in
set_option maxHeartbeats 1000000 in
theorem clone_calls (v : Value) (xs : List Int) (w : World) (h : SlI w v xs) (hb : xs.length ≤ 1000000) :
    Calls Try.prog 16 #[v] w fun e w' => ∃ v', e = .returned v' ∧ w'.ownsRow w.heap.size 3 1 v' xs.length (xs.map (Value.int .i64)) ∧ Below w.heap.size w w' := by
  have core : ∀ (ad : Addr) (n c : Nat), n = xs.length → v = .slice (some ad) n c → (∀ j u, (xs.map (Value.int .i64))[j]? = some u → (w.alloc (.cells #[] 3)).cell? (ad.add j) = some u) →
      Calls Try.prog 16 #[v] w fun e w' => ∃ v', e = .returned v' ∧ w'.ownsRow w.heap.size 3 1 v' xs.length (xs.map (Value.int .i64)) ∧ Below w.heap.size w w' := by
    intro ad n c hn hv hcl
    subst hv
    have hl : (xs.map (Value.int .i64)).length = n * 1 := by simp [hn]
    have hown := owns_empty w 3 1
    have H1 := Lib.hid (oneCell_ints xs)
    have HC := Lib.hid hcl
    have HL := Lib.hid hl
    have hn6 : n ≤ 1000000 := by omega
    have N := Lib.hid hn
    rw [← hn]
    clear hcl hl hn h hb
    have he := Lib.run_eql_slice_nil (P := Try.prog) w 24 3 (some ad) n c 0 0 Try.underlying24
    obtain ⟨i0, hif, hz0, hz1, hz2⟩ := info_parts info3
    go_enter Try.func16, Try.ntmps16
    go_wp2_with (at_builtin; refine wpList_append_own _ rfl _ _ 24 rfl w.heap.size 3 i0 (.int .i64 0) 1 8 Try.underlying24 hif hz0 hz1 hz2 rfl (by decide) _ _ _ rfl hown ad n c (xs.map (Value.int .i64)) rfl HL.out HC.out ?c2 ?c3 ?c4 ?c5 ?_)
    case c2 => exact H1.out
    case c3 => unfold maxLen; omega
    case c4 => omega
    case c5 => simp
    intro v' w2 hown2 hgrow _
    have hbel2 : Below w.heap.size w w2 := ((Below.refl _ _).alloc (Nat.le_refl _) _).grown hgrow (by simp) (fun k hk => (hown.lt k hk).1)
    have O := Lib.hid hown2
    clear hown hown2 hgrow he hif hz0 hz1 hz2
    go_wp2
    go_ret
    exact ⟨_, rfl, O.out, hbel2⟩
  rcases h.cases3 with ⟨rfl, rfl⟩ | ⟨ad, c, rfl, hc⟩
  · have he := Lib.run_eql_slice_nil (P := Try.prog) w 24 3 none 0 0 0 0 Try.underlying24
    clear core
    go_enter Try.func16, Try.ntmps16
    go_wp2
    go_ret
    exact ⟨_, rfl, World.ownsRow_nil _ _ _ _, Below.refl _ _⟩
  · refine core ad _ c rfl rfl (fun j u hu => ?_)
    exact ((Below.refl w.heap.size w).alloc (Nat.le_refl _) _).at_cell (hc j u hu)

theorem take_tasks (s : St) (k : Nat) (hk : k < s.ws.length) : s.inj ++ (s.ws.take (k + 1)).flatMap own = (s.inj ++ (s.ws.take k).flatMap own) ++ (s.ws.getD k wk0).q ++ (if (s.ws.getD k wk0).ph = 3 then [(s.ws.getD k wk0).tk] else []) := by
  rw [List.take_succ_eq_append_getElem hk, tasks_snoc]
  simp [List.getD, hk]
theorem take_tasks_le (s : St) (k : Nat) : (s.inj ++ (s.ws.take k).flatMap own).length ≤ (tasks s).length := by
  unfold tasks
  conv => rhs; rw [← List.take_append_drop k s.ws]
  simp only [List.flatMap_append, List.length_append]
  omega

set_option maxRecDepth 100000 in
set_option maxHeartbeats 2000000 in
theorem tasks_calls (wsV injV : Value) (qs : List Value) (s : St) (w : World) (hws : RWs w wsV qs s.ws) (hinj : SlI w injV s.inj) (hq : ∀ i, i < s.ws.length → SlI w (qs.getD i undef) (s.ws.getD i wk0).q)
    (hlen : (tasks s).length ≤ 100000) (hn : s.ws.length ≤ 1000) :
    Calls Try.prog 51 #[.agg #[wsV, injV]] w fun e w' => ∃ v, e = .returned v ∧ w'.ownsRow w.heap.size 3 1 v (tasks s).length ((tasks s).map (Value.int .i64)) ∧ Below w.heap.size w w' := by
  have hb0 : Below w.heap.size w (w.alloc (.cells #[wsV, injV] 26)) := (Below.refl _ _).alloc (Nat.le_refl _) _
  have hinj0 := hinj.below hb0
  have hil : s.inj.length ≤ 1000000 := by
    have := take_tasks_le s 0
    simp at this
    omega
  have hb0c : (w.alloc (.cells #[wsV, injV] 26)).cell? ⟨w.heap.size, 0, none⟩ = some wsV := by rw [World.cell?_alloc_at _ _ _ _ rfl]; rfl
  go_enter Try.func51, Try.ntmps51
  go_wp2_with fail
  refine (clone_calls injV s.inj _ hinj0 hil).mono ?_
  rintro e w1 ⟨v0, rfl, hown, hb1⟩
  have hc1 := hb1.at_cell hb0c
  replace hb1 := hb0.then hb1
  replace hown := hown.mono (base' := w.heap.size) (by simp)
  clear hb0 hinj hinj0 hb0c
  rcases hws.cases with ⟨hws0, a, c, rfl⟩ | ⟨h0, b, o, c, rfl, hc⟩
  · have ht : tasks s = s.inj := by simp [tasks, hws0]
    have HT := Lib.hid ht
    have O := Lib.hid hown
    clear hown ht hws0 hws hq hlen
    go_wp2
    refine wp_loop_rounds 1 ?_
    rw [rounds_succ]
    go_wp2
    go_ret
    exact ⟨_, rfl, by rw [HT.out]; exact O.out, hb1⟩
  · have O := Lib.hid hown
    have HQ := Lib.hid hq
    have HL := Lib.hid hlen
    clear hown hws hq hlen
    generalize hnn : s.ws.length = n at *
    have N := Lib.hid hnn
    clear hnn
    go_wp2
    clear hc1
    go_loopw [3, 12] (fun out i wr => ∃ k : Nat, k ≤ n ∧ i = .int .i64 k ∧ wr.ownsRow w.heap.size 3 1 out (s.inj ++ (s.ws.take k).flatMap own).length ((s.inj ++ (s.ws.take k).flatMap own).map (Value.int .i64)) ∧ Below w.heap.size w wr) (fun _ i _ => n - (intOf i).toNat)
    case atStart => exact ⟨0, Nat.zero_le _, rfl, by simpa using O.out, hb1⟩
    case round =>
      obtain ⟨k, hk, rfl, hown, hbel⟩ := hrel
      clear O hb1
      by_cases hlt : k < n
      · obtain ⟨c0, c1, c2, c3⟩ := hc k hlt
        replace c0 := hbel.at_cell c0
        replace c1 := hbel.at_cell c1
        replace c2 := hbel.at_cell c2
        replace c3 := hbel.at_cell c3
        have hqk := (HQ.out k hlt).below hbel
        have TT := Lib.hid (take_tasks s k (by rw [N.out]; exact hlt))
        have TL := Lib.hid (take_tasks_le s (k + 1))
        clear hc
        generalize qs.getD k undef = qv at *
        generalize s.ws.getD k wk0 = kk at *
        generalize s.inj ++ (s.ws.take k).flatMap own = l0 at *
        generalize hl1 : s.inj ++ (s.ws.take (k + 1)).flatMap own = l1 at *
        obtain ⟨q, ph, tk, lk⟩ := kk
        simp only at *
        obtain ⟨i0, hif, hz0, hz1, hz2⟩ := info_parts info3
        have hsz : w.heap.size ≤ wr.heap.size := hbel.size
        have hown1 := hown.alloc (.cells #[qv, .int .i64 ph, .int .i64 tk, .int .i64 lk] 42)
        have hbel1 := hbel.alloc hsz (.cells #[qv, .int .i64 ph, .int .i64 tk, .int .i64 lk] 42)
        have L1 := Lib.hid hl1
        clear hl1
        have hll : l0.length + q.length + 1 ≤ 200000 := by
          have h1 := TL.out
          have h2 := HL.out
          have h3 := congrArg List.length TT.out
          simp only [List.length_append] at h3
          omega
        rcases hqk.cases3 with ⟨hq0, rfl⟩ | ⟨ad, cq, rfl, hcq⟩
        · subst hq0
          by_cases hph : ph = 3
          · have PH := Lib.hid hph
            have bph : (ph == 3) = true := by simp [hph]
            clear hph
            have hown3 := hown1.alloc (.cells #[.int .i64 tk] 3)
            have hbel3 := hbel1.alloc hbel1.size (.cells #[.int .i64 tk] 3)
            have hcl := cell_one_new (wr.alloc (.cells #[.slice none 0 0, .int .i64 ph, .int .i64 tk, .int .i64 lk] 42)) (.int .i64 tk) 3
            have hsz1 : (wr.alloc (.cells #[.slice none 0 0, .int .i64 ph, .int .i64 tk, .int .i64 lk] 42)).heap.size = wr.heap.size + 1 := by simp
            rw [hsz1] at hcl
            go_wp2_with (first | (at_builtin; refine wpList_append_own_none rfl (.tmp 16) (.tmp 18) 24 rfl w.heap.size 3 i0 1 Try.underlying24 hif _ _ _ rfl hown1 rfl ?_) | (at_builtin; refine wpList_append_own _ rfl (.tmp 23) (.tmp 26) 24 rfl w.heap.size 3 i0 (.int .i64 0) 1 8 Try.underlying24 hif hz0 hz1 hz2 rfl (by decide) _ _ _ rfl hown3 ⟨wr.heap.size + 1, 0, none⟩ 1 1 [.int .i64 tk] rfl rfl hcl ?d2 ?d3 ?d4 ?d5 ?_))
            case d2 => intro u hu; simp at hu; subst hu; rfl
            case d3 => unfold maxLen; omega
            case d4 => omega
            case d5 => simp; omega
            intro v4 w4 hown4 hgrow4 _
            have hbel4 : Below w.heap.size w w4 := hbel3.grown hgrow4 hbel3.size (fun k hk => (hown3.lt k hk).1)
            have hfin : w4.ownsRow w.heap.size 3 1 v4 l1.length (l1.map (Value.int .i64)) := by
              rw [TT.out, if_pos PH.out]
              simpa using hown4
            have O4 := Lib.hid hfin
            clear hown hown1 hown3 hown4 hgrow4 hcl hsz1 hif hz0 hz1 hz2 hfin
            go_wp2
            go_roundw
            case rel => exact ⟨k + 1, by omega, by go_num, by rw [L1.out]; exact O4.out, hbel4⟩
            case measure => simp [intOf]; omega
          · have PH := Lib.hid hph
            have bph : (ph == 3) = false := by simp [hph]
            clear hph
            have hfin : (wr.alloc (.cells #[.slice none 0 0, .int .i64 ph, .int .i64 tk, .int .i64 lk] 42)).ownsRow w.heap.size 3 1 u3 l1.length (l1.map (Value.int .i64)) := by
              rw [TT.out, if_neg PH.out]
              simpa using hown1
            have O4 := Lib.hid hfin
            go_wp2_with (at_builtin; refine wpList_append_own_none rfl (.tmp 16) (.tmp 18) 24 rfl w.heap.size 3 i0 1 Try.underlying24 hif _ _ _ rfl hown1 rfl ?_)
            clear hown hown1 hif hz0 hz1 hz2 hfin
            go_roundw
            case rel => exact ⟨k + 1, by omega, by go_num, by rw [L1.out]; exact O4.out, hbel1⟩
            case measure => simp [intOf]; omega
        · have hcq1 : ∀ j u, (q.map (Value.int .i64))[j]? = some u → (wr.alloc (.cells #[.slice (some ad) q.length cq, .int .i64 ph, .int .i64 tk, .int .i64 lk] 42)).cell? (ad.add j) = some u := fun j u hu => ((Below.refl wr.heap.size wr).alloc (Nat.le_refl _) _).at_cell (hcq j u hu)
          have hl2 : (q.map (Value.int .i64)).length = q.length * 1 := by simp
          have HC := Lib.hid hcq1
          have HL2 := Lib.hid hl2
          have H1 := Lib.hid (oneCell_ints q)
          have hlt0 := hown.lt
          clear hcq1 hl2 hcq hqk
          have mid : ∀ (v2 : Value) (w2 : World), w2.ownsRow w.heap.size 3 1 v2 (l0.length + q.length) (l0.map (Value.int .i64) ++ q.map (Value.int .i64)) → (wr.alloc (.cells #[.slice (some ad) q.length cq, .int .i64 ph, .int .i64 tk, .int .i64 lk] 42)).grownBy w2 u3.ownBlock →
              w2.cell? ⟨wr.heap.size, 0, none⟩ = some (.slice (some ad) q.length cq) ∧ w2.cell? ⟨wr.heap.size, 1, none⟩ = some (.int .i64 ph) ∧ w2.cell? ⟨wr.heap.size, 2, none⟩ = some (.int .i64 tk) ∧ Below w.heap.size w w2 := by
            intro v2 w2 _ hg
            have hbk := hg.block wr.heap.size (by simp) (fun e => by have := (hlt0 wr.heap.size e.symm).2; omega)
            have hce : ∀ i, w2.cell? ⟨wr.heap.size, i, none⟩ = (wr.alloc (.cells #[.slice (some ad) q.length cq, .int .i64 ph, .int .i64 tk, .int .i64 lk] 42)).cell? ⟨wr.heap.size, i, none⟩ := fun i => World.cell?_of_block (w := (wr.alloc (.cells #[.slice (some ad) q.length cq, .int .i64 ph, .int .i64 tk, .int .i64 lk] 42))) hbk
            refine ⟨?_, ?_, ?_, hbel1.grown hg hbel1.size (fun k hk => (hown1.lt k hk).1)⟩
            · rw [hce, World.cell?_alloc_at _ _ _ _ rfl]; rfl
            · rw [hce, World.cell?_alloc_at _ _ _ _ rfl]; rfl
            · rw [hce, World.cell?_alloc_at _ _ _ _ rfl]; rfl
          have M := Lib.hid mid
          clear mid hlt0
          by_cases hph : ph = 3
          · have PH := Lib.hid hph
            have bph : (ph == 3) = true := by simp [hph]
            clear hph
            go_wp2_with (at_builtin; refine wpList_append_own _ rfl (.tmp 16) (.tmp 18) 24 rfl w.heap.size 3 i0 (.int .i64 0) 1 8 Try.underlying24 hif hz0 hz1 hz2 rfl (by decide) _ _ _ rfl hown1 ad q.length cq (q.map (Value.int .i64)) rfl HL2.out HC.out ?e2 ?e3 ?e4 ?e5 ?_)
            case e2 => exact H1.out
            case e3 => unfold maxLen; omega
            case e4 => omega
            case e5 => exact hbel1.size
            intro v2 w2 hown2 hgrow2 _
            obtain ⟨m0, m1, m2, hbel2⟩ := M.out v2 w2 hown2 hgrow2
            clear hgrow2 hown hown1
            have hown3 := hown2.alloc (.cells #[.int .i64 tk] 3)
            have hbel3 := hbel2.alloc hbel2.size (.cells #[.int .i64 tk] 3)
            have hcl := cell_one_new w2 (.int .i64 tk) 3
            go_wp2_with (at_builtin; refine wpList_append_own _ rfl (.tmp 23) (.tmp 26) 24 rfl w.heap.size 3 i0 (.int .i64 0) 1 8 Try.underlying24 hif hz0 hz1 hz2 rfl (by decide) _ _ _ rfl hown3 ⟨w2.heap.size, 0, none⟩ 1 1 [.int .i64 tk] rfl rfl hcl ?d2 ?d3 ?d4 ?d5 ?_)
            case d2 => intro u hu; simp at hu; subst hu; rfl
            case d3 => unfold maxLen; omega
            case d4 => omega
            case d5 => exact hbel3.size
            intro v4 w4 hown4 hgrow4 _
            have hbel4 : Below w.heap.size w w4 := hbel3.grown hgrow4 hbel3.size (fun k hk => (hown3.lt k hk).1)
            have hfin : w4.ownsRow w.heap.size 3 1 v4 l1.length (l1.map (Value.int .i64)) := by
              rw [TT.out, if_pos PH.out]
              simpa [List.append_assoc, Nat.add_assoc] using hown4
            have O4 := Lib.hid hfin
            clear hown2 hown3 hown4 hgrow4 hcl hif hz0 hz1 hz2 hfin
            go_wp2
            go_roundw
            case rel => exact ⟨k + 1, by omega, by go_num, by rw [L1.out]; exact O4.out, hbel4⟩
            case measure => simp [intOf]; omega
          · have PH := Lib.hid hph
            have bph : (ph == 3) = false := by simp [hph]
            clear hph
            go_wp2_with (at_builtin; refine wpList_append_own _ rfl (.tmp 16) (.tmp 18) 24 rfl w.heap.size 3 i0 (.int .i64 0) 1 8 Try.underlying24 hif hz0 hz1 hz2 rfl (by decide) _ _ _ rfl hown1 ad q.length cq (q.map (Value.int .i64)) rfl HL2.out HC.out ?e2 ?e3 ?e4 ?e5 ?_)
            case e2 => exact H1.out
            case e3 => unfold maxLen; omega
            case e4 => omega
            case e5 => exact hbel1.size
            intro v2 w2 hown2 hgrow2 _
            obtain ⟨m0, m1, m2, hbel2⟩ := M.out v2 w2 hown2 hgrow2
            clear hgrow2 hown hown1
            have hfin : w2.ownsRow w.heap.size 3 1 v2 l1.length (l1.map (Value.int .i64)) := by
              rw [TT.out, if_neg PH.out]
              simpa using hown2
            have O4 := Lib.hid hfin
            clear hown2 hif hz0 hz1 hz2 hfin
            go_wp2
            go_roundw
            case rel => exact ⟨k + 1, by omega, by go_num, by rw [L1.out]; exact O4.out, hbel2⟩
            case measure => simp [intOf]; omega
      · have hkn : k = n := by omega
        subst hkn
        clear hc
        have ht : s.inj ++ (s.ws.take k).flatMap own = tasks s := by rw [List.take_of_length_le (by rw [N.out]; exact Nat.le_refl _)]; rfl
        rw [ht] at hown
        have O := Lib.hid hown
        clear hown ht
        go_wp2
        go_ret
        exact ⟨_, rfl, O.out, hbel⟩
end Go.Proofs.Ytjnlfibcpkobaaa
