/- due 58 and its iterator 80. -/
import Derived.Test.YtddajaikighjlaaNx
import Derived.Test.YtddajaikighjlaaRf
import Derived.OwnWalkIn
import Derived.LoopIn
namespace Go.Proofs.Ytddajaikighjlaa
open Go.RowKit Go.Mp Go.Wh

set_option maxHeartbeats 400000 in
theorem due_calls (X : Nat) (k s : Int) (w : World) :
    Calls Try.prog 58 #[.pointer (some ⟨X, 0, none⟩), .int .i64 k, .int .i64 s] w fun e w' => e = .returned (.func (.func 80) #[] #[.pointer (some ⟨w.heap.size, 0, none⟩), .pointer (some ⟨w.heap.size + 1, 0, none⟩), .pointer (some ⟨w.heap.size + 2, 0, none⟩)]) ∧
      w' = ((w.alloc (.cells #[.pointer (some ⟨X, 0, none⟩)] 23)).alloc (.cells #[.int .i64 k] 3)).alloc (.cells #[.int .i64 s] 3) := by
  go_enter Try.func58, Try.ntmps58
  go_wp2_with (fail)
  go_ret
  exact ⟨rfl, rfl⟩

theorem look_tm2 {R : Refs} {w : World} {X : Nat} {W : Wh} (h : WhAt R w X W) (id : Int) : (Instr.lookup 136 (.map (some R.rt)) (.int .i64 id) false).run Try.prog w = .ok (tmV (getA W.tm id tm0).1) w := by
  have := run_lookup (P := Try.prog) Try.underlying136 Try.underlying3 (z := tmV tm0) Try.zeroValue129 (Or.inr ⟨_, rfl, h.mt⟩) id false
  rw [mv_got] at this
  exact this

theorem perm_out {α : Type} : ∀ {L : List (Int × α)} {p : Int × α}, (L.map Prod.fst).Nodup → p ∈ L → L.Perm (p :: L.filter fun q => q.1 != p.1)
  | [], _, _, hp => by simp at hp
  | a :: L, p, hn, hp => by
    rw [List.map_cons, List.nodup_cons] at hn
    rcases List.mem_cons.1 hp with rfl | hp
    · have : ((p :: L).filter fun q => q.1 != p.1) = L := by
        rw [List.filter_cons_of_neg (by simp), List.filter_eq_self]
        intro a ha
        simp only [bne_iff_ne, ne_eq]
        exact fun e => hn.1 (e ▸ List.mem_map.2 ⟨a, ha, rfl⟩)
      rw [this]
    · have hne : a.1 ≠ p.1 := fun e => hn.1 (e ▸ List.mem_map.2 ⟨p, hp, rfl⟩)
      rw [List.filter_cons_of_pos (by simpa using hne)]
      exact ((perm_out hn.2 hp).cons a).trans (List.Perm.swap p a _)

set_option maxRecDepth 100000 in
set_option maxHeartbeats 1000000 in
theorem due1_gives (R : Refs) (X : Nat) (W : Wh) (k s B r : Nat) (w : World) (n : Nat) (h : WhAt R w X W) (hi : Inv W) (hk : k < 7) (hs : s < 64) (hr : R.sl (k * 64 + s) = some r) (hl : (W.sl.getD (k * 64 + s) []).length ≤ 1000)
    (c0 : w.cell? ⟨B, 0, none⟩ = some (.pointer (some ⟨X, 0, none⟩))) (c1 : w.cell? ⟨B + 1, 0, none⟩ = some (.int .i64 (k : Int))) (c2 : w.cell? ⟨B + 2, 0, none⟩ = some (.int .i64 (s : Int))) :
    Gives Fence.wide (n + 2) Try.prog 80 #[.pointer (some ⟨B, 0, none⟩), .pointer (some ⟨B + 1, 0, none⟩), .pointer (some ⟨B + 2, 0, none⟩)] (fun t : Tm => #[tmV t]) (dueS W (k * 64 + s)) w := by
  intro l J Wd hW hJ0 hJa hY
  have hB0 := World.block_lt_of_cell? w _ c0
  have hB1 := World.block_lt_of_cell? w _ c1
  have hB2 := World.block_lt_of_cell? w _ c2
  replace c0 := (hW.cell hB0).trans c0
  replace c1 := (hW.cell hB1).trans c1
  replace c2 := (hW.cell hB2).trans c2
  replace h := h.below hW
  obtain ⟨i, hie⟩ : ∃ i, k * 64 + s = i := ⟨_, rfl⟩
  have hi4 : i < 448 := by omega
  rw [hie] at hr hl hY ⊢
  have hcs := h.cs i hi4
  rw [hr, ← hie, ← Nat.add_assoc] at hcs
  have hm := (h.below (below_drew _ _)).slotAt hi4 hr
  obtain ⟨o, hrun, hR⟩ := run_range (P := Try.prog) Try.underlying138 hm
  have hdl : (dueS W i).length = (W.sl.getD i []).length := by rw [due_srt, (srt_perm _).length_eq]; simp [atS]
  have hords := at_ords hi hi4
  have hdue : dueS W i = srt (atS W i) := rfl
  have hat : atS W i = (W.sl.getD i []).map fun p => (getA W.tm p.1 tm0).1 := rfl
  generalize atS W i = A at hords hdue hat
  have hkeys := hi.skeys i hi4
  have hrlt : r < Wd.heap.size := hm.lt
  generalize W.sl.getD i [] = L at hm hl hR hrun hdl hat hkeys
  generalize dueS W i = D at hdl hdue hY ⊢
  refine callsIn_wide.2 ?_
  have hR' : RngI (Wd.drew.alloc o) r Wd.heap.size (mv Value.bool L) (mv Value.bool L) := hR
  have hrun' : (Instr.range 138 (.map (some r))).run Try.prog (Wd.drewN 1) = .ok (.pointer (some ⟨Wd.heap.size, 0, none⟩)) (Wd.drew.alloc o) := by rw [show Wd.drewN 1 = Wd.drew from rfl]; exact hrun
  have gk : (k : Int) < 7 := by omega
  have gs : (s : Int) < 64 := by omega
  have HH := Lib.hid h
  have HY := Lib.hid hY
  have HJ0 := Lib.hid hJ0
  have HJa := Lib.hid hJa
  have HR := Lib.hid hR'
  have HBW : Below Wd.heap.size Wd (Wd.drew.alloc o) := (below_drew _ _).alloc (Nat.le_refl _) _
  have HB := Lib.hid HBW
  obtain ⟨i0, hif, hz0, hz1, hz2⟩ := info_parts info129
  have HI := Lib.hid hi
  have HO := Lib.hid hords
  have HD := Lib.hid hdue
  have HA := Lib.hid hat
  have HK := Lib.hid hkeys
  have HDL := Lib.hid hdl
  clear h hY hJ0 hJa hR hR' HBW hi hords hdue hat hkeys hdl hm hr hie hi4
  go_enter Try.func80, Try.ntmps80
  go_upto_region 1 with (fail)
  go_region_held3 (fun w' => w'.cell? ⟨B, 0, none⟩ = some (.pointer (some ⟨X, 0, none⟩)) ∧ w'.cell? ⟨B + 1, 0, none⟩ = some (.int .i64 (k : Int)) ∧ w'.cell? ⟨B + 2, 0, none⟩ = some (.int .i64 (s : Int)) ∧ w'.cell? ⟨X, 2 + k * 64 + s, none⟩ = some (.map (some r))) (go_keep) (fail)
  obtain ⟨w0, hw0⟩ : ∃ w0, (Wd.alloc o).drew = w0 := ⟨_, rfl⟩
  have HR0 := Lib.hid (show RngI w0 r Wd.heap.size (mv Value.bool L) (mv Value.bool L) by rw [← hw0]; exact HR.out)
  have HB0 := Lib.hid (show Below Wd.heap.size Wd w0 by rw [← hw0]; exact HB.out)
  rw [hw0]
  clear HR HB hw0 hrun hrun' hcs
  go_wp2
  go_loopg [5] (L.length) (fun gk v wr => ∃ (left : List (Int × Bool)) (dn : List Tm), left.length = gk ∧ dn.length + left.length = L.length ∧ (dn ++ left.map fun p => (getA W.tm p.1 tm0).1).Perm A ∧ (left.map Prod.fst).Nodup ∧ wr.ownsRow (Wd.heap.size + 1) 129 4 v dn.length (dn.flatMap encT) ∧ RngI wr r Wd.heap.size (mv Value.bool L) (mv Value.bool left) ∧ Below Wd.heap.size Wd wr)
  case atStart =>
    exact ⟨L, [], rfl, by simp, by rw [List.nil_append, HA.out], HK.out, World.ownsRow_nil _ _ _ _, HR0.out, HB0.out⟩
  case round =>
    obtain ⟨left, dn, hlen, hsum, hperm, hnod, hown, hrng, hbel⟩ := hrel
    clear HR0 HB0
    rcases run_next (P := Try.prog) hrng 0 with ⟨hnil, hrun⟩ | ⟨pv, hp, w2, hrun, hrng2, hg2, hz2, hent⟩
    · have hl0 : left = [] := by cases left with | nil => rfl | cons _ _ => simp [mv] at hnil
      subst hl0
      have hdn : dn.length = L.length := by simpa using hsum
      have hpd : dn.Perm A := by simpa using hperm
      have hsr : srt dn = D := by
        rw [HD.out]
        exact srt_unique ((srt_perm dn).trans hpd) HO.out (srt_sorted dn)
      have hcon := sortT_calls u5 dn Wd.heap.size wr (own_le hown (by omega)) (by omega) hbel.size ((hpd.map _).nodup_iff.2 HO.out)
      rw [hsr, hdn, ← HDL.out] at hcon
      have HBe := Lib.hid hbel
      clear hrng hbel hnod hnil hown hperm hpd hsr hdn hsum hif hz0 hz1 hz2
      have hform := fun (w3 : World) (ho : w3.ownsRow Wd.heap.size 129 4 u5 D.length (D.flatMap encT)) => own_form ho
      go_wp2_with (go_at_call 74; refine hcon.mono ?_; rintro e w3 ⟨rfl, ho3, hb3⟩; have hfm := own_form ho3; obtain ⟨oa, oc, rfl⟩ := hfm; have HO3 := Lib.hid ho3; have HB3 := Lib.hid (HBe.out.trans hb3); clear ho3 hb3 hform hcon)
      refine (wpIn_wide (n := n + 2)).1 ?_
      have hj3 := HJ0.out w3 HB3.out
      have hwz := HB3.out.size
      obtain ⟨n1, hn1⟩ : ∃ n1, w3.heap.size = n1 := ⟨_, rfl⟩
      rw [hn1] at hj3 hwz
      have HJ3 := Lib.hid hj3
      clear hj3 HBe
      gi_loopw [35] (fun v wx => ∃ kk : Nat, kk ≤ D.length ∧ v = .int .i64 (kk : Int) ∧ J n1 (D.take kk) wx ∧ ∀ b, Wd.heap.size ≤ b → b < n1 → wx.heap[b]? = w3.heap[b]?) (fun v _ => D.length - (intOf v).toNat)
      case atStart => exact ⟨0, Nat.zero_le _, rfl, by simpa using HJ3.out, fun _ _ _ => rfl⟩
      case round =>
        obtain ⟨kk, hkk, rfl, hj, hsame⟩ := hrel
        by_cases hlt : kk < D.length
        · have hfm := own_form2 HO3.out (by omega)
          obtain ⟨g, oc', hsl, hg, hcell⟩ := hfm
          simp only [Value.slice.injEq] at hsl
          obtain ⟨rfl, -, rfl⟩ := hsl
          have hget : D[kk]? = some D[kk] := List.getElem?_eq_getElem hlt
          have hpre : D.take kk ++ [D[kk]] <+: D := by
            rw [List.take_append_getElem hlt]
            exact List.take_prefix _ _
          obtain ⟨⟨ti, tw, tv, to_⟩, htk⟩ : ∃ t, D[kk] = t := ⟨_, rfl⟩
          rw [htk] at hpre hget
          have hcc : ∀ c v, c < 4 → (encT ⟨ti, tw, tv, to_⟩)[c]? = some v → wr.cell? ⟨g, kk * 4 + c, none⟩ = some v := by
            intro c v hc hv
            have h1 : (D.flatMap encT)[kk * 4 + c]? = some v := by
              rw [flat_get encT 4 encT_len (by omega), show (kk * 4 + c) / 4 = kk by omega, show (kk * 4 + c) % 4 = c by omega, hget]
              exact hv
            have h2 := hcell _ _ h1
            have h3 := World.block_lt_of_cell? w3 _ h2
            exact (World.cell?_of_block (hsame g hg (by rw [← hn1]; exact h3))).trans h2
          have k0 := hcc 0 (.int .i64 ti) (by omega) rfl
          have k1 := hcc 1 (.int .i64 tw) (by omega) rfl
          have k2 := hcc 2 (.int .i64 tv) (by omega) rfl
          have k3 := hcc 3 (.int .i64 to_) (by omega) rfl
          rw [Nat.add_zero] at k0
          have hja := HJa.out n1 (D.take kk) wr (.cells #[.int .i64 ti, .int .i64 tw, .int .i64 tv, .int .i64 to_] 129) hj
          have hy0 := HY.out n1 (D.take kk) ⟨ti, tw, tv, to_⟩ _ hwz hja hpre
          simp only [show tmV ⟨ti, tw, tv, to_⟩ = .agg #[.int .i64 ti, .int .i64 tw, .int .i64 tv, .int .i64 to_] from rfl] at hy0
          obtain ⟨fn, tmps, assign, body, hy, hRr⟩ := hy0
          have hpre2 : D.take (kk + 1) = D.take kk ++ [(⟨ti, tw, tv, to_⟩ : Tm)] := by rw [← htk, List.take_append_getElem hlt]
          have HP2 := Lib.hid hpre2
          have HSM := Lib.hid hsame
          have glt : (kk : Int) < (D.length : Int) := by omega
          clear hcc hcell hj hja hsame hpre hpre2 htk hget
          have hDl : D.length ≤ 1000 := by rw [HDL.out]; exact hl
          gi_wp2
          refine hRr.mono ?_
          rintro e W3 ⟨rfl, hj3, hs3⟩
          rw [← HP2.out] at hj3
          have HJ4 := Lib.hid hj3
          have HS4 := Lib.hid (show ∀ b, Wd.heap.size ≤ b → b < n1 → W3.heap[b]? = w3.heap[b]? from fun b h1 h2 => by
            have h4 := HSM.out b h1 h2
            have h5 : b < wr.heap.size := by
              exact (Array.getElem?_eq_some_iff.1 (Option.eq_some_of_isSome (by rw [h4, Array.getElem?_eq_getElem (by omega)]; rfl))).1
            exact (hs3 b h1 h2).trans ((Below.heap_alloc _ _ _ h5).trans h4))
          clear hRr hy hj3 hs3
          gi_wp2
          go_roundw
          case rel => exact ⟨kk + 1, by omega, by go_num, HJ4.out, HS4.out⟩
          case measure => simp [intOf]; omega
        · have hke : kk = D.length := by omega
          subst hke
          rw [List.take_length] at hj
          have HJ5 := Lib.hid hj
          clear hj hsame
          gi_wp2
          go_end0
          exact ⟨⟨_, rfl⟩, n1, hwz, HJ5.out⟩
    · obtain ⟨p, hpl, rfl⟩ := List.mem_map.1 hp
      simp only at hrun hent hrng2
      rw [mv_filter] at hrng2
      have hpo := perm_out hnod hpl
      have e2 := hpo.length_eq
      have hpm := hpo.map (fun p => (getA W.tm p.1 tm0).1)
      obtain ⟨pk, pb⟩ := p
      simp only [List.map_cons, List.length_cons] at hrun hent hrng2 e2 hpm
      have hnod' : ((left.filter fun q => q.1 != pk).map Prod.fst).Nodup := ((List.filter_sublist).map _).nodup hnod
      have hbel2 : Below Wd.heap.size Wd w2 := hbel.grown hg2 hbel.size (fun k e => by cases e; exact Nat.le_refl _)
      have hH2 := HH.out.below hbel2
      have hlk := look_tm2 hH2 pk
      have hct := hH2.ct
      replace c0 := (hbel2.cell (p := ⟨B, 0, none⟩) (Nat.lt_of_lt_of_le hB0 hW.size)).trans c0
      obtain ⟨⟨ti, tw, tv, to_⟩, htt⟩ : ∃ t, (getA W.tm pk tm0).1 = t := ⟨_, rfl⟩
      rw [htt] at hlk hpm
      simp only [show tmV ⟨ti, tw, tv, to_⟩ = .agg #[.int .i64 ti, .int .i64 tw, .int .i64 tv, .int .i64 to_] from rfl] at hlk
      have hperm' : ((dn ++ [(⟨ti, tw, tv, to_⟩ : Tm)]) ++ (left.filter fun q : Int × Bool => q.1 != pk).map fun p => (getA W.tm p.1 tm0).1).Perm A := by
        refine List.Perm.trans ?_ hperm
        rw [List.append_assoc]
        exact List.Perm.append_left dn hpm.symm
      obtain ⟨left', hl'⟩ : ∃ l, left.filter (fun q => q.1 != pk) = l := ⟨_, rfl⟩
      rw [hl'] at hrng2 e2 hnod' hperm'
      have hown2 : w2.ownsRow (Wd.heap.size + 1) 129 4 u5 dn.length (dn.flatMap encT) := hown.kept hg2 (Or.inr fun e => by have := (hown.lt _ e).1; omega)
      have hitl : Wd.heap.size < w2.heap.size := rng_it_lt hrng2
      have hrl2 : r < w2.heap.size := by omega
      obtain ⟨N2, hN2⟩ : ∃ N2, w2.heap.size = N2 := ⟨_, rfl⟩
      have hown3 := hown2.alloc (.cells #[.int .i64 ti, .int .i64 tw, .int .i64 tv, .int .i64 to_] 129)
      have hcl := cells_new w2 (.int .i64 ti) (.int .i64 tw) (.int .i64 tv) (.int .i64 to_) 129
      rw [hN2] at hcl
      have hbel3 := hbel2.alloc hbel2.size (.cells #[.int .i64 ti, .int .i64 tw, .int .i64 tv, .int .i64 to_] 129)
      have hrng3 : RngI (w2.alloc (.cells #[.int .i64 ti, .int .i64 tw, .int .i64 tv, .int .i64 to_] 129)) r Wd.heap.size (mv Value.bool L) (mv Value.bool left') :=
        hrng2.same (Below.heap_alloc _ _ _ hrl2) (Below.heap_alloc _ _ _ hitl)
      have hbsz := hbel2.size
      have hdl : dn.length ≤ 1000 := by omega
      have hsum' : (dn ++ [(⟨ti, tw, tv, to_⟩ : Tm)]).length + left'.length = L.length := by simp; omega
      have HRNG := Lib.hid hrng3
      have LL := Lib.hid (show left'.length < gk by omega)
      have HS := Lib.hid hsum'
      have HN := Lib.hid hnod'
      have HP := Lib.hid hperm'
      have HB3 := Lib.hid hbel3
      have HOWN := Lib.hid hown3
      clear hown hown2 hown3 hrng hrng2 hrng3 hbel hbel2 hbel3 hg2 hz2 hp hpl hperm hperm' hnod hnod' hl' e2 hsum hsum' hlen hH2 htt hpo hpm
      go_wp2_with (at_builtin; refine wpList_append_own _ rfl (.tmp 22) (.tmp 29) 115 rfl (Wd.heap.size + 1) 129 i0 (.agg #[.int .i64 0, .int .i64 0, .int .i64 0, .int .i64 0]) 4 32 Try.underlying115 hif hz0 hz1 hz2 rfl (by decide) _ _ _ rfl HOWN.out ⟨N2, 0, none⟩ 1 1 [.int .i64 ti, .int .i64 tw, .int .i64 tv, .int .i64 to_] rfl rfl hcl ?d2 ?d3 ?d4 ?d5 ?_)
      case d2 => intro u hu; simp at hu; rcases hu with rfl | rfl | rfl | rfl <;> rfl
      case d3 => unfold maxLen; omega
      case d4 => omega
      case d5 => simp; omega
      intro v4 w4 hown4 hgrow4 _
      have hne4 : ∀ k, u5.ownBlock = some k → Wd.heap.size + 1 ≤ k := fun k e => (HOWN.out.lt k e).1
      have hbel4 : Below Wd.heap.size Wd w4 := HB3.out.grown hgrow4 HB3.out.size (fun k hk => by have := hne4 k hk; omega)
      have hown5 : w4.ownsRow (Wd.heap.size + 1) 129 4 v4 (dn ++ [(⟨ti, tw, tv, to_⟩ : Tm)]).length ((dn ++ [(⟨ti, tw, tv, to_⟩ : Tm)]).flatMap encT) := by
        rw [List.length_append, List.flatMap_append]
        simpa [encT] using hown4
      have hrng5 : RngI w4 r Wd.heap.size (mv Value.bool L) (mv Value.bool left') := HRNG.out.same
        (hgrow4.block _ (by simp; omega) (fun e => by have := hne4 _ e.symm; omega)) (hgrow4.block _ (by simp; omega) (fun e => by have := hne4 _ e.symm; omega))
      have H5 := Lib.hid hown5
      have R5 := Lib.hid hrng5
      have B5 := Lib.hid hbel4
      clear hown4 hgrow4 hne4 hbel4 hown5 hrng5 hcl hif hz0 hz1 hz2
      go_wp2
      go_roundg left'.length
      case measure => exact LL.out
      case rel => exact ⟨left', dn ++ [⟨ti, tw, tv, to_⟩], rfl, HS.out, HP.out, HN.out, H5.out, R5.out, B5.out⟩
end Go.Proofs.Ytddajaikighjlaa
