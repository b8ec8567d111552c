/- Timers 45, Next 14. -/
import Derived.Test.YtddajaikighjlaaMy
namespace Go.Proofs.Ytddajaikighjlaa
open Go.RowKit Go.Mp Go.Wh

theorem info129 : (Try.prog.info? 129).map (fun i => (i.zero, i.size, i.bytes)) = some (some (.agg #[.int .i64 0, .int .i64 0, .int .i64 0, .int .i64 0]), 4, 32) := by kernel_rfl
theorem cells_new (w : World) (a b c d : Value) (t : TypeId) : ∀ (j : Nat) (u : Value), [a, b, c, d][j]? = some u → (w.alloc (.cells #[a, b, c, d] t)).cell? (Addr.add ⟨w.heap.size, 0, none⟩ j) = some u := by
  intro j u h
  have e := heap_alloc_new w (.cells #[a, b, c, d] t)
  rw [Go.WideShapes.add_plain]
  unfold World.cell?
  simp only [e, Option.isSome_none, Bool.false_eq_true, if_false, Nat.zero_add]
  rw [← h]
  simp

theorem own_le {w : World} {base base' size n : Nat} {e : TypeId} {v : Value} {xs : List Value} (h : w.ownsRow base e size v n xs) (hb : base' ≤ base) : w.ownsRow base' e size v n xs := by
  refine ⟨h.1, ?_⟩
  rcases h.2 with h0 | ⟨g, cap, cur, h1, h2, h3⟩
  · exact Or.inl h0
  · exact Or.inr ⟨g, cap, cur, h1, by omega, h3⟩
theorem perm_one : ∀ {L : List (Int × Tm)} {k : Int} {t : Tm}, (L.map Prod.fst).Nodup → (k, t) ∈ L → (L.map Prod.snd).Perm ([t] ++ (L.filter fun q => q.1 != k).map Prod.snd)
  | [], _, _, _, hp => by simp at hp
  | a :: L, k, t, hn, hp => by
    rw [List.map_cons, List.nodup_cons] at hn
    rcases List.mem_cons.1 hp with rfl | hp
    · have : (((k, t) :: L).filter fun q => q.1 != k) = L := by simp [filt_out hn.1]
      rw [this]
      exact List.Perm.refl _
    · have hne : a.1 ≠ k := fun e => hn.1 (e ▸ List.mem_map.2 ⟨(k, t), hp, rfl⟩)
      have : ((a :: L).filter fun q => q.1 != k) = a :: (L.filter fun q => q.1 != k) := by simp [hne]
      rw [this]
      exact ((perm_one hn.2 hp).cons a.2).trans (List.Perm.swap t a.2 _)

set_option maxRecDepth 100000 in
set_option maxHeartbeats 1000000 in
theorem timers_calls (R : Refs) (X : Nat) (W : Wh) (w : World) (h : WhAt R w X W) (hi : Inv W) (hl : W.tm.length ≤ 1000) :
    Calls Try.prog 45 #[.pointer (some ⟨X, 0, none⟩)] w fun e w' => ∃ v, e = .returned v ∧ w'.ownsRow w.heap.size 129 4 v W.tm.length ((timersS W).flatMap encT) ∧ Below w.heap.size w w' := by
  have ct := h.ct
  obtain ⟨o, hr, hR⟩ := run_range (P := Try.prog) Try.underlying136 h.mt
  have hb := (Below.refl w.heap.size w).alloc (Nat.le_refl _) o
  have HR := Lib.hid hR
  have HB := Lib.hid hb
  have HK := Lib.hid hi.keys
  have HO := Lib.hid (show ((W.tm.map Prod.snd).map (·.ord)).Nodup by rw [List.map_map]; exact hi.ords)
  have HL := Lib.hid hl
  obtain ⟨i0, hif, hz0, hz1, hz2⟩ := info_parts info129
  have hrtw := h.mt.lt
  clear h hR hb hi hl
  go_enter Try.func45, Try.ntmps45
  go_wp2
  go_loopg [3] (W.tm.length) (fun gk v wr => ∃ (left : List (Int × Tm)) (dn : List Tm), left.length = gk ∧ dn.length + left.length = W.tm.length ∧ (dn ++ left.map Prod.snd).Perm (W.tm.map Prod.snd) ∧ (left.map Prod.fst).Nodup ∧ wr.ownsRow (w.heap.size + 1) 129 4 v dn.length (dn.flatMap encT) ∧ RngI wr R.rt w.heap.size (mv tmV W.tm) (mv tmV left) ∧ Below w.heap.size w wr)
  case atStart =>
    exact ⟨W.tm, [], rfl, by simp, by simp, HK.out, World.ownsRow_nil _ _ _ _, HR.out, HB.out⟩
  case round =>
    obtain ⟨left, dn, hlen, hsum, hperm, hnod, hown, hrng, hbel⟩ := hrel
    rcases run_next (P := Try.prog) hrng 0 with ⟨hnil, hrun⟩ | ⟨pv, hp, w2, hrun, hrng2, hg2, hz2, hent⟩
    · have hl0 : left = [] := by cases left with | nil => rfl | cons _ _ => simp [mv] at hnil
      subst hl0
      have hdl : dn.length = W.tm.length := by simpa using hsum
      have hpd : dn.Perm (W.tm.map Prod.snd) := by simpa using hperm
      have hsr : srt dn = timersS W := by
        unfold timersS
        exact srt_unique ((srt_perm dn).trans hpd) HO.out (srt_sorted dn)
      have hcon := sortT_calls u3 dn w.heap.size wr (own_le hown (by omega)) (by have := HL.out; omega) hbel.size ((hpd.map _).nodup_iff.2 HO.out)
      rw [hsr, hdl] at hcon
      have HBe := Lib.hid hbel
      clear hrng hbel hnod hnil hown hperm hpd hsr hdl hsum
      go_wp2_with (go_at_call 74; refine hcon.mono ?_; rintro e w3 ⟨rfl, ho3, hb3⟩; have HO3 := Lib.hid ho3; have HB3 := Lib.hid (HBe.out.trans hb3); clear ho3 hb3)
      go_ret
      exact ⟨_, rfl, HO3.out, HB3.out⟩
    · obtain ⟨p, hpl, rfl⟩ := List.mem_map.1 hp
      simp only at hrun hent hrng2
      rw [mv_filter] at hrng2
      obtain ⟨pk, ⟨ti, tw, tv, to_⟩⟩ := p
      simp only at hrun hent hrng2
      simp only [show tmV ⟨ti, tw, tv, to_⟩ = .agg #[.int .i64 ti, .int .i64 tw, .int .i64 tv, .int .i64 to_] from rfl] at hrun hent
      have e2 := (cnts_one 0 hnod hpl).2
      simp only at e2
      have hnod' : ((left.filter fun q => q.1 != pk).map Prod.fst).Nodup := ((List.filter_sublist).map _).nodup hnod
      have hperm' : ((dn ++ [(⟨ti, tw, tv, to_⟩ : Tm)]) ++ (left.filter fun q : Int × Tm => q.1 != pk).map Prod.snd).Perm (W.tm.map Prod.snd) := by
        refine List.Perm.trans ?_ hperm
        rw [List.append_assoc]
        refine List.Perm.append_left dn ?_
        exact (perm_one hnod hpl).symm
      obtain ⟨left', hl'⟩ : ∃ l, left.filter (fun q => q.1 != pk) = l := ⟨_, rfl⟩
      rw [hl'] at hrng2 e2 hnod' hperm'
      have hown2 : w2.ownsRow (w.heap.size + 1) 129 4 u3 dn.length (dn.flatMap encT) := hown.kept hg2 (Or.inr fun e => by have := (hown.lt _ e).1; omega)
      have hbel2 : Below w.heap.size w w2 := hbel.grown hg2 hbel.size (fun k e => by cases e; exact Nat.le_refl _)
      have hlt : R.rt < w2.heap.size := hrng2.map.lt
      have hitl : w.heap.size < w2.heap.size := rng_it_lt hrng2
      obtain ⟨B, hB⟩ : ∃ B, w2.heap.size = B := ⟨_, rfl⟩
      have hown3 := (hown2.alloc (.cells #[.int .i64 ti, .int .i64 tw, .int .i64 tv, .int .i64 to_] 129)).alloc (.cells #[.int .i64 ti, .int .i64 tw, .int .i64 tv, .int .i64 to_] 129)
      have hcl := cells_new (w2.alloc (.cells #[.int .i64 ti, .int .i64 tw, .int .i64 tv, .int .i64 to_] 129)) (.int .i64 ti) (.int .i64 tw) (.int .i64 tv) (.int .i64 to_) 129
      rw [World.size_alloc, hB] at hcl
      have hbel3 := (hbel2.alloc hbel2.size (.cells #[.int .i64 ti, .int .i64 tw, .int .i64 tv, .int .i64 to_] 129)).alloc (by simp; have := hbel2.size; omega) (.cells #[.int .i64 ti, .int .i64 tw, .int .i64 tv, .int .i64 to_] 129)
      have hrng3 : RngI ((w2.alloc (.cells #[.int .i64 ti, .int .i64 tw, .int .i64 tv, .int .i64 to_] 129)).alloc (.cells #[.int .i64 ti, .int .i64 tw, .int .i64 tv, .int .i64 to_] 129)) R.rt w.heap.size (mv tmV W.tm) (mv tmV left') :=
        hrng2.same ((Below.heap_alloc _ _ _ (by simp; omega)).trans (Below.heap_alloc _ _ _ hlt)) ((Below.heap_alloc _ _ _ (by simp; omega)).trans (Below.heap_alloc _ _ _ hitl))
      have hbsz := hbel2.size
      have hdl : dn.length ≤ 1000 := by have := HL.out; omega
      have hsum' : (dn ++ [(⟨ti, tw, tv, to_⟩ : Tm)]).length + left'.length = W.tm.length := by simp; omega
      have HRNG := Lib.hid hrng3
      have LL := Lib.hid (show left'.length < gk by omega)
      have HS := Lib.hid hsum'
      have HN := Lib.hid hnod'
      have HP := Lib.hid hperm'
      have HB3 := Lib.hid hbel3
      have HOWN := Lib.hid hown3
      clear hown hown2 hown3 hrng hrng2 hrng3 hbel hbel2 hbel3 hg2 hz2 hp hpl hperm hperm' hnod hnod' hl' e2 hsum hsum' hlen
      go_wp2_with (at_builtin; refine wpList_append_own _ rfl (.tmp 17) (.tmp 19) 115 rfl (w.heap.size + 1) 129 i0 (.agg #[.int .i64 0, .int .i64 0, .int .i64 0, .int .i64 0]) 4 32 Try.underlying115 hif hz0 hz1 hz2 rfl (by decide) _ _ _ rfl HOWN.out ⟨B + 1, 0, none⟩ 1 1 [.int .i64 ti, .int .i64 tw, .int .i64 tv, .int .i64 to_] rfl rfl hcl ?d2 ?d3 ?d4 ?d5 ?_)
      case d2 => intro u hu; simp at hu; rcases hu with rfl | rfl | rfl | rfl <;> rfl
      case d3 => unfold maxLen; omega
      case d4 => omega
      case d5 => simp; omega
      intro v4 w4 hown4 hgrow4 _
      have hne4 : ∀ k, u3.ownBlock = some k → w.heap.size + 1 ≤ k := fun k e => (HOWN.out.lt k e).1
      have hbel4 : Below w.heap.size w w4 := HB3.out.grown hgrow4 HB3.out.size (fun k hk => by have := hne4 k hk; omega)
      have hown5 : w4.ownsRow (w.heap.size + 1) 129 4 v4 (dn ++ [(⟨ti, tw, tv, to_⟩ : Tm)]).length ((dn ++ [(⟨ti, tw, tv, to_⟩ : Tm)]).flatMap encT) := by
        rw [List.length_append, List.flatMap_append]
        simpa [encT] using hown4
      have hrng5 : RngI w4 R.rt w.heap.size (mv tmV W.tm) (mv tmV left') := HRNG.out.same
        (hgrow4.block _ (by simp; omega) (fun e => by have := hne4 _ e.symm; omega)) (hgrow4.block _ (by simp; omega) (fun e => by have := hne4 _ e.symm; omega))
      have H5 := Lib.hid hown5
      have R5 := Lib.hid hrng5
      have B5 := Lib.hid hbel4
      clear hown4 hgrow4 hne4 hbel4 hown5 hrng5 hcl hif hz0 hz1 hz2
      go_wp2
      go_roundg left'.length
      case measure => exact LL.out
      case rel => exact ⟨left', dn ++ [⟨ti, tw, tv, to_⟩], rfl, HS.out, HP.out, HN.out, H5.out, R5.out, B5.out⟩
end Go.Proofs.Ytddajaikighjlaa
