/- cascade 57. -/
import Derived.Test.YtddajaikighjlaaDu
import Derived.Test.YtddajaikighjlaaIw
import Derived.WalkMore
import Derived.Test.YtddajaikighjlaaFr
namespace Go.Proofs.Ytddajaikighjlaa
open Go.RowKit Go.Mp Go.Wh
attribute [local go_sem] Oper.semAt_some

theorem top_le (now : Int) : topOf now ≤ 6 := by unfold topOf; (repeat' split) <;> omega
theorem top_step (now : Int) (k : Nat) (hk : k < 6) (h : k ≤ topOf now) (hd : now % (pw k * 64) = 0) : k + 1 ≤ topOf now := by
  have : k = 0 ∨ k = 1 ∨ k = 2 ∨ k = 3 ∨ k = 4 ∨ k = 5 := by omega
  rcases this with rfl | rfl | rfl | rfl | rfl | rfl <;> simp [pw] at hd <;> unfold topOf at h ⊢ <;> (repeat' split at h) <;> (repeat' split) <;> omega
theorem top_end (now : Int) (k : Nat) (hk : k < 6) (h : k ≤ topOf now) (hd : ¬ now % (pw k * 64) = 0) : k = topOf now := by
  have : k = 0 ∨ k = 1 ∨ k = 2 ∨ k = 3 ∨ k = 4 ∨ k = 5 := by omega
  rcases this with rfl | rfl | rfl | rfl | rfl | rfl <;> simp [pw] at hd <;> unfold topOf at h ⊢ <;> (repeat' split at h) <;> (repeat' split) <;> omega

theorem alloc3 (w : World) (o1 o2 o3 : Obj) : (((w.alloc o1).alloc o2).alloc o3).heap[w.heap.size]? = some o1 ∧ (((w.alloc o1).alloc o2).alloc o3).heap[w.heap.size + 1]? = some o2 ∧ (((w.alloc o1).alloc o2).alloc o3).heap[w.heap.size + 2]? = some o3 := by
  have e2 := heap_alloc_new (w.alloc o1) o2
  have e3 := heap_alloc_new ((w.alloc o1).alloc o2) o3
  rw [World.size_alloc] at e2
  rw [World.size_alloc, World.size_alloc] at e3
  exact ⟨(Below.heap_alloc _ _ _ (by simp; omega)).trans ((Below.heap_alloc _ _ _ (by simp)).trans (heap_alloc_new _ _)), (Below.heap_alloc _ _ _ (by simp)).trans e2, e3⟩
theorem loop_hide {P : Program} {c : Code} {Q : Exit → Act → World → Prop} {a : Act} {w : World} (h : ∀ C, C = c → (Code.loop C).wp P Q a w) : (Code.loop c).wp P Q a w := h c rfl

set_option maxRecDepth 100000 in
set_option maxHeartbeats 2000000 in
theorem cascade_calls (R : Refs) (X : Nat) (W : Wh) (w : World) (h : WhAt R w X W) (hi : Inv W) (hl : W.tm.length ≤ 1000) :
    Calls Try.prog 57 #[.pointer (some ⟨X, 0, none⟩)] w fun e w' => e = .returned (.tuple #[]) ∧ ∃ R', WhAt R' w' X (cascS W (topOf W.now)) ∧ Step R R' X w w' := by
  have H := Lib.hid h
  have HI := Lib.hid hi
  have HL := Lib.hid hl
  have c0 := h.c0
  obtain ⟨n0, hn0⟩ : ∃ n, W.now = n := ⟨_, rfl⟩
  have hnb := hi.now
  rw [hn0] at c0 hnb ⊢
  have hX : X < w.heap.size := h.foot_lt (Or.inl rfl)
  clear h hi hl
  refine (callsIn_wide (n := 5)).1 (callsIn_of_wp_marks Try.func57 rfl trivial ((wpIn_wide (n := 5)).2 ?_) rfl)
  simp only [Try.ntmps57, List.size_toArray, List.length_cons, List.length_nil, Nat.reduceAdd, Nat.reduceSub, Array.replicate_succ, Array.replicate_zero, List.push_toArray, List.append_toArray, List.nil_append, List.cons_append]
  go_wp2
  obtain ⟨w1, hw1⟩ : ∃ w1, w.alloc (.cells #[.pointer (some ⟨X, 0, none⟩)] 23) = w1 := ⟨_, rfl⟩
  have hb1 : Below w.heap.size w w1 := by rw [← hw1]; exact (Below.refl _ _).alloc (Nat.le_refl _) _
  have hs1 : w1.heap.size = w.heap.size + 1 := by rw [← hw1]; simp
  have hB : w1.heap[w.heap.size]? = some (.cells #[.pointer (some ⟨X, 0, none⟩)] 23 (0, 0)) := by rw [← hw1]; exact heap_alloc_new _ _
  rw [hw1]
  have hc0 : w1.cell? ⟨X, 0, none⟩ = some (.int .i64 n0) := (World.cell?_of_block (hb1.block X hX)).trans c0
  have hcB : w1.cell? ⟨w.heap.size, 0, none⟩ = some (.pointer (some ⟨X, 0, none⟩)) := by unfold World.cell?; simp only [hB]; rfl
  clear c0 hw1
  go_step3
  go_wp2
  go_loopw [2, 3] (fun s k wr => ∃ kk : Nat, kk ≤ 6 ∧ k = .int .i64 (kk : Int) ∧ s = .int .i64 (pw kk) ∧ kk ≤ topOf n0 ∧ Below w1.heap.size w1 wr) (fun _ k _ => 6 - (intOf k).toNat)
  case atStart => exact ⟨0, by omega, rfl, rfl, Nat.zero_le _, Below.refl _ _⟩
  case round =>
    obtain ⟨kk, hk, rfl, rfl, htop, hbr⟩ := hrel
    have hcr0 := (hbr.cell (p := ⟨X, 0, none⟩) (by show X < _; omega)).trans hc0
    have hcr1 := (hbr.cell (p := ⟨w.heap.size, 0, none⟩) (by show w.heap.size < _; omega)).trans hcB
    obtain ⟨p, hp⟩ : ∃ p, pw kk = p := ⟨_, rfl⟩
    have hpb := pw_le kk hk
    rw [hp] at hpb
    have g2 : IntKind.i64.wrap (p * 64) = p * 64 := IntWalk.i64_in _ (by omega)
    have g3 : IntKind.i64.wrap ((kk : Int) + 1) = (kk : Int) + 1 := IntWalk.i64_in _ (by omega)
    have g4 : ¬ p * 64 = 0 := by omega
    obtain ⟨q, hq⟩ : ∃ q, n0 % (p * 64) = q := ⟨_, rfl⟩
    have hq0 : 0 ≤ q := by rw [← hq]; exact Int.emod_nonneg _ (by omega)
    have hq1 : q < p * 64 := by rw [← hq]; exact Int.emod_lt_of_pos _ (by omega)
    have g5 : Int.tmod n0 (p * 64) = q := by rw [Int.tmod_eq_emod_of_nonneg hnb.1]; exact hq
    have g6 : IntKind.i64.wrap q = q := IntWalk.i64_in _ (by omega)
    rw [hp]
    by_cases hgo : (kk : Int) < 6 ∧ q = 0
    · obtain ⟨hk6, hqz⟩ := hgo
      have HS := Lib.hid (top_step n0 kk (by omega) htop (by rw [hp, hq]; exact hqz))
      have HP := Lib.hid hp
      clear hp htop hq
      go_wp2
      go_roundw
      case rel => exact ⟨kk + 1, by omega, by go_num, by rw [pw_step, HP.out], HS.out, hbr⟩
      case measure => simp [intOf]; omega
    · have HS := Lib.hid (show kk = topOf n0 from by
        by_cases h6 : (kk : Int) < 6
        · exact top_end _ _ (by omega) htop (by rw [hp, hq]; omega)
        · have := top_le n0; omega)
      have HP := Lib.hid hp
      clear hp htop hq
      by_cases hk6 : (kk : Int) < 6
      case' pos =>
        have hd : ¬ q = 0 := fun h => hgo ⟨hk6, h⟩
        clear hgo
        go_wp2
      case' neg =>
        clear hgo
        go_wp2
      all_goals
        go_step3
        go_wp2
        have hwr1 : Below w.heap.size w wr := hb1.trans (hbr.mono (by omega))
        have hBr := (hbr.block w.heap.size (by omega)).trans hB
        have hst0 : Step R R X w wr := Step.of_below hwr1
        have hH0 : WhAt R wr X W := H.out.below hwr1
        have HH0 := Lib.hid hH0
        have HST0 := Lib.hid hst0
        have HB0 := Lib.hid hBr
        clear hwr1 hBr hst0 hH0 hcr0 hcr1 hbr hB hb1 hc0 hcB g2 g3 g4 g5 g6 hq0 hq1 hk6
        refine loop_hide (fun C hC => ?_)
        refine wp_loop_ghost_k (fun gk a' wr => ∃ (V : List Value) (ds : List Nat) (W' : Wh) (R' : Refs), a' = { tmps := V.toArray, defers := ds.map Go.Mp.mark } ∧ V.length = 59 ∧ V[1]? = some (.pointer (some ⟨w.heap.size, 0, none⟩)) ∧ V[2]? = some (.int .i64 (pw gk)) ∧ V[4]? = some (.int .i64 (gk : Int)) ∧ gk ≤ 6 ∧ cascS W' gk = cascS W (topOf n0) ∧ Inv W' ∧ W'.now = n0 ∧ W'.tm.length ≤ 1000 ∧ WhAt R' wr X W' ∧ Step R R' X w wr ∧ wr.heap[w.heap.size]? = some (.cells #[.pointer (some ⟨X, 0, none⟩)] 23 (0, 0)) ∧ ds.Nodup ∧ ∀ D ∈ ds, w.heap.size ≤ D ∧ wr.heap[D]? = some (.deferred (some []))) kk ⟨_, [], W, R, rfl, rfl, rfl, by rw [HP.out]; rfl, rfl, hk, by rw [HS.out], HI.out, hn0, HL.out, HH0.out, HST0.out, HB0.out, List.nodup_nil, fun D hD => by simp at hD⟩ ?_
        clear HH0 HST0 HB0 HP HS hk
        intro gk a' wx hI J K hJ hK
        obtain ⟨V, ds, W', R', rfl, hV, hV1, hV2, hV4, hg6, hca, hiv, hnw, hln, hwh, hst, hBx, hnd, hds⟩ := hI
        revert hV1 hV2 hV4
        revert V
        refine len59 (fun v0 v1 v2 v3 v4 v5 v6 v7 v8 v9 v10 v11 v12 v13 v14 v15 v16 v17 v18 v19 v20 v21 v22 v23 v24 v25 v26 v27 v28 v29 v30 v31 v32 v33 v34 v35 v36 v37 v38 v39 v40 v41 v42 v43 v44 v45 v46 v47 v48 v49 v50 v51 v52 v53 v54 v55 v56 v57 v58 => ?_)
        intro hV1 hV2 hV4
        simp only [List.getElem?_cons_succ, List.getElem?_cons_zero, Option.some.injEq] at hV1 hV2 hV4
        subst hV1 hV2 hV4
        subst hC
        have hcB : wx.cell? ⟨w.heap.size, 0, none⟩ = some (.pointer (some ⟨X, 0, none⟩)) := by unfold World.cell?; simp only [hBx]; rfl
        cases gk with
        | zero =>
          have hca0 : W' = cascS W (topOf n0) := hca
          have HW := Lib.hid hwh
          have HST := Lib.hid hst
          have HDS := Lib.hid hds
          have HND := Lib.hid hnd
          have HCA := Lib.hid hca0
          clear hJ hK hca hca0 hwh hst hBx hcB hds hnd hiv hln
          go_wp2
          refine leaves_marks (F := Fence.wide) (n := 5) (fn := Try.f57) ds wx (fun D hD => (HDS.out D hD).2) HND.out ?_
          refine ⟨_, results_none rfl _ _ _, rfl, R', ?_, ?_⟩
          · rw [← HCA.out]
            exact HW.out.same fun k hk => shut_other ds wx k (fun hD => HW.out.not_def hk (HDS.out k hD).2)
          · have hs := HST.out
            exact hs.trans_shut ds (fun D hD => (HDS.out D hD).1)
        | succ gk =>
          obtain ⟨p1, hp1⟩ : ∃ p1, pw gk = p1 := ⟨_, rfl⟩
          have hp1b := pw_le gk (by omega)
          rw [hp1] at hp1b
          have hpe : pw (gk + 1) = p1 * 64 := by rw [pw_step, hp1]
          rw [hpe]
          obtain ⟨qq, hqq⟩ : ∃ qq, n0 / (p1 * 64) = qq := ⟨_, rfl⟩
          obtain ⟨s, hs⟩ : ∃ s : Nat, qq % 64 = (s : Int) := ⟨(qq % 64).toNat, by omega⟩
          have hs64 : s < 64 := by omega
          have hqq0 : 0 ≤ qq := by rw [← hqq]; exact Int.ediv_nonneg (by omega) (by omega)
          have hqqw : qq ≤ n0 := by rw [← hqq]; exact Int.ediv_le_self _ (by omega)
          have g1 : Int.tdiv n0 (p1 * 64) = qq := by rw [Int.tdiv_eq_ediv_of_nonneg (by omega)]; exact hqq
          have g2 : Int.tmod qq 64 = (s : Int) := by rw [Int.tmod_eq_emod_of_nonneg hqq0]; exact hs
          have g3 : IntKind.i64.wrap qq = qq := IntWalk.i64_in _ (by omega)
          have g4 : IntKind.i64.wrap (s : Int) = (s : Int) := IntWalk.i64_in _ (by omega)
          have g5 : ¬ p1 * 64 = 0 := by omega
          have g6 : Int.tdiv (p1 * 64) 64 = p1 := by rw [Int.tdiv_eq_ediv_of_nonneg (by omega)]; omega
          have g7 : IntKind.i64.wrap p1 = p1 := IntWalk.i64_in _ (by omega)
          have eS : slotOf (gk + 1) n0 = s := by unfold slotOf; rw [hpe, hqq, hs]; simp
          obtain ⟨i, hie⟩ : ∃ i, (gk + 1) * 64 + s = i := ⟨_, rfl⟩
          have hi4 : i < 448 := by omega
          have hcX := hwh.c0
          rw [hnw] at hcX
          have hcs := hwh.cs i hi4
          rw [← hie, ← Nat.add_assoc] at hcs
          rw [hie] at hcs
          have hstep : cascS W' (gk + 1) = cascS (anew W' (dueS W' i)) gk := by
            show cascS (anew W' (dueS W' ((gk + 1) * 64 + slotOf (gk + 1) W'.now))) gk = _
            rw [hnw, eS, hie]
          rw [hstep] at hca
          have hsv := (hwh.ms i hi4).val
          have hlen := run_len (P := Try.prog) (w := wx) Try.underlying138 hsv 3
          rw [mv_len] at hlen
          have gk7 : ((gk : Int) + 1) < 7 := by omega
          have gs64 : (s : Int) < 64 := by omega
          by_cases hz : (W'.sl.getD i []).length = 0
          · have hnil : W'.sl.getD i [] = [] := List.eq_nil_of_length_eq_zero hz
            have hdue : dueS W' i = [] := by rw [due_srt]; unfold atS; rw [hnil]; rfl
            rw [hdue] at hca
            have hca1 : cascS W' gk = cascS W (topOf n0) := hca
            rw [hz] at hlen
            have HW := Lib.hid hwh
            have HST := Lib.hid hst
            have HDS := Lib.hid hds
            have HND := Lib.hid hnd
            have HCA := Lib.hid hca1
            have HIV := Lib.hid hiv
            have HBx := Lib.hid hBx
            have HP1 := Lib.hid hp1
            have HNW := Lib.hid hnw
            have HLN := Lib.hid hln
            clear hca hca1 hwh hst hBx hds hnd hiv hnil hdue hstep hsv hp1 hpe hnw hln hz hs hqq eS
            go_wp2
            exact Handed.intro gk (Nat.lt_succ_self gk) (hJ _ _ _ ⟨_, ds, W', R', rfl, rfl, rfl, by rw [HP1.out]; rfl, rfl, by omega, HCA.out, HIV.out, HNW.out, HLN.out, HW.out, HST.out, HBx.out, HND.out, HDS.out⟩)
          · obtain ⟨r, hr⟩ : ∃ r, R'.sl i = some r := by
              cases ho : R'.sl i with
              | none =>
                have := hwh.ms i hi4
                rw [ho] at this
                exact absurd (by rw [show W'.sl.getD i [] = [] from this]; rfl) hz
              | some r => exact ⟨r, rfl⟩
            rw [hr] at hcs hlen
            have hzi : ¬ ((W'.sl.getD i []).length : Int) = 0 := by omega
            have hll : (W'.sl.getD i []).length ≤ 1000 := Nat.le_trans (slot_len hiv hi4) hln
            obtain ⟨LL, hLL⟩ : ∃ n, (W'.sl.getD i []).length = n := ⟨_, rfl⟩
            rw [hLL] at hlen hzi
            have hdmem : ∀ t ∈ dueS W' i, (t.id, t) ∈ W'.tm := fun t ht => due_mem hiv hi4 ht
            have hgiv := fun (B : Nat) (w2 : World) (hb : Below wx.heap.size wx w2) => due1_gives R' X W' (gk + 1) s B r w2 2 (hwh.below hb) hiv (by omega) hs64 (by rw [hie]; exact hr) (by rw [hie]; exact hll)
            have HG := Lib.hid hgiv
            have HDM := Lib.hid hdmem
            have HW := Lib.hid hwh
            have HST := Lib.hid hst
            have HDS := Lib.hid hds
            have HND := Lib.hid hnd
            have HCA := Lib.hid hca
            have HIV := Lib.hid hiv
            have HBx := Lib.hid hBx
            have HP1 := Lib.hid hp1
            have HNW := Lib.hid hnw
            have HLN := Lib.hid hln
            have HIE := Lib.hid hie
            clear hca hwh hst hBx hds hnd hiv hstep hsv hp1 hpe hnw hln hz hs hqq eS hr hLL hll hgiv hdmem hie
            have hdc := due_calls X ((gk : Int) + 1) (s : Int) wx
            go_wp2_with (go_at_call 58; refine hdc.mono ?_; rintro e w2 ⟨rfl, hw2⟩)
            have hb2 : Below wx.heap.size wx w2 := by rw [hw2]; exact (((Below.refl _ _).alloc (Nat.le_refl _) _).alloc (by simp) _).alloc (by simp; omega) _
            have hs2 : w2.heap.size = wx.heap.size + 3 := by rw [hw2]; simp
            obtain ⟨d0, d1, d2⟩ := alloc3 wx (.cells #[.pointer (some ⟨X, 0, none⟩)] 23) (.cells #[.int .i64 ((gk : Int) + 1)] 3) (.cells #[.int .i64 (s : Int)] 3)
            rw [← hw2] at d0 d1 d2 ⊢
            clear hw2 hdc
            have HGw := HG.out wx.heap.size w2 hb2 (by unfold World.cell?; simp only [d0]; rfl) (by unfold World.cell?; simp only [d1]; push_cast; rfl) (by unfold World.cell?; simp only [d2]; rfl)
            rw [HIE.out] at HGw
            have hB2 := (hb2.block w.heap.size (Array.getElem?_eq_some_iff.1 HBx.out).1).trans HBx.out
            have hB2l := (Array.getElem?_eq_some_iff.1 hB2).1
            have HW2 := Lib.hid (HW.out.below hb2)
            have hBX : w.heap.size ≠ X := by omega
            have hBf := HW2.out.apart hB2 hBX
            refine (wpIn_wide (n := 5)).1 (range_gives (gf := 80) (enc := fun t : Tm => #[tmV t]) (xs := dueS W' i) rfl (by omega) rfl trivial (enters_of Try.func80 (by kernel_rfl) rfl) HGw (fun _ => rfl)
              (fun n1 pre W3 => ∃ R3, WhAt R3 W3 X (anew W' pre) ∧ Step R' R3 X w2 W3 ∧ (∀ k, Foot R3 X k → k < w2.heap.size ∨ n1 ≤ k) ∧ n1 ≤ W3.heap.size) ?h0 ?hJa ?hJ
              (fun _ x a' W3 => ∃ (Bv : Nat) (V : List Value), a' = { tmps := V.toArray, defers := [] } ∧ V.length = 59 ∧ V[1]? = some (.pointer (some ⟨w.heap.size, 0, none⟩)) ∧ V[6]? = some (.pointer (some ⟨Bv, 0, none⟩)) ∧ Bv ≠ X ∧ W3.heap[Bv]? = some (.cells #[.int .i64 x.id, .int .i64 x.when, .int .i64 x.iv, .int .i64 x.ord] 129 (0, 0))) ?hAx ?hassign ?hbody ?hdone)
            case h0 =>
              intro W2 hb hsz
              exact ⟨R', HW2.out.below hb, Step.of_below hb, fun k hk => Or.inl (HW2.out.foot_lt hk), Nat.le_refl _⟩
            case hJa =>
              rintro n1 pre W3 o ⟨R3, a1, a2, a3, a4⟩
              have hba : Below W3.heap.size W3 (W3.alloc o) := (Below.refl _ _).alloc (Nat.le_refl _) _
              exact ⟨R3, a1.below hba, a2.trans (Step.of_below hba), a3, by simp; omega⟩
            case hJ =>
              rintro n1 pre W3 l o ⟨R3, a1, a2, a3, a4⟩ h1 h2
              have hnf : ¬ Foot R3 X l := fun h => by rcases a3 l h with h | h <;> omega
              refine ⟨R3, a1.same fun k hk => World.putObj_heap_other (fun e => hnf (e ▸ hk)), ⟨a2.os, a2.tape, a2.output, by rw [World.putObj_size]; exact a2.size, fun k hk hf => (World.putObj_heap_other (by omega)).trans (a2.block k hk hf), a2.foot⟩, a3, by rw [World.putObj_size]; exact a4⟩
            case hAx =>
              rintro _ x a' W3 l o ⟨Bv, V, e1, e2, e3, e4, e5, e6⟩ ⟨rl, hrl⟩
              refine ⟨Bv, V, e1, e2, e3, e4, e5, (World.putObj_heap_other (fun e => ?_)).trans e6⟩
              rw [e, hrl] at e6
              cases e6
            case hassign =>
              rintro l n1 pre ⟨ti, tw, tv, to_⟩ W3 K2 ⟨R3, a1, a2, a3, a4⟩ hn1 hK2
              have HK2 := Lib.hid hK2
              have A1 := Lib.hid a1
              have A2 := Lib.hid a2
              have A3 := Lib.hid a3
              clear hK2 a1 a2 a3
              simp only [tmV]
              gi_wp2
              have hba : Below W3.heap.size W3 (W3.alloc (.cells #[.int .i64 ti, .int .i64 tw, .int .i64 tv, .int .i64 to_] 129)) := (Below.refl _ _).alloc (Nat.le_refl _) _
              have hXl := A1.out.foot_lt (Or.inl rfl)
              exact HK2.out _ _ ⟨R3, A1.out.below hba, A2.out.trans (Step.of_below hba), A3.out, by simp; omega⟩ (fun k h1 h2 => Below.heap_alloc _ _ _ (by omega)) (by simp) ⟨W3.heap.size, _, rfl, rfl, rfl, rfl, by omega, heap_alloc_new _ _⟩
            case hbody =>
              rintro l n1 pre ⟨ti, tw, tv, to_⟩ a' W3 ⟨R3, a1, a2, a3, a4⟩ hn1 hpre ⟨Bv, V, rfl, hV, hV1, hV6, hBvX, hBv⟩
              simp only at hBv
              have b1 := (a2.block w.heap.size hB2l hBf).trans hB2
              obtain ⟨n1i, n1m, n1n⟩ := anew_next HIV.out HDM.out hpre
              have n1t := n1i.tm _ n1m
              simp only at n1t
              obtain ⟨k2, s2, hk2, hs2', hpl⟩ := n1i.place ti
              have hnf1 := a1.apart b1 hBX
              have hnf2 := a1.apart hBv hBvX
              have HT := take_calls R3 X (anew W' pre) ti W3 a1 k2 s2 hk2 hs2' hpl
              obtain ⟨Wt, hWt⟩ : ∃ Wt, (takeS (anew W' pre) ti).1 = Wt := ⟨_, rfl⟩
              obtain ⟨tt, htt⟩ : ∃ tt, (takeS (anew W' pre) ti).2 = tt := ⟨_, rfl⟩
              rw [hWt, htt] at HT
              obtain ⟨t0, t1, t2, t3⟩ := tt
              simp only [tmV] at HT
              have hWn : Wt.now = n0 := by rw [← hWt, take_now, n1n]; exact HNW.out
              have hbl1 := (Array.getElem?_eq_some_iff.1 b1).1
              have hbl2 := (Array.getElem?_eq_some_iff.1 hBv).1
              have HPut := fun (W4 : World) (h4 : WhAt R3 W4 X Wt) => put_calls R3 X Wt ⟨ti, tw, tv, to_⟩ W4 h4 (by rw [hWn]; exact hnb) (by simp only; omega)
              have c10 : W3.cell? ⟨w.heap.size, 0, none⟩ = some (.pointer (some ⟨X, 0, none⟩)) := by unfold World.cell?; simp only [b1]; rfl
              have c20 : W3.cell? ⟨Bv, 0, none⟩ = some (.int .i64 ti) := by unfold World.cell?; simp only [hBv]; rfl
              have eA : anew W' (pre ++ [⟨ti, tw, tv, to_⟩]) = putS Wt ⟨ti, tw, tv, to_⟩ := by rw [anew_one, hWt]
              have EA := Lib.hid eA
              have A1 := Lib.hid a1
              have A2 := Lib.hid a2
              have A3 := Lib.hid a3
              have F1 := Lib.hid hnf1
              have F2 := Lib.hid hnf2
              have B1 := Lib.hid b1
              have B2 := Lib.hid hBv
              have HPU := Lib.hid HPut
              clear a1 a2 a3 hnf1 hnf2 b1 hBv HPut eA n1i n1m n1n hWt htt hpl
              revert hV1 hV6
              revert V
              refine len59 (fun x0 x1 x2 x3 x4 x5 x6 x7 x8 x9 x10 x11 x12 x13 x14 x15 x16 x17 x18 x19 x20 x21 x22 x23 x24 x25 x26 x27 x28 x29 x30 x31 x32 x33 x34 x35 x36 x37 x38 x39 x40 x41 x42 x43 x44 x45 x46 x47 x48 x49 x50 x51 x52 x53 x54 x55 x56 x57 x58 => ?_)
              intro hV1 hV6
              simp only [List.getElem?_cons_succ, List.getElem?_cons_zero, Option.some.injEq] at hV1 hV6
              subst hV1 hV6
              gi_wp2_with (first
                | (refine ⟨trivial, ?_⟩; gi_at_call 59; refine (CallsIn.inRound l (callsIn_wide.2 HT)).mono ?_; rintro e W4 ⟨rfl, h4, st4⟩; have B14 := (st4.block w.heap.size hbl1 F1.out).trans B1.out; have B24 := (st4.block Bv hbl2 F2.out).trans B2.out; have d10 : W4.cell? ⟨w.heap.size, 0, none⟩ = some (.pointer (some ⟨X, 0, none⟩)) := (by unfold World.cell?; simp only [B14]; rfl); have d20 : W4.cell? ⟨Bv, 0, none⟩ = some (.int .i64 ti) := (by unfold World.cell?; simp only [B24]; rfl); have d21 : W4.cell? ⟨Bv, 1, none⟩ = some (.int .i64 tw) := (by unfold World.cell?; simp only [B24]; rfl); have d22 : W4.cell? ⟨Bv, 2, none⟩ = some (.int .i64 tv) := (by unfold World.cell?; simp only [B24]; rfl); have d23 : W4.cell? ⟨Bv, 3, none⟩ = some (.int .i64 to_) := (by unfold World.cell?; simp only [B24]; rfl); have hp4 := HPU.out W4 h4; simp only [tmV] at hp4; have ST4 := Lib.hid st4; clear h4 st4 B14 B24 HT)
                | (refine ⟨trivial, ?_⟩; gi_at_call 55; refine (CallsIn.inRound l (callsIn_wide.2 hp4)).mono ?_; rintro e W5 ⟨rfl, R5, h5, st5⟩; have H5 := Lib.hid h5; have ST5 := Lib.hid st5; clear h5 st5))
              have ST := ST4.out.trans ST5.out
              refine ⟨⟨R5, by rw [EA.out]; exact H5.out, A2.out.trans ST, fun k hk => ?_, Nat.le_trans a4 ST.size⟩, ST.size, fun k h1 h2 => ST.block k (by omega) (fun hf => by have := A3.out k hf; omega)⟩
              rcases ST.foot k hk with h | h
              · have := A3.out k h; omega
              · exact Or.inr (by omega)
            case hdone =>
              rintro n1 W3 hn1 ⟨R3, a1, a2, a3, a4⟩ hD
              have hds3 : ∀ D ∈ w2.heap.size :: ds, w.heap.size ≤ D ∧ W3.heap[D]? = some (.deferred (some [])) := by
                intro D hDm
                rcases List.mem_cons.1 hDm with rfl | hDm
                · exact ⟨by have := hb2.size; have := HST.out.size; omega, hD⟩
                · obtain ⟨e1, e2⟩ := HDS.out D hDm
                  have e3 := (Array.getElem?_eq_some_iff.1 e2).1
                  have e4 := (hb2.block D e3).trans e2
                  exact ⟨e1, (a2.block D (by omega) (fun hf => HW2.out.not_def hf e4)).trans e4⟩
              have hnd3 : (w2.heap.size :: ds).Nodup := List.nodup_cons.2 ⟨fun h => by have := (Array.getElem?_eq_some_iff.1 (HDS.out _ h).2).1; omega, HND.out⟩
              have hB3 := (a2.block w.heap.size hB2l hBf).trans hB2
              obtain ⟨i1, i2, -, i4, -⟩ := anew_inv (dueS W' i) W' HIV.out HDM.out
              have hst3 := HST.out.trans ((Step.of_below hb2).trans a2)
              have hln3 : (anew W' (dueS W' i)).tm.length ≤ 1000 := by rw [i2]; exact HLN.out
              have hnw3 : (anew W' (dueS W' i)).now = n0 := i4.trans HNW.out
              have A1 := Lib.hid a1
              have S3 := Lib.hid hst3
              have D3 := Lib.hid hds3
              have N3 := Lib.hid hnd3
              have B3 := Lib.hid hB3
              have L3 := Lib.hid hln3
              have W3n := Lib.hid hnw3
              have I3 := Lib.hid i1
              clear a1 a2 a3 a4 hds3 hnd3 hB3 i1 i2 i4 hst3 hln3 hnw3 hD hn1
              go_wp2
              exact Handed.intro gk (Nat.lt_succ_self gk) (hJ _ _ _ ⟨_, w2.heap.size :: ds, _, R3, rfl, rfl, rfl, by rw [HP1.out]; rfl, rfl, by omega, HCA.out, I3.out, W3n.out, L3.out, A1.out, S3.out, B3.out, N3.out, D3.out⟩)
end Go.Proofs.Ytddajaikighjlaa
