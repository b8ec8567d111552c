/- Custodians: Under 41 with its closure 73. -/
import Derived.Test.YtddajaikighjlaaCd
namespace Go.Proofs.Ytddajaikighjlaa
open Go.RowKit Go.Sl Go.Mp Go.Wh

theorem cf73 (args : Array Value) (w : World) : (callFunc 73 args).run Try.prog w = .ok (.enter 73 args) w := by kernel_rfl
def isC (C : Nat → Nat) (k : Nat) (x : Part) : Bool := match x.2 with
  | none => false
  | some kq => C kq.1 == C k
set_option maxRecDepth 100000 in
theorem f73_none (who : Int) (p1 : Value) (w : World) : Calls Try.prog 73 #[.agg #[.int .i64 who, .pointer none], p1] w fun e w' => e = .returned (.bool false) ∧ Below w.heap.size w w' := by
  have hb := Lib.hid ((Below.refl w.heap.size w).alloc (Nat.le_refl _) (.cells #[.int .i64 who, .pointer none] 168))
  go_enter Try.func73, Try.ntmps73
  go_wp2
  go_ret
  exact ⟨rfl, hb.out⟩
set_option maxRecDepth 100000 in
theorem f73_some (who : Int) (p c s b1 qd cd sd : Nat) (w : World) (h1 : w.cell? ⟨b1, 0, none⟩ = some (.pointer (some ⟨qd, 0, none⟩))) (hp : CuB w p c s) (hd : CuB w qd cd sd) :
    Calls Try.prog 73 #[.agg #[.int .i64 who, .pointer (some ⟨p, 0, none⟩)], .pointer (some ⟨b1, 0, none⟩)] w fun e w' => e = .returned (.bool (c == cd)) ∧ Below w.heap.size w w' := by
  have hb := (Below.refl w.heap.size w).alloc (Nat.le_refl _) (.cells #[.int .i64 who, .pointer (some ⟨p, 0, none⟩)] 168)
  have k1 := hb.at_cell h1
  have l1 : ¬ b1 = w.heap.size := Nat.ne_of_lt (World.block_lt_of_cell? w _ h1)
  have hc := csame_calls p c s qd cd sd _ (Kc.of_below hb _ _ _ _ hp) (Kc.of_below hb _ _ _ _ hd)
  have HCC := Lib.hid hc
  have HB := Lib.hid hb
  clear hb hc hp hd
  go_enter Try.func73, Try.ntmps73
  go_wp2_with fail
  refine HCC.out.mono ?_
  rintro e w1 ⟨rfl, hr⟩
  have HR := Lib.hid hr
  clear hr k1 h1 HCC
  go_wp2_with fail
  go_ret
  exact ⟨rfl, HB.out.then HR.out⟩
/-- The error of Under. -/
def underC (P : Nat → List Part) (C : Nat → Nat) (d : Nat → Bool) (n i k : Nat) : Int :=
  if (hasS P C i n [] k).1 then 7 else if (P i).any (isC C k) then 6 else if d i then 15 else if (P i).length = 1000 then 8 else 0
set_option maxRecDepth 100000 in
theorem under_nil1 (p : Option Addr) (w : World) : Calls Try.prog 41 #[.pointer none, .pointer p] w fun e w' => e = .returned (.int .i64 1) ∧ Below w.heap.size w w' := by
  have hb := Lib.hid ((Below.refl w.heap.size w).alloc (Nat.le_refl _) (.cells #[.pointer p] 96))
  have hi := fun w => is_nil w
  go_enter Try.func41, Try.ntmps41
  go_wp2_with (first | (go_at_call 68; refine (hi _).mono ?_; rintro e w1 ⟨rfl, rfl⟩) | fail)
  go_ret
  exact ⟨rfl, hb.out⟩
set_option maxRecDepth 100000 in
theorem under_nil2 (q c s : Nat) (w : World) (hq : CuB w q c s) : Calls Try.prog 41 #[.pointer (some ⟨q, 0, none⟩), .pointer none] w fun e w' => e = .returned (.int .i64 1) ∧ Below w.heap.size w w' := by
  have hb := (Below.refl w.heap.size w).alloc (Nat.le_refl _) (.cells #[.pointer none] 96)
  have hi := fun w => is_nil w
  have hj := is_calls q c s _ (Kc.of_below hb _ _ _ _ hq)
  have HB := Lib.hid hb
  have HJ := Lib.hid hj
  clear hb hq hj
  go_enter Try.func41, Try.ntmps41
  go_wp2_with fail
  refine HJ.out.mono ?_
  rintro e w1 ⟨rfl, rfl⟩
  go_wp2_with fail
  refine (hi _).mono ?_
  rintro e w1 ⟨rfl, rfl⟩
  go_wp2_with fail
  go_ret
  exact ⟨rfl, HB.out⟩
set_option maxRecDepth 100000 in
set_option maxHeartbeats 4000000 in
theorem under_calls (B N : Nat) (S C : Nat → Nat) (P : Nat → List Part) (V : Nat → Value) (d : Nat → Bool) (hlen : ∀ i, i < N → (P i).length ≤ 1000) (n i k q qd : Nat) (w : World) (hn : tot (fun _ => 1) (seenD C []) N ≤ n) (hB : B ≤ w.heap.size) (hG : GS B N S C P V d w) (hi : i < N) (hk : k < N)
    (hq : CuB w q (C i) (S i)) (hqd : CuB w qd (C k) (S k)) :
    Calls Try.prog 41 #[.pointer (some ⟨q, 0, none⟩), .pointer (some ⟨qd, 0, none⟩)] w fun e w' => e = .returned (.int .i64 (underC P C d n i k)) ∧ ((underC P C d n i k ≠ 0 ∧ Below w.heap.size w w') ∨
      (underC P C d n i k = 0 ∧ d i = false ∧ ∃ v', Stk w' (S i) v' false ∧ w'.ownsRow B 168 2 v' ((P i).length + 1) ((P i ++ [(0, some (k, qd))]).flatMap encP2) ∧ Kpt (fun g => g = S i ∨ (V i).ownBlock = some g) w w' ∧ (∀ g, v'.ownBlock = some g → (V i).ownBlock = some g ∨ w.heap.size ≤ g))) := by
  obtain ⟨W1, hW1⟩ : ∃ W1, w.alloc (.cells #[.pointer (some ⟨qd, 0, none⟩)] 96) = W1 := ⟨_, rfl⟩
  obtain ⟨W2, hW2⟩ : ∃ W2, W1.alloc (.map #[] 0) = W2 := ⟨_, rfl⟩
  have hb1 : Below w.heap.size w W1 := by rw [← hW1]; exact (Below.refl _ _).alloc (Nat.le_refl _) _
  have hb2 : Below w.heap.size w W2 := by rw [← hW2]; exact hb1.alloc hb1.size _
  have g0 : W1.heap[w.heap.size]? = some (.cells #[.pointer (some ⟨qd, 0, none⟩)] 96 (0, 0)) := by rw [← hW1]; exact heap_alloc_new _ _
  have hk12 : Kc W1 W2 := by rw [← hW2]; exact Kc.of_below ((Below.refl _ _).alloc (Nat.le_refl _) _)
  have hk1 := Kc.of_below hb1
  have hm : MapC W2 W1.heap.size [] := by rw [← hW2]; exact MapC.made _
  have his1 := is_calls q (C i) (S i) W1 (hk1 _ _ _ _ hq)
  have his2 := is_calls qd (C k) (S k) W1 (hk1 _ _ _ _ hqd)
  have c0 := cell_of g0 0 _ rfl
  have hhas := has_calls B N S C P V d (fun i hi => Nat.le_trans (hlen i hi) (by omega)) i q n [] W2 k qd W1.heap.size hn (hG.kc (hk1.trans hk12)) hk (hk12 _ _ _ _ (hk1 _ _ _ _ hqd)) (hk12 _ _ _ _ (hk1 _ _ _ _ hq)) hm
  have z1 : W1.heap.size = w.heap.size + 1 := by rw [← hW1]; simp
  have HK12 := Lib.hid (hk1.trans hk12)
  have HG0 := Lib.hid (hk12 _ _ _ _ g0)
  have HG := Lib.hid hG
  have HB2 := Lib.hid hb2
  have HM := Lib.hid hm
  have HZ1 := Lib.hid z1
  have HHAS := Lib.hid hhas
  have HQ := Lib.hid hq
  have HQD := Lib.hid hqd
  have HI := Lib.hid hi
  have HK := Lib.hid hk
  have HW1 := Lib.hid hW1
  have HW2 := Lib.hid hW2
  have HLEN := Lib.hid (hlen i hi)
  have IS1 := Lib.hid his1
  have IS2 := Lib.hid his2
  clear hb1 hb2 g0 hk12 hk1 hm z1 hG hhas hq hqd hi hk hlen hn his1 his2 hW1 hW2
  go_enter Try.func41, Try.ntmps41
  go_wp2_with fail
  rw [HW1.out]
  refine IS1.out.mono ?_
  rintro e w1 ⟨rfl, rfl⟩
  go_wp2_with fail
  refine IS2.out.mono ?_
  rintro e w1 ⟨rfl, rfl⟩
  have hmm := @run_makeMap Try.prog
  go_wp2_with fail
  rw [HW2.out]
  refine HHAS.out.mono ?_
  rintro e w3 ⟨rfl, -, hkp⟩
  clear hmm c0
  obtain ⟨hh, hhh⟩ : ∃ hh, (hasS P C i n [] k).1 = hh := ⟨_, rfl⟩
  rw [hhh]
  have HH := Lib.hid hhh
  have hk3 := HK12.out.trans (Kc.of_kpt hkp HM.out)
  have HK3 := Lib.hid hk3
  have HB3 := Lib.hid (show Below w.heap.size w w3 from (Kpt.trans (Kpt.of_below HB2.out) (hkp.mono fun _ _ h => h)).below (Nat.le_refl _) fun g hg => by rw [hg, HZ1.out]; omega)
  have b3 := cell_of ((Kc.of_kpt hkp HM.out) _ _ _ _ HG0.out) 0 _ rfl
  have HB0 := Lib.hid ((Kc.of_kpt hkp HM.out) _ _ _ _ HG0.out)
  clear hhh hkp hk3 b3 HHAS IS1 IS2
  cases hh with
  | true =>
    go_wp2_with fail
    go_ret
    have e : underC P C d n i k = 7 := by unfold underC; rw [if_pos HH.out]
    rw [e]
    exact ⟨rfl, Or.inl ⟨by decide, HB3.out⟩⟩
  | false =>
    have hG3 := HG.out.kc HK3.out
    have HG3 := Lib.hid hG3
    have x1 := (show CuB w3 q (C i) (S i) from HK3.out _ _ _ _ HQ.out).c1
    obtain ⟨s0, s1, sf⟩ := row2 (hG3.stk i HI.out)
    have hcon := contains72_calls B (V i) (P i) 73 #[.pointer (some ⟨w.heap.size, 0, none⟩)] (fun j w' => Below w3.heap.size w3 w' ∧ ∀ x ∈ (P i).take j, isC C k x = false) (fun j w' => Below w3.heap.size w3 w' ∧ ∃ x ∈ P i, isC C k x = true) w3
      ⟨Below.refl _ _, fun x hx => by simp at hx⟩ (Nat.le_trans HLEN.out (by omega))
      ⟨fun j w' ⟨h, _⟩ => (HG3.out.kc (Kc.of_below h)).row i HI.out, fun j x w' hx ⟨hb, hno⟩ => by
        have hkc := Kc.of_below hb
        have hmem := List.mem_of_getElem? hx
        have hnext : isC C k x = false → ∀ y ∈ (P i).take (j + 1), isC C k y = false := fun h y hy => by
          rw [List.take_add_one, hx] at hy
          simp only [Option.toList_some, List.mem_append, List.mem_singleton] at hy
          rcases hy with hy | rfl
          · exact hno y hy
          · exact h
        obtain ⟨who, more⟩ := x
        cases more with
        | none =>
          refine (f73_none who _ w').mono ?_
          rintro e w'' ⟨rfl, hb2⟩
          exact ⟨false, rfl, Or.inr ⟨rfl, hb.then hb2, hnext rfl⟩⟩
        | some kq =>
          obtain ⟨k2, qk⟩ := kq
          obtain ⟨-, hcu⟩ := (HG3.out.kc hkc).part i HI.out _ hmem k2 qk rfl
          refine (f73_some who qk _ _ w.heap.size qd (C k) (S k) w' (cell_of (hkc _ _ _ _ HB0.out) 0 _ rfl) hcu (hkc _ _ _ _ (HK3.out _ _ _ _ HQD.out))).mono ?_
          rintro e w'' ⟨rfl, hb2⟩
          refine ⟨_, rfl, ?_⟩
          cases hc : C k2 == C k with
          | true => exact Or.inl ⟨rfl, hb.then hb2, _, hmem, hc⟩
          | false => exact Or.inr ⟨rfl, hb.then hb2, hnext hc⟩⟩ cf73
    have HCON := Lib.hid hcon
    clear hG3 hcon
    go_wp2_with fail
    refine HCON.out.mono ?_
    rintro e w4 ⟨b, rfl, ⟨rfl, hb4, hno⟩ | ⟨rfl, j, -, hb4, hyes⟩⟩
    · have hany : (P i).any (isC C k) = false := by
        rw [Bool.eq_false_iff]
        intro h
        obtain ⟨x, hx, h2⟩ := List.any_eq_true.1 h
        rw [List.take_length] at hno
        rw [hno x hx] at h2
        exact absurd h2 (by decide)
      have hk4 := HK3.out.trans (Kc.of_below hb4)
      have HK4 := Lib.hid hk4
      have HANY := Lib.hid hany
      have HB4 := Lib.hid (HB3.out.then hb4)
      have HB0' := Lib.hid (Kc.of_below hb4 _ _ _ _ HB0.out)
      clear x1 s0 s1 sf hno hany hb4 HCON
      have hG4 := HG.out.kc hk4
      have x1 := (show CuB w4 q (C i) (S i) from hk4 _ _ _ _ HQ.out).c1
      have hst := hG4.stk i HI.out
      obtain ⟨s0, s1, sf⟩ := row2 hst
      obtain ⟨di, hdi⟩ : ∃ di, d i = di := ⟨_, rfl⟩
      rw [hdi] at s1 hst
      have HDI := Lib.hid hdi
      clear hk4
      cases di with
      | true =>
        clear hst hG4
        go_wp2_with fail
        go_ret
        have e : underC P C d n i k = 15 := by
          unfold underC
          rw [if_neg (by rw [HH.out]; decide), if_neg (by rw [HANY.out]; decide), if_pos HDI.out]
        rw [e]
        exact ⟨rfl, Or.inl ⟨by decide, HB4.out⟩⟩
      | false =>
        obtain ⟨a, cap, hV⟩ := own_form (hG4.row i HI.out)
        have ho := hG4.row i HI.out
        have HP3 := HLEN.out
        obtain ⟨l, hl⟩ : ∃ l, P i = l := ⟨_, rfl⟩
        rw [hl] at hV ho HP3
        obtain ⟨m, hm⟩ : ∃ m, l.length = m := ⟨_, rfl⟩
        rw [hm] at hV ho HP3
        rw [hV] at s0 hst ho
        have HL := Lib.hid hl
        have HMM := Lib.hid hm
        have HO := Lib.hid ho
        have HST := Lib.hid hst
        have HV := Lib.hid hV
        clear hG4 hl hm ho hst hV hdi
        by_cases h1000 : m = 1000
        · have h1' : ((m : Int) == 1000) = true := by rw [beq_iff_eq]; omega
          clear h1000
          go_wp2_with fail
          go_ret
          have e : underC P C d n i k = 8 := by
            unfold underC
            rw [if_neg (by rw [HH.out]; decide), if_neg (by rw [HANY.out]; decide), if_neg (by rw [HDI.out]; decide), HL.out, HMM.out, if_pos]
            have := h1'
            rw [beq_iff_eq] at this
            omega
          rw [e]
          exact ⟨rfl, Or.inl ⟨by decide, HB4.out⟩⟩
        · have h1' : ((m : Int) == 1000) = false := by rw [beq_eq_false_iff_ne]; omega
          have e : underC P C d n i k = 0 := by
            unfold underC
            rw [if_neg (by rw [HH.out]; decide), if_neg (by rw [HANY.out]; decide), if_neg (by rw [HDI.out]; decide), HL.out, HMM.out, if_neg h1000]
          have HE := Lib.hid e
          have hlt : m < 1000 := by omega
          have b4 := cell_of HB0'.out 0 _ rfl
          have hwl : w.heap.size < w4.heap.size := (Array.getElem?_eq_some_iff.1 HB0'.out).1
          have hqlt : q < w4.heap.size := (Array.getElem?_eq_some_iff.1 (HK4.out _ _ _ _ HQ.out)).1
          have HWL := Lib.hid hwl
          clear h1000 e hwl hqlt
          go_upto_region 11 with (fail)
          obtain ⟨i0, hif, hz0, hz1, hz2⟩ := info_parts info168
          have BY := Lib.hid (show Below w4.heap.size w4 ((w4.alloc (.cells #[.int .i64 0, .pointer (some ⟨qd, 0, none⟩)] 168)).drew) from ((Below.refl w4.heap.size w4).alloc (Nat.le_refl _) _).drew)
          have OW := Lib.hid (own_same HO.out fun g hg => BY.out.block g (HO.out.lt g hg).2)
          have g7 : ((w4.alloc (.cells #[.int .i64 0, .pointer (some ⟨qd, 0, none⟩)] 168)).drew).heap[w4.heap.size]? = some (.cells #[.int .i64 0, .pointer (some ⟨qd, 0, none⟩)] 168 (0, 0)) := heap_alloc_new w4 _
          have SN := Lib.hid (show SlV ((w4.alloc (.cells #[.int .i64 0, .pointer (some ⟨qd, 0, none⟩)] 168)).drew) (.slice (some ⟨w4.heap.size, 0, none⟩) 1 1) 1 2 [.int .i64 0, .pointer (some ⟨qd, 0, none⟩)] from ⟨rfl, Or.inr ⟨by omega, _, 0, 1, rfl, fun i u hi => by
            rw [Nat.zero_add]
            exact cells_of_row g7 i u (by simpa using hi)⟩⟩)
          have hne : ∀ (g : Nat) (cs : Array Value) (t : TypeId) (fz : Nat × Nat), w4.heap[g]? = some (.cells cs t fz) → t ≠ 168 → ¬ (Value.slice a m cap).ownBlock = some g := fun g cs t fz hc ht hg => by
            obtain ⟨cs2, hc2, -⟩ := own_cells HO.out hg
            rw [hc] at hc2
            simp only [Option.some.injEq, Obj.cells.injEq] at hc2
            exact ht hc2.2.1
          have HNE := Lib.hid hne
          have hbb := (Below.refl w4.heap.size w4).alloc (Nat.le_refl _) (.cells #[.int .i64 0, .pointer (some ⟨qd, 0, none⟩)] 168)
          have ya0 := hbb.at_cell s0
          have ya1 := hbb.at_cell x1
          have ya2 := hbb.at_cell b4
          have HQ4 := Lib.hid (HK4.out _ _ _ _ HQ.out)
          clear g7 hne hbb
          go_region_law (first
            | (refine step_append_at rfl (.tmp 57) (.tmp 60) 164 rfl B 168 i0 (.agg #[.int .i64 0, .pointer none]) 2 16 Try.underlying164 hif hz0 hz1 hz2 rfl (by decide) (.slice a m cap) m (l.flatMap encP2) rfl OW.out (.slice (some ⟨w4.heap.size, 0, none⟩) 1 1) 1 [.int .i64 0, .pointer (some ⟨qd, 0, none⟩)] rfl SN.out (oneP2 [(0, some (k, qd))]) (by unfold maxLen; omega) (by omega) (Nat.le_trans hB (Nat.le_trans HB4.out.size BY.out.size)) ?_; intro va w5 own1 hg1 hat1; obtain ⟨a', c', rfl⟩ := own_form own1; have hst5 := (hg1.block (S i) (Nat.lt_of_lt_of_le (Array.getElem?_eq_some_iff.1 HST.out).1 BY.out.size) (fun e => HNE.out _ _ _ _ HST.out (by decide) e.symm)).trans ((BY.out.block (S i) (Array.getElem?_eq_some_iff.1 HST.out).1).trans HST.out); obtain ⟨q0, q1, qf⟩ := row2 hst5; have hpt := (hg1.block q (Nat.lt_of_lt_of_le (Array.getElem?_eq_some_iff.1 HQ4.out).1 BY.out.size) (fun e => HNE.out _ _ _ _ HQ4.out (by decide) e.symm)).trans ((BY.out.block q (Array.getElem?_eq_some_iff.1 HQ4.out).1).trans HQ4.out); obtain ⟨-, r1, -⟩ := row2 hpt; clear hpt; have hbt := (hg1.block w.heap.size (Nat.lt_of_lt_of_le HWL.out BY.out.size) (fun e => HNE.out _ _ _ _ HB0'.out (by decide) e.symm)).trans ((BY.out.block w.heap.size HWL.out).trans HB0'.out); have r2 := cell_of hbt 0 _ rfl; clear hbt; have HST5 := Lib.hid hst5; have OWN1 := Lib.hid own1; have HG1 := Lib.hid hg1; have HAT := Lib.hid hat1; clear own1 hg1 hst5 hat1)
            | (go_simp; go_wp2_with fail))
          all_goals
            go_wp2_with fail
            go_ret
            obtain ⟨e1, e2, e3, e4⟩ := put_end BY.out HG1.out HAT.out HST5.out OWN1.out
            rw [HE.out, HL.out, HMM.out, HV.out, List.flatMap_append]
            exact ⟨rfl, Or.inr ⟨rfl, HDI.out, Value.slice a' (m + 1) c', e1, e2, (Kpt.of_below HB4.out).trans (e3.mono fun g _ h => h), fun g hg => (e4 g hg).imp id fun h => Nat.le_trans HB4.out.size h⟩⟩
    · have e : underC P C d n i k = 6 := by
        unfold underC
        rw [if_neg (by rw [HH.out]; decide), if_pos (List.any_eq_true.2 hyes)]
      have HE := Lib.hid e
      have HB4 := Lib.hid (HB3.out.then hb4)
      clear hb4 hyes e HCON x1 s0 s1 sf
      go_wp2_with fail
      go_ret
      rw [HE.out]
      exact ⟨rfl, Or.inl ⟨by decide, HB4.out⟩⟩
end Go.Proofs.Ytddajaikighjlaa
