/- The law TimerRuns: its walk. -/
import Derived.Test.YtddajaikighjlaaRl
import Derived.Test.YtddajaikighjlaaQb
import Derived.Test.YtddajaikighjlaaOc
import Derived.Test.YtddajaikighjlaaAw
namespace Go.Proofs.Ytddajaikighjlaa
open Go.RowKit Go.Sl Go.Mp Go.Wh

theorem cells_of_cell {w : World} {b j : Nat} {u : Value} (h : w.cell? ⟨b, j, none⟩ = some u) : ∃ cs t f, w.heap[b]? = some (.cells cs t f) ∧ cs[j]? = some u := by
  cases hb : w.heap[b]? with
  | none => simp [World.cell?, hb] at h
  | some o => cases o <;> simp_all [World.cell?]
/-- A slice of timers lies apart from the wheels. -/
theorem SlR.free {R : Refs} {X : Nat} {W : Wh} {w : World} (h : WhAt R w X W) {v : Value} {L : List Rt} (hv : SlR w v L) {b o cap n : Nat} (_hf : v = .slice (some ⟨b, o, none⟩) n cap) (hn : 0 < L.length) (hc : ∀ i u, (L.flatMap encR)[i]? = some u → w.cell? ⟨b, o + i, none⟩ = some u) : b < w.heap.size ∧ ¬ Foot R X b ∧ ∀ cs t f, w.heap[b]? = some (.cells cs t f) → 5 ≤ cs.size := by
  obtain ⟨e, L', rfl⟩ : ∃ e L', L = e :: L' := by
    cases L with
    | nil => simp at hn
    | cons e L' => exact ⟨e, L', rfl⟩
  have h4 := hc 4 (.int .i64 e.set) rfl
  obtain ⟨cs, t, f, h1, h2⟩ := cells_of_cell h4
  have hlt := (Array.getElem?_eq_some_iff.1 h1).1
  have hcs := (Array.getElem?_eq_some_iff.1 h2).1
  refine ⟨hlt, ?_, fun cs2 t2 f2 h3 => ?_⟩
  · by_cases hX : b = X
    · exfalso
      subst hX
      by_cases c1 : o + 4 < 450
      · have := h.cs (o + 2) (by omega)
        rw [show 2 + (o + 2) = o + 4 by omega, h4] at this
        cases this
      · by_cases c2 : o + 4 = 450
        · have := h.ct
          rw [← c2, h4] at this
          cases this
        · by_cases c3 : o + 4 = 451
          · have := h.cp
            rw [← c3, h4] at this
            cases this
          · obtain ⟨cs3, h5, h6⟩ := h.blk
            rw [h1] at h5
            simp only [Option.some.injEq, Obj.cells.injEq] at h5
            rw [h5.1] at hcs
            omega
    · exact h.apart h1 hX
  · rw [h1] at h3
    simp only [Option.some.injEq, Obj.cells.injEq] at h3
    rw [← h3.1]
    omega
theorem SlR.stepS {R R' : Refs} {X : Nat} {W : Wh} {w w' : World} (h : WhAt R w X W) (s : Step R R' X w w') {v : Value} {L : List Rt} (hv : SlR w v L) : SlR w' v L := by
  refine ⟨⟨hv.1.1, ?_⟩, hv.2⟩
  rcases hv.1.2 with h0 | ⟨h0, b, o, cap, hf, hc⟩
  · exact Or.inl h0
  · obtain ⟨a1, a2, -⟩ := SlR.free h hv hf h0 hc
    exact Or.inr ⟨h0, b, o, cap, hf, fun i u hi => (World.cell?_of_block (s.block b a1 a2)).trans (hc i u hi)⟩
theorem SlR.set3 {R : Refs} {X : Nat} {W : Wh} {w : World} (h : WhAt R w X W) {v : Value} {L : List Rt} (hv : SlR w v L) {m : Nat} {x y z : Value} {t : TypeId} {f : Nat × Nat} (hm : w.heap[m]? = some (.cells #[x, y, z] t f)) {w' : World} (hk : ∀ k, k ≠ m → w'.heap[k]? = w.heap[k]?) : SlR w' v L := by
  refine ⟨⟨hv.1.1, ?_⟩, hv.2⟩
  rcases hv.1.2 with h0 | ⟨h0, b, o, cap, hf, hc⟩
  · exact Or.inl h0
  · obtain ⟨a1, a2, a3⟩ := SlR.free h hv hf h0 hc
    have hne : b ≠ m := by
      rintro rfl
      have := a3 _ _ _ hm
      simp at this
    exact Or.inr ⟨h0, b, o, cap, hf, fun i u hi => (World.cell?_of_block (hk b hne)).trans (hc i u hi)⟩
theorem row_stepS {R R' : Refs} {X : Nat} {W : Wh} {w w' : World} (h : WhAt R w X W) (s : Step R R' X w w') {m : Nat} {cs : Array Value} {t : TypeId} {f : Nat × Nat} (hm : w.heap[m]? = some (.cells cs t f)) (hX : m ≠ X) : w'.heap[m]? = some (.cells cs t f) :=
  (s.block m (Array.getElem?_eq_some_iff.1 hm).1 (h.apart hm hX)).trans hm
theorem rset_ord (t o : Int) (L : List Rt) (id wh iv : Int) : (rsetS t o L id wh iv).1.2 ≤ o + 1 := by
  unfold rsetS
  (repeat' split) <;> simp only <;> omega
theorem run_le : ∀ (n : Nat) (L : List Rt) (out : List (Int × Int)), (runR n L out).2.length ≤ out.length + n
  | 0, _, _ => Nat.le_refl _
  | _ + 1, [], _ => by simp [runR]
  | n + 1, e :: L, out => by
    have := run_le n (nextR e L) (out ++ [(e.t.id, e.t.when)])
    rw [List.length_append] at this
    show (runR n (nextR e L) (out ++ [(e.t.id, e.t.when)])).2.length ≤ _
    simp only [List.length_cons, List.length_nil] at this
    omega
theorem radv_le (t : Int) (L : List Rt) (u : Int) : (radvS t L u).2.1.length ≤ 5000 := by
  unfold radvS
  split
  · simp
  · split
    · simp
    · split
      · simp
      · have := run_le (cntR u L).toNat L []
        simp only [List.length_nil] at this ⊢
        omega

set_option maxRecDepth 100000 in
set_option maxHeartbeats 16000000 in
theorem runs_calls (now : Int) (v : Value) (l : List OpT) (w : World) (hv : SlO w v l) (hl : ∀ o ∈ l, o.ok) : Calls Try.prog 4 #[.int .i64 now, v] w fun e w' => e = .returned (.bool true) ∧ Below w.heap.size w w' := by
  obtain ⟨a, c, rfl⟩ := SlV.form hv
  obtain ⟨n, hn2⟩ : ∃ n, l.length = n := ⟨_, rfl⟩
  have HN := Lib.hid hn2
  have HV := Lib.hid hv
  have HL := Lib.hid hl
  rw [hn2]
  clear hv hl hn2
  have hrn := fun w2 => rnew_calls now w2
  by_cases htb : timeB now = true
  case neg =>
    have htf : timeB now = false := by simpa using htb
    have h10 := new_no now w htf
    rw [htf] at hrn
    simp only [Bool.false_eq_true, if_false] at hrn
    unfold rwV at hrn
    clear htb htf
    go_enter Try.func4, Try.ntmps4
    go_wp2_with fail
    refine h10.mono ?_
    rintro e w1 ⟨rfl, rfl⟩
    go_wp2_with fail
    refine (hrn w).mono ?_
    rintro e w2 ⟨rfl, hb2⟩
    clear h10 hrn
    have HB2 := Lib.hid hb2
    clear hb2
    by_cases h40 : 40 < (n : Int)
    all_goals
      go_wp2_with fail
      refine (awake_calls _).mono ?_
      rintro e w3 ⟨rfl, hb3⟩
      go_wp2_with fail
      go_ret
      exact ⟨rfl, (HB2.out.alloc HB2.out.size _).then hb3⟩
  have h10 := new_calls now w htb
  have hnb : 0 ≤ now ∧ now ≤ 1099511627776 := by
    unfold timeB at htb
    simpa using htb
  rw [htb] at hrn
  simp only [if_true] at hrn
  unfold rwV at hrn
  clear htb
  go_enter Try.func4, Try.ntmps4
  go_wp2_with fail
  refine h10.mono ?_
  rintro e w1 ⟨R0, rfl, h0, f0, b0⟩
  clear h10
  obtain ⟨X, hX⟩ : ∃ X, w.heap.size + 2 = X := ⟨_, rfl⟩
  rw [hX] at h0 f0 ⊢
  have hXw : w.heap.size ≤ X := by omega
  clear hX
  go_wp2_with fail
  refine (hrn w1).mono ?_
  rintro e w2 ⟨rfl, hb2⟩
  have HB2 := Lib.hid hb2
  have B0 := Lib.hid b0
  have F0 := Lib.hid f0
  have HW1 := Lib.hid h0
  clear hrn hb2 b0 f0 h0
  by_cases h40 : 40 < (n : Int)
  · go_wp2_with fail
    refine (awake_calls _).mono ?_
    rintro e w3 ⟨rfl, hb3⟩
    go_wp2_with fail
    go_ret
    exact ⟨rfl, (B0.out.then (HB2.out.alloc HB2.out.size _)).then hb3⟩
  obtain ⟨w3, hw3⟩ : ∃ w3, w2.alloc (.cells #[.int .i64 now, .slice none 0 0, .int .i64 0] 40) = w3 := ⟨_, rfl⟩
  have hb3 : Below w2.heap.size w2 w3 := by rw [← hw3]; exact (Below.refl _ _).alloc (Nat.le_refl _) _
  have g7 : w3.heap[w2.heap.size]? = some (.cells #[.int .i64 now, .slice none 0 0, .int .i64 0] 40 (0, 0)) := by rw [← hw3]; exact heap_alloc_new _ _
  have HB3 := Lib.hid (HB2.out.then hb3)
  have hX1 := HW1.out.foot_lt (Or.inl rfl)
  have hmX : w2.heap.size ≠ X := by have := HB2.out.size; omega
  have HW3 := Lib.hid (HW1.out.below HB3.out)
  have G7 := Lib.hid g7
  have HWW := Lib.hid hw3
  clear hb3 g7 hw3
  go_wp2_with fail
  rw [HWW.out]
  obtain ⟨m7, hm7⟩ : ∃ m7, w2.heap.size = m7 := ⟨_, rfl⟩
  have HM7 := Lib.hid hm7
  have G7b := G7.out
  rw [hm7] at G7b hmX ⊢
  have G7 := Lib.hid G7b
  have ST3 := Lib.hid (Step.of_below (R := R0) (X := X) HB3.out)
  clear G7b HWW hm7
  go_loopw [52] (fun i wr => ∃ (k : Nat) (R' : Refs) (W : Wh) (L : List Rt) (vv : Value), k ≤ n ∧ i = .int .i64 (k : Int) ∧ WhAt R' wr X W ∧ Cpl W L ∧ NP W ∧ W.ord ≤ (k : Int) ∧ wr.heap[m7]? = some (.cells #[.int .i64 W.now, vv, .int .i64 W.ord] 40 (0, 0)) ∧ SlR wr vv L ∧ Step R0 R' X w1 wr) (fun i _ => n - (intOf i).toNat)
  case atStart => exact ⟨0, R0, newS now, [], _, Nat.zero_le _, rfl, HW3.out, new_cpl now hnb, np_new now, Int.le_refl _, G7.out, SlR.nil _, ST3.out⟩
  case round =>
    obtain ⟨k, R', W, L, vv, hk, rfl, hwh, hcp, hnp, hwo, hrow, hsl, hst⟩ := hrel
    have WH := Lib.hid hwh
    have CP := Lib.hid hcp
    have NPH := Lib.hid hnp
    have ROW := Lib.hid hrow
    have SL := Lib.hid hsl
    have ST := Lib.hid hst
    have BW := Lib.hid (B0.out.trans (hst.below B0.out.size F0.out))
    obtain ⟨x0, x1, x2, xf⟩ := row3 hrow
    obtain ⟨va, vc, rfl⟩ := hsl.form
    have hob := hcp.ok.ob.1
    have hnw := hcp.ok.inv.now
    have hlen := hcp.ok.len
    rw [hcp.len] at hlen
    clear hwh hcp hnp hrow hsl hst
    by_cases hlt : k < n
    · obtain ⟨o, ho⟩ : ∃ o, l[k]? = some o := ⟨_, List.getElem?_eq_getElem (by have := HN.out; omega)⟩
      have hv0 := HV.out
      rw [HN.out] at hv0
      have hv1 := hv0
      rw [← HN.out] at hv1
      obtain ⟨g, ofs, cap, hf, y0, y1, y2, y3⟩ := SlO.at hv1 ho
      rw [HN.out] at hf
      simp only [Value.slice.injEq] at hf
      obtain ⟨rfl, -, rfl⟩ := hf
      obtain ⟨q1, q2, q3, q4, q5, q6, q7, q8⟩ := HL.out o (List.mem_of_getElem? ho)
      replace y0 := BW.out.at_cell y0
      replace y1 := BW.out.at_cell y1
      replace y2 := BW.out.at_cell y2
      replace y3 := BW.out.at_cell y3
      obtain ⟨kind, id, tm, iv⟩ := o
      simp only at y0 y1 y2 y3 q1 q2 q3 q4 q5 q6 q7 q8
      have gl := World.block_lt_of_cell? wr _ y0
      have gn : ¬ g = wr.heap.size := Nat.ne_of_lt gl
      have ml : m7 < wr.heap.size := World.block_lt_of_cell? wr _ x0
      have mn : ¬ m7 = wr.heap.size := Nat.ne_of_lt ml
      have mn2 : ¬ wr.heap.size = m7 := Nat.ne_of_gt ml
      obtain ⟨nw, hnw2⟩ : ∃ nw, W.now = nw := ⟨_, rfl⟩
      obtain ⟨od, hod⟩ : ∃ od, W.ord = od := ⟨_, rfl⟩
      have HNW := Lib.hid hnw2
      have HOD := Lib.hid hod
      rw [hnw2] at x0 hnw
      rw [hod] at x2 hob hwo
      have ROW2 := ROW.out
      rw [hnw2, hod] at ROW2
      have ROW := Lib.hid ROW2
      obtain ⟨W10, hW10⟩ : ∃ W10, wr.alloc (.cells #[.int .u8 kind, .int .u8 id, .int .i32 tm, .int .i32 iv] 44) = W10 := ⟨_, rfl⟩
      have hb10 : Below wr.heap.size wr W10 := by rw [← hW10]; exact (Below.refl _ _).alloc (Nat.le_refl _) _
      have g10 : W10.heap[wr.heap.size]? = some (.cells #[.int .u8 kind, .int .u8 id, .int .i32 tm, .int .i32 iv] 44 (0, 0)) := by rw [← hW10]; exact heap_alloc_new _ _
      have r7 := row_n2 hb10 ROW.out
      have HB10 := Lib.hid hb10
      have G10 := Lib.hid g10
      have R7 := Lib.hid r7
      obtain ⟨z0, z1, z2, zf⟩ := row3 r7
      have k0 := cells_of_row g10 0 _ rfl
      have k1 := cells_of_row g10 1 _ rfl
      have k2 := cells_of_row g10 2 _ rfl
      have k3 := cells_of_row g10 3 _ rfl
      have WH10 := Lib.hid (WH.out.below hb10)
      have SL10 := Lib.hid (SL.out.below hb10)
      have ST10 := Lib.hid (ST.out.trans (Step.of_below hb10))
      have hlt' : (k : Int) < (n : Int) := by omega
      have gt : IntKind.i64.wrap tm = tm := IntWalk.i64_in _ (by omega)
      have gi : IntKind.i64.wrap iv = iv := IntWalk.i64_in _ (by omega)
      have gid : IntKind.i64.wrap id = id := IntWalk.i64_in _ (by omega)
      have gwt : IntKind.i64.wrap (nw + tm) = nw + tm := IntWalk.i64_in _ (by omega)
      obtain ⟨mk, hmk⟩ : ∃ mk, kind % 5 = mk := ⟨_, rfl⟩
      have gk : Int.tmod kind 5 = mk := by rw [Int.tmod_eq_emod_of_nonneg q1]; exact hmk
      have gkw : IntKind.u8.wrap mk = mk := IntWalk.u8_in _ (by omega)
      obtain ⟨jd, hjd⟩ : ∃ jd, id % 12 = jd := ⟨_, rfl⟩
      have gj : Int.tmod id 12 = jd := by rw [Int.tmod_eq_emod_of_nonneg q3]; exact hjd
      have gjw : IntKind.i64.wrap jd = jd := IntWalk.i64_in _ (by omega)
      have hjb : 0 ≤ jd ∧ jd < 12 := by omega
      have gjd : IntKind.i64.wrap (jd - 1) = jd - 1 := IntWalk.i64_in _ (by omega)
      have hmb : 0 ≤ mk ∧ mk < 5 := by omega
      clear hv0 hv1 ho hmk hjd hb10 g10 r7 hnw2 hod ROW2 q1 q2 q3 q4
      have hm5 : mk = 0 ∨ mk = 1 ∨ mk = 2 ∨ mk = 3 ∨ mk = 4 := by omega
      rcases hm5 with rfl | rfl | rfl | rfl | rfl
      · skip
        have hcall := rset_calls nw (.slice va L.length vc) od L (jd - 1) (nw + tm) iv W10 SL10.out (by omega) (by omega)
        have hcpl := set_cpl CP.out (jd - 1) (nw + tm) iv
        have hset0 := fun (R : Refs) (w : World) (h : WhAt R w X W) => set_calls R X W (jd - 1) (nw + tm) iv w h (by rw [HNW.out]; omega) (by rw [HOD.out]; omega)
        have hnp2 := np_set CP.out.ok NPH.out (jd - 1) (nw + tm) iv
        have hoo := rset_ord nw od L (jd - 1) (nw + tm) iv
        rw [HNW.out, HOD.out] at hcpl
        obtain ⟨rs, hrs⟩ : ∃ rs, rsetS nw od L (jd - 1) (nw + tm) iv = rs := ⟨_, rfl⟩
        obtain ⟨ss, hss⟩ : ∃ ss, setS W (jd - 1) (nw + tm) iv = ss := ⟨_, rfl⟩
        rw [hrs] at hcall hcpl hoo
        rw [hss] at hcpl hset0 hnp2
        obtain ⟨⟨L2, od2⟩, er⟩ := rs
        obtain ⟨W2, es⟩ := ss
        obtain ⟨c1, c2, c3, c4⟩ := hcpl
        simp only at c1 c2 c3 c4 hcall hset0 hnp2 hoo
        subst c1
        unfold rwV at hcall
        have HC8 := Lib.hid c2
        have HO8 := Lib.hid c3
        have HT8 := Lib.hid c4
        have HN8 := Lib.hid hnp2
        have HB8o := Lib.hid (show od2 ≤ (k : Int) + 1 by omega)
        have HSET := Lib.hid hset0
        clear hrs hss c2 c3 c4 hnp2 hset0 hoo
        go_wp2_with fail
        refine hcall.mono ?_
        rintro e w5 ⟨v2, rfl, hs2, hb5⟩
        obtain ⟨ua, uc, rfl⟩ := hs2.form
        obtain ⟨w6, hw6⟩ : ∃ w6, w5.alloc (.cells #[.int .i64 nw, .slice ua L2.length uc, .int .i64 od2] 40) = w6 := ⟨_, rfl⟩
        have hb6 : Below w5.heap.size w5 w6 := by rw [← hw6]; exact (Below.refl _ _).alloc (Nat.le_refl _) _
        have g12 : w6.heap[w5.heap.size]? = some (.cells #[.int .i64 nw, .slice ua L2.length uc, .int .i64 od2] 40 (0, 0)) := by rw [← hw6]; exact heap_alloc_new _ _
        have h106 := hb5.then hb6
        have r10 := row_n2 h106 G10.out
        have r7 := row_n2 h106 R7.out
        have k1 := cells_of_row r10 1 _ rfl
        have k3 := cells_of_row r10 3 _ rfl
        obtain ⟨m12, hm12⟩ : ∃ m12, w5.heap.size = m12 := ⟨_, rfl⟩
        have hm12X : m12 ≠ X := by
          have := WH10.out.foot_lt (Or.inl rfl)
          have := hb5.size
          omega
        rw [hm12] at g12
        have HWH6 := Lib.hid (WH10.out.below h106)
        have HS6 := Lib.hid (hs2.below hb6)
        have HT6 := Lib.hid (ST10.out.trans (Step.of_below h106))
        have R76 := Lib.hid r7
        have G12 := Lib.hid g12
        have hset := HSET.out R' w6 HWH6.out
        have HW6 := Lib.hid hw6
        have HM12 := Lib.hid hm12
        clear hcall hs2 hb5 hb6 g12 h106 r10 r7 y0 y1 y2 y3 x0 x1 x2 xf z0 z1 z2 zf k0 k2 hm12 hW10
        go_wp2_with fail
        refine hset.mono ?_
        rintro e w7 ⟨rfl, R2, h7, s7⟩
        have r7 := row_stepS HWH6.out s7 R76.out hmX
        have r12 := row_stepS HWH6.out s7 G12.out hm12X
        obtain ⟨p0, p1, p2, pf⟩ := row3 r7
        rw [← HM12.out] at r12
        obtain ⟨t0, t1, t2, -⟩ := row3 r12
        have H7 := Lib.hid h7
        have R7w := Lib.hid r7
        have S7 := Lib.hid (SlR.stepS HWH6.out s7 HS6.out)
        have T7 := Lib.hid (HT6.out.trans s7)
        clear hset h7 s7 r7 r12 k1 k3 hw6
        obtain ⟨w8, hw8⟩ : ∃ w8, ((w7.setCell ⟨m7, 0, none⟩ (.int .i64 nw)).setCell ⟨m7, 1, none⟩ (.slice ua L2.length uc)).setCell ⟨m7, 2, none⟩ (.int .i64 od2) = w8 := ⟨_, rfl⟩
        have hf8 := fill3 R7w.out (.int .i64 nw) (.slice ua L2.length uc) (.int .i64 od2)
        rw [hw8] at hf8
        have R8 := Lib.hid hf8.1
        have HW8 := Lib.hid (H7.out.same fun j hj => hf8.2.2 j (fun e => H7.out.apart R7w.out hmX (e ▸ hj)))
        have S8 := Lib.hid (SlR.set3 H7.out S7.out R7w.out hf8.2.2)
        have T8 := Lib.hid (show Step R0 R2 X w1 w8 by
          rw [← hw8]
          have hm : w1.heap.size ≤ m7 := by have := HM7.out; have := HB2.out.size; omega
          exact ((T7.out.put (a := ⟨m7, 0, none⟩) hm _).put (a := ⟨m7, 1, none⟩) hm _).put (a := ⟨m7, 2, none⟩) hm _)
        have HWT := Lib.hid hw8
        clear hf8 hw8
        go_wp2_with fail
        rw [HWT.out]
        have hcs := same_calls R2 X W2 (.slice ua L2.length uc) od2 L2 w8 HW8.out HC8.out S8.out
        unfold rwV at hcs
        rw [HT8.out] at hcs
        refine hcs.mono ?_
        rintro e w9 ⟨rfl, hb9⟩
        have HB9 := Lib.hid hb9
        clear hcs hb9
        go_wp2_with fail
        go_roundw
        case rel =>
          refine ⟨k + 1, R2, W2, L2, .slice ua L2.length uc, by omega, by go_num, HW8.out.below HB9.out, HC8.out, HN8.out, by rw [HO8.out]; have := HB8o.out; push_cast; omega, ?_, S8.out.below HB9.out, T8.out.trans (Step.of_below HB9.out)⟩
          rw [HO8.out, HT8.out]
          exact row_n2 HB9.out R8.out
        case measure => simp [intOf]; omega
      · skip
        have hcall := rset_calls nw (.slice va L.length vc) od L (jd - 1) (nw + tm) iv W10 SL10.out (by omega) (by omega)
        have hcpl := set_cpl CP.out (jd - 1) (nw + tm) iv
        have hset0 := fun (R : Refs) (w : World) (h : WhAt R w X W) => set_calls R X W (jd - 1) (nw + tm) iv w h (by rw [HNW.out]; omega) (by rw [HOD.out]; omega)
        have hnp2 := np_set CP.out.ok NPH.out (jd - 1) (nw + tm) iv
        have hoo := rset_ord nw od L (jd - 1) (nw + tm) iv
        rw [HNW.out, HOD.out] at hcpl
        obtain ⟨rs, hrs⟩ : ∃ rs, rsetS nw od L (jd - 1) (nw + tm) iv = rs := ⟨_, rfl⟩
        obtain ⟨ss, hss⟩ : ∃ ss, setS W (jd - 1) (nw + tm) iv = ss := ⟨_, rfl⟩
        rw [hrs] at hcall hcpl hoo
        rw [hss] at hcpl hset0 hnp2
        obtain ⟨⟨L2, od2⟩, er⟩ := rs
        obtain ⟨W2, es⟩ := ss
        obtain ⟨c1, c2, c3, c4⟩ := hcpl
        simp only at c1 c2 c3 c4 hcall hset0 hnp2 hoo
        subst c1
        unfold rwV at hcall
        have HC8 := Lib.hid c2
        have HO8 := Lib.hid c3
        have HT8 := Lib.hid c4
        have HN8 := Lib.hid hnp2
        have HB8o := Lib.hid (show od2 ≤ (k : Int) + 1 by omega)
        have HSET := Lib.hid hset0
        clear hrs hss c2 c3 c4 hnp2 hset0 hoo
        go_wp2_with fail
        refine hcall.mono ?_
        rintro e w5 ⟨v2, rfl, hs2, hb5⟩
        obtain ⟨ua, uc, rfl⟩ := hs2.form
        obtain ⟨w6, hw6⟩ : ∃ w6, w5.alloc (.cells #[.int .i64 nw, .slice ua L2.length uc, .int .i64 od2] 40) = w6 := ⟨_, rfl⟩
        have hb6 : Below w5.heap.size w5 w6 := by rw [← hw6]; exact (Below.refl _ _).alloc (Nat.le_refl _) _
        have g12 : w6.heap[w5.heap.size]? = some (.cells #[.int .i64 nw, .slice ua L2.length uc, .int .i64 od2] 40 (0, 0)) := by rw [← hw6]; exact heap_alloc_new _ _
        have h106 := hb5.then hb6
        have r10 := row_n2 h106 G10.out
        have r7 := row_n2 h106 R7.out
        have k1 := cells_of_row r10 1 _ rfl
        have k3 := cells_of_row r10 3 _ rfl
        obtain ⟨m12, hm12⟩ : ∃ m12, w5.heap.size = m12 := ⟨_, rfl⟩
        have hm12X : m12 ≠ X := by
          have := WH10.out.foot_lt (Or.inl rfl)
          have := hb5.size
          omega
        rw [hm12] at g12
        have HWH6 := Lib.hid (WH10.out.below h106)
        have HS6 := Lib.hid (hs2.below hb6)
        have HT6 := Lib.hid (ST10.out.trans (Step.of_below h106))
        have R76 := Lib.hid r7
        have G12 := Lib.hid g12
        have hset := HSET.out R' w6 HWH6.out
        have HW6 := Lib.hid hw6
        have HM12 := Lib.hid hm12
        clear hcall hs2 hb5 hb6 g12 h106 r10 r7 y0 y1 y2 y3 x0 x1 x2 xf z0 z1 z2 zf k0 k2 hm12 hW10
        go_wp2_with fail
        refine hset.mono ?_
        rintro e w7 ⟨rfl, R2, h7, s7⟩
        have r7 := row_stepS HWH6.out s7 R76.out hmX
        have r12 := row_stepS HWH6.out s7 G12.out hm12X
        obtain ⟨p0, p1, p2, pf⟩ := row3 r7
        rw [← HM12.out] at r12
        obtain ⟨t0, t1, t2, -⟩ := row3 r12
        have H7 := Lib.hid h7
        have R7w := Lib.hid r7
        have S7 := Lib.hid (SlR.stepS HWH6.out s7 HS6.out)
        have T7 := Lib.hid (HT6.out.trans s7)
        clear hset h7 s7 r7 r12 k1 k3 hw6
        obtain ⟨w8, hw8⟩ : ∃ w8, ((w7.setCell ⟨m7, 0, none⟩ (.int .i64 nw)).setCell ⟨m7, 1, none⟩ (.slice ua L2.length uc)).setCell ⟨m7, 2, none⟩ (.int .i64 od2) = w8 := ⟨_, rfl⟩
        have hf8 := fill3 R7w.out (.int .i64 nw) (.slice ua L2.length uc) (.int .i64 od2)
        rw [hw8] at hf8
        have R8 := Lib.hid hf8.1
        have HW8 := Lib.hid (H7.out.same fun j hj => hf8.2.2 j (fun e => H7.out.apart R7w.out hmX (e ▸ hj)))
        have S8 := Lib.hid (SlR.set3 H7.out S7.out R7w.out hf8.2.2)
        have T8 := Lib.hid (show Step R0 R2 X w1 w8 by
          rw [← hw8]
          have hm : w1.heap.size ≤ m7 := by have := HM7.out; have := HB2.out.size; omega
          exact ((T7.out.put (a := ⟨m7, 0, none⟩) hm _).put (a := ⟨m7, 1, none⟩) hm _).put (a := ⟨m7, 2, none⟩) hm _)
        have HWT := Lib.hid hw8
        clear hf8 hw8
        go_wp2_with fail
        rw [HWT.out]
        have hcs := same_calls R2 X W2 (.slice ua L2.length uc) od2 L2 w8 HW8.out HC8.out S8.out
        unfold rwV at hcs
        rw [HT8.out] at hcs
        refine hcs.mono ?_
        rintro e w9 ⟨rfl, hb9⟩
        have HB9 := Lib.hid hb9
        clear hcs hb9
        go_wp2_with fail
        go_roundw
        case rel =>
          refine ⟨k + 1, R2, W2, L2, .slice ua L2.length uc, by omega, by go_num, HW8.out.below HB9.out, HC8.out, HN8.out, by rw [HO8.out]; have := HB8o.out; push_cast; omega, ?_, S8.out.below HB9.out, T8.out.trans (Step.of_below HB9.out)⟩
          rw [HO8.out, HT8.out]
          exact row_n2 HB9.out R8.out
        case measure => simp [intOf]; omega
      · skip
        have hcall := rcancel_calls nw (.slice va L.length vc) od L jd W10 SL10.out (by omega)
        have hcpl := cancel_cpl CP.out jd
        obtain ⟨pk, ps, hpk, hps, hpl⟩ := CP.out.ok.inv.place jd
        have hcan0 := fun (R : Refs) (w : World) (h : WhAt R w X W) => cancel_calls R X W jd w h pk ps hpk hps hpl
        have hnp2 := np_cancel NPH.out jd
        rw [HNW.out, HOD.out] at hcpl
        obtain ⟨rs, hrs⟩ : ∃ rs, rcancelS L jd = rs := ⟨_, rfl⟩
        obtain ⟨ss, hss⟩ : ∃ ss, cancelS W jd = ss := ⟨_, rfl⟩
        rw [hrs] at hcall hcpl
        rw [hss] at hcpl hcan0 hnp2
        obtain ⟨L2, er⟩ := rs
        obtain ⟨W2, es⟩ := ss
        obtain ⟨c1, c2, c3, c4⟩ := hcpl
        simp only at c1 c2 c3 c4 hcall hcan0 hnp2
        subst c1
        unfold rwV at hcall
        have HC8 := Lib.hid c2
        have HO8 := Lib.hid c3
        have HT8 := Lib.hid c4
        have HN8 := Lib.hid hnp2
        have HB8o := Lib.hid (show od ≤ (k : Int) + 1 by omega)
        have HSET := Lib.hid hcan0
        clear hrs hss c2 c3 c4 hnp2 hcan0 hpk hps hpl
        go_wp2_with fail
        refine hcall.mono ?_
        rintro e w5 ⟨v2, rfl, hs2, hb5⟩
        obtain ⟨ua, uc, rfl⟩ := hs2.form
        obtain ⟨w6, hw6⟩ : ∃ w6, w5.alloc (.cells #[.int .i64 nw, .slice ua L2.length uc, .int .i64 od] 40) = w6 := ⟨_, rfl⟩
        have hb6 : Below w5.heap.size w5 w6 := by rw [← hw6]; exact (Below.refl _ _).alloc (Nat.le_refl _) _
        have g12 : w6.heap[w5.heap.size]? = some (.cells #[.int .i64 nw, .slice ua L2.length uc, .int .i64 od] 40 (0, 0)) := by rw [← hw6]; exact heap_alloc_new _ _
        have h106 := hb5.then hb6
        have r10 := row_n2 h106 G10.out
        have r7 := row_n2 h106 R7.out
        have k1 := cells_of_row r10 1 _ rfl
        have k3 := cells_of_row r10 3 _ rfl
        obtain ⟨m12, hm12⟩ : ∃ m12, w5.heap.size = m12 := ⟨_, rfl⟩
        have hm12X : m12 ≠ X := by
          have := WH10.out.foot_lt (Or.inl rfl)
          have := hb5.size
          omega
        rw [hm12] at g12
        have HWH6 := Lib.hid (WH10.out.below h106)
        have HS6 := Lib.hid (hs2.below hb6)
        have HT6 := Lib.hid (ST10.out.trans (Step.of_below h106))
        have R76 := Lib.hid r7
        have G12 := Lib.hid g12
        have hset := HSET.out R' w6 HWH6.out
        have HW6 := Lib.hid hw6
        have HM12 := Lib.hid hm12
        clear hcall hs2 hb5 hb6 g12 h106 r10 r7 y0 y1 y2 y3 x0 x1 x2 xf z0 z1 z2 zf k0 k2 hm12 hW10
        go_wp2_with fail
        refine hset.mono ?_
        rintro e w7 ⟨rfl, h7, s7⟩
        have r7 := row_stepS HWH6.out s7 R76.out hmX
        have r12 := row_stepS HWH6.out s7 G12.out hm12X
        obtain ⟨p0, p1, p2, pf⟩ := row3 r7
        rw [← HM12.out] at r12
        obtain ⟨t0, t1, t2, -⟩ := row3 r12
        have H7 := Lib.hid h7
        have R7w := Lib.hid r7
        have S7 := Lib.hid (SlR.stepS HWH6.out s7 HS6.out)
        have T7 := Lib.hid (HT6.out.trans s7)
        clear hset h7 s7 r7 r12 k1 k3 hw6
        obtain ⟨w8, hw8⟩ : ∃ w8, ((w7.setCell ⟨m7, 0, none⟩ (.int .i64 nw)).setCell ⟨m7, 1, none⟩ (.slice ua L2.length uc)).setCell ⟨m7, 2, none⟩ (.int .i64 od) = w8 := ⟨_, rfl⟩
        have hf8 := fill3 R7w.out (.int .i64 nw) (.slice ua L2.length uc) (.int .i64 od)
        rw [hw8] at hf8
        have R8 := Lib.hid hf8.1
        have HW8 := Lib.hid (H7.out.same fun j hj => hf8.2.2 j (fun e => H7.out.apart R7w.out hmX (e ▸ hj)))
        have S8 := Lib.hid (SlR.set3 H7.out S7.out R7w.out hf8.2.2)
        have T8 := Lib.hid (show Step R0 R' X w1 w8 by
          rw [← hw8]
          have hm : w1.heap.size ≤ m7 := by have := HM7.out; have := HB2.out.size; omega
          exact ((T7.out.put (a := ⟨m7, 0, none⟩) hm _).put (a := ⟨m7, 1, none⟩) hm _).put (a := ⟨m7, 2, none⟩) hm _)
        have HWT := Lib.hid hw8
        clear hf8 hw8
        cases es
        · go_wp2_with fail
          rw [HWT.out]
          have hcs := same_calls R' X W2 (.slice ua L2.length uc) od L2 w8 HW8.out HC8.out S8.out
          unfold rwV at hcs
          rw [HT8.out] at hcs
          refine hcs.mono ?_
          rintro e w9 ⟨rfl, hb9⟩
          have HB9 := Lib.hid hb9
          clear hcs hb9
          go_wp2_with fail
          go_roundw
          case rel =>
            refine ⟨k + 1, R', W2, L2, .slice ua L2.length uc, by omega, by go_num, HW8.out.below HB9.out, HC8.out, HN8.out, by rw [HO8.out]; have := HB8o.out; push_cast; omega, ?_, S8.out.below HB9.out, T8.out.trans (Step.of_below HB9.out)⟩
            rw [HO8.out, HT8.out]
            exact row_n2 HB9.out R8.out
          case measure => simp [intOf]; omega
        · go_wp2_with fail
          rw [HWT.out]
          have hcs := same_calls R' X W2 (.slice ua L2.length uc) od L2 w8 HW8.out HC8.out S8.out
          unfold rwV at hcs
          rw [HT8.out] at hcs
          refine hcs.mono ?_
          rintro e w9 ⟨rfl, hb9⟩
          have HB9 := Lib.hid hb9
          clear hcs hb9
          go_wp2_with fail
          go_roundw
          case rel =>
            refine ⟨k + 1, R', W2, L2, .slice ua L2.length uc, by omega, by go_num, HW8.out.below HB9.out, HC8.out, HN8.out, by rw [HO8.out]; have := HB8o.out; push_cast; omega, ?_, S8.out.below HB9.out, T8.out.trans (Step.of_below HB9.out)⟩
            rw [HO8.out, HT8.out]
            exact row_n2 HB9.out R8.out
          case measure => simp [intOf]; omega
      · skip
        by_cases h7 : iv = 7
        · subst h7
          have hq1 := Int.lt_tmod_of_pos tm (show (0 : Int) < 100000 by decide)
          have hq2 := Int.tmod_lt_of_pos tm (show (0 : Int) < 100000 by decide)
          obtain ⟨q, hq⟩ : ∃ q, Int.tmod tm 100000 = q := ⟨_, rfl⟩
          rw [hq] at hq1 hq2
          have gq : IntKind.i64.wrap q = q := IntWalk.i64_in _ (by omega)
          have gu : IntKind.i64.wrap (nw + q) = nw + q := IntWalk.i64_in _ (by omega)
          obtain ⟨u, hu⟩ : ∃ u, tm = u := ⟨_, rfl⟩
          have HU := Lib.hid hu
          clear hu
          have hcpl := adv_cpl CP.out tm
          have hadv := advance_calls R' X W tm W10 WH10.out CP.out.ok.inv CP.out.ok.len
          have hnp2 := np_adv CP.out.ok NPH.out tm
          have hrad0 := fun (w2 : World) (h : SlR w2 (.slice va L.length vc) L) => radv_calls nw (.slice va L.length vc) od L tm w2 h hnw CP.out.srt (fun e he => by have := CP.out.ok.inv.tm _ (CP.out.tm he); simp only at this; omega) hlen
          have hle := radv_le nw L tm
          rw [HNW.out, HOD.out] at hcpl
          obtain ⟨rs, hrs⟩ : ∃ rs, radvS nw L tm = rs := ⟨_, rfl⟩
          obtain ⟨ss, hss⟩ : ∃ ss, advS W tm = ss := ⟨_, rfl⟩
          rw [hrs] at hrad0 hcpl hle
          rw [hss] at hcpl hadv hnp2
          obtain ⟨⟨L2, nw2⟩, O, er⟩ := rs
          obtain ⟨W2, os2⟩ := ss
          obtain ⟨c1, c2, c4, c3⟩ := hcpl
          simp only at c1 c2 c3 c4 hrad0 hadv hnp2 hle
          subst c1
          simp only at hadv
          unfold rwV at hrad0
          have HC8 := Lib.hid c2
          have HO8 := Lib.hid c3
          have HT8 := Lib.hid c4
          have HN8 := Lib.hid hnp2
          have HB8o := Lib.hid (show od ≤ (k : Int) + 1 by omega)
          have HRAD := Lib.hid hrad0
          have HLE := Lib.hid hle
          clear hrs hss c2 c3 c4 hnp2 hrad0 hle
          go_wp2_with fail
          refine hadv.mono ?_
          rintro e w5 ⟨v1, R2, rfl, h5, s5, hown⟩
          obtain ⟨f1a, f1c, rfl⟩ := own_form hown
          have hX10 := WH10.out.foot_lt (Or.inl rfl)
          have r7 := row_stepS WH10.out s5 R7.out hmX
          have r10 := row_stepS WH10.out s5 G10.out (by have := ST.out.size; omega)
          obtain ⟨p0, p1, p2, pf⟩ := row3 r7
          have k0 := cells_of_row r10 0 _ rfl
          have H5 := Lib.hid h5
          have R75 := Lib.hid r7
          have S5 := Lib.hid (SlR.stepS WH10.out s5 SL10.out)
          have T5 := Lib.hid (ST10.out.trans s5)
          have F5 := Lib.hid (show SlF w5 _ O from SlV.of_owns hown)
          have hrad := HRAD.out w5 S5.out
          clear hadv h5 s5 hown r7 r10 y0 y1 y2 y3 x0 x1 x2 xf z0 z1 z2 zf k1 k2 k3 hW10
          go_wp2_with fail
          refine hrad.mono ?_
          rintro e w6a ⟨v2, s2, rfl, hs2, hsf, hb6a⟩
          obtain ⟨ua, uc, rfl⟩ := hs2.form
          obtain ⟨f2a, f2c, rfl⟩ := SlV.form hsf
          obtain ⟨w6, hw6⟩ : ∃ w6, w6a.alloc (.cells #[.int .i64 nw2, .slice ua L2.length uc, .int .i64 od] 40) = w6 := ⟨_, rfl⟩
          have hb6 : Below w6a.heap.size w6a w6 := by rw [← hw6]; exact (Below.refl _ _).alloc (Nat.le_refl _) _
          have g12 : w6.heap[w6a.heap.size]? = some (.cells #[.int .i64 nw2, .slice ua L2.length uc, .int .i64 od] 40 (0, 0)) := by rw [← hw6]; exact heap_alloc_new _ _
          have h56 := hb6a.then hb6
          have hfc := fired_calls _ _ O w6 (SlV.below F5.out h56) (SlV.below hsf hb6) (by have := HLE.out; omega)
          have HR76 := Lib.hid (row_n2 h56 R75.out)
          have G12 := Lib.hid g12
          have HW6 := Lib.hid (H5.out.below h56)
          have HS6 := Lib.hid (hs2.below hb6)
          have HT6 := Lib.hid (T5.out.trans (Step.of_below h56))
          clear hrad hs2 hsf hb6a hb6 g12 h56 p0 p1 p2 pf k0
          go_wp2_with fail
          refine hfc.mono ?_
          rintro e w7 ⟨rfl, hb7⟩
          have r7 := row_n2 hb7 HR76.out
          have r12 := row_n2 hb7 G12.out
          obtain ⟨p0, p1, p2, pf⟩ := row3 r7
          obtain ⟨t0, t1, t2, -⟩ := row3 r12
          have H7 := Lib.hid (HW6.out.below hb7)
          have R7w := Lib.hid r7
          have S7 := Lib.hid (HS6.out.below hb7)
          have T7 := Lib.hid (HT6.out.trans (Step.of_below hb7))
          clear hfc hb7 r7 r12 hw6
          obtain ⟨w8, hw8⟩ : ∃ w8, ((w7.setCell ⟨m7, 0, none⟩ (.int .i64 nw2)).setCell ⟨m7, 1, none⟩ (.slice ua L2.length uc)).setCell ⟨m7, 2, none⟩ (.int .i64 od) = w8 := ⟨_, rfl⟩
          have hf8 := fill3 R7w.out (.int .i64 nw2) (.slice ua L2.length uc) (.int .i64 od)
          rw [hw8] at hf8
          have R8 := Lib.hid hf8.1
          have HW8 := Lib.hid (H7.out.same fun j hj => hf8.2.2 j (fun e => H7.out.apart R7w.out hmX (e ▸ hj)))
          have S8 := Lib.hid (SlR.set3 H7.out S7.out R7w.out hf8.2.2)
          have T8 := Lib.hid (show Step R0 R2 X w1 w8 by
            rw [← hw8]
            have hm : w1.heap.size ≤ m7 := by have := HM7.out; have := HB2.out.size; omega
            exact ((T7.out.put (a := ⟨m7, 0, none⟩) hm _).put (a := ⟨m7, 1, none⟩) hm _).put (a := ⟨m7, 2, none⟩) hm _)
          have HWT := Lib.hid hw8
          clear hf8 hw8
          go_wp2_with fail
          rw [HWT.out]
          have hcs := same_calls R2 X W2 (.slice ua L2.length uc) od L2 w8 HW8.out HC8.out S8.out
          unfold rwV at hcs
          rw [HT8.out] at hcs
          refine hcs.mono ?_
          rintro e w9 ⟨rfl, hb9⟩
          have HB9 := Lib.hid hb9
          clear hcs hb9
          go_wp2_with fail
          go_roundw
          case rel =>
            refine ⟨k + 1, R2, W2, L2, .slice ua L2.length uc, by omega, by go_num, HW8.out.below HB9.out, HC8.out, HN8.out, by rw [HO8.out]; have := HB8o.out; push_cast; omega, ?_, S8.out.below HB9.out, T8.out.trans (Step.of_below HB9.out)⟩
            rw [HO8.out, HT8.out]
            exact row_n2 HB9.out R8.out
          case measure => simp [intOf]; omega
        · have h7' : (iv == 7) = false := by rw [beq_eq_false_iff_ne]; exact h7
          have hq1 := Int.lt_tmod_of_pos tm (show (0 : Int) < 100000 by decide)
          have hq2 := Int.tmod_lt_of_pos tm (show (0 : Int) < 100000 by decide)
          obtain ⟨q, hq⟩ : ∃ q, Int.tmod tm 100000 = q := ⟨_, rfl⟩
          rw [hq] at hq1 hq2
          have gq : IntKind.i64.wrap q = q := IntWalk.i64_in _ (by omega)
          have gu : IntKind.i64.wrap (nw + q) = nw + q := IntWalk.i64_in _ (by omega)
          obtain ⟨u, hu⟩ : ∃ u, nw + q = u := ⟨_, rfl⟩
          have HU := Lib.hid hu
          clear hu
          have hcpl := adv_cpl CP.out (nw + q)
          have hadv := advance_calls R' X W (nw + q) W10 WH10.out CP.out.ok.inv CP.out.ok.len
          have hnp2 := np_adv CP.out.ok NPH.out (nw + q)
          have hrad0 := fun (w2 : World) (h : SlR w2 (.slice va L.length vc) L) => radv_calls nw (.slice va L.length vc) od L (nw + q) w2 h hnw CP.out.srt (fun e he => by have := CP.out.ok.inv.tm _ (CP.out.tm he); simp only at this; omega) hlen
          have hle := radv_le nw L (nw + q)
          rw [HNW.out, HOD.out] at hcpl
          obtain ⟨rs, hrs⟩ : ∃ rs, radvS nw L (nw + q) = rs := ⟨_, rfl⟩
          obtain ⟨ss, hss⟩ : ∃ ss, advS W (nw + q) = ss := ⟨_, rfl⟩
          rw [hrs] at hrad0 hcpl hle
          rw [hss] at hcpl hadv hnp2
          obtain ⟨⟨L2, nw2⟩, O, er⟩ := rs
          obtain ⟨W2, os2⟩ := ss
          obtain ⟨c1, c2, c4, c3⟩ := hcpl
          simp only at c1 c2 c3 c4 hrad0 hadv hnp2 hle
          subst c1
          simp only at hadv
          unfold rwV at hrad0
          have HC8 := Lib.hid c2
          have HO8 := Lib.hid c3
          have HT8 := Lib.hid c4
          have HN8 := Lib.hid hnp2
          have HB8o := Lib.hid (show od ≤ (k : Int) + 1 by omega)
          have HRAD := Lib.hid hrad0
          have HLE := Lib.hid hle
          clear hrs hss c2 c3 c4 hnp2 hrad0 hle
          go_wp2_with fail
          refine hadv.mono ?_
          rintro e w5 ⟨v1, R2, rfl, h5, s5, hown⟩
          obtain ⟨f1a, f1c, rfl⟩ := own_form hown
          have hX10 := WH10.out.foot_lt (Or.inl rfl)
          have r7 := row_stepS WH10.out s5 R7.out hmX
          have r10 := row_stepS WH10.out s5 G10.out (by have := ST.out.size; omega)
          obtain ⟨p0, p1, p2, pf⟩ := row3 r7
          have k0 := cells_of_row r10 0 _ rfl
          have H5 := Lib.hid h5
          have R75 := Lib.hid r7
          have S5 := Lib.hid (SlR.stepS WH10.out s5 SL10.out)
          have T5 := Lib.hid (ST10.out.trans s5)
          have F5 := Lib.hid (show SlF w5 _ O from SlV.of_owns hown)
          have hrad := HRAD.out w5 S5.out
          clear hadv h5 s5 hown r7 r10 y0 y1 y2 y3 x0 x1 x2 xf z0 z1 z2 zf k1 k2 k3 hW10
          go_wp2_with fail
          refine hrad.mono ?_
          rintro e w6a ⟨v2, s2, rfl, hs2, hsf, hb6a⟩
          obtain ⟨ua, uc, rfl⟩ := hs2.form
          obtain ⟨f2a, f2c, rfl⟩ := SlV.form hsf
          obtain ⟨w6, hw6⟩ : ∃ w6, w6a.alloc (.cells #[.int .i64 nw2, .slice ua L2.length uc, .int .i64 od] 40) = w6 := ⟨_, rfl⟩
          have hb6 : Below w6a.heap.size w6a w6 := by rw [← hw6]; exact (Below.refl _ _).alloc (Nat.le_refl _) _
          have g12 : w6.heap[w6a.heap.size]? = some (.cells #[.int .i64 nw2, .slice ua L2.length uc, .int .i64 od] 40 (0, 0)) := by rw [← hw6]; exact heap_alloc_new _ _
          have h56 := hb6a.then hb6
          have hfc := fired_calls _ _ O w6 (SlV.below F5.out h56) (SlV.below hsf hb6) (by have := HLE.out; omega)
          have HR76 := Lib.hid (row_n2 h56 R75.out)
          have G12 := Lib.hid g12
          have HW6 := Lib.hid (H5.out.below h56)
          have HS6 := Lib.hid (hs2.below hb6)
          have HT6 := Lib.hid (T5.out.trans (Step.of_below h56))
          clear hrad hs2 hsf hb6a hb6 g12 h56 p0 p1 p2 pf k0
          go_wp2_with fail
          refine hfc.mono ?_
          rintro e w7 ⟨rfl, hb7⟩
          have r7 := row_n2 hb7 HR76.out
          have r12 := row_n2 hb7 G12.out
          obtain ⟨p0, p1, p2, pf⟩ := row3 r7
          obtain ⟨t0, t1, t2, -⟩ := row3 r12
          have H7 := Lib.hid (HW6.out.below hb7)
          have R7w := Lib.hid r7
          have S7 := Lib.hid (HS6.out.below hb7)
          have T7 := Lib.hid (HT6.out.trans (Step.of_below hb7))
          clear hfc hb7 r7 r12 hw6
          obtain ⟨w8, hw8⟩ : ∃ w8, ((w7.setCell ⟨m7, 0, none⟩ (.int .i64 nw2)).setCell ⟨m7, 1, none⟩ (.slice ua L2.length uc)).setCell ⟨m7, 2, none⟩ (.int .i64 od) = w8 := ⟨_, rfl⟩
          have hf8 := fill3 R7w.out (.int .i64 nw2) (.slice ua L2.length uc) (.int .i64 od)
          rw [hw8] at hf8
          have R8 := Lib.hid hf8.1
          have HW8 := Lib.hid (H7.out.same fun j hj => hf8.2.2 j (fun e => H7.out.apart R7w.out hmX (e ▸ hj)))
          have S8 := Lib.hid (SlR.set3 H7.out S7.out R7w.out hf8.2.2)
          have T8 := Lib.hid (show Step R0 R2 X w1 w8 by
            rw [← hw8]
            have hm : w1.heap.size ≤ m7 := by have := HM7.out; have := HB2.out.size; omega
            exact ((T7.out.put (a := ⟨m7, 0, none⟩) hm _).put (a := ⟨m7, 1, none⟩) hm _).put (a := ⟨m7, 2, none⟩) hm _)
          have HWT := Lib.hid hw8
          clear hf8 hw8
          go_wp2_with fail
          rw [HWT.out]
          have hcs := same_calls R2 X W2 (.slice ua L2.length uc) od L2 w8 HW8.out HC8.out S8.out
          unfold rwV at hcs
          rw [HT8.out] at hcs
          refine hcs.mono ?_
          rintro e w9 ⟨rfl, hb9⟩
          have HB9 := Lib.hid hb9
          clear hcs hb9
          go_wp2_with fail
          go_roundw
          case rel =>
            refine ⟨k + 1, R2, W2, L2, .slice ua L2.length uc, by omega, by go_num, HW8.out.below HB9.out, HC8.out, HN8.out, by rw [HO8.out]; have := HB8o.out; push_cast; omega, ?_, S8.out.below HB9.out, T8.out.trans (Step.of_below HB9.out)⟩
            rw [HO8.out, HT8.out]
            exact row_n2 HB9.out R8.out
          case measure => simp [intOf]; omega
      · skip
        by_cases h7 : iv = 7
        · subst h7
          have hq1 := Int.lt_tmod_of_pos tm (show (0 : Int) < 100000 by decide)
          have hq2 := Int.tmod_lt_of_pos tm (show (0 : Int) < 100000 by decide)
          obtain ⟨q, hq⟩ : ∃ q, Int.tmod tm 100000 = q := ⟨_, rfl⟩
          rw [hq] at hq1 hq2
          have gq : IntKind.i64.wrap q = q := IntWalk.i64_in _ (by omega)
          have gu : IntKind.i64.wrap (nw + q) = nw + q := IntWalk.i64_in _ (by omega)
          obtain ⟨u, hu⟩ : ∃ u, tm = u := ⟨_, rfl⟩
          have HU := Lib.hid hu
          clear hu
          have hcpl := adv_cpl CP.out tm
          have hadv := advance_calls R' X W tm W10 WH10.out CP.out.ok.inv CP.out.ok.len
          have hnp2 := np_adv CP.out.ok NPH.out tm
          have hrad0 := fun (w2 : World) (h : SlR w2 (.slice va L.length vc) L) => radv_calls nw (.slice va L.length vc) od L tm w2 h hnw CP.out.srt (fun e he => by have := CP.out.ok.inv.tm _ (CP.out.tm he); simp only at this; omega) hlen
          have hle := radv_le nw L tm
          rw [HNW.out, HOD.out] at hcpl
          obtain ⟨rs, hrs⟩ : ∃ rs, radvS nw L tm = rs := ⟨_, rfl⟩
          obtain ⟨ss, hss⟩ : ∃ ss, advS W tm = ss := ⟨_, rfl⟩
          rw [hrs] at hrad0 hcpl hle
          rw [hss] at hcpl hadv hnp2
          obtain ⟨⟨L2, nw2⟩, O, er⟩ := rs
          obtain ⟨W2, os2⟩ := ss
          obtain ⟨c1, c2, c4, c3⟩ := hcpl
          simp only at c1 c2 c3 c4 hrad0 hadv hnp2 hle
          subst c1
          simp only at hadv
          unfold rwV at hrad0
          have HC8 := Lib.hid c2
          have HO8 := Lib.hid c3
          have HT8 := Lib.hid c4
          have HN8 := Lib.hid hnp2
          have HB8o := Lib.hid (show od ≤ (k : Int) + 1 by omega)
          have HRAD := Lib.hid hrad0
          have HLE := Lib.hid hle
          clear hrs hss c2 c3 c4 hnp2 hrad0 hle
          go_wp2_with fail
          refine hadv.mono ?_
          rintro e w5 ⟨v1, R2, rfl, h5, s5, hown⟩
          obtain ⟨f1a, f1c, rfl⟩ := own_form hown
          have hX10 := WH10.out.foot_lt (Or.inl rfl)
          have r7 := row_stepS WH10.out s5 R7.out hmX
          have r10 := row_stepS WH10.out s5 G10.out (by have := ST.out.size; omega)
          obtain ⟨p0, p1, p2, pf⟩ := row3 r7
          have k0 := cells_of_row r10 0 _ rfl
          have H5 := Lib.hid h5
          have R75 := Lib.hid r7
          have S5 := Lib.hid (SlR.stepS WH10.out s5 SL10.out)
          have T5 := Lib.hid (ST10.out.trans s5)
          have F5 := Lib.hid (show SlF w5 _ O from SlV.of_owns hown)
          have hrad := HRAD.out w5 S5.out
          clear hadv h5 s5 hown r7 r10 y0 y1 y2 y3 x0 x1 x2 xf z0 z1 z2 zf k1 k2 k3 hW10
          go_wp2_with fail
          refine hrad.mono ?_
          rintro e w6a ⟨v2, s2, rfl, hs2, hsf, hb6a⟩
          obtain ⟨ua, uc, rfl⟩ := hs2.form
          obtain ⟨f2a, f2c, rfl⟩ := SlV.form hsf
          obtain ⟨w6, hw6⟩ : ∃ w6, w6a.alloc (.cells #[.int .i64 nw2, .slice ua L2.length uc, .int .i64 od] 40) = w6 := ⟨_, rfl⟩
          have hb6 : Below w6a.heap.size w6a w6 := by rw [← hw6]; exact (Below.refl _ _).alloc (Nat.le_refl _) _
          have g12 : w6.heap[w6a.heap.size]? = some (.cells #[.int .i64 nw2, .slice ua L2.length uc, .int .i64 od] 40 (0, 0)) := by rw [← hw6]; exact heap_alloc_new _ _
          have h56 := hb6a.then hb6
          have hfc := fired_calls _ _ O w6 (SlV.below F5.out h56) (SlV.below hsf hb6) (by have := HLE.out; omega)
          have HR76 := Lib.hid (row_n2 h56 R75.out)
          have G12 := Lib.hid g12
          have HW6 := Lib.hid (H5.out.below h56)
          have HS6 := Lib.hid (hs2.below hb6)
          have HT6 := Lib.hid (T5.out.trans (Step.of_below h56))
          clear hrad hs2 hsf hb6a hb6 g12 h56 p0 p1 p2 pf k0
          go_wp2_with fail
          refine hfc.mono ?_
          rintro e w7 ⟨rfl, hb7⟩
          have r7 := row_n2 hb7 HR76.out
          have r12 := row_n2 hb7 G12.out
          obtain ⟨p0, p1, p2, pf⟩ := row3 r7
          obtain ⟨t0, t1, t2, -⟩ := row3 r12
          have H7 := Lib.hid (HW6.out.below hb7)
          have R7w := Lib.hid r7
          have S7 := Lib.hid (HS6.out.below hb7)
          have T7 := Lib.hid (HT6.out.trans (Step.of_below hb7))
          clear hfc hb7 r7 r12 hw6
          obtain ⟨w8, hw8⟩ : ∃ w8, ((w7.setCell ⟨m7, 0, none⟩ (.int .i64 nw2)).setCell ⟨m7, 1, none⟩ (.slice ua L2.length uc)).setCell ⟨m7, 2, none⟩ (.int .i64 od) = w8 := ⟨_, rfl⟩
          have hf8 := fill3 R7w.out (.int .i64 nw2) (.slice ua L2.length uc) (.int .i64 od)
          rw [hw8] at hf8
          have R8 := Lib.hid hf8.1
          have HW8 := Lib.hid (H7.out.same fun j hj => hf8.2.2 j (fun e => H7.out.apart R7w.out hmX (e ▸ hj)))
          have S8 := Lib.hid (SlR.set3 H7.out S7.out R7w.out hf8.2.2)
          have T8 := Lib.hid (show Step R0 R2 X w1 w8 by
            rw [← hw8]
            have hm : w1.heap.size ≤ m7 := by have := HM7.out; have := HB2.out.size; omega
            exact ((T7.out.put (a := ⟨m7, 0, none⟩) hm _).put (a := ⟨m7, 1, none⟩) hm _).put (a := ⟨m7, 2, none⟩) hm _)
          have HWT := Lib.hid hw8
          clear hf8 hw8
          go_wp2_with fail
          rw [HWT.out]
          have hcs := same_calls R2 X W2 (.slice ua L2.length uc) od L2 w8 HW8.out HC8.out S8.out
          unfold rwV at hcs
          rw [HT8.out] at hcs
          refine hcs.mono ?_
          rintro e w9 ⟨rfl, hb9⟩
          have HB9 := Lib.hid hb9
          clear hcs hb9
          go_wp2_with fail
          go_roundw
          case rel =>
            refine ⟨k + 1, R2, W2, L2, .slice ua L2.length uc, by omega, by go_num, HW8.out.below HB9.out, HC8.out, HN8.out, by rw [HO8.out]; have := HB8o.out; push_cast; omega, ?_, S8.out.below HB9.out, T8.out.trans (Step.of_below HB9.out)⟩
            rw [HO8.out, HT8.out]
            exact row_n2 HB9.out R8.out
          case measure => simp [intOf]; omega
        · have h7' : (iv == 7) = false := by rw [beq_eq_false_iff_ne]; exact h7
          have hq1 := Int.lt_tmod_of_pos tm (show (0 : Int) < 100000 by decide)
          have hq2 := Int.tmod_lt_of_pos tm (show (0 : Int) < 100000 by decide)
          obtain ⟨q, hq⟩ : ∃ q, Int.tmod tm 100000 = q := ⟨_, rfl⟩
          rw [hq] at hq1 hq2
          have gq : IntKind.i64.wrap q = q := IntWalk.i64_in _ (by omega)
          have gu : IntKind.i64.wrap (nw + q) = nw + q := IntWalk.i64_in _ (by omega)
          obtain ⟨u, hu⟩ : ∃ u, nw + q = u := ⟨_, rfl⟩
          have HU := Lib.hid hu
          clear hu
          have hcpl := adv_cpl CP.out (nw + q)
          have hadv := advance_calls R' X W (nw + q) W10 WH10.out CP.out.ok.inv CP.out.ok.len
          have hnp2 := np_adv CP.out.ok NPH.out (nw + q)
          have hrad0 := fun (w2 : World) (h : SlR w2 (.slice va L.length vc) L) => radv_calls nw (.slice va L.length vc) od L (nw + q) w2 h hnw CP.out.srt (fun e he => by have := CP.out.ok.inv.tm _ (CP.out.tm he); simp only at this; omega) hlen
          have hle := radv_le nw L (nw + q)
          rw [HNW.out, HOD.out] at hcpl
          obtain ⟨rs, hrs⟩ : ∃ rs, radvS nw L (nw + q) = rs := ⟨_, rfl⟩
          obtain ⟨ss, hss⟩ : ∃ ss, advS W (nw + q) = ss := ⟨_, rfl⟩
          rw [hrs] at hrad0 hcpl hle
          rw [hss] at hcpl hadv hnp2
          obtain ⟨⟨L2, nw2⟩, O, er⟩ := rs
          obtain ⟨W2, os2⟩ := ss
          obtain ⟨c1, c2, c4, c3⟩ := hcpl
          simp only at c1 c2 c3 c4 hrad0 hadv hnp2 hle
          subst c1
          simp only at hadv
          unfold rwV at hrad0
          have HC8 := Lib.hid c2
          have HO8 := Lib.hid c3
          have HT8 := Lib.hid c4
          have HN8 := Lib.hid hnp2
          have HB8o := Lib.hid (show od ≤ (k : Int) + 1 by omega)
          have HRAD := Lib.hid hrad0
          have HLE := Lib.hid hle
          clear hrs hss c2 c3 c4 hnp2 hrad0 hle
          go_wp2_with fail
          refine hadv.mono ?_
          rintro e w5 ⟨v1, R2, rfl, h5, s5, hown⟩
          obtain ⟨f1a, f1c, rfl⟩ := own_form hown
          have hX10 := WH10.out.foot_lt (Or.inl rfl)
          have r7 := row_stepS WH10.out s5 R7.out hmX
          have r10 := row_stepS WH10.out s5 G10.out (by have := ST.out.size; omega)
          obtain ⟨p0, p1, p2, pf⟩ := row3 r7
          have k0 := cells_of_row r10 0 _ rfl
          have H5 := Lib.hid h5
          have R75 := Lib.hid r7
          have S5 := Lib.hid (SlR.stepS WH10.out s5 SL10.out)
          have T5 := Lib.hid (ST10.out.trans s5)
          have F5 := Lib.hid (show SlF w5 _ O from SlV.of_owns hown)
          have hrad := HRAD.out w5 S5.out
          clear hadv h5 s5 hown r7 r10 y0 y1 y2 y3 x0 x1 x2 xf z0 z1 z2 zf k1 k2 k3 hW10
          go_wp2_with fail
          refine hrad.mono ?_
          rintro e w6a ⟨v2, s2, rfl, hs2, hsf, hb6a⟩
          obtain ⟨ua, uc, rfl⟩ := hs2.form
          obtain ⟨f2a, f2c, rfl⟩ := SlV.form hsf
          obtain ⟨w6, hw6⟩ : ∃ w6, w6a.alloc (.cells #[.int .i64 nw2, .slice ua L2.length uc, .int .i64 od] 40) = w6 := ⟨_, rfl⟩
          have hb6 : Below w6a.heap.size w6a w6 := by rw [← hw6]; exact (Below.refl _ _).alloc (Nat.le_refl _) _
          have g12 : w6.heap[w6a.heap.size]? = some (.cells #[.int .i64 nw2, .slice ua L2.length uc, .int .i64 od] 40 (0, 0)) := by rw [← hw6]; exact heap_alloc_new _ _
          have h56 := hb6a.then hb6
          have hfc := fired_calls _ _ O w6 (SlV.below F5.out h56) (SlV.below hsf hb6) (by have := HLE.out; omega)
          have HR76 := Lib.hid (row_n2 h56 R75.out)
          have G12 := Lib.hid g12
          have HW6 := Lib.hid (H5.out.below h56)
          have HS6 := Lib.hid (hs2.below hb6)
          have HT6 := Lib.hid (T5.out.trans (Step.of_below h56))
          clear hrad hs2 hsf hb6a hb6 g12 h56 p0 p1 p2 pf k0
          go_wp2_with fail
          refine hfc.mono ?_
          rintro e w7 ⟨rfl, hb7⟩
          have r7 := row_n2 hb7 HR76.out
          have r12 := row_n2 hb7 G12.out
          obtain ⟨p0, p1, p2, pf⟩ := row3 r7
          obtain ⟨t0, t1, t2, -⟩ := row3 r12
          have H7 := Lib.hid (HW6.out.below hb7)
          have R7w := Lib.hid r7
          have S7 := Lib.hid (HS6.out.below hb7)
          have T7 := Lib.hid (HT6.out.trans (Step.of_below hb7))
          clear hfc hb7 r7 r12 hw6
          obtain ⟨w8, hw8⟩ : ∃ w8, ((w7.setCell ⟨m7, 0, none⟩ (.int .i64 nw2)).setCell ⟨m7, 1, none⟩ (.slice ua L2.length uc)).setCell ⟨m7, 2, none⟩ (.int .i64 od) = w8 := ⟨_, rfl⟩
          have hf8 := fill3 R7w.out (.int .i64 nw2) (.slice ua L2.length uc) (.int .i64 od)
          rw [hw8] at hf8
          have R8 := Lib.hid hf8.1
          have HW8 := Lib.hid (H7.out.same fun j hj => hf8.2.2 j (fun e => H7.out.apart R7w.out hmX (e ▸ hj)))
          have S8 := Lib.hid (SlR.set3 H7.out S7.out R7w.out hf8.2.2)
          have T8 := Lib.hid (show Step R0 R2 X w1 w8 by
            rw [← hw8]
            have hm : w1.heap.size ≤ m7 := by have := HM7.out; have := HB2.out.size; omega
            exact ((T7.out.put (a := ⟨m7, 0, none⟩) hm _).put (a := ⟨m7, 1, none⟩) hm _).put (a := ⟨m7, 2, none⟩) hm _)
          have HWT := Lib.hid hw8
          clear hf8 hw8
          go_wp2_with fail
          rw [HWT.out]
          have hcs := same_calls R2 X W2 (.slice ua L2.length uc) od L2 w8 HW8.out HC8.out S8.out
          unfold rwV at hcs
          rw [HT8.out] at hcs
          refine hcs.mono ?_
          rintro e w9 ⟨rfl, hb9⟩
          have HB9 := Lib.hid hb9
          clear hcs hb9
          go_wp2_with fail
          go_roundw
          case rel =>
            refine ⟨k + 1, R2, W2, L2, .slice ua L2.length uc, by omega, by go_num, HW8.out.below HB9.out, HC8.out, HN8.out, by rw [HO8.out]; have := HB8o.out; push_cast; omega, ?_, S8.out.below HB9.out, T8.out.trans (Step.of_below HB9.out)⟩
            rw [HO8.out, HT8.out]
            exact row_n2 HB9.out R8.out
          case measure => simp [intOf]; omega
    · have hke : k = n := by omega
      subst hke
      have hlt' : ¬ (k : Int) < (k : Int) := by omega
      have hcall := slot_calls R' X W (-1) wr WH.out
      rw [np_slot NPH.out] at hcall
      simp only at hcall
      go_wp2_with fail
      refine hcall.mono ?_
      rintro e w5 ⟨rfl, hb5⟩
      have HB5 := Lib.hid (BW.out.then hb5)
      clear hcall hb5
      go_wp2_with fail
      refine (awake_calls _).mono ?_
      rintro e w6 ⟨rfl, hb6⟩
      go_wp2_with fail
      go_ret
      exact ⟨rfl, HB5.out.then hb6⟩
end Go.Proofs.Ytddajaikighjlaa
