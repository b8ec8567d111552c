/- The reference's Slot 63. -/
import Derived.Test.YtddajaikighjlaaRb
namespace Go.Proofs.Ytddajaikighjlaa
open Go.RowKit Go.Sl Go.Mp Go.Wh

theorem row_n2 {w w' : World} (hb : Below w.heap.size w w') {b : Nat} {o : Obj} (h : w.heap[b]? = some o) : w'.heap[b]? = some o := (hb.block b (Array.getElem?_eq_some_iff.1 h).1).trans h
theorem find_at {L : List Rt} {k : Nat} {e : Rt} {id : Int} (hk : L[k]? = some e) (he : e.t.id = id) (hn : ∀ u ∈ L.take k, u.t.id ≠ id) : L.find? (fun x => x.t.id == id) = some e := by
  have hd : L = L.take k ++ e :: L.drop (k + 1) := by
    obtain ⟨h1, h2⟩ := List.getElem?_eq_some_iff.1 hk
    rw [← h2, List.getElem_cons_drop, List.take_append_drop]
  rw [hd, List.find?_append]
  have : (L.take k).find? (fun x => x.t.id == id) = none := by
    rw [List.find?_eq_none]
    intro u hu
    simpa using hn u hu
  rw [this]
  simp [he]
theorem rpl_next {f : Nat} {when frm now : Int} (h : whl (when - frm) ≤ f) (h0 : whl (when - frm) ≠ 0) : rpl f when frm now = if now < when / pw (whl (when - frm)) * pw (whl (when - frm)) then whl (when - frm) else rpl (f - 1) when (when / pw (whl (when - frm)) * pw (whl (when - frm))) now := by
  cases f with
  | zero => omega
  | succ f =>
    show (if whl (when - frm) = 0 then 0 else _) = _
    rw [if_neg h0]
    rfl
theorem rpl_zero {f : Nat} {when frm now : Int} (h0 : whl (when - frm) = 0) : rpl f when frm now = 0 := by
  cases f with
  | zero => rfl
  | succ f =>
    show (if whl (when - frm) = 0 then 0 else _) = _
    rw [if_pos h0]

set_option maxRecDepth 100000 in
set_option maxHeartbeats 4000000 in
theorem rslot_calls (time : Int) (v : Value) (ord : Int) (L : List Rt) (id : Int) (w : World) (h : SlR w v L) (_ht : 0 ≤ time ∧ time ≤ 1099511627776) (hL : ∀ e ∈ L, 0 ≤ e.set ∧ e.set ≤ time ∧ time < e.t.when ∧ e.t.when ≤ 1099511627776) (hn : L.length ≤ 1000000) :
    Calls Try.prog 63 #[rwV time v ord, .int .i64 id] w fun e w' => e = .returned (.tuple #[.int .i64 (rslotS L time id).1, .int .i64 (rslotS L time id).2.1, .int .i64 (rslotS L time id).2.2]) ∧ Below w.heap.size w w' := by
  obtain ⟨a, c, rfl⟩ := h.form
  obtain ⟨n, hn2⟩ : ∃ n, L.length = n := ⟨_, rfl⟩
  rw [hn2] at hn ⊢
  have HN := Lib.hid hn2
  have H := Lib.hid h
  have HL := Lib.hid hL
  unfold rwV
  obtain ⟨w1, hw1⟩ : ∃ w1, w.alloc (.cells #[.int .i64 time, .slice a n c, .int .i64 ord] 40) = w1 := ⟨_, rfl⟩
  have hb1 : Below w.heap.size w w1 := by rw [← hw1]; exact (Below.refl w.heap.size w).alloc (Nat.le_refl _) _
  have hz1 : w1.heap.size = w.heap.size + 1 := by rw [← hw1]; simp
  have g0 : w1.heap[w.heap.size]? = some (.cells #[.int .i64 time, .slice a n c, .int .i64 ord] 40 (0, 0)) := by rw [← hw1]; exact heap_alloc_new _ _
  have B1 := Lib.hid hb1
  have Z1 := Lib.hid hz1
  have G0 := Lib.hid g0
  clear h hL hn2 hb1 hz1 g0
  go_enter Try.func63, Try.ntmps63
  go_wp2_with fail
  clear hw1
  go_loopw [7] (fun i wr => ∃ k : Nat, k ≤ n ∧ i = .int .i64 (k : Int) ∧ (∀ u ∈ L.take k, u.t.id ≠ id) ∧ Below w1.heap.size w1 wr) (fun i _ => n - (intOf i).toNat)
  case atStart => exact ⟨0, Nat.zero_le _, rfl, (fun _ hu => by simp at hu), Below.refl _ _⟩
  case round =>
    obtain ⟨k, hk, rfl, hno, hbel⟩ := hrel
    have HB := Lib.hid hbel
    have HNO := Lib.hid hno
    have hrow := row_n2 hbel G0.out
    obtain ⟨y0, y1, y2, -⟩ := row3 hrow
    have HROW := Lib.hid hrow
    clear hbel hno hrow
    by_cases hlt : k < n
    · obtain ⟨e, he⟩ : ∃ e, L[k]? = some e := ⟨_, List.getElem?_eq_getElem (by have := HN.out; omega)⟩
      obtain ⟨g, o, cap, hf, x0, x1, x2, x3, x4⟩ := H.out.at he
      rw [HN.out] at hf
      simp only [Value.slice.injEq] at hf
      obtain ⟨rfl, -, rfl⟩ := hf
      have hbw := B1.out.then HB.out
      replace x0 := hbw.at_cell x0
      replace x1 := hbw.at_cell x1
      replace x2 := hbw.at_cell x2
      replace x3 := hbw.at_cell x3
      replace x4 := hbw.at_cell x4
      have gl := World.block_lt_of_cell? wr _ x0
      have gn : ¬ g = wr.heap.size := Nat.ne_of_lt gl
      have hlt' : (k : Int) < (n : Int) := by omega
      have hwl : w.heap.size < wr.heap.size := World.block_lt_of_cell? wr _ y0
      have wn1 : ¬ w.heap.size = wr.heap.size := Nat.ne_of_lt hwl
      obtain ⟨b1, b2, b3, b4⟩ := HL.out e (List.mem_of_getElem? he)
      have HE := Lib.hid he
      have hfind : e.t.id = id → rslotS L time id = ((rpl 6 e.t.when e.set time : Int), (slotOf (rpl 6 e.t.when e.set time) e.t.when : Int), 0) := fun h1 => by
        unfold rslotS
        rw [find_at HE.out h1 HNO.out]
      have HF := Lib.hid hfind
      obtain ⟨⟨eid, when, iv, eord⟩, set⟩ := e
      simp only at x0 x1 x2 x3 x4 b1 b2 b3 b4
      clear hbw he hfind
      by_cases hid : eid = id
      · subst hid
        have hr := HF.out rfl
        simp only at hr
        have HRS := Lib.hid hr
        clear hr HF HE HNO
        go_wp2_with fail
        obtain ⟨wB, hwB⟩ : ∃ wB, wr.alloc (.cells #[.int .i64 eid, .int .i64 when, .int .i64 iv, .int .i64 eord, .int .i64 set] 151) = wB := ⟨_, rfl⟩
        obtain ⟨m, hm⟩ : ∃ m, wr.heap.size = m := ⟨_, rfl⟩
        have hbB : Below wr.heap.size wr wB := by rw [← hwB]; exact (Below.refl _ _).alloc (Nat.le_refl _) _
        have gB : wB.heap[m]? = some (.cells #[.int .i64 eid, .int .i64 when, .int .i64 iv, .int .i64 eord, .int .i64 set] 151 (0, 0)) := by rw [← hwB, ← hm]; exact heap_alloc_new _ _
        have HBB := Lib.hid (HB.out.then hbB)
        have HR2 := Lib.hid (row_n2 hbB HROW.out)
        have GB := Lib.hid gB
        rw [hwB, hm]
        clear hwB hbB gB x0 x1 x2 x3 x4 gl gn hwl wn1 y0 y1 y2 hlt hlt' hm
        go_loopw [9] (fun fr wq => ∃ (f : Nat) (frm : Int), fr = .int .i64 frm ∧ 0 ≤ frm ∧ frm ≤ time ∧ whl (when - frm) ≤ f ∧ rpl 6 when set time = rpl f when frm time ∧ Below wB.heap.size wB wq) (fun fr _ => whl (when - intOf fr))
        case atStart => exact ⟨6, set, rfl, b1, b2, (by have := whl_le (when - set); omega), rfl, Below.refl _ _⟩
        case round =>
          obtain ⟨f, frm, rfl, f0, f1, hwf, hrp, hbel⟩ := hrel
          have hpl := place_calls when frm f0 (by omega) b4 wr
          have HBQ := Lib.hid hbel
          have hr1 := row_n2 hbel HR2.out
          have hr2 := row_n2 hbel GB.out
          obtain ⟨y0, y1, y2, -⟩ := row3 hr1
          have z1 := cells_of_row hr2 1 (.int .i64 when) rfl
          have hloc := loc_whl' frm when f0 (by omega) b4
          obtain ⟨kk, hkk⟩ : ∃ kk, whl (when - frm) = kk := ⟨_, rfl⟩
          have hk7 : kk < 7 := by rw [← hkk]; exact whl_lt _
          obtain ⟨s, hs⟩ : ∃ s, slotOf kk when = s := ⟨_, rfl⟩
          rw [hkk, hs] at hpl
          rw [hkk] at hloc
          have HKK := Lib.hid hkk
          have HS := Lib.hid hs
          have HRP := Lib.hid hrp
          have HLOC := Lib.hid hloc
          have HWF := Lib.hid hwf
          clear hbel hr1 hr2 hloc hrp hwf hkk hs
          by_cases hk0 : kk = 0
          · subst hk0
            go_wp2_with fail
            refine hpl.mono ?_
            rintro e w2 ⟨rfl, hb2⟩
            have HB2 := Lib.hid hb2
            clear hpl hb2
            go_wp2_with fail
            go_ret3
            refine ⟨?_, (B1.out.then HBB.out).then (HBQ.out.then HB2.out)⟩
            rw [HRS.out, HRP.out, rpl_zero HKK.out, HS.out]
            rfl
          · obtain ⟨p, hp⟩ : ∃ p, pw kk = p := ⟨_, rfl⟩
            obtain ⟨hp1, hp2⟩ := pw_le kk (by omega)
            obtain ⟨Q, hQ⟩ : ∃ Q, when / pw kk = Q := ⟨_, rfl⟩
            obtain ⟨A, hA⟩ : ∃ A, frm / pw kk = A := ⟨_, rfl⟩
            have hl : A < Q ∧ Q ≤ A + 64 := by
              rcases HLOC.out with ⟨e0, -⟩ | ⟨-, e1, e2, -⟩
              · exact absurd e0 hk0
              · rw [← hQ, ← hA]; exact ⟨e1, e2⟩
            have hA0 : 0 ≤ A := by rw [← hA]; exact Int.ediv_nonneg f0 (by omega)
            have hQp : Q * p ≤ when := by rw [← hQ, ← hp]; exact div_mul_le when kk
            have hAt : Int.tdiv frm p = A := by rw [Int.tdiv_eq_ediv_of_nonneg f0, ← hp]; exact hA
            have hsQ : (s : Int) = Q % 64 := by
              have := HS.out
              unfold slotOf at this
              rw [hQ] at this
              omega
            rw [hp] at hp1 hp2
            have hAQ : (A + 1) * p ≤ Q * p := Int.mul_le_mul_of_nonneg_right (by omega) (by omega)
            have hA1p : 0 ≤ (A + 1) * p := Int.mul_nonneg (by omega) (by omega)
            have hQw : Q ≤ Q * p := by
              have := Int.mul_le_mul_of_nonneg_left (show (1 : Int) ≤ p by omega) (show 0 ≤ Q by omega)
              omega
            obtain ⟨a1, ha1⟩ : ∃ a1, (A + 1) * p = a1 := ⟨_, rfl⟩
            obtain ⟨qp, hqp⟩ : ∃ qp, Q * p = qp := ⟨_, rfl⟩
            rw [ha1] at hAQ hA1p
            rw [hqp] at hQp hAQ hQw
            have hk0' : ((kk : Int) == 0) = false := by
              rw [beq_eq_false_iff_ne]
              omega
            have hp0 : ¬ p = 0 := by omega
            have hkx : (kk : Int) < 7 := by omega
            have hpw := fun (w : World) => power' kk hk7 rfl hp w
            have HQP := Lib.hid hqp
            have HA1 := Lib.hid ha1
            have HSQ := Lib.hid hsQ
            have HP := Lib.hid hp
            have HQ := Lib.hid hQ
            have HPW := Lib.hid hpw
            have gA : IntKind.i64.wrap A = A := IntWalk.i64_in _ (by omega)
            have gA2 : IntKind.i64.wrap (A + 1) = A + 1 := IntWalk.i64_in _ (by omega)
            have ga1 : IntKind.i64.wrap a1 = a1 := IntWalk.i64_in _ (by omega)
            clear hqp hsQ hp hQ hpw hA
            go_wp2_with fail
            refine hpl.mono ?_
            rintro e w2 ⟨rfl, hb2⟩
            have HB2 := Lib.hid (HBQ.out.then hb2)
            clear hpl hb2
            go_wp2_with fail
            go_quiet ((go_at_call 82; exact Calls.quiet_of_same (HPW.out _)))
            go_wp2_with fail
            have hwh : when < qp + p := by
              have := div_mul_gt when kk
              rw [HQ.out, HP.out, HQP.out] at this
              exact this
            go_loopw [12] (fun x wz => ∃ m2 a2 : Int, x = .int .i64 a2 ∧ m2 * p = a2 ∧ A + 1 ≤ m2 ∧ m2 ≤ Q ∧ Below w2.heap.size w2 wz) (fun x _ => (qp - intOf x).toNat)
            case atStart => exact ⟨A + 1, a1, rfl, HA1.out, Int.le_refl _, by omega, below_drewN _ _ _⟩
            case round =>
              obtain ⟨m2, a2, rfl, hma, hm1, hm2, hbel⟩ := hrel
              have ha2 : a2 ≤ qp := by rw [← hma, ← HQP.out]; exact Int.mul_le_mul_of_nonneg_right hm2 (by omega)
              have ha20 : 0 ≤ a2 := by rw [← hma]; exact Int.mul_nonneg (by omega) (by omega)
              have hmm : m2 ≤ a2 := by
                have := Int.mul_le_mul_of_nonneg_left (show (1 : Int) ≤ p by omega) (show 0 ≤ m2 by omega)
                omega
              have g1 : Int.tdiv a2 p = m2 := by rw [← hma]; exact Int.mul_tdiv_cancel _ hp0
              obtain ⟨r, hr⟩ : ∃ r, m2 % 64 = r := ⟨_, rfl⟩
              have hr0 : 0 ≤ r ∧ r < 64 := by omega
              have g2 : Int.tmod m2 64 = r := by rw [Int.tmod_eq_emod_of_nonneg (by omega)]; exact hr
              have g3 : IntKind.i64.wrap m2 = m2 := IntWalk.i64_in _ (by omega)
              have g4 : IntKind.i64.wrap r = r := IntWalk.i64_in _ (by omega)
              have hrow := row_n2 (HB2.out.then hbel) HR2.out
              obtain ⟨v0, v1, v2, -⟩ := row3 hrow
              have HBZ := Lib.hid (HB2.out.then hbel)
              have HBY := Lib.hid hbel
              have HMA := Lib.hid hma
              have hsQ := HSQ.out
              clear hrow hbel hma
              by_cases hat : a2 ≤ time
              · by_cases hmQ : m2 = Q
                · subst hmQ
                  have hrs : r = (s : Int) := by omega
                  subst hrs
                  have hqa : a2 = qp := HMA.out.symm.trans HQP.out
                  subst hqa
                  clear hsQ
                  have hat' : ¬ time < a2 := by omega
                  go_wp2_with (go_at_call 82; refine (HPW.out _).mono ?_; rintro e w' ⟨rfl, rfl⟩)
                  go_roundw
                  case rel =>
                    have hsm := whl_small (when - a2) kk hk7 (by rw [HP.out]; omega) (by omega)
                    have hwf := HWF.out
                    rw [HKK.out] at hwf
                    refine ⟨f - 1, a2, rfl, ha20, hat, by omega, ?_, HBZ.out⟩
                    rw [HRP.out, rpl_next HWF.out (by rw [HKK.out]; exact hk0), HKK.out, HQ.out, HP.out, HQP.out, if_neg (by omega)]
                  case measure =>
                    have hsm := whl_small (when - a2) kk hk7 (by rw [HP.out]; omega) (by omega)
                    have := HKK.out
                    simp only [intOf]
                    omega
                · have hrs : ¬ r = (s : Int) := by omega
                  have hn1 : a2 + p ≤ qp := by
                    have := Int.mul_le_mul_of_nonneg_right (show m2 + 1 ≤ Q by omega) (show 0 ≤ p by omega)
                    rw [Int.add_mul, Int.one_mul, HMA.out, HQP.out] at this
                    exact this
                  clear hsQ
                  go_wp2_with (go_at_call 82; refine (HPW.out _).mono ?_; rintro e w' ⟨rfl, rfl⟩)
                  go_roundw
                  case rel =>
                    exact ⟨m2 + 1, a2 + p, rfl, by rw [Int.add_mul, Int.one_mul, HMA.out], by omega, by omega, HBY.out⟩
                  case measure => simp [intOf]; omega
              · have hat' : time < a2 := by omega
                clear hsQ
                go_wp2_with (go_at_call 82; refine (HPW.out _).mono ?_; rintro e w' ⟨rfl, rfl⟩)
                go_ret3
                refine ⟨?_, (B1.out.then HBB.out).then HBZ.out⟩
                rw [HRS.out, HRP.out, rpl_next HWF.out (by rw [HKK.out]; exact hk0), HKK.out, HQ.out, HP.out, HQP.out, if_pos (by omega), HS.out]
                rfl
      · go_wp2_with fail
        go_roundw
        case rel =>
          refine ⟨k + 1, by omega, by go_num, fun u hu => ?_, HB.out.alloc HB.out.size _⟩
          rw [List.take_add_one, HE.out] at hu
          simp only [Option.toList_some, List.mem_append, List.mem_singleton] at hu
          rcases hu with hu | rfl
          · exact HNO.out u hu
          · exact hid
        case measure => simp [intOf]; omega
    · have hke : k = n := by omega
      subst hke
      have hlt' : ¬ (k : Int) < (k : Int) := by omega
      have hfind : rslotS L time id = (0, 0, 5) := by
        unfold rslotS
        have := HNO.out
        rw [List.take_of_length_le (by rw [HN.out]; exact Nat.le_refl _)] at this
        rw [List.find?_eq_none.2 fun u hu => by simpa using this u hu]
      have HFI := Lib.hid hfind
      clear hfind
      go_wp2_with fail
      go_ret3
      exact ⟨by rw [HFI.out]; rfl, B1.out.then HB.out⟩
end Go.Proofs.Ytddajaikighjlaa
