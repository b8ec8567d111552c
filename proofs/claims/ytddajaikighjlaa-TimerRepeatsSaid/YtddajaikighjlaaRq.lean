/- The law TimerRepeats: its walk. -/
import Derived.Test.YtddajaikighjlaaRp
import Derived.Test.YtddajaikighjlaaAw
import Derived.Test.YtddajaikighjlaaSl
import Derived.Test.YtddajaikighjlaaNx
namespace Go.Proofs.Ytddajaikighjlaa
open Go.RowKit Go.Sl Go.Mp Go.Wh

theorem slV_cell1' {w : World} {v : Value} {l : List Int} {q : IntKind} (h : SlV w v l.length 1 (l.map (Value.int q))) {k : Nat} {y : Int} (hy : l[k]? = some y) : ∃ g o c, v = .slice (some ⟨g, o, none⟩) l.length c ∧ w.cell? ⟨g, o + k, none⟩ = some (.int q y) := by
  have hk := (List.getElem?_eq_some_iff.1 hy).1
  rcases h.2 with ⟨h0, -⟩ | ⟨-, g, o, c, hv, hc⟩
  · omega
  · exact ⟨g, o, c, hv, hc k _ (by simp [hy])⟩
theorem next_one (now ord : Int) (k : Nat) (t : Tm) : nextS (oneS now ord k t) = (t.when, true) := by
  have : timersS (oneS now ord k t) = [t] := rfl
  unfold nextS
  rw [this]
theorem times_len (id a iv : Int) (m : Nat) : (times id a iv m).length = m := by simp [times]
theorem times_get (id a iv : Int) (m j : Nat) (h : j < m) : (times id a iv m)[j]? = some (id, a + (j : Int) * iv) := by
  simp [times, h]

set_option maxRecDepth 100000 in
set_option maxHeartbeats 8000000 in
theorem repeats_calls (a b : Int) (ha : 0 ≤ a ∧ a < 256) (hb : 0 ≤ b ∧ b < 256) (v : Value) (l : List Int) (w : World) (hv : SlV w v l.length 1 (l.map (Value.int .u8))) (hl : ∀ x ∈ l, 0 ≤ x ∧ x < 256) :
    Calls Try.prog 3 #[.int .u8 a, .int .u8 b, v] w fun e w' => e = .returned (.bool true) ∧ Below w.heap.size w w' := by
  obtain ⟨av, cv, rfl⟩ := SlV.form hv
  have HV := Lib.hid hv
  have HL := Lib.hid hl
  clear hv hl
  obtain ⟨n, hn⟩ : ∃ n, l.length = n := ⟨_, rfl⟩
  have HN := Lib.hid hn
  rw [hn]
  clear hn
  have hneq := neq33
  have n0 := new_calls 0 w (by decide +kernel)
  have hset := set_one (1 + a) (1 + b) (by omega) (by omega) (by omega) (by omega)
  have K1 := Lib.hid (set_ok (new_ok 0 (by decide)) 3 (1 + a) (1 + b))
  obtain ⟨W0, hW0⟩ : ∃ W0, newS 0 = W0 := ⟨_, rfl⟩
  have o1 : 0 ≤ W0.now ∧ 0 ≤ W0.ord ∧ W0.ord < 4611686018427387904 := by rw [← hW0]; exact ⟨by decide, by decide, by decide⟩
  rw [hW0] at n0 hset K1
  have HSET := Lib.hid hset
  rw [hset] at K1
  clear hset hW0
  by_cases hA : 12 < (n : Int)
  · go_enter Try.func3, Try.ntmps3
    go_wp2_with fail
    refine n0.mono ?_
    rintro e w1 ⟨R0, rfl, h0, f0, b0⟩
    clear n0 h0 f0
    go_wp2_with fail
    refine (awake_calls _).mono ?_
    rintro e w2 ⟨rfl, hb2⟩
    go_wp2_with fail
    go_ret
    exact ⟨rfl, b0.trans (hb2.mono b0.size)⟩
  have w1 : IntKind.i64.wrap a = a := IntWalk.i64_in _ (by omega)
  have w2 : IntKind.i64.wrap b = b := IntWalk.i64_in _ (by omega)
  have w3 : IntKind.i64.wrap (1 + a) = 1 + a := IntWalk.i64_in _ (by omega)
  have w4 : IntKind.i64.wrap (1 + b) = 1 + b := IntWalk.i64_in _ (by omega)
  go_enter Try.func3, Try.ntmps3
  go_wp2_with fail
  refine n0.mono ?_
  rintro e w1 ⟨R0, rfl, h0, f0, b0⟩
  clear n0
  generalize w.heap.size + 2 = X at *
  go_wp2_with fail
  have c1 := set_calls R0 X _ 3 (1 + a) (1 + b) _ h0 o1.1 o1.2
  rw [HSET.out] at c1
  refine c1.mono ?_
  rintro e w2 ⟨rfl, R1, h1, s1⟩
  clear c1 h0
  simp only at h1
  go_wp2_with fail
  obtain ⟨ev, hev⟩ : ∃ ev, 1 + b = ev := ⟨_, rfl⟩
  have hev2 : 1 ≤ ev ∧ ev ≤ 256 := by omega
  rw [hev] at h1 K1
  rw [hev]
  have S1 := Lib.hid s1
  have B0 := Lib.hid b0
  have F0 := Lib.hid f0
  have HW1 := Lib.hid h1
  clear h1 s1 b0 f0 HSET o1
  go_loopw [57, 9, 11] (fun i va vn wr => ∃ (kk : Nat) (nw A : Int) (k' : Nat) (R' : Refs), kk ≤ n ∧ i = .int .i64 (kk : Int) ∧ va = .int .i64 A ∧ vn = .int .i64 nw ∧ 0 ≤ nw ∧ nw ≤ 255 * (kk : Int) ∧ nw < A ∧ A ≤ nw + 256 ∧ Go.Wh.Loc nw k' A ∧ Ok (oneS nw 1 k' ⟨3, A, ev, 0⟩) ∧ WhAt R' wr X (oneS nw 1 k' ⟨3, A, ev, 0⟩) ∧ Step R0 R' X w1 wr) (fun i _ _ _ => n - (intOf i).toNat)
  case atStart => exact ⟨0, 0, 1 + a, _, R1, Nat.zero_le _, rfl, rfl, rfl, Int.le_refl _, by simp, by omega, by omega, by have := loc_whl 0 (1 + a) (by omega) (by omega); rw [Int.zero_add] at this; exact this, K1.out, HW1.out, S1.out⟩
  case round =>
    obtain ⟨kk, nw, A, k', R', hk, rfl, rfl, rfl, hnw, hnk, hA1, hA2, hloc, hok, hwh, hst⟩ := hrel
    have LOC := Lib.hid hloc
    have OK := Lib.hid hok
    have WH := Lib.hid hwh
    have ST := Lib.hid hst
    clear hloc hok hwh hst
    have BW := Lib.hid (B0.out.trans (ST.out.below B0.out.size F0.out))
    by_cases hlt : kk < n
    · obtain ⟨x, hx⟩ : ∃ x, l[kk]? = some x := ⟨_, List.getElem?_eq_getElem (by have := HN.out; omega)⟩
      obtain ⟨g, o, c, hf, hcc⟩ := slV_cell1' HV.out hx
      have hxb := HL.out x (List.mem_of_getElem? hx)
      simp only [Value.slice.injEq] at hf
      obtain ⟨rfl, -, rfl⟩ := hf
      replace hcc := BW.out.at_cell hcc
      have hlt' : (kk : Int) < (n : Int) := by omega
      have g1 : IntKind.i64.wrap x = x := IntWalk.i64_in _ (by omega)
      obtain ⟨u, hu⟩ : ∃ u, nw + x = u := ⟨_, rfl⟩
      have g2 : IntKind.i64.wrap (nw + x) = u := by rw [hu]; exact IntWalk.i64_in _ (by omega)
      have hub : nw ≤ u ∧ u ≤ nw + 255 ∧ u < 3400 := by omega
      have hu3 : u ≤ 255 * ((kk + 1 : Nat) : Int) := by push_cast; omega
      obtain ⟨m, k2, e1, e2, e3, e4⟩ := adv_one nw 1 k' ⟨3, A, ev, 0⟩ u hnw hA2 hub.1 hub.2.2 hev2.1 hev2.2 LOC.out hA1
      simp only at e1 e2 e3 e4
      have hadv := advance_calls R' X _ u wr WH.out OK.out.inv OK.out.len
      have OK2 := adv_ok OK.out u
      rw [e1] at hadv OK2
      simp only at hadv OK2
      rw [times_len] at hadv
      obtain ⟨A2, hA3⟩ : ∃ A2, A + (m : Int) * ev = A2 := ⟨_, rfl⟩
      rw [hA3] at hadv OK2 e2 e3 e4
      have HX := Lib.hid hx
      have LOC2 := Lib.hid e4
      have HOK2 := Lib.hid OK2
      have HA3 := Lib.hid hA3
      clear hx e1 e4 OK2 hA3
      go_wp2_with fail
      refine hadv.mono ?_
      rintro e w3 ⟨lv, R3, rfl, h3, s3, hr⟩
      clear hadv
      have HR := Lib.hid (RowF.own (by rw [times_len]; exact hr))
      obtain ⟨la, lc, rfl⟩ := form_of_own hr
      have WH3 := Lib.hid h3
      have ST3 := Lib.hid (ST.out.trans s3)
      clear h3 s3 hr
      go_wp2_with fail
      have hm3 : (m : Int) ≤ 4000 := by
        have h1 := HA3.out
        have : (m : Int) * 1 ≤ (m : Int) * ev := Int.mul_le_mul_of_nonneg_left hev2.1 (by omega)
        omega
      go_loopw [75, 9] (fun i va wr2 => ∃ (j : Nat) (A1 : Int), j ≤ m ∧ i = .int .i64 (j : Int) ∧ va = .int .i64 A1 ∧ Hid (A1 = A + (j : Int) * ev) ∧ Below w3.heap.size w3 wr2) (fun i _ _ => m - (intOf i).toNat)
      case atStart => exact ⟨0, A, Nat.zero_le _, rfl, rfl, Lib.hid (by simp), Below.refl _ _⟩
      case round =>
        obtain ⟨j, A1, hj, rfl, rfl, hA4, hbel⟩ := hrel
        have HB2 := Lib.hid hbel
        clear hbel
        have hA5 : A1 ≤ A2 := by
          have h1 := HA3.out
          have h2 := hA4.out
          have : (j : Int) * ev ≤ (m : Int) * ev := Int.mul_le_mul_of_nonneg_right (by omega) (by omega)
          omega
        have hA6 : A ≤ A1 := by
          have h2 := hA4.out
          have : 0 ≤ (j : Int) * ev := Int.mul_nonneg (by omega) (by omega)
          omega
        by_cases hlt2 : j < m
        · obtain ⟨a', cap', hv', hc'⟩ := HR.out
          simp only [Value.slice.injEq] at hv'
          obtain ⟨rfl, -, rfl⟩ := hv'
          obtain ⟨g3, o3, rfl, y1, y2⟩ := hc' j _ (times_get 3 A ev m j hlt2)
          simp only at y1 y2
          rw [← hA4.out] at y2
          replace y1 := HB2.out.at_cell y1
          replace y2 := HB2.out.at_cell y2
          have hlt2' : (j : Int) < (m : Int) := by omega
          have g5 : IntKind.i64.wrap (A1 + ev) = A1 + ev := IntWalk.i64_in _ (by omega)
          have q1 := World.block_lt_of_cell? wr _ y1
          have q2 : ¬ g3 = wr.heap.size := Nat.ne_of_lt q1
          have hA7 := Lib.hid (show A1 + ev = A + ((j + 1 : Nat) : Int) * ev by
            have h2 := hA4.out
            push_cast
            rw [Int.add_mul]
            omega)
          clear hc'
          go_wp2_with fail
          go_roundw
          case rel => exact ⟨j + 1, A1 + ev, by omega, by go_num, rfl, hA7, HB2.out.alloc HB2.out.size _⟩
          case measure => simp [intOf]; omega
        · have hje : j = m := by omega
          subst hje
          have hAA : A1 = A2 := hA4.out.trans HA3.out
          subst hAA
          have hlt2' : ¬ (j : Int) < (j : Int) := by omega
          have h9 : ¬ A1 ≤ u := by omega
          have ST4 := Lib.hid (ST3.out.trans (Step.of_below HB2.out))
          have WH4 := Lib.hid (WH3.out.below HB2.out)
          go_wp2_with fail
          go_roundw
          case rel => exact ⟨kk + 1, u, A1, k2, R3, by omega, by go_num, rfl, rfl, by omega, hu3, by omega, by omega, LOC2.out, HOK2.out, WH4.out, ST4.out⟩
          case measure => simp [intOf]; omega
    · have hke : kk = n := by omega
      subst hke
      have hlt' : ¬ (kk : Int) < (kk : Int) := by omega
      have hnext := next_calls R' X _ wr WH.out OK.out.inv OK.out.len
      rw [next_one] at hnext
      go_wp2_with fail
      refine hnext.mono ?_
      rintro e w3 ⟨rfl, hb3⟩
      clear hnext
      go_wp2_with fail
      refine (awake_calls _).mono ?_
      rintro e w4 ⟨rfl, hb4⟩
      go_wp2_with fail
      go_ret
      exact ⟨rfl, (BW.out.then hb3).then hb4⟩
end Go.Proofs.Ytddajaikighjlaa
