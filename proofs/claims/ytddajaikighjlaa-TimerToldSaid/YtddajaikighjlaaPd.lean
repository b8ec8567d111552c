/- The law TimerTold: its walk. -/
import Derived.Test.YtddajaikighjlaaPc
import Derived.Test.YtddajaikighjlaaAw
namespace Go.Proofs.Ytddajaikighjlaa
open Go.RowKit Go.Sl Go.Mp

set_option maxRecDepth 100000 in
theorem neq67 (w : World) (a b c d e f : Int) : (binOp .neq 67 (.agg #[.int .i64 a, .int .i64 b, .int .i64 c]) (.agg #[.int .i64 d, .int .i64 e, .int .i64 f])).run Try.prog w = .ok (.bool (!(a == d && (b == e && c == f)))) w := by
  rw [run_neq_struct, run_equalIn_agg w 9999 67 _ _ (by simp only [Program.fieldsOf, Try.underlying67]) Try.stoodInHeld67]
  by_cases h1 : a = d <;> by_cases h2 : b = e <;> by_cases h3 : c = f <;> simp [h1, h2, h3, Op.eqFields, Program.fieldsOf, Try.underlying67, part, run_equalIn_int w 9998 3 .i64 .i64 _ _ Try.underlying3]
theorem await_open (l : List Int) (h : l.length < 1000) (who : Int) : awaitS ⟨0, 0, l⟩ who = (⟨0, 0, l ++ [who]⟩, [], 0) := by
  simp [awaitS, okP]
  omega
theorem decide_open (l : List Int) (f : Bool) (x : Int) : decideS ⟨0, 0, l⟩ f x = (⟨if f then 1 else 2, x, []⟩, tellS (if f then 1 else 2) x l, 0) := by
  simp [decideS, okP, tellS]
theorem ok_done (ph x : Int) (h : ph = 1 ∨ ph = 2) : okP ⟨ph, x, []⟩ = 0 := by
  rcases h with rfl | rfl <;> simp [okP]
theorem decide_done (ph x : Int) (h : ph = 1 ∨ ph = 2) (f : Bool) (y : Int) : decideS ⟨ph, x, []⟩ f y = (⟨ph, x, []⟩, [], 0) := by
  unfold decideS
  rw [ok_done ph x h, if_neg (by simp), if_pos (by rcases h with rfl | rfl <;> simp)]
theorem await_done (ph x : Int) (h : ph = 1 ∨ ph = 2) (who : Int) : awaitS ⟨ph, x, []⟩ who = (⟨ph, x, []⟩, [(who, ph, x)], 0) := by
  unfold awaitS
  rw [ok_done ph x h, if_neg (by simp), if_pos (by rcases h with rfl | rfl <;> simp)]
theorem slI_any {w w' : World} {v : Value} (h : SlI w v []) : SlI w' v [] := by
  rcases h.2 with ⟨h0, hv⟩ | ⟨h0, -⟩
  · exact ⟨rfl, Or.inl ⟨rfl, hv⟩⟩
  · simp at h0
theorem slV_cell1 {w : World} {v : Value} {l : List Int} {q : IntKind} (h : SlV w v l.length 1 (l.map (Value.int q))) {k : Nat} {y : Int} (hy : l[k]? = some y) : ∃ g o c, v = .slice (some ⟨g, o, none⟩) l.length c ∧ w.cell? ⟨g, o + k, none⟩ = some (.int q y) := by
  have hk := (List.getElem?_eq_some_iff.1 hy).1
  rcases h.2 with ⟨h0, -⟩ | ⟨-, g, o, c, hv, hc⟩
  · omega
  · exact ⟨g, o, c, hv, hc k _ (by simp [hy])⟩
theorem tell_cells {w : World} {v : Value} {ph x : Int} {l : List Int} (h : SlV w v l.length 3 ((tellS ph x l).flatMap encP)) {k : Nat} {y : Int} (hy : l[k]? = some y) : ∃ g o c, v = .slice (some ⟨g, o, none⟩) l.length c ∧ w.cell? ⟨g, o + k * 3, none⟩ = some (.int .i64 y) ∧ w.cell? ⟨g, o + k * 3 + 1, none⟩ = some (.int .i64 ph) ∧ w.cell? ⟨g, o + k * 3 + 2, none⟩ = some (.int .i64 x) := by
  have hk := (List.getElem?_eq_some_iff.1 hy).1
  have e : ∀ j, ((tellS ph x l).flatMap encP)[j]? = ((tellS ph x l)[j / 3]?).bind fun t => (encP t)[j % 3]? := fun j => flat_get encP 3 encP_len (by omega) _ _
  have ht : (tellS ph x l)[k]? = some (y, ph, x) := by simp [tellS, hy]
  rcases h.2 with ⟨h0, -⟩ | ⟨-, g, o, c, hv, hc⟩
  · omega
  · refine ⟨g, o, c, hv, hc (k * 3) _ ?_, ?_, ?_⟩
    · rw [e, show k * 3 / 3 = k by omega, show k * 3 % 3 = 0 by omega, ht]
      rfl
    · rw [Nat.add_assoc]
      refine hc (k * 3 + 1) _ ?_
      rw [e, show (k * 3 + 1) / 3 = k by omega, show (k * 3 + 1) % 3 = 1 by omega, ht]
      rfl
    · rw [Nat.add_assoc]
      refine hc (k * 3 + 2) _ ?_
      rw [e, show (k * 3 + 2) / 3 = k by omega, show (k * 3 + 2) % 3 = 2 by omega, ht]
      rfl

set_option maxRecDepth 100000 in
set_option maxHeartbeats 8000000 in
theorem toldT (v0 v1 : Value) (l0 l1 : List Int) (x y : Int) (w : World) (h0 : SlV w v0 l0.length 1 (l0.map (Value.int .i16))) (h1 : SlV w v1 l1.length 1 (l1.map (Value.int .i16))) (b0 : ∀ z ∈ l0, IntKind.i64.wrap z = z) (b1 : ∀ z ∈ l1, IntKind.i64.wrap z = z) :
    Calls Try.prog 5 #[v0, v1, .bool true, .int .i64 x, .int .i64 y] w fun e w' => e = .returned (.bool true) ∧ Below w.heap.size w w' := by
  obtain ⟨a0, c0, rfl⟩ := SlV.form h0
  obtain ⟨a1, c1, rfl⟩ := SlV.form h1
  have H0 := Lib.hid h0
  have H1 := Lib.hid h1
  have BB0 := Lib.hid b0
  have BB1 := Lib.hid b1
  clear h0 h1 b0 b1
  obtain ⟨n0, hn0⟩ : ∃ n, l0.length = n := ⟨_, rfl⟩
  obtain ⟨n1, hn1⟩ : ∃ n, l1.length = n := ⟨_, rfl⟩
  have HN0 := Lib.hid hn0
  have HN1 := Lib.hid hn1
  rw [hn0, hn1]
  clear hn0 hn1
  have hneq := neq67
  by_cases hA : 20 < (n0 : Int)
  · go_enter Try.func5, Try.ntmps5
    go_wp2_with fail
    refine (awake_calls _).mono ?_
    rintro e w' ⟨rfl, hb⟩
    go_wp2_with fail
    go_ret
    exact ⟨rfl, hb⟩
  by_cases hB : 20 < (n1 : Int)
  · go_enter Try.func5, Try.ntmps5
    go_wp2_with fail
    refine (awake_calls _).mono ?_
    rintro e w' ⟨rfl, hb⟩
    go_wp2_with fail
    go_ret
    exact ⟨rfl, hb⟩
  obtain ⟨wA, hwA⟩ : ∃ wA, w.alloc (.cells #[.int .i64 0, .int .i64 0, .slice none 0 0] 60) = wA := ⟨_, rfl⟩
  have hzA : wA.heap[w.heap.size]? = some (.cells #[.int .i64 0, .int .i64 0, .slice none 0 0] 60 (0, 0)) := by rw [← hwA]; exact heap_alloc_new _ _
  have hbA : Below w.heap.size w wA := by rw [← hwA]; exact (Below.refl _ _).alloc (Nat.le_refl _) _
  have HZA := Lib.hid hzA
  have HBA := Lib.hid hbA
  clear hzA hbA
  go_enter Try.func5, Try.ntmps5
  go_wp2_with fail
  go_loopw [38] (fun i wr => ∃ kk : Nat, kk ≤ n0 ∧ i = .int .i64 (kk : Int) ∧ ∃ v, wr.heap[w.heap.size]? = some (.cells #[.int .i64 0, .int .i64 0, v] 60 (0, 0)) ∧ wr.ownsRow (w.heap.size + 1) 3 1 v kk ((l0.take kk).map (Value.int .i64)) ∧ Below w.heap.size w wr) (fun i _ => n0 - (intOf i).toNat)
  case atStart => exact ⟨0, Nat.zero_le _, rfl, _, HZA.out, own_none _ _ _ _, HBA.out⟩
  case round =>
    obtain ⟨kk, hk, rfl, v, hP, hown, hbel⟩ := hrel
    obtain ⟨av, cv, rfl⟩ := own_form hown
    have HP := Lib.hid hP
    have HOW := Lib.hid hown
    have HBE := Lib.hid hbel
    obtain ⟨z0, z1, z2, zf⟩ := row3 hP
    clear hP hown hbel hwA
    by_cases hlt : kk < n0
    · obtain ⟨y0, hy⟩ : ∃ y, l0[kk]? = some y := ⟨_, List.getElem?_eq_getElem (by have := HN0.out; omega)⟩
      obtain ⟨g, o, c, hf, hcc⟩ := slV_cell1 H0.out hy
      have hbv := BB0.out y0 (List.mem_of_getElem? hy)
      simp only [Value.slice.injEq] at hf
      obtain ⟨rfl, -, rfl⟩ := hf
      replace hcc := HBE.out.at_cell hcc
      have hlt' : (kk : Int) < (n0 : Int) := by omega
      have hlen : (l0.take kk).length = kk := by rw [List.length_take, HN0.out]; omega
      have hcall := await_calls ⟨0, 0, l0.take kk⟩ (.slice av kk cv) y0 wr (SlI.of_owns HOW.out)
      rw [await_open _ (by omega)] at hcall
      have hPlt := (Array.getElem?_eq_some_iff.1 HP.out).1
      have HY := Lib.hid (show (l0.take kk ++ [y0]).map (Value.int .i64) = (l0.take (kk + 1)).map (Value.int .i64) by rw [List.take_add_one, hy]; rfl)
      have HLE := Lib.hid hlen
      clear hy hlen
      unfold prV at hcall
      simp only at hcall
      go_wp2_with fail
      refine hcall.mono ?_
      rintro e w3 ⟨v', s, rfl, ho, hs, hb3⟩
      clear hcall
      obtain ⟨sa, sc, rfl⟩ := own_form hs
      rw [HY.out, List.length_append, HLE.out] at ho
      obtain ⟨av', cv', rfl⟩ := own_form ho
      have HO := Lib.hid ho
      have hQ := (hb3.block _ hPlt).trans HP.out
      obtain ⟨y0', y1', y2', yf⟩ := row3 hQ
      have HQ := Lib.hid hQ
      have HB3 := Lib.hid (HBE.out.then hb3)
      have q1 : w.heap.size < w3.heap.size := Nat.lt_of_lt_of_le hPlt hb3.size
      have q2 : ¬ w.heap.size = w3.heap.size := Nat.ne_of_lt q1
      have q3 : ¬ w3.heap.size = w.heap.size := Nat.ne_of_gt q1
      have HW := Lib.hid hPlt
      clear ho hs hb3 hQ z0 z1 z2 zf hPlt
      go_wp2_with fail
      go_roundw
      case rel =>
        have hf3 := fill3 HQ.out (.int .i64 0) (.int .i64 0) (.slice av' (kk + 1) cv')
        have hb3 := below_fill3 HB3.out (Nat.le_refl w.heap.size) (.int .i64 0) (.int .i64 0) (.slice av' (kk + 1) cv')
        have ho3 := own_same HO.out fun g hg => hf3.2.2 g (by have := (HO.out.lt g hg).1; have := HW.out; omega)
        refine ⟨kk + 1, by omega, by go_num, _, (heap_alloc_old _ _ (by rw [hf3.2.1]; exact q1)).trans hf3.1, ?_, hb3.alloc hb3.size _⟩
        exact own_le (own_same ho3 fun g hg => heap_alloc_old _ _ (ho3.lt g hg).2) HW.out
      case measure => simp [intOf]; omega
    · have hke : kk = n0 := by omega
      subst hke
      have hlt' : ¬ (kk : Int) < (kk : Int) := by omega
      have hcall := decide_calls ⟨0, 0, l0.take kk⟩ (.slice av kk cv) true x wr (SlI.of_owns HOW.out) (by simp only [List.length_take]; omega)
      rw [decide_open, List.take_of_length_le (by rw [HN0.out]; exact Nat.le_refl _)] at hcall
      have hPlt := (Array.getElem?_eq_some_iff.1 HP.out).1
      unfold prV at hcall
      simp only [List.length_nil, List.map_nil, show (tellS 1 x l0).length = kk by simp [tellS, HN0.out], if_true] at hcall
      go_wp2_with fail
      refine hcall.mono ?_
      rintro e w4 ⟨v2, s2, rfl, ho, hs, hb4⟩
      clear hcall
      obtain ⟨sa, sc, rfl⟩ := own_form hs
      obtain ⟨av2, cv2, rfl⟩ := own_form ho
      have HS2 := Lib.hid (SlI.of_owns (xs := []) ho)
      have hQ := (hb4.block _ hPlt).trans HP.out
      obtain ⟨y0', y1', y2', yf⟩ := row3 hQ
      obtain ⟨wE, hwE⟩ : ∃ wE, ((w4.setCell ⟨w.heap.size, 0, none⟩ (.int .i64 1)).setCell ⟨w.heap.size, 1, none⟩ (.int .i64 x)).setCell ⟨w.heap.size, 2, none⟩ (.slice av2 0 cv2) = wE := ⟨_, rfl⟩
      have hf3 := fill3 hQ (.int .i64 1) (.int .i64 x) (.slice av2 0 cv2)
      rw [hwE] at hf3
      have hsE := own_same hs fun g hg => hf3.2.2 g (by have := (hs.lt g hg).1; omega)
      have hBE := below_fill3 (HBE.out.then hb4) (Nat.le_refl w.heap.size) (.int .i64 1) (.int .i64 x) (.slice av2 0 cv2)
      rw [hwE] at hBE
      have HSE := Lib.hid (SlV.of_owns hsE)
      have HBW := Lib.hid hBE
      have HPE := Lib.hid hf3.1
      obtain ⟨p0, p1, p2, -⟩ := row3 hf3.1
      clear hs ho hb4 hQ hf3 hsE hBE z0 z1 z2 zf
      go_wp2_with fail
      have HK := Lib.hid hk
      clear hk hlt hlt' hwE
      go_loopw [91] (fun i wr2 => ∃ k2 : Nat, k2 ≤ kk ∧ i = .int .i64 (k2 : Int) ∧ Below wE.heap.size wE wr2) (fun i _ => kk - (intOf i).toNat)
      case atStart => exact ⟨0, Nat.zero_le _, rfl, Below.refl _ _⟩
      case round =>
        obtain ⟨k2, hk2, rfl, hbel2⟩ := hrel
        have HB2 := Lib.hid hbel2
        clear hbel2
        by_cases hlt2 : k2 < kk
        · obtain ⟨y0, hy⟩ : ∃ y, l0[k2]? = some y := ⟨_, List.getElem?_eq_getElem (by have := HN0.out; omega)⟩
          obtain ⟨g, o, c, hf, hcc⟩ := slV_cell1 H0.out hy
          have hbv := BB0.out y0 (List.mem_of_getElem? hy)
          simp only [Value.slice.injEq] at hf
          obtain ⟨rfl, -, rfl⟩ := hf
          replace hcc := (HBW.out.then HB2.out).at_cell hcc
          obtain ⟨g2, o2, c2, hf2, t0, t1, t2⟩ := tell_cells (by rw [HN0.out]; exact HSE.out) hy
          simp only [Value.slice.injEq] at hf2
          obtain ⟨rfl, -, rfl⟩ := hf2
          replace t0 := HB2.out.at_cell t0
          replace t1 := HB2.out.at_cell t1
          replace t2 := HB2.out.at_cell t2
          have hlt2' : (k2 : Int) < (kk : Int) := by omega
          have gl := World.block_lt_of_cell? wr _ hcc
          have gn : ¬ g = wr.heap.size := Nat.ne_of_lt gl
          have HY := Lib.hid hy
          clear hy
          go_upto_region 21 with (fail)
          go_quiet (fail)
          go_wp2_with fail
          go_roundw
          case rel => exact ⟨k2 + 1, by omega, by go_num, HB2.out.trans ((((Below.refl _ _).alloc (Nat.le_refl _) _).trans (below_drewN _ _ _)).mono HB2.out.size)⟩
          case measure => simp [intOf]; omega
        · have hke2 : k2 = kk := by omega
          subst hke2
          have hlt2' : ¬ (k2 : Int) < (k2 : Int) := by omega
          have hP2 := (HB2.out.block _ (Array.getElem?_eq_some_iff.1 HPE.out).1).trans HPE.out
          obtain ⟨p0, p1, p2, -⟩ := row3 hP2
          have hPlt2 := (Array.getElem?_eq_some_iff.1 hP2).1
          have hcall := decide_calls ⟨1, x, []⟩ (.slice av2 0 cv2) false y wr (slI_any HS2.out) (by simp)
          rw [decide_done _ _ (by decide)] at hcall
          unfold prV at hcall
          simp only [List.length_nil, List.map_nil] at hcall
          have HP2 := Lib.hid hP2
          clear hP2
          go_wp2_with fail
          refine hcall.mono ?_
          rintro e w5 ⟨v3, s3, rfl, ho3, hs3, hb5⟩
          clear hcall
          obtain ⟨sa3, sc3, rfl⟩ := own_form hs3
          obtain ⟨av3, cv3, rfl⟩ := own_form ho3
          have hQ := (hb5.block _ hPlt2).trans HP2.out
          obtain ⟨y0', y1', y2', yf⟩ := row3 hQ
          obtain ⟨wF, hwF⟩ : ∃ wF, ((w5.setCell ⟨w.heap.size, 0, none⟩ (.int .i64 1)).setCell ⟨w.heap.size, 1, none⟩ (.int .i64 x)).setCell ⟨w.heap.size, 2, none⟩ (.slice av3 0 cv3) = wF := ⟨_, rfl⟩
          have hf3 := fill3 hQ (.int .i64 1) (.int .i64 x) (.slice av3 0 cv3)
          rw [hwF] at hf3
          have hBF := below_fill3 ((HBW.out.then HB2.out).then hb5) (Nat.le_refl w.heap.size) (.int .i64 1) (.int .i64 x) (.slice av3 0 cv3)
          rw [hwF] at hBF
          have HBF := Lib.hid hBF
          have HPF := Lib.hid hf3.1
          have HS3 := Lib.hid (SlI.of_owns (xs := []) ho3)
          obtain ⟨p0, p1, p2, -⟩ := row3 hf3.1
          clear hs3 ho3 hb5 hQ hf3 hBF
          go_wp2_with fail
          clear hwF
          go_loopw [137] (fun i wr3 => ∃ k3 : Nat, k3 ≤ n1 ∧ i = .int .i64 (k3 : Int) ∧ Below wF.heap.size wF wr3) (fun i _ => n1 - (intOf i).toNat)
          case atStart => exact ⟨0, Nat.zero_le _, rfl, Below.refl _ _⟩
          case round =>
            obtain ⟨k3, hk3, rfl, hbel3⟩ := hrel
            have HB3 := Lib.hid hbel3
            have hP3 := (hbel3.block _ (Array.getElem?_eq_some_iff.1 HPF.out).1).trans HPF.out
            obtain ⟨p0, p1, p2, -⟩ := row3 hP3
            clear hbel3
            by_cases hlt3 : k3 < n1
            · obtain ⟨y1, hy⟩ : ∃ y, l1[k3]? = some y := ⟨_, List.getElem?_eq_getElem (by have := HN1.out; omega)⟩
              obtain ⟨g, o, c, hf, hcc⟩ := slV_cell1 H1.out hy
              have hbv := BB1.out y1 (List.mem_of_getElem? hy)
              simp only [Value.slice.injEq] at hf
              obtain ⟨rfl, -, rfl⟩ := hf
              replace hcc := (HBF.out.then HB3.out).at_cell hcc
              have hcall := await_calls ⟨1, x, []⟩ (.slice av3 0 cv3) y1 wr (slI_any HS3.out)
              rw [await_done _ _ (by decide)] at hcall
              unfold prV at hcall
              simp only [List.length_nil, List.map_nil] at hcall
              have hlt3' : (k3 : Int) < (n1 : Int) := by omega
              have HY := Lib.hid hy
              clear hy
              go_wp2_with fail
              refine hcall.mono ?_
              rintro e w6 ⟨v4, s4, rfl, ho4, hs4, hb6⟩
              clear hcall
              obtain ⟨g4, cap4, rfl, -, hc4⟩ := own_form2 hs4 (by simp)
              have q0 := hc4 0 _ rfl
              have q1 := hc4 1 _ rfl
              have q2 := hc4 2 _ rfl
              obtain ⟨av4, cv4, rfl⟩ := own_form ho4
              have HB6 := Lib.hid (HB3.out.trans (hb6.mono HB3.out.size))
              have gl4 := World.block_lt_of_cell? w6 _ q0
              have gn4 : ¬ g4 = w6.heap.size := Nat.ne_of_lt gl4
              clear hc4 hs4 ho4 hb6
              go_wp2_with fail
              go_roundw
              case rel => exact ⟨k3 + 1, by omega, by go_num, HB6.out.alloc HB6.out.size _⟩
              case measure => simp [intOf]; omega
            · have hke3 : k3 = n1 := by omega
              subst hke3
              have hlt3' : ¬ (k3 : Int) < (k3 : Int) := by omega
              go_wp2_with fail
              refine (awake_calls _).mono ?_
              rintro e w7 ⟨rfl, hb7⟩
              go_wp2_with fail
              go_ret
              exact ⟨rfl, (HBF.out.then HB3.out).then hb7⟩

set_option maxRecDepth 100000 in
set_option maxHeartbeats 8000000 in
theorem toldF (v0 v1 : Value) (l0 l1 : List Int) (x y : Int) (w : World) (h0 : SlV w v0 l0.length 1 (l0.map (Value.int .i16))) (h1 : SlV w v1 l1.length 1 (l1.map (Value.int .i16))) (b0 : ∀ z ∈ l0, IntKind.i64.wrap z = z) (b1 : ∀ z ∈ l1, IntKind.i64.wrap z = z) :
    Calls Try.prog 5 #[v0, v1, .bool false, .int .i64 x, .int .i64 y] w fun e w' => e = .returned (.bool true) ∧ Below w.heap.size w w' := by
  obtain ⟨a0, c0, rfl⟩ := SlV.form h0
  obtain ⟨a1, c1, rfl⟩ := SlV.form h1
  have H0 := Lib.hid h0
  have H1 := Lib.hid h1
  have BB0 := Lib.hid b0
  have BB1 := Lib.hid b1
  clear h0 h1 b0 b1
  obtain ⟨n0, hn0⟩ : ∃ n, l0.length = n := ⟨_, rfl⟩
  obtain ⟨n1, hn1⟩ : ∃ n, l1.length = n := ⟨_, rfl⟩
  have HN0 := Lib.hid hn0
  have HN1 := Lib.hid hn1
  rw [hn0, hn1]
  clear hn0 hn1
  have hneq := neq67
  by_cases hA : 20 < (n0 : Int)
  · go_enter Try.func5, Try.ntmps5
    go_wp2_with fail
    refine (awake_calls _).mono ?_
    rintro e w' ⟨rfl, hb⟩
    go_wp2_with fail
    go_ret
    exact ⟨rfl, hb⟩
  by_cases hB : 20 < (n1 : Int)
  · go_enter Try.func5, Try.ntmps5
    go_wp2_with fail
    refine (awake_calls _).mono ?_
    rintro e w' ⟨rfl, hb⟩
    go_wp2_with fail
    go_ret
    exact ⟨rfl, hb⟩
  obtain ⟨wA, hwA⟩ : ∃ wA, w.alloc (.cells #[.int .i64 0, .int .i64 0, .slice none 0 0] 60) = wA := ⟨_, rfl⟩
  have hzA : wA.heap[w.heap.size]? = some (.cells #[.int .i64 0, .int .i64 0, .slice none 0 0] 60 (0, 0)) := by rw [← hwA]; exact heap_alloc_new _ _
  have hbA : Below w.heap.size w wA := by rw [← hwA]; exact (Below.refl _ _).alloc (Nat.le_refl _) _
  have HZA := Lib.hid hzA
  have HBA := Lib.hid hbA
  clear hzA hbA
  go_enter Try.func5, Try.ntmps5
  go_wp2_with fail
  go_loopw [38] (fun i wr => ∃ kk : Nat, kk ≤ n0 ∧ i = .int .i64 (kk : Int) ∧ ∃ v, wr.heap[w.heap.size]? = some (.cells #[.int .i64 0, .int .i64 0, v] 60 (0, 0)) ∧ wr.ownsRow (w.heap.size + 1) 3 1 v kk ((l0.take kk).map (Value.int .i64)) ∧ Below w.heap.size w wr) (fun i _ => n0 - (intOf i).toNat)
  case atStart => exact ⟨0, Nat.zero_le _, rfl, _, HZA.out, own_none _ _ _ _, HBA.out⟩
  case round =>
    obtain ⟨kk, hk, rfl, v, hP, hown, hbel⟩ := hrel
    obtain ⟨av, cv, rfl⟩ := own_form hown
    have HP := Lib.hid hP
    have HOW := Lib.hid hown
    have HBE := Lib.hid hbel
    obtain ⟨z0, z1, z2, zf⟩ := row3 hP
    clear hP hown hbel hwA
    by_cases hlt : kk < n0
    · obtain ⟨y0, hy⟩ : ∃ y, l0[kk]? = some y := ⟨_, List.getElem?_eq_getElem (by have := HN0.out; omega)⟩
      obtain ⟨g, o, c, hf, hcc⟩ := slV_cell1 H0.out hy
      have hbv := BB0.out y0 (List.mem_of_getElem? hy)
      simp only [Value.slice.injEq] at hf
      obtain ⟨rfl, -, rfl⟩ := hf
      replace hcc := HBE.out.at_cell hcc
      have hlt' : (kk : Int) < (n0 : Int) := by omega
      have hlen : (l0.take kk).length = kk := by rw [List.length_take, HN0.out]; omega
      have hcall := await_calls ⟨0, 0, l0.take kk⟩ (.slice av kk cv) y0 wr (SlI.of_owns HOW.out)
      rw [await_open _ (by omega)] at hcall
      have hPlt := (Array.getElem?_eq_some_iff.1 HP.out).1
      have HY := Lib.hid (show (l0.take kk ++ [y0]).map (Value.int .i64) = (l0.take (kk + 1)).map (Value.int .i64) by rw [List.take_add_one, hy]; rfl)
      have HLE := Lib.hid hlen
      clear hy hlen
      unfold prV at hcall
      simp only at hcall
      go_wp2_with fail
      refine hcall.mono ?_
      rintro e w3 ⟨v', s, rfl, ho, hs, hb3⟩
      clear hcall
      obtain ⟨sa, sc, rfl⟩ := own_form hs
      rw [HY.out, List.length_append, HLE.out] at ho
      obtain ⟨av', cv', rfl⟩ := own_form ho
      have HO := Lib.hid ho
      have hQ := (hb3.block _ hPlt).trans HP.out
      obtain ⟨y0', y1', y2', yf⟩ := row3 hQ
      have HQ := Lib.hid hQ
      have HB3 := Lib.hid (HBE.out.then hb3)
      have q1 : w.heap.size < w3.heap.size := Nat.lt_of_lt_of_le hPlt hb3.size
      have q2 : ¬ w.heap.size = w3.heap.size := Nat.ne_of_lt q1
      have q3 : ¬ w3.heap.size = w.heap.size := Nat.ne_of_gt q1
      have HW := Lib.hid hPlt
      clear ho hs hb3 hQ z0 z1 z2 zf hPlt
      go_wp2_with fail
      go_roundw
      case rel =>
        have hf3 := fill3 HQ.out (.int .i64 0) (.int .i64 0) (.slice av' (kk + 1) cv')
        have hb3 := below_fill3 HB3.out (Nat.le_refl w.heap.size) (.int .i64 0) (.int .i64 0) (.slice av' (kk + 1) cv')
        have ho3 := own_same HO.out fun g hg => hf3.2.2 g (by have := (HO.out.lt g hg).1; have := HW.out; omega)
        refine ⟨kk + 1, by omega, by go_num, _, (heap_alloc_old _ _ (by rw [hf3.2.1]; exact q1)).trans hf3.1, ?_, hb3.alloc hb3.size _⟩
        exact own_le (own_same ho3 fun g hg => heap_alloc_old _ _ (ho3.lt g hg).2) HW.out
      case measure => simp [intOf]; omega
    · have hke : kk = n0 := by omega
      subst hke
      have hlt' : ¬ (kk : Int) < (kk : Int) := by omega
      have hcall := decide_calls ⟨0, 0, l0.take kk⟩ (.slice av kk cv) false x wr (SlI.of_owns HOW.out) (by simp only [List.length_take]; omega)
      rw [decide_open, List.take_of_length_le (by rw [HN0.out]; exact Nat.le_refl _)] at hcall
      have hPlt := (Array.getElem?_eq_some_iff.1 HP.out).1
      unfold prV at hcall
      simp only [List.length_nil, List.map_nil, show (tellS 2 x l0).length = kk by simp [tellS, HN0.out], Bool.false_eq_true, if_false] at hcall
      go_wp2_with fail
      refine hcall.mono ?_
      rintro e w4 ⟨v2, s2, rfl, ho, hs, hb4⟩
      clear hcall
      obtain ⟨sa, sc, rfl⟩ := own_form hs
      obtain ⟨av2, cv2, rfl⟩ := own_form ho
      have HS2 := Lib.hid (SlI.of_owns (xs := []) ho)
      have hQ := (hb4.block _ hPlt).trans HP.out
      obtain ⟨y0', y1', y2', yf⟩ := row3 hQ
      obtain ⟨wE, hwE⟩ : ∃ wE, ((w4.setCell ⟨w.heap.size, 0, none⟩ (.int .i64 2)).setCell ⟨w.heap.size, 1, none⟩ (.int .i64 x)).setCell ⟨w.heap.size, 2, none⟩ (.slice av2 0 cv2) = wE := ⟨_, rfl⟩
      have hf3 := fill3 hQ (.int .i64 2) (.int .i64 x) (.slice av2 0 cv2)
      rw [hwE] at hf3
      have hsE := own_same hs fun g hg => hf3.2.2 g (by have := (hs.lt g hg).1; omega)
      have hBE := below_fill3 (HBE.out.then hb4) (Nat.le_refl w.heap.size) (.int .i64 2) (.int .i64 x) (.slice av2 0 cv2)
      rw [hwE] at hBE
      have HSE := Lib.hid (SlV.of_owns hsE)
      have HBW := Lib.hid hBE
      have HPE := Lib.hid hf3.1
      obtain ⟨p0, p1, p2, -⟩ := row3 hf3.1
      clear hs ho hb4 hQ hf3 hsE hBE z0 z1 z2 zf
      go_wp2_with fail
      have HK := Lib.hid hk
      clear hk hlt hlt' hwE
      go_loopw [91] (fun i wr2 => ∃ k2 : Nat, k2 ≤ kk ∧ i = .int .i64 (k2 : Int) ∧ Below wE.heap.size wE wr2) (fun i _ => kk - (intOf i).toNat)
      case atStart => exact ⟨0, Nat.zero_le _, rfl, Below.refl _ _⟩
      case round =>
        obtain ⟨k2, hk2, rfl, hbel2⟩ := hrel
        have HB2 := Lib.hid hbel2
        clear hbel2
        by_cases hlt2 : k2 < kk
        · obtain ⟨y0, hy⟩ : ∃ y, l0[k2]? = some y := ⟨_, List.getElem?_eq_getElem (by have := HN0.out; omega)⟩
          obtain ⟨g, o, c, hf, hcc⟩ := slV_cell1 H0.out hy
          have hbv := BB0.out y0 (List.mem_of_getElem? hy)
          simp only [Value.slice.injEq] at hf
          obtain ⟨rfl, -, rfl⟩ := hf
          replace hcc := (HBW.out.then HB2.out).at_cell hcc
          obtain ⟨g2, o2, c2, hf2, t0, t1, t2⟩ := tell_cells (by rw [HN0.out]; exact HSE.out) hy
          simp only [Value.slice.injEq] at hf2
          obtain ⟨rfl, -, rfl⟩ := hf2
          replace t0 := HB2.out.at_cell t0
          replace t1 := HB2.out.at_cell t1
          replace t2 := HB2.out.at_cell t2
          have hlt2' : (k2 : Int) < (kk : Int) := by omega
          have gl := World.block_lt_of_cell? wr _ hcc
          have gn : ¬ g = wr.heap.size := Nat.ne_of_lt gl
          have HY := Lib.hid hy
          clear hy
          go_upto_region 21 with (fail)
          go_quiet (fail)
          go_wp2_with fail
          go_roundw
          case rel => exact ⟨k2 + 1, by omega, by go_num, HB2.out.trans ((((Below.refl _ _).alloc (Nat.le_refl _) _).trans (below_drewN _ _ _)).mono HB2.out.size)⟩
          case measure => simp [intOf]; omega
        · have hke2 : k2 = kk := by omega
          subst hke2
          have hlt2' : ¬ (k2 : Int) < (k2 : Int) := by omega
          have hP2 := (HB2.out.block _ (Array.getElem?_eq_some_iff.1 HPE.out).1).trans HPE.out
          obtain ⟨p0, p1, p2, -⟩ := row3 hP2
          have hPlt2 := (Array.getElem?_eq_some_iff.1 hP2).1
          have hcall := decide_calls ⟨2, x, []⟩ (.slice av2 0 cv2) true y wr (slI_any HS2.out) (by simp)
          rw [decide_done _ _ (by decide)] at hcall
          unfold prV at hcall
          simp only [List.length_nil, List.map_nil] at hcall
          have HP2 := Lib.hid hP2
          clear hP2
          go_wp2_with fail
          refine hcall.mono ?_
          rintro e w5 ⟨v3, s3, rfl, ho3, hs3, hb5⟩
          clear hcall
          obtain ⟨sa3, sc3, rfl⟩ := own_form hs3
          obtain ⟨av3, cv3, rfl⟩ := own_form ho3
          have hQ := (hb5.block _ hPlt2).trans HP2.out
          obtain ⟨y0', y1', y2', yf⟩ := row3 hQ
          obtain ⟨wF, hwF⟩ : ∃ wF, ((w5.setCell ⟨w.heap.size, 0, none⟩ (.int .i64 2)).setCell ⟨w.heap.size, 1, none⟩ (.int .i64 x)).setCell ⟨w.heap.size, 2, none⟩ (.slice av3 0 cv3) = wF := ⟨_, rfl⟩
          have hf3 := fill3 hQ (.int .i64 2) (.int .i64 x) (.slice av3 0 cv3)
          rw [hwF] at hf3
          have hBF := below_fill3 ((HBW.out.then HB2.out).then hb5) (Nat.le_refl w.heap.size) (.int .i64 2) (.int .i64 x) (.slice av3 0 cv3)
          rw [hwF] at hBF
          have HBF := Lib.hid hBF
          have HPF := Lib.hid hf3.1
          have HS3 := Lib.hid (SlI.of_owns (xs := []) ho3)
          obtain ⟨p0, p1, p2, -⟩ := row3 hf3.1
          clear hs3 ho3 hb5 hQ hf3 hBF
          go_wp2_with fail
          clear hwF
          go_loopw [137] (fun i wr3 => ∃ k3 : Nat, k3 ≤ n1 ∧ i = .int .i64 (k3 : Int) ∧ Below wF.heap.size wF wr3) (fun i _ => n1 - (intOf i).toNat)
          case atStart => exact ⟨0, Nat.zero_le _, rfl, Below.refl _ _⟩
          case round =>
            obtain ⟨k3, hk3, rfl, hbel3⟩ := hrel
            have HB3 := Lib.hid hbel3
            have hP3 := (hbel3.block _ (Array.getElem?_eq_some_iff.1 HPF.out).1).trans HPF.out
            obtain ⟨p0, p1, p2, -⟩ := row3 hP3
            clear hbel3
            by_cases hlt3 : k3 < n1
            · obtain ⟨y1, hy⟩ : ∃ y, l1[k3]? = some y := ⟨_, List.getElem?_eq_getElem (by have := HN1.out; omega)⟩
              obtain ⟨g, o, c, hf, hcc⟩ := slV_cell1 H1.out hy
              have hbv := BB1.out y1 (List.mem_of_getElem? hy)
              simp only [Value.slice.injEq] at hf
              obtain ⟨rfl, -, rfl⟩ := hf
              replace hcc := (HBF.out.then HB3.out).at_cell hcc
              have hcall := await_calls ⟨2, x, []⟩ (.slice av3 0 cv3) y1 wr (slI_any HS3.out)
              rw [await_done _ _ (by decide)] at hcall
              unfold prV at hcall
              simp only [List.length_nil, List.map_nil] at hcall
              have hlt3' : (k3 : Int) < (n1 : Int) := by omega
              have HY := Lib.hid hy
              clear hy
              go_wp2_with fail
              refine hcall.mono ?_
              rintro e w6 ⟨v4, s4, rfl, ho4, hs4, hb6⟩
              clear hcall
              obtain ⟨g4, cap4, rfl, -, hc4⟩ := own_form2 hs4 (by simp)
              have q0 := hc4 0 _ rfl
              have q1 := hc4 1 _ rfl
              have q2 := hc4 2 _ rfl
              obtain ⟨av4, cv4, rfl⟩ := own_form ho4
              have HB6 := Lib.hid (HB3.out.trans (hb6.mono HB3.out.size))
              have gl4 := World.block_lt_of_cell? w6 _ q0
              have gn4 : ¬ g4 = w6.heap.size := Nat.ne_of_lt gl4
              clear hc4 hs4 ho4 hb6
              go_wp2_with fail
              go_roundw
              case rel => exact ⟨k3 + 1, by omega, by go_num, HB6.out.alloc HB6.out.size _⟩
              case measure => simp [intOf]; omega
            · have hke3 : k3 = n1 := by omega
              subst hke3
              have hlt3' : ¬ (k3 : Int) < (k3 : Int) := by omega
              go_wp2_with fail
              refine (awake_calls _).mono ?_
              rintro e w7 ⟨rfl, hb7⟩
              go_wp2_with fail
              go_ret
              exact ⟨rfl, (HBF.out.then HB3.out).then hb7⟩

theorem told_calls (f : Bool) (v0 v1 : Value) (l0 l1 : List Int) (x y : Int) (w : World) (h0 : SlV w v0 l0.length 1 (l0.map (Value.int .i16))) (h1 : SlV w v1 l1.length 1 (l1.map (Value.int .i16))) (b0 : ∀ z ∈ l0, IntKind.i64.wrap z = z) (b1 : ∀ z ∈ l1, IntKind.i64.wrap z = z) :
    Calls Try.prog 5 #[v0, v1, .bool f, .int .i64 x, .int .i64 y] w fun e w' => e = .returned (.bool true) ∧ Below w.heap.size w w' := by
  cases f
  · exact toldF v0 v1 l0 l1 x y w h0 h1 b0 b1
  · exact toldT v0 v1 l0 l1 x y w h0 h1 b0 b1
end Go.Proofs.Ytddajaikighjlaa
