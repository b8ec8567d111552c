/- The law TimerFires: its walk. -/
import Derived.Test.YtddajaikighjlaaSk
import Derived.Deep.CutBlock
import Derived.Deep.DeepCutAuto
namespace Go.Proofs.Ytddajaikighjlaa
open Go.RowKit Go.Sl Go.Mp Go.Wh

theorem cell1_of {w : World} {v : Value} {l : List Int} {q : IntKind} (h : SlV w v l.length 1 (l.map (Value.int q))) {k : Nat} {y : Int} (hy : l[k]? = some y) : ∃ g o c, v = .slice (some ⟨g, o, none⟩) l.length c ∧ w.cell? ⟨g, o + k, none⟩ = some (.int q y) := by
  have hk := (List.getElem?_eq_some_iff.1 hy).1
  rcases h.2 with ⟨h0, -⟩ | ⟨-, g, o, c, hv, hc⟩
  · omega
  · exact ⟨g, o, c, hv, hc k _ (by simp [hy])⟩
theorem tm_at {w : World} {base : Nat} {v : Value} {T : List Tm} (h : w.ownsRow base 129 4 v T.length (T.flatMap encT)) {k : Nat} {t : Tm} (hk : T[k]? = some t) : ∃ g cap, v = .slice (some ⟨g, 0, none⟩) T.length cap ∧ w.cell? ⟨g, k * 4, none⟩ = some (.int .i64 t.id) ∧ w.cell? ⟨g, k * 4 + 1, none⟩ = some (.int .i64 t.when) ∧
    w.cell? ⟨g, k * 4 + 2, none⟩ = some (.int .i64 t.iv) ∧ w.cell? ⟨g, k * 4 + 3, none⟩ = some (.int .i64 t.ord) := by
  have hlt := (List.getElem?_eq_some_iff.1 hk).1
  obtain ⟨g, cap, rfl, -, hc⟩ := own_form2 h (by omega)
  have hg : ∀ j, j < 4 → (T.flatMap encT)[k * 4 + j]? = (encT t)[j]? := fun j hj => by
    rw [flat_get encT 4 encT_len (by omega), show (k * 4 + j) / 4 = k by omega, show (k * 4 + j) % 4 = j by omega, hk]
    rfl
  exact ⟨g, cap, rfl, hc (k * 4) _ (hg 0 (by omega)), hc (k * 4 + 1) _ (hg 1 (by omega)), hc (k * 4 + 2) _ (hg 2 (by omega)), hc (k * 4 + 3) _ (hg 3 (by omega))⟩
theorem timers_at {w : World} {base : Nat} {v : Value} {l : List (Int × Int)} (h : w.ownsRow base 129 4 v l.length ((l.map fun s => (mkR s).t).flatMap encT)) {k : Nat} {a b : Int} (hs : l[k]? = some (a, b)) : ∃ g cap, v = .slice (some ⟨g, 0, none⟩) l.length cap ∧ w.cell? ⟨g, k * 4, none⟩ = some (.int .i64 a) ∧ w.cell? ⟨g, k * 4 + 1, none⟩ = some (.int .i64 b) ∧
    w.cell? ⟨g, k * 4 + 2, none⟩ = some (.int .i64 0) ∧ w.cell? ⟨g, k * 4 + 3, none⟩ = some (.int .i64 a) := by
  have h2 : w.ownsRow base 129 4 v (l.map fun s => (mkR s).t).length ((l.map fun s => (mkR s).t).flatMap encT) := by
    rw [List.length_map]
    exact h
  have := tm_at h2 (k := k) (t := (mkR (a, b)).t) (by rw [List.getElem?_map, hs]; rfl)
  rw [List.length_map] at this
  exact this
theorem upTo_five {S : List (Int × Int)} (h : ∀ s ∈ S, 6 ≤ s.2) : S.takeWhile (upTo 5) = [] ∧ S.dropWhile (upTo 5) = S := by
  cases S with
  | nil => exact ⟨rfl, rfl⟩
  | cons x S =>
    have hx : ¬ upTo 5 x = true := by
      have := h x (by simp)
      unfold upTo
      rw [decide_eq_true_iff]
      omega
    exact ⟨List.takeWhile_cons_of_neg hx, List.dropWhile_cons_of_neg hx⟩
theorem take_at {S : List (Int × Int)} (p : Int × Int → Bool) {k : Nat} {s : Int × Int} (hs : S[k]? = some s) : (k < (S.takeWhile p).length → (S.takeWhile p)[k]? = some s ∧ p s = true) ∧ (¬ k < (S.takeWhile p).length → s ∈ S.dropWhile p) := by
  have e : S.takeWhile p ++ S.dropWhile p = S := List.takeWhile_append_dropWhile
  constructor
  · intro h
    have h2 : (S.takeWhile p)[k]? = some s := by
      refine Eq.trans ?_ hs
      refine Eq.trans ?_ (congrArg (·[k]?) e)
      exact (List.getElem?_append_left h).symm
    exact ⟨h2, mem_take (List.mem_of_getElem? h2)⟩
  · intro h
    rw [← e, List.getElem?_append_right (by omega)] at hs
    exact List.mem_of_getElem? hs
set_option maxRecDepth 100000 in
set_option maxHeartbeats 16000000 in
theorem fires_calls (v1 v2 v3 : Value) (l1 l2 l3 : List Int) (w : World) (h1 : SlV w v1 l1.length 1 (l1.map (Value.int .u16))) (h2 : SlV w v2 l2.length 1 (l2.map (Value.int .u8))) (h3 : SlV w v3 l3.length 1 (l3.map (Value.int .u16)))
    (k1 : ∀ x ∈ l1, 0 ≤ x ∧ x ≤ 65535) (k2 : ∀ x ∈ l2, 0 ≤ x ∧ x ≤ 255) (k3 : ∀ x ∈ l3, 0 ≤ x ∧ x ≤ 65535) :
    Calls Try.prog 8 #[v1, v2, v3] w fun e w' => e = .returned (.bool true) ∧ Below w.heap.size w w' := by
  obtain ⟨a1, c1, rfl⟩ := SlV.form h1
  obtain ⟨a2, c2, rfl⟩ := SlV.form h2
  obtain ⟨a3, c3, rfl⟩ := SlV.form h3
  obtain ⟨n1, hn1⟩ : ∃ n, l1.length = n := ⟨_, rfl⟩
  obtain ⟨n2, hn2⟩ : ∃ n, l2.length = n := ⟨_, rfl⟩
  obtain ⟨n3, hn3⟩ : ∃ n, l3.length = n := ⟨_, rfl⟩
  rw [hn1, hn2, hn3]
  have N1 := Lib.hid hn1
  have N2 := Lib.hid hn2
  have N3 := Lib.hid hn3
  have H1 := Lib.hid h1
  have H2 := Lib.hid h2
  have H3 := Lib.hid h3
  have K1 := Lib.hid k1
  have K2 := Lib.hid k2
  have K3 := Lib.hid k3
  clear h1 h2 h3 k1 k2 k3 hn1 hn2 hn3
  go_enter Try.func8, Try.ntmps8
  by_cases hbig : (20 : Int) < (n1 : Int) ∨ (20 : Int) < (n2 : Int) ∨ (20 : Int) < (n3 : Int)
  · rcases hbig with hb | hb | hb
    · go_wp2_with fail
      refine (awake_calls _).mono ?_
      rintro e w3 ⟨rfl, hb3⟩
      go_wp2_with fail
      go_ret
      exact ⟨rfl, hb3⟩
    · by_cases hb1 : (20 : Int) < (n1 : Int)
      all_goals
        go_wp2_with fail
        refine (awake_calls _).mono ?_
        rintro e w3 ⟨rfl, hb3⟩
        go_wp2_with fail
        go_ret
        exact ⟨rfl, hb3⟩
    · by_cases hb1 : (20 : Int) < (n1 : Int)
      · go_wp2_with fail
        refine (awake_calls _).mono ?_
        rintro e w3 ⟨rfl, hb3⟩
        go_wp2_with fail
        go_ret
        exact ⟨rfl, hb3⟩
      · by_cases hb2 : (20 : Int) < (n2 : Int)
        all_goals
          go_wp2_with fail
          refine (awake_calls _).mono ?_
          rintro e w3 ⟨rfl, hb3⟩
          go_wp2_with fail
          go_ret
          exact ⟨rfl, hb3⟩
  obtain ⟨t1, t2, t3⟩ : ¬ (20 : Int) < (n1 : Int) ∧ ¬ (20 : Int) < (n2 : Int) ∧ ¬ (20 : Int) < (n3 : Int) := ⟨fun h => hbig (Or.inl h), fun h => hbig (Or.inr (Or.inl h)), fun h => hbig (Or.inr (Or.inr h))⟩
  clear hbig
  go_wp2_with fail
  refine (new_calls 5 w rfl).mono ?_
  rintro e w1 ⟨R1, rfl, h1, f1, b1⟩
  obtain ⟨X1, hX1⟩ : ∃ X, w.heap.size + 2 = X := ⟨_, rfl⟩
  rw [hX1] at h1 f1 ⊢
  have A1 := Lib.hid h1
  have F1 := Lib.hid f1
  have B1 := Lib.hid b1
  clear h1 f1 b1 hX1
  go_wp2_with fail
  refine (new_calls 5 w1 rfl).mono ?_
  rintro e w2 ⟨R2, rfl, h2, f2, b2⟩
  obtain ⟨X2, hX2⟩ : ∃ X, w1.heap.size + 2 = X := ⟨_, rfl⟩
  rw [hX2] at h2 f2 ⊢
  have hT : FS w X1 X2 (WO []) (WO []) [] (.slice none 0 0) [] (.slice none 0 0) w2 := ⟨⟨R1, R2, newS 5, newS 5, ⟨A1.out.below b2, h2, fun k hk h2 => by
    have := A1.out.foot_lt hk
    have := f2 k h2
    omega, B1.out.then b2, F1.out, fun k hk => Nat.le_trans B1.out.size (f2 k hk)⟩, ⟨wants_new, rfl⟩, ⟨wants_new, rfl⟩⟩, ⟨rfl, Or.inl ⟨rfl, rfl⟩⟩, ⟨rfl, Or.inl ⟨rfl, rfl⟩⟩⟩
  have T2 := Lib.hid hT
  clear h2 f2 b2 hX2 hT
  go_wp2_with fail
  go_loopw [72, 11] (fun i vv wr => ∃ (k : Nat) (sa : Option Addr) (sc : Nat), k ≤ n1 ∧ i = .int .i64 (k : Int) ∧ vv = .slice sa k sc ∧ FS w X1 X2 (WO (wantL (l1.take k))) (WO (wantL (l1.take k))) (wantL (l1.take k)) (.slice sa k sc) [] (.slice none 0 0) wr) (fun i _ _ => n1 - (intOf i).toNat)
  case atStart => exact ⟨0, none, 0, Nat.zero_le _, rfl, rfl, T2.out⟩
  case round =>
    obtain ⟨k, sa, sc, hk, rfl, rfl, hfs⟩ := hrel
    have T3 := Lib.hid hfs
    clear hfs
    by_cases hlt : k < n1
    · obtain ⟨x, hx⟩ : ∃ x, l1[k]? = some x := ⟨_, List.getElem?_eq_getElem (by have := N1.out; omega)⟩
      obtain ⟨g, o, c, hf, hcc⟩ := cell1_of H1.out hx
      have hxb := K1.out x (List.mem_of_getElem? hx)
      simp only [Value.slice.injEq] at hf
      obtain ⟨rfl, -, rfl⟩ := hf
      replace hcc := T3.out.bel.at_cell hcc
      obtain ⟨S, hS⟩ : ∃ S, wantL (l1.take k) = S := ⟨_, rfl⟩
      have hSl : S.length = k := by rw [← hS, wantL_len, List.length_take, N1.out]; omega
      have hS' : wantL (l1.take (k + 1)) = S ++ [((k : Int), 6 + x)] := by rw [← hS]; exact wantL_take hx
      have hid : ∀ s ∈ S, s.1 < (S.length : Int) := fun s hs => by
        rw [← hS] at hs
        have := (wantL_mem (fun x hx => K1.out x (List.mem_of_mem_take hx)) s hs).1.2
        rw [List.length_take, N1.out] at this
        rw [hSl]
        omega
      have hfs := T3.out
      rw [hS] at hfs
      have hc1 := hfs.call1 (Q := fun e _ => e = .returned (.int .i64 0)) (Q1 := WO (S ++ [((k : Int), 6 + x)])) (f := 12) (args := #[.pointer (some ⟨X1, 0, none⟩), .int .i64 (k : Int), .int .i64 (6 + x), .int .i64 0]) fun R W hw hp => by
        have := set_w hw hp hid (by omega) (6 + x) (by omega)
        rw [hSl] at this
        exact this
      have hc2 := fun (wA : World) (hA : FS w X1 X2 (WO (S ++ [((k : Int), 6 + x)])) (WO S) S (.slice sa k sc) [] (.slice none 0 0) wA) => hA.call2 (Q := fun e _ => e = .returned (.int .i64 0)) (Q1 := WO (S ++ [((k : Int), 6 + x)])) (f := 12) (args := #[.pointer (some ⟨X2, 0, none⟩), .int .i64 (k : Int), .int .i64 (6 + x), .int .i64 0]) fun R W hw hp => by
        have := set_w hw hp hid (by omega) (6 + x) (by omega)
        rw [hSl] at this
        exact this
      have HS := Lib.hid hS
      have HSL := Lib.hid hSl
      have HS' := Lib.hid hS'
      have HC2 := Lib.hid hc2
      have hlt' : (k : Int) < (n1 : Int) := by omega
      have gx : IntKind.i64.wrap x = x := IntWalk.i64_in _ (by omega)
      have gx6 : IntKind.i64.wrap (6 + x) = 6 + x := IntWalk.i64_in _ (by omega)
      clear hS hSl hS' hid hfs hc2 hx
      go_wp2_with fail
      refine hc1.mono ?_
      rintro e wA ⟨rfl, hA, -⟩
      have hc2 := HC2.out wA hA
      clear hc1 hA hcc
      go_wp2_with fail
      refine hc2.mono ?_
      rintro e wB ⟨rfl, hB, -⟩
      have TB := Lib.hid hB
      clear hc2 hB
      obtain ⟨wC, hwC⟩ : ∃ wC, wB.alloc (.cells #[.int .i64 (k : Int), .int .i64 (6 + x)] 122) = wC := ⟨_, rfl⟩
      have TC := Lib.hid (show FS w X1 X2 _ _ _ _ _ _ wC by rw [← hwC]; exact TB.out.alloc _)
      have g7 : wC.heap[wB.heap.size]? = some (.cells #[.int .i64 (k : Int), .int .i64 (6 + x)] 122 (0, 0)) := by rw [← hwC]; exact heap_alloc_new _ _
      have hlit : SlV wC (.slice (some ⟨wB.heap.size, 0, none⟩) 1 1) 1 2 (encF ((k : Int), 6 + x)) := ⟨rfl, Or.inr ⟨by omega, _, 0, 1, rfl, fun i u hi => by
        rw [Nat.zero_add]
        exact cells_of_row g7 i u (by simpa [encF] using hi)⟩⟩
      have hown := TC.out.row
      rw [HSL.out] at hown
      have hbase := TC.out.bel.size
      obtain ⟨i0, hif, hz0, hz1, hz2⟩ := info_parts info122
      clear g7
      go_wp2_with (at_builtin; refine wpList_append_sl rfl (.tmp 92) (.tmp 96) 119 rfl w.heap.size 122 i0 (.agg #[.int .i64 0, .int .i64 0]) 2 16 Try.underlying119 hif hz0 hz1 hz2 rfl (by decide) _ _ _ rfl hown _ 1 _ rfl hlit ?d1 ?d2 ?d3 ?d4 ?_)
      case d1 =>
        intro u hu
        simp only [encF, List.mem_cons, List.not_mem_nil, or_false] at hu
        rcases hu with rfl | rfl <;> rfl
      case d2 => unfold maxLen; omega
      case d3 => omega
      case d4 => exact hbase
      intro v' w5 hown2 hgrow
      have hrow : w5.ownsRow w.heap.size 122 2 v' (wantL (l1.take (k + 1))).length ((wantL (l1.take (k + 1))).flatMap encF) := by
        rw [HS'.out, List.flatMap_append, List.length_append, HSL.out]
        simpa using hown2
      have hfs := TC.out.put hrow hgrow
      rw [← HS'.out] at hfs
      obtain ⟨sa', sc', rfl⟩ := own_form hown2
      have T5 := Lib.hid hfs
      clear hfs hrow hown2 hgrow hown hlit hwC hif hz0 hz1 hz2
      go_wp2_with fail
      go_roundw
      case rel => exact ⟨k + 1, sa', sc', by omega, by go_num, rfl, T5.out⟩
      case measure => simp [intOf]; omega
    · obtain rfl : n1 = k := by omega
      have hlt' : ¬ (n1 : Int) < (n1 : Int) := by omega
      have T4 := Lib.hid (show FS w X1 X2 (Wants · (wantL l1)) (Wants · (wantL l1)) (wantL l1) (.slice sa n1 sc) [] (.slice none 0 0) wr by
        have h := T3.out
        rw [List.take_of_length_le (by rw [N1.out]; exact Nat.le_refl _)] at h
        exact h.imp (fun _ h => h.1) (fun _ h => h.1))
      have hwl := wantL_len l1
      rw [N1.out] at hwl
      have WL := Lib.hid hwl
      clear T3 hk hwl A1 B1 F1 T2
      go_upto_block 2 with fail
      clear hlt'
      go_cut [11] (fun vv wx => ∃ (S : List (Int × Int)) (m : Nat) (sa : Option Addr) (sc : Nat), S.length = m ∧ vv = .slice sa m sc ∧ Hid (S.Sublist (wantL l1)) ∧ FS w X1 X2 (Wants · S) (Wants · S) S (.slice sa m sc) [] (.slice none 0 0) wx)
      case first =>
        go_wp2_with fail
        go_loopw [101, 11] (fun i vv wr => ∃ (k : Nat) (S : List (Int × Int)) (m : Nat) (sa : Option Addr) (sc : Nat), k ≤ n2 ∧ i = .int .i64 (k : Int) ∧ S.length = m ∧ vv = .slice sa m sc ∧ Hid (S.Sublist (wantL l1)) ∧ FS w X1 X2 (Wants · S) (Wants · S) S (.slice sa m sc) [] (.slice none 0 0) wr) (fun i _ _ => n2 - (intOf i).toNat)
        case atStart => exact ⟨0, wantL l1, n1, sa, sc, Nat.zero_le _, rfl, WL.out, rfl, Lib.hid (List.Sublist.refl _), T4.out⟩
        case round =>
          obtain ⟨k, S, m, sa, sc, hk, rfl, hSl, rfl, hsub, hfs⟩ := hrel
          have T5 := Lib.hid hfs
          have SL := Lib.hid hSl
          have hm20 : m ≤ 20 := by
            have := hsub.out.length_le
            rw [WL.out, hSl] at this
            omega
          clear hfs hSl
          by_cases hlt : k < n2
          · obtain ⟨y, hy⟩ : ∃ y, l2[k]? = some y := ⟨_, List.getElem?_eq_getElem (by have := N2.out; omega)⟩
            obtain ⟨g, o, c, hf, hcc⟩ := cell1_of H2.out hy
            have hyb := K2.out y (List.mem_of_getElem? hy)
            simp only [Value.slice.injEq] at hf
            obtain ⟨rfl, -, rfl⟩ := hf
            replace hcc := T5.out.bel.at_cell hcc
            have hlt' : (k : Int) < (n2 : Int) := by omega
            clear hy
            by_cases h0 : n1 = 0
            · have hz : ((n1 : Int) == 0) = true := by rw [beq_iff_eq]; omega
              clear h0
              go_wp2_with fail
              go_meet
              case rel => exact ⟨S, m, sa, sc, SL.out, rfl, hsub, T5.out⟩
            · have hz : ((n1 : Int) == 0) = false := by rw [beq_eq_false_iff_ne]; omega
              have hq1 := Int.lt_tmod_of_pos y (show (0 : Int) < (n1 : Int) by omega)
              have hq2 := Int.tmod_lt_of_pos y (show (0 : Int) < (n1 : Int) by omega)
              obtain ⟨q, hq⟩ : ∃ q, Int.tmod y (n1 : Int) = q := ⟨_, rfl⟩
              rw [hq] at hq1 hq2
              have gq : IntKind.i64.wrap q = q := IntWalk.i64_in _ (by omega)
              have gy : IntKind.i64.wrap y = y := IntWalk.i64_in _ (by omega)
              obtain ⟨b, hb⟩ : ∃ b, (S.any fun s => s.1 == q) = b := ⟨_, rfl⟩
              obtain ⟨S2, hS2⟩ : ∃ S2, (S.filter fun s => !(s.1 == q)) = S2 := ⟨_, rfl⟩
              obtain ⟨W7, hW7⟩ : ∃ W7, wr.alloc (.cells #[.int .i64 q] 3) = W7 := ⟨_, rfl⟩
              obtain ⟨m7, hm7⟩ : ∃ m7, wr.heap.size = m7 := ⟨_, rfl⟩
              have T7 := Lib.hid (show FS w X1 X2 _ _ _ _ _ _ W7 by rw [← hW7]; exact T5.out.alloc _)
              have g7 : W7.heap[m7]? = some (.cells #[.int .i64 q] 3 (0, 0)) := by rw [← hW7, ← hm7]; exact heap_alloc_new _ _
              have h7 : W7.cell? ⟨m7, 0, none⟩ = some (.int .i64 q) := cells_of_row g7 0 _ rfl
              have hcon := contains46_calls (.slice sa m sc) S 47 #[.pointer (some ⟨m7, 0, none⟩)] (fun s => s.1 == q) W7 (by have := SlV.of_owns T7.out.row; exact this) (by rw [SL.out]; omega) (fun a b w' hb => f47_calls a b q _ w' (hb.at_cell h7)) cf47
              have hca1 := fun (w8 : World) (h8 : FS w X1 X2 (Wants · S) (Wants · S) S (.slice sa m sc) [] (.slice none 0 0) w8) => h8.call1 (Q := fun e _ => e = .returned (.bool b)) (Q1 := (Wants · S2)) (f := 18) (args := #[.pointer (some ⟨X1, 0, none⟩), .int .i64 q]) fun R W hw hp => by
                have := cancel_w hw hp q
                rw [hb, hS2] at this
                exact this
              have hca2 := fun (w8 : World) (h8 : FS w X1 X2 (Wants · S2) (Wants · S) S (.slice sa m sc) [] (.slice none 0 0) w8) => h8.call2 (Q := fun e _ => e = .returned (.bool b)) (Q1 := (Wants · S2)) (f := 18) (args := #[.pointer (some ⟨X2, 0, none⟩), .int .i64 q]) fun R W hw hp => by
                have := cancel_w hw hp q
                rw [hb, hS2] at this
                exact this
              have hdel := fun (w8 : World) (h8 : FS w X1 X2 (Wants · S2) (Wants · S2) S (.slice sa m sc) [] (.slice none 0 0) w8) (g8 : w8.heap[m7]? = some (.cells #[.int .i64 q] 3 (0, 0))) => delete48_calls (.slice sa m sc) w.heap.size S 49 #[.pointer (some ⟨m7, 0, none⟩)] (fun s => s.1 == q) w8 h8.row (by rw [SL.out]; omega) (fun a b wr hg => f49_calls a b q _ wr (cells_of_row ((hg.block m7 (Array.getElem?_eq_some_iff.1 g8).1 (fun e => by
                obtain ⟨cs, hc, -⟩ := own_cells h8.row e.symm
                rw [g8] at hc
                simp only [Option.some.injEq, Obj.cells.injEq] at hc
                exact absurd hc.2.1 (by decide))).trans g8) 0 _ rfl)) cf49
              simp only [hS2] at hdel
              rw [hb] at hcon
              have hsub2 : Hid (S2.Sublist (wantL l1)) := Lib.hid (by rw [← hS2]; exact List.filter_sublist.trans hsub.out)
              have G7 := Lib.hid g7
              have HCA1 := Lib.hid hca1
              have HCA2 := Lib.hid hca2
              have HDEL := Lib.hid hdel
              have HW7 := Lib.hid hW7
              have HM7 := Lib.hid hm7
              clear hca1 hca2 hdel hb hS2 g7 h7 hW7 hm7 h0
              go_wp2_with fail
              rw [HW7.out, HM7.out]
              refine hcon.mono ?_
              rintro e w8 ⟨rfl, hb8⟩
              have T8 := T7.out.below hb8
              have g8 := keeps_below hb8 _ _ _ _ G7.out (by decide)
              have G8 := Lib.hid g8
              have p8 : w8.cell? ⟨m7, 0, none⟩ = some (.int .i64 q) := cells_of_row g8 0 _ rfl
              have hc1 := HCA1.out w8 T8
              clear hcon hb8 T8 g8 hcc
              go_wp2_with fail
              refine hc1.mono ?_
              rintro e w9 ⟨rfl, T9, kp9⟩
              have g9 := kp9 _ _ _ _ G8.out (by decide)
              have G9 := Lib.hid g9
              have p9 : w9.cell? ⟨m7, 0, none⟩ = some (.int .i64 q) := cells_of_row g9 0 _ rfl
              have hc2 := HCA2.out w9 T9
              clear hc1 T9 kp9 g9 p8
              go_wp2_with fail
              refine hc2.mono ?_
              rintro e w10 ⟨rfl, T10, kp10⟩
              have hd := HDEL.out w10 T10 (kp10 _ _ _ _ G9.out (by decide))
              have HT10 := Lib.hid T10
              clear hc2 T10 kp10 p9
              go_wp2_with fail
              refine hd.mono ?_
              rintro e w11 ⟨v', rfl, hown, hgr, -⟩
              have T11 := Lib.hid (HT10.out.put hown hgr)
              obtain ⟨sa', sc', rfl⟩ := own_form hown
              clear hd hown hgr
              go_wp2_with fail
              go_roundw
              case rel => exact ⟨k + 1, S2, _, sa', sc', by omega, by go_num, rfl, rfl, hsub2, T11.out⟩
              case measure => simp [intOf]; omega
          · obtain rfl : n2 = k := by omega
            have hlt' : ¬ (n2 : Int) < (n2 : Int) := by omega
            go_wp2_with fail
            go_meet
            case rel => exact ⟨S, m, sa, sc, SL.out, rfl, hsub, T5.out⟩
      case rest =>
        obtain ⟨S, m, sa2, sc2, hSl, rfl, hsub, hfs⟩ := hcut
        have SL := Lib.hid hSl
        have T5 := Lib.hid hfs
        have hm20 : m ≤ 20 := by
          have := hsub.out.length_le
          rw [WL.out, hSl] at this
          omega
        have hsort := sort50_calls (.slice sa2 m sc2) S w.heap.size wc hfs.row (by omega)
        have hmem : ∀ s ∈ S, s ∈ wantL l1 := fun s hs => hsub.out.subset hs
        have hids : S.Pairwise fun x y => x.1 < y.1 := (wantL_ids l1).sublist hsub.out
        have hPA : ∀ s ∈ S, PA s := fun s hs => by
          have := wantL_mem K1.out s (hmem s hs)
          unfold PA
          omega
        obtain ⟨hperm, hsorted⟩ := stS_sorted hPA hids
        have hsl := stS_len S
        have hws := fun (W : Wh) (h : Wants W S) => (⟨h.1, wants_sorted h hPA hids⟩ : CN (stS S) 5 W)
        have hbd : ∀ s ∈ stS S, (0 ≤ s.1 ∧ s.1 < (n1 : Int)) ∧ 6 ≤ s.2 ∧ s.2 ≤ 65541 := fun s hs => by
          have := wantL_mem K1.out s (hmem s (hperm.mem_iff.1 hs))
          rw [N1.out] at this
          exact this
        obtain ⟨Z, hZ⟩ : ∃ Z, stS S = Z := ⟨_, rfl⟩
        rw [hZ] at hsort hsorted hsl hws hbd
        rw [hSl] at hsl hsort
        have hZs : Z.Pairwise fun x y => x.2 ≤ y.2 := hsorted.imp fun {x y} h => by
          unfold ltB at h
          simp only [Bool.or_eq_false_iff, decide_eq_false_iff_not] at h
          omega
        have ZL := Lib.hid hsl
        have ZS := Lib.hid hZs
        have ZB := Lib.hid hbd
        have HWS := Lib.hid hws
        clear hSl hsub hfs hmem hids hPA hperm hsorted hsl hws hbd hZ hZs WL T4
        go_wp2_with fail
        refine hsort.mono ?_
        rintro e w3 ⟨rfl, hown, hgr⟩
        have T6 := Lib.hid ((T5.out.put (S' := Z) (by rw [ZL.out]; exact hown) hgr).imp HWS.out HWS.out)
        clear hsort hown hgr T5 HWS SL
        go_wp2_with fail
        have h5 := upTo_five (S := Z) fun s hs => (ZB.out s hs).2.1
        have T7 := Lib.hid (show FS w X1 X2 (CN (Z.dropWhile (upTo 5)) 5) (CN Z 5) Z (.slice sa2 m sc2) (Z.takeWhile (upTo 5)) (.slice none 0 0) w3 by rw [h5.1, h5.2]; exact T6.out)
        have M0 := Lib.hid (show (Z.takeWhile (upTo 5)).length = 0 by rw [h5.1]; rfl)
        clear h5 T6
        go_loopw [136, 19, 20] (fun i ve vg wr => ∃ (k : Nat) (t : Int) (m2 : Nat) (ga : Option Addr) (gc : Nat), k ≤ n3 ∧ i = .int .i64 (k : Int) ∧ ve = .int .i64 t ∧ vg = .slice ga m2 gc ∧ Hid (5 ≤ t ∧ t ≤ 5 + 65535 * (k : Int)) ∧ Hid ((Z.takeWhile (upTo t)).length = m2) ∧ FS w X1 X2 (CN (Z.dropWhile (upTo t)) t) (CN Z 5) Z (.slice sa2 m sc2) (Z.takeWhile (upTo t)) (.slice ga m2 gc) wr) (fun i _ _ _ => n3 - (intOf i).toNat)
        case atStart => exact ⟨0, 5, 0, none, 0, Nat.zero_le _, rfl, rfl, rfl, Lib.hid (by omega), M0, T7.out⟩
        case round =>
          obtain ⟨k, t, m2, ga, gc, hk, rfl, rfl, rfl, HT, HM, hfs⟩ := hrel
          have T8 := Lib.hid hfs
          clear hfs T7 M0
          by_cases hlt : k < n3
          · obtain ⟨x, hx⟩ : ∃ x, l3[k]? = some x := ⟨_, List.getElem?_eq_getElem (by have := N3.out; omega)⟩
            obtain ⟨g, o, c, hf, hcc⟩ := cell1_of H3.out hx
            have hxb := K3.out x (List.mem_of_getElem? hx)
            simp only [Value.slice.injEq] at hf
            obtain ⟨rfl, -, rfl⟩ := hf
            replace hcc := T8.out.bel.at_cell hcc
            have hlt' : (k : Int) < (n3 : Int) := by omega
            have gx : IntKind.i64.wrap x = x := IntWalk.i64_in _ (by omega)
            have gt : IntKind.i64.wrap (t + x) = t + x := IntWalk.i64_in _ (by have := HT.out; omega)
            obtain ⟨t2, ht2⟩ : ∃ t2, t + x = t2 := ⟨_, rfl⟩
            have HT2 := Lib.hid ht2
            obtain ⟨D, hD⟩ : ∃ D, Z.dropWhile (upTo t) = D := ⟨_, rfl⟩
            have hsub : D.Sublist Z := by rw [← hD]; exact List.dropWhile_sublist _
            have hadv := T8.out.call1 (f := 13) (args := #[.pointer (some ⟨X1, 0, none⟩), .int .i64 t2]) (Q1 := CN (Z.dropWhile (upTo t2)) t2) (Q := fun e w' => ∃ v, e = .returned (.tuple #[v, .int .i64 0]) ∧ w'.ownsRow wr.heap.size 33 2 v (D.takeWhile (upTo t2)).length ((D.takeWhile (upTo t2)).flatMap encF)) fun R W hw hp => by
              rw [hD] at hp
              have := adv_w hw hp (ZS.out.sublist hsub) (by have := hsub.length_le; have := ZL.out; omega) t2 (by have := HT.out; omega) (by have := HT.out; omega)
              rw [← hD, (while_then (S := Z) (show t ≤ t2 by omega)).2, hD] at this
              exact this
            have happ : Hid (Z.takeWhile (upTo t2) = Z.takeWhile (upTo t) ++ D.takeWhile (upTo t2)) := Lib.hid (by rw [← hD]; exact (while_then (S := Z) (show t ≤ t2 by omega)).1.symm)
            have hHT2 : Hid (5 ≤ t2 ∧ t2 ≤ 5 + 65535 * ((k : Int) + 1)) := Lib.hid (by have := HT.out; omega)
            obtain ⟨Y, hY⟩ : ∃ Y, D.takeWhile (upTo t2) = Y := ⟨_, rfl⟩
            rw [hY] at hadv happ
            have hYl : Hid (Y.length ≤ m) := Lib.hid (by
              rw [← hY, ← ZL.out]
              exact ((List.takeWhile_sublist _).trans hsub).length_le)
            have hMl : Hid (m2 ≤ m) := Lib.hid (by
              rw [← HM.out, ← ZL.out]
              exact (List.takeWhile_sublist _).length_le)
            have HADV := Lib.hid hadv
            clear hx hxb ht2 hD hsub hY hadv
            go_wp2_with fail
            rw [HT2.out]
            refine HADV.out.mono ?_
            rintro e w8 ⟨⟨u, rfl, hu⟩, T9, -⟩
            obtain ⟨ua, uc, rfl⟩ := own_form hu
            have hT9 := Lib.hid T9
            have hU := Lib.hid hu
            clear T9 hu hcc gx gt HADV T8
            obtain ⟨i0, hif, hz0, hz1, hz2⟩ := info_parts info33
            have hown := hT9.out.got
            rw [HM.out] at hown
            have hlit := SlV.of_owns hU.out
            have hbase := hT9.out.bel.size
            go_wp2_with (at_builtin; refine wpList_append_sl rfl (.tmp 152) (.tmp 153) 29 rfl w.heap.size 33 i0 (.agg #[.int .i64 0, .int .i64 0]) 2 16 Try.underlying29 hif hz0 hz1 hz2 rfl (by decide) _ _ _ rfl hown _ _ _ rfl hlit ?d1 ?d2 ?d3 ?d4 ?_)
            case d1 =>
              intro u hu
              obtain ⟨s, -, hs⟩ := List.mem_flatMap.1 hu
              simp only [encF, List.mem_cons, List.not_mem_nil, or_false] at hs
              rcases hs with rfl | rfl <;> rfl
            case d2 =>
              have := hYl.out
              have := hMl.out
              unfold maxLen
              omega
            case d3 =>
              have := hYl.out
              have := hMl.out
              omega
            case d4 => exact hbase
            intro v' w9 hown2 hgrow
            have hrow : w9.ownsRow w.heap.size 33 2 v' (Z.takeWhile (upTo t2)).length ((Z.takeWhile (upTo t2)).flatMap encF) := by
              rw [happ.out, List.flatMap_append, List.length_append, HM.out]
              exact hown2
            have hfs := hT9.out.putG hrow hgrow
            obtain ⟨m3, hm3⟩ : ∃ m3, m2 + Y.length = m3 := ⟨_, rfl⟩
            rw [hm3] at hown2
            obtain ⟨ga', gc', rfl⟩ := own_form hown2
            have HM3 : Hid ((Z.takeWhile (upTo t2)).length = m3) := Lib.hid (by rw [happ.out, List.length_append, HM.out, hm3])
            obtain ⟨E, hE⟩ : ∃ E, Z.dropWhile (upTo t2) = E := ⟨_, rfl⟩
            rw [hE] at hfs
            have HE := Lib.hid hE
            have T10 := Lib.hid hfs
            clear hfs hrow hown2 hgrow hown hlit hif hz0 hz1 hz2 hE hm3 hT9 hU hbase
            go_wp2_with fail
            refine T10.out.timers.mono ?_
            rintro e w10 ⟨u, rfl, hu, hb10⟩
            have T11 := Lib.hid (T10.out.below hb10)
            have TU := Lib.hid hu
            obtain ⟨ua', uc', rfl⟩ := own_form hu
            obtain ⟨M, hM⟩ : ∃ M, E.length = M := ⟨_, rfl⟩
            rw [hM]
            have hM20 : M ≤ m := by
              rw [← hM, ← HE.out, ← ZL.out]
              exact (List.dropWhile_sublist _).length_le
            have HMM := Lib.hid hM
            clear hu hb10 hM T10
            go_wp2_with fail
            go_loopw [158] (fun i wr2 => ∃ j : Nat, j ≤ M ∧ i = .int .i64 (j : Int) ∧ Below w10.heap.size w10 wr2) (fun i _ => M - (intOf i).toNat)
            case atStart => exact ⟨0, Nat.zero_le _, rfl, Below.refl _ _⟩
            case round =>
              obtain ⟨j, hj, rfl, hb⟩ := hrel
              have HB := Lib.hid hb
              clear hb
              by_cases hjl : j < M
              · obtain ⟨⟨a, b⟩, hab⟩ : ∃ p, E[j]? = some p := ⟨_, List.getElem?_eq_getElem (by have := HMM.out; omega)⟩
                obtain ⟨g, cap, hf, y0, y1, y2, y3⟩ := timers_at TU.out hab
                simp only [Value.slice.injEq] at hf
                obtain ⟨rfl, -, rfl⟩ := hf
                replace y0 := HB.out.at_cell y0
                replace y1 := HB.out.at_cell y1
                replace y2 := HB.out.at_cell y2
                replace y3 := HB.out.at_cell y3
                have hmem : (a, b) ∈ E := List.mem_of_getElem? hab
                have hbnd := ZB.out (a, b) (by rw [← HE.out] at hmem; exact (List.dropWhile_sublist _).subset hmem)
                simp only at hbnd
                obtain ⟨W7, hW7⟩ : ∃ W7, wr.alloc (.cells #[.int .i64 a, .int .i64 b, .int .i64 0, .int .i64 a] 129) = W7 := ⟨_, rfl⟩
                obtain ⟨m7, hm7⟩ : ∃ m7, wr.heap.size = m7 := ⟨_, rfl⟩
                have g7 : W7.heap[m7]? = some (.cells #[.int .i64 a, .int .i64 b, .int .i64 0, .int .i64 a] 129 (0, 0)) := by rw [← hW7, ← hm7]; exact heap_alloc_new _ _
                have p0 : W7.cell? ⟨m7, 0, none⟩ = some (.int .i64 a) := cells_of_row g7 0 _ rfl
                have p1 : W7.cell? ⟨m7, 1, none⟩ = some (.int .i64 b) := cells_of_row g7 1 _ rfl
                have HB7 : Hid (Below w10.heap.size w10 W7) := Lib.hid (by rw [← hW7]; exact HB.out.alloc HB.out.size _)
                have hslot := (T11.out.below HB7.out).slot (s := (a, b)) hmem (by omega)
                have HS := Lib.hid hslot
                have HW7 := Lib.hid hW7
                have HM7 := Lib.hid hm7
                have P1 := Lib.hid p1
                have hjl' : (j : Int) < (M : Int) := by omega
                have HBN := Lib.hid hbnd
                clear hab hmem hslot hW7 hm7 g7 p1 hbnd
                go_wp2_with fail
                rw [HW7.out, HM7.out]
                refine HS.out.mono ?_
                rintro e w12 ⟨⟨kk, q, rfl, hk6, hq6, hk0⟩, hb12⟩
                replace P1 := hb12.at_cell P1.out
                have HB12 : Hid (Below w10.heap.size w10 w12) := Lib.hid (HB7.out.then hb12)
                have n1' : ¬ kk < 0 := by omega
                have n2' : ¬ 6 < kk := by omega
                have n3' : ¬ q < 0 := by omega
                have n4' : ¬ 63 < q := by omega
                clear hb12 hk6 hq6 y0 y1 y2 y3 p0
                by_cases hkk : kk = 0
                · have hq0 := hk0 hkk
                  have hz : (kk == 0) = true := by rw [beq_iff_eq]; exact hkk
                  have gq : IntKind.i64.wrap q = q := IntWalk.i64_in _ (by omega)
                  replace hq0 := hq0.symm
                  clear hkk hk0
                  go_wp2_with fail
                  go_roundw
                  case rel => exact ⟨j + 1, by omega, by go_num, HB12.out⟩
                  case measure => simp [intOf]; omega
                · have hz : (kk == 0) = false := by rw [beq_eq_false_iff_ne]; exact hkk
                  clear hkk hk0
                  go_wp2_with fail
                  go_roundw
                  case rel => exact ⟨j + 1, by omega, by go_num, HB12.out⟩
                  case measure => simp [intOf]; omega
              · obtain rfl : M = j := by omega
                have hjl' : ¬ (M : Int) < (M : Int) := by omega
                have T12 := Lib.hid (T11.out.below HB.out)
                go_wp2_with fail
                go_roundw
                case rel => exact ⟨k + 1, t2, m3, ga', gc', by omega, by go_num, rfl, rfl, Lib.hid (by have := hHT2.out; push_cast; omega), HM3, by rw [HE.out]; exact T12.out⟩
                case measure => simp [intOf]; omega
          · obtain rfl : n3 = k := by omega
            have hlt' : ¬ (n3 : Int) < (n3 : Int) := by omega
            have gt : IntKind.i64.wrap (t + -5) = t + -5 := IntWalk.i64_in _ (by have := HT.out; omega)
            have gt2 : IntKind.i64.wrap (t - 5) = t - 5 := IntWalk.i64_in _ (by have := HT.out; omega)
            by_cases hno : 1000000 < t - 5
            · go_wp2_with fail
              refine (awake_calls _).mono ?_
              rintro e w8 ⟨rfl, hb8⟩
              go_wp2_with fail
              go_ret
              exact ⟨rfl, T8.out.bel.then hb8⟩
            obtain ⟨F, hF⟩ : ∃ F, Z.takeWhile (upTo t) = F := ⟨_, rfl⟩
            obtain ⟨E, hE⟩ : ∃ E, Z.dropWhile (upTo t) = E := ⟨_, rfl⟩
            have hmle : m2 ≤ m := by
              rw [← HM.out, ← ZL.out]
              exact (List.takeWhile_sublist _).length_le
            have hFE : F.length + E.length = m := by
              rw [← hF, ← hE, ← List.length_append, List.takeWhile_append_dropWhile, ZL.out]
            have hFl : F.length = m2 := by rw [← hF, HM.out]
            have hadv := T8.out.call2 (f := 13) (args := #[.pointer (some ⟨X2, 0, none⟩), .int .i64 t]) (Q1 := CN E t) (Q := fun e w' => ∃ v, e = .returned (.tuple #[v, .int .i64 0]) ∧ w'.ownsRow wr.heap.size 33 2 v F.length (F.flatMap encF)) fun R W hw hp => by
              have := adv_w hw hp ZS.out (by have := ZL.out; omega) t (by have := HT.out; omega) (by have := HT.out; omega)
              rw [hF, hE] at this
              exact this
            rw [hF, hE] at hadv
            have HADV := Lib.hid hadv
            have HF := Lib.hid hF
            have HE := Lib.hid hE
            have HFE := Lib.hid hFE
            have HFL := Lib.hid hFl
            have HMLE := Lib.hid hmle
            clear hF hE hadv hFE hFl hmle
            go_wp2_with fail
            refine HADV.out.mono ?_
            rintro e w8 ⟨⟨u, rfl, hu⟩, T9, -⟩
            have T10 := Lib.hid T9
            obtain ⟨ua, uc, rfl⟩ := own_form hu
            have hg := T9.got
            have heq := equalF_calls (.slice ga m2 gc) (.slice ua F.length uc) F F w8 (RowF.own hg) (RowF.own hu) (by have := HFL.out; have := HMLE.out; omega)
            rw [beq_self_eq_true] at heq
            have HU := Lib.hid hu
            have HEQ := Lib.hid heq
            have hFl := HFL.out
            rw [hFl]
            rw [hFl] at HEQ
            clear hu hg heq T9 HADV T8 hFl
            go_wp2_with fail
            refine HEQ.out.mono ?_
            rintro e w9 ⟨rfl, hb9⟩
            have T11 := Lib.hid (T10.out.below hb9)
            have HU2 := Lib.hid (own_below HU.out hb9)
            clear hb9 HU HEQ T10
            go_wp2_with fail
            go_loopw [221, 31] (fun i vn wr2 => ∃ j : Nat, j ≤ m ∧ i = .int .i64 (j : Int) ∧ vn = .int .i64 ((min j m2 : Nat) : Int) ∧ Below w9.heap.size w9 wr2) (fun i _ _ => m - (intOf i).toNat)
            case atStart => exact ⟨0, Nat.zero_le _, rfl, by simp, Below.refl _ _⟩
            case round =>
              obtain ⟨j, hj, rfl, rfl, hb⟩ := hrel
              have HB := Lib.hid hb
              clear hb
              by_cases hjl : j < m
              · obtain ⟨⟨a, b⟩, hab⟩ : ∃ p, Z[j]? = some p := ⟨_, List.getElem?_eq_getElem (by have := ZL.out; omega)⟩
                obtain ⟨g, o, cap, hf, y0, y1⟩ := SlF.at (SlV.of_owns T11.out.row) hab
                simp only [Value.slice.injEq] at hf
                obtain ⟨rfl, -, rfl⟩ := hf
                replace y0 := HB.out.at_cell y0
                replace y1 := HB.out.at_cell y1
                obtain ⟨in1, in2⟩ := take_at (upTo t) hab
                rw [HF.out, HFL.out] at in1
                rw [HF.out, HFL.out, HE.out] at in2
                have hjl' : (j : Int) < (m : Int) := by omega
                obtain ⟨W7, hW7⟩ : ∃ W7, wr.alloc (.cells #[.int .i64 a, .int .i64 b] 122) = W7 := ⟨_, rfl⟩
                obtain ⟨m7, hm7⟩ : ∃ m7, wr.heap.size = m7 := ⟨_, rfl⟩
                have g7 : W7.heap[m7]? = some (.cells #[.int .i64 a, .int .i64 b] 122 (0, 0)) := by rw [← hW7, ← hm7]; exact heap_alloc_new _ _
                have p0 : W7.cell? ⟨m7, 0, none⟩ = some (.int .i64 a) := cells_of_row g7 0 _ rfl
                have p1 : W7.cell? ⟨m7, 1, none⟩ = some (.int .i64 b) := cells_of_row g7 1 _ rfl
                have HB7 : Hid (Below w9.heap.size w9 W7) := Lib.hid (by rw [← hW7]; exact HB.out.alloc HB.out.size _)
                have HW7 := Lib.hid hW7
                have HM7 := Lib.hid hm7
                by_cases hjm : j < m2
                · obtain ⟨in3, in4⟩ := in1 hjm
                  have hle : b ≤ t := by simpa [upTo] using in4
                  obtain ⟨g2, o2, cap2, hf2, z0, z1⟩ := SlF.at (SlV.of_owns HU2.out) in3
                  rw [HFL.out] at hf2
                  simp only [Value.slice.injEq] at hf2
                  obtain ⟨rfl, -, rfl⟩ := hf2
                  replace z0 := HB7.out.at_cell z0
                  replace z1 := HB7.out.at_cell z1
                  rw [Nat.min_eq_left (Nat.le_of_lt hjm)]
                  have hjm' : ¬ (m2 : Int) ≤ (j : Int) := by omega
                  have hne := neq33
                  clear in1 in2 in3 in4 hab hW7 hm7 g7
                  go_upto_region 55 with (fail)
                  rw [HW7.out, HM7.out]
                  go_quiet (fail)
                  go_wp2_with fail
                  go_roundw
                  case rel => exact ⟨j + 1, by omega, by go_num, by rw [Nat.min_eq_left (by omega)]; go_num, HB7.out.trans (below_drewN _ _ _)⟩
                  case measure => simp [intOf]; omega
                · have in5 := in2 hjm
                  rw [← HE.out] at in5
                  have hgt := drop_all ZS.out (a, b) in5
                  simp only at hgt
                  have hle : ¬ b ≤ t := by omega
                  rw [Nat.min_eq_right (by omega)]
                  clear in1 in2 in5 hgt hab hW7 hm7 g7
                  go_wp2_with fail
                  go_roundw
                  case rel => exact ⟨j + 1, by omega, by go_num, by rw [Nat.min_eq_right (by omega)], by rw [HW7.out]; exact HB7.out⟩
                  case measure => simp [intOf]; omega
              · obtain rfl : m = j := by omega
                have hjl' : ¬ (m : Int) < (m : Int) := by omega
                rw [Nat.min_eq_right HMLE.out]
                have T12 := Lib.hid (T11.out.below HB.out)
                obtain ⟨e', he'⟩ : ∃ e', E.length = e' := ⟨_, rfl⟩
                have hme : (m : Int) = (m2 : Int) + (e' : Int) := by
                  have h1 := HFE.out
                  rw [HFL.out, he'] at h1
                  omega
                have gs : IntKind.i64.wrap ((m : Int) - (m2 : Int)) = (e' : Int) := by
                  rw [show (m : Int) - (m2 : Int) = (e' : Int) by omega]
                  exact IntWalk.i64_in _ (by omega)
                have HE' := Lib.hid he'
                clear he' hme
                go_wp2_with fail
                refine T12.out.timers.mono ?_
                rintro e w12 ⟨u, rfl, hu, hb12⟩
                obtain ⟨ua', uc', rfl⟩ := own_form hu
                rw [HE'.out]
                have BT := Lib.hid (T12.out.bel.then hb12)
                clear hu hb12
                go_wp2_with fail
                refine (awake_calls _).mono ?_
                rintro e w13 ⟨rfl, hb13⟩
                go_wp2_with fail
                go_ret
                exact ⟨rfl, BT.out.then hb13⟩
end Go.Proofs.Ytddajaikighjlaa
