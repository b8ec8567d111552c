/- The reference's Set 16. -/
import Derived.Test.YtddajaikighjlaaRe
namespace Go.Proofs.Ytddajaikighjlaa
open Go.RowKit Go.Sl Go.Mp Go.Wh

theorem any_no {L : List Rt} {id : Int} (h : ∀ u ∈ L, u.t.id ≠ id) : ¬ (L.any fun e => e.t.id == id) = true := by
  rw [List.any_eq_true]
  rintro ⟨e, he, h1⟩
  exact h e he (by simpa using h1)

set_option maxRecDepth 100000 in
set_option maxHeartbeats 8000000 in
theorem rset_calls (time : Int) (v : Value) (ord : Int) (L : List Rt) (id when iv : Int) (w : World) (h : SlR w v L) (ho : 0 ≤ ord ∧ ord < 4611686018427387904) (hn : L.length ≤ 1000) :
    Calls Try.prog 16 #[rwV time v ord, .int .i64 id, .int .i64 when, .int .i64 iv] w fun e w' => ∃ v', e = .returned (.tuple #[rwV time v' (rsetS time ord L id when iv).1.2, .int .i64 (rsetS time ord L id when iv).2]) ∧ SlR w' v' (rsetS time ord L id when iv).1.1 ∧ Below w.heap.size w w' := by
  obtain ⟨a, c, rfl⟩ := h.form
  obtain ⟨n, hn2⟩ : ∃ n, L.length = n := ⟨_, rfl⟩
  rw [hn2] at hn h ⊢
  have HN := Lib.hid hn2
  have H := Lib.hid h
  obtain ⟨w1, hw1⟩ : ∃ w1, (w.alloc (.cells #[.int .i64 time, .slice a n c, .int .i64 ord] 40)).alloc (.cells #[.int .i64 0, .slice none 0 0, .int .i64 0] 40) = w1 := ⟨_, rfl⟩
  have hb1 : Below w.heap.size w w1 := by rw [← hw1]; exact ((Below.refl w.heap.size w).alloc (Nat.le_refl _) _).alloc (by simp) _
  have hz1 : w1.heap.size = w.heap.size + 2 := by rw [← hw1]; simp
  have g0 : w1.heap[w.heap.size]? = some (.cells #[.int .i64 time, .slice a n c, .int .i64 ord] 40 (0, 0)) := by
    rw [← hw1]
    exact (heap_alloc_old _ _ _ (by simp)).trans (heap_alloc_new _ _)
  have g1 : w1.heap[w.heap.size + 1]? = some (.cells #[.int .i64 0, .slice none 0 0, .int .i64 0] 40 (0, 0)) := by
    rw [← hw1]
    exact heap_alloc_new (w.alloc (.cells #[.int .i64 time, .slice a n c, .int .i64 ord] 40)) _ |> fun h => by simpa using h
  have B1 := Lib.hid hb1
  have Z1 := Lib.hid hz1
  have G0 := Lib.hid g0
  have G1 := Lib.hid g1
  obtain ⟨x0, x1, x2, xf⟩ := row3 g0
  obtain ⟨z0, z1, z2, zf⟩ := row3 g1
  obtain ⟨r, hr⟩ : ∃ r, rsetS time ord L id when iv = r := ⟨_, rfl⟩
  rw [hr]
  unfold rwV
  have early : ∀ wr, Below w1.heap.size w1 wr → (((wr.setCell ⟨w.heap.size + 1, 0, none⟩ (.int .i64 time)).setCell ⟨w.heap.size + 1, 1, none⟩ (.slice a n c)).setCell ⟨w.heap.size + 1, 2, none⟩ (.int .i64 ord)).heap[w.heap.size + 1]? = some (.cells #[.int .i64 time, .slice a n c, .int .i64 ord] 40 (0, 0)) ∧
      Below w.heap.size w (((wr.setCell ⟨w.heap.size + 1, 0, none⟩ (.int .i64 time)).setCell ⟨w.heap.size + 1, 1, none⟩ (.slice a n c)).setCell ⟨w.heap.size + 1, 2, none⟩ (.int .i64 ord)) := fun wr hb =>
    ⟨(fill3 (row_n2 hb G1.out) _ _ _).1, below_fill3 (B1.out.trans (hb.mono B1.out.size)) (by omega) _ _ _⟩
  have EA := Lib.hid early
  clear hn2 hb1 hz1 g0 g1 early h
  by_cases c1 : id < 0
  · have er : r = ((L, ord), 1) := by rw [← hr]; unfold rsetS; rw [if_pos (Or.inl c1)]
    subst er
    clear hr
    go_enter Try.func16, Try.ntmps16
    go_wp2_with fail
    refine bodyPost_ret (results_cell2 rfl _ _ (w.heap.size + 1) 40 _ (0, 0) _ rfl (EA.out _ (Below.refl _ _)).1 Try.underlying40 size40) rfl ?_
    exact ⟨_, rfl, H.out.below (EA.out _ (Below.refl _ _)).2, (EA.out _ (Below.refl _ _)).2⟩
  by_cases c2 : iv < 0
  · have er : r = ((L, ord), 1) := by rw [← hr]; unfold rsetS; rw [if_pos (Or.inr c2)]
    subst er
    clear hr
    go_enter Try.func16, Try.ntmps16
    go_wp2_with fail
    refine bodyPost_ret (results_cell2 rfl _ _ (w.heap.size + 1) 40 _ (0, 0) _ rfl (EA.out _ (Below.refl _ _)).1 Try.underlying40 size40) rfl ?_
    exact ⟨_, rfl, H.out.below (EA.out _ (Below.refl _ _)).2, (EA.out _ (Below.refl _ _)).2⟩
  by_cases c3 : 1099511627776 < when
  · have er : r = ((L, ord), 3) := by rw [← hr]; unfold rsetS; rw [if_neg (by omega), if_pos (Or.inl c3)]
    subst er
    clear hr
    go_enter Try.func16, Try.ntmps16
    go_wp2_with fail
    refine bodyPost_ret (results_cell2 rfl _ _ (w.heap.size + 1) 40 _ (0, 0) _ rfl (EA.out _ (Below.refl _ _)).1 Try.underlying40 size40) rfl ?_
    exact ⟨_, rfl, H.out.below (EA.out _ (Below.refl _ _)).2, (EA.out _ (Below.refl _ _)).2⟩
  by_cases c4 : 1099511627776 < iv
  · have er : r = ((L, ord), 3) := by rw [← hr]; unfold rsetS; rw [if_neg (by omega), if_pos (Or.inr c4)]
    subst er
    clear hr
    go_enter Try.func16, Try.ntmps16
    go_wp2_with fail
    refine bodyPost_ret (results_cell2 rfl _ _ (w.heap.size + 1) 40 _ (0, 0) _ rfl (EA.out _ (Below.refl _ _)).1 Try.underlying40 size40) rfl ?_
    exact ⟨_, rfl, H.out.below (EA.out _ (Below.refl _ _)).2, (EA.out _ (Below.refl _ _)).2⟩
  have HR := Lib.hid (show r = if (L.any fun e => e.t.id == id) = true then ((L, ord), 6) else if L.length = 1000 then ((L, ord), 8) else if when ≤ time then ((L, ord), 330) else ((addR L ⟨⟨id, when, iv, ord⟩, time⟩, ord + 1), 0) by
    rw [← hr]; unfold rsetS; rw [if_neg (by omega), if_neg (by omega)])
  clear hr
  go_enter Try.func16, Try.ntmps16
  go_wp2_with fail
  clear hw1 x0 x1 x2 xf z0 z1 z2 zf
  go_loopw [10] (fun i wr => ∃ k : Nat, k ≤ n ∧ i = .int .i64 (k : Int) ∧ (∀ u ∈ L.take k, u.t.id ≠ id) ∧ wr = w1) (fun i _ => n - (intOf i).toNat)
  case atStart => exact ⟨0, Nat.zero_le _, rfl, (fun _ hu => by simp at hu), rfl⟩
  case round =>
    obtain ⟨k, hk, rfl, hno, rfl⟩ := hrel
    have HNO := Lib.hid hno
    obtain ⟨x0, x1, x2, xf⟩ := row3 G0.out
    obtain ⟨z0, z1, z2, zf⟩ := row3 G1.out
    clear hno
    by_cases hlt : k < n
    · obtain ⟨u, hu⟩ : ∃ u, L[k]? = some u := ⟨_, List.getElem?_eq_getElem (by have := HN.out; omega)⟩
      have h0 := H.out
      rw [← HN.out] at h0
      obtain ⟨g, o, cap, hf, y0, -⟩ := h0.at hu
      rw [HN.out] at hf
      simp only [Value.slice.injEq] at hf
      obtain ⟨rfl, -, rfl⟩ := hf
      replace y0 := B1.out.at_cell y0
      have hlt' : (k : Int) < (n : Int) := by omega
      have HU := Lib.hid hu
      clear h0 hu
      by_cases hid : u.t.id = id
      · have HID := Lib.hid hid
        rw [hid] at y0
        clear hid
        go_wp2_with fail
        refine bodyPost_ret (results_cell2 rfl _ _ (w.heap.size + 1) 40 _ (0, 0) _ rfl (EA.out _ (Below.refl _ _)).1 Try.underlying40 size40) rfl ?_
        have er : r = ((L, ord), 6) := by rw [HR.out, if_pos (List.any_eq_true.2 ⟨u, List.mem_of_getElem? HU.out, by simp [HID.out]⟩)]
        rw [er]
        exact ⟨_, rfl, H.out.below (EA.out _ (Below.refl _ _)).2, (EA.out _ (Below.refl _ _)).2⟩
      · obtain ⟨uid, hui⟩ : ∃ x, u.t.id = x := ⟨_, rfl⟩
        rw [hui] at y0 hid
        have HUI := Lib.hid hui
        clear hui
        go_wp2_with fail
        go_roundw
        case rel =>
          refine ⟨k + 1, by omega, by go_num, fun x hx => ?_, by first | trivial | rfl⟩
          rw [List.take_add_one, HU.out] at hx
          simp only [Option.toList_some, List.mem_append, List.mem_singleton] at hx
          rcases hx with hx | rfl
          · exact HNO.out x hx
          · rw [HUI.out]; exact hid
        case measure => simp [intOf]; omega
    · have hke : k = n := by omega
      subst hke
      have hlt' : ¬ (k : Int) < (k : Int) := by omega
      have hnn : ∀ u ∈ L, u.t.id ≠ id := by
        have := HNO.out
        rw [List.take_of_length_le (by rw [HN.out]; exact Nat.le_refl _)] at this
        exact this
      have hr := HR.out
      rw [if_neg (any_no hnn), HN.out] at hr
      clear hnn
      by_cases c5 : k = 1000
      · rw [if_pos c5] at hr
        have HR2 := Lib.hid hr
        have c5' : (k : Int) = 1000 := by omega
        clear hr c5
        go_wp2_with fail
        refine bodyPost_ret (results_cell2 rfl _ _ (w.heap.size + 1) 40 _ (0, 0) _ rfl (EA.out _ (Below.refl _ _)).1 Try.underlying40 size40) rfl ?_
        rw [HR2.out]
        exact ⟨_, rfl, H.out.below (EA.out _ (Below.refl _ _)).2, (EA.out _ (Below.refl _ _)).2⟩
      rw [if_neg c5] at hr
      have c5' : ((k : Int) == 1000) = false := by rw [beq_eq_false_iff_ne]; omega
      by_cases c6 : when ≤ time
      · rw [if_pos c6] at hr
        have HR2 := Lib.hid hr
        clear hr
        go_wp2_with fail
        refine bodyPost_ret (results_cell2 rfl _ _ (w.heap.size + 1) 40 _ (0, 0) _ rfl (EA.out _ (Below.refl _ _)).1 Try.underlying40 size40) rfl ?_
        rw [HR2.out]
        exact ⟨_, rfl, H.out.below (EA.out _ (Below.refl _ _)).2, (EA.out _ (Below.refl _ _)).2⟩
      rw [if_neg c6] at hr
      have HR2 := Lib.hid hr
      have hcall := add_calls (.slice a k c) L ⟨⟨id, when, iv, ord⟩, time⟩ wr (H.out.below B1.out) (by rw [HN.out]; omega)
      unfold rtV at hcall
      simp only at hcall
      rw [HN.out] at hcall
      clear hr
      go_wp2_with fail
      refine hcall.mono ?_
      rintro e w2 ⟨v', rfl, hown, hb2⟩
      obtain ⟨a', c', rfl⟩ := own_form hown
      have hg0 := row_n2 hb2 G0.out
      have hg1 := row_n2 hb2 G1.out
      obtain ⟨x0, x1, x2, xf⟩ := row3 hg0
      obtain ⟨z0, z1, z2, zf⟩ := row3 hg1
      have HB2 := Lib.hid (B1.out.trans (hb2.mono B1.out.size))
      have HG0 := Lib.hid hg0
      have HG1 := Lib.hid hg1
      have HO := Lib.hid hown
      have ne1 : ¬ w.heap.size = w.heap.size + 1 := by omega
      have ne2 : ¬ w.heap.size + 1 = w.heap.size := by omega
      clear hcall hown hb2 hg0 hg1
      go_wp2_with fail
      have k1 := (Below.heap_setCell (w2.setCell ⟨w.heap.size, 1, none⟩ (.slice a' (k + 1) c')) ⟨w.heap.size, 2, none⟩ (.int .i64 (ord + 1)) (w.heap.size + 1) ne2).trans ((Below.heap_setCell w2 ⟨w.heap.size, 1, none⟩ (.slice a' (k + 1) c') (w.heap.size + 1) ne2).trans HG1.out)
      have hf := fill3 k1 (.int .i64 time) (.slice a' (k + 1) c') (.int .i64 (ord + 1))
      refine bodyPost_ret (results_cell2 rfl _ _ (w.heap.size + 1) 40 _ (0, 0) _ rfl hf.1 Try.underlying40 size40) rfl ?_
      rw [HR2.out]
      refine ⟨_, rfl, ?_, ?_⟩
      · refine SlR.of_owns (own_same HO.out fun g hg => ?_)
        have hge := (HO.out.lt g hg).1
        have hz := Z1.out
        rw [hf.2.2 g (by omega), Below.heap_setCell _ ⟨w.heap.size, 2, none⟩ _ g (by simp only; omega), Below.heap_setCell _ ⟨w.heap.size, 1, none⟩ _ g (by simp only; omega)]
      · exact below_fill3 ((HB2.out.setCell (p := ⟨w.heap.size, 1, none⟩) (Nat.le_refl _) _).setCell (p := ⟨w.heap.size, 2, none⟩) (Nat.le_refl _) _) (by omega) _ _ _
end Go.Proofs.Ytddajaikighjlaa
