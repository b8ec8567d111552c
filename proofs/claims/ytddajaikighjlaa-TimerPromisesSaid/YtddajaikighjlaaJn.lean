/- Join 33 of the program. -/
import Derived.Test.YtddajaikighjlaaPh
namespace Go.Proofs.Ytddajaikighjlaa
open Go.RowKit Go.Sl Go.Mp

theorem joinS_wt (l : List Pr) : (joinS l).1.wt = [] := by
  unfold joinS
  split
  · rfl
  · split
    · rfl
    · split <;> rfl
theorem set0 {w : World} {b : Nat} {t : TypeId} {x y z : Value} (h : w.heap[b]? = some (.cells #[x, y, z] t (0, 0))) (p : Value) : (w.setCell ⟨b, 0, none⟩ p).heap[b]? = some (.cells #[p, y, z] t (0, 0)) := heap_setCell_same w b 0 _ t p h
theorem set1 {w : World} {b : Nat} {t : TypeId} {x y z : Value} (h : w.heap[b]? = some (.cells #[x, y, z] t (0, 0))) (p : Value) : (w.setCell ⟨b, 1, none⟩ p).heap[b]? = some (.cells #[x, p, z] t (0, 0)) := heap_setCell_same w b 1 _ t p h

set_option maxRecDepth 100000 in
set_option maxHeartbeats 4000000 in
theorem join_calls (v : Value) (l : List Pr) (w : World) (h : RowP w v l) (hn : l.length ≤ 1000000) : Calls Try.prog 33 #[v] w fun e w' => e = .returned (.tuple #[prV (joinS l).1 (.slice none 0 0), .int .i64 (joinS l).2]) ∧ Below w.heap.size w w' := by
  obtain ⟨a, c, rfl, hc⟩ := h
  have HC := Lib.hid hc
  obtain ⟨n, hn2⟩ : ∃ n, l.length = n := ⟨_, rfl⟩
  rw [hn2] at hn ⊢
  have HN := Lib.hid hn2
  obtain ⟨w1, hw1⟩ : ∃ w1, w.alloc (.cells #[.int .i64 0, .int .i64 0, .slice none 0 0] 60) = w1 := ⟨_, rfl⟩
  have hb1 : Below w.heap.size w w1 := by rw [← hw1]; exact (Below.refl w.heap.size w).alloc (Nat.le_refl _) _
  have hz1 : w1.heap.size = w.heap.size + 1 := by rw [← hw1]; simp
  have g0 : w1.heap[w.heap.size]? = some (.cells #[.int .i64 0, .int .i64 0, .slice none 0 0] 60 (0, 0)) := by
    rw [← hw1]
    exact heap_alloc_new _ _
  have B1 := Lib.hid hb1
  have Z1 := Lib.hid hz1
  have G0 := Lib.hid g0
  clear hc hn2 hb1 hz1 g0
  go_enter Try.func33, Try.ntmps33
  go_wp2_with fail
  go_loopw [12] (fun i wr => ∃ kk : Nat, kk ≤ n ∧ i = .int .i64 (kk : Int) ∧ Right l kk ∧ Below w1.heap.size w1 wr) (fun i _ => n - (intOf i).toNat)
  case atStart => exact ⟨0, Nat.zero_le _, rfl, Right.zero l, Below.refl _ _⟩
  case round =>
    obtain ⟨kk, hk, rfl, hR, hbel⟩ := hrel
    have HR := Lib.hid hR
    have HB := Lib.hid hbel
    clear hR
    by_cases hlt : kk < n
    · obtain ⟨p, hp⟩ : ∃ p, l[kk]? = some p := ⟨_, List.getElem?_eq_getElem (by have := HN.out; omega)⟩
      obtain ⟨g, o, sv, rfl, x0, x1, x2, hs⟩ := HC.out kk p hp
      have HP := Lib.hid hp
      have hbw := B1.out.trans (hbel.mono B1.out.size)
      replace x0 := hbw.at_cell x0
      replace x1 := hbw.at_cell x1
      replace x2 := hbw.at_cell x2
      replace hs := hs.below hbw
      have gl := World.block_lt_of_cell? wr _ x0
      have gn : ¬ g = wr.heap.size := Nat.ne_of_lt gl
      have hlt' : (kk : Int) < (n : Int) := by omega
      obtain ⟨ca, cc, rfl⟩ := hs.form
      have hb2 := hbel.alloc hbel.size (.cells #[.int .i64 p.ph, .int .i64 p.val, .slice ca p.wt.length cc] 60)
      have hck := check_calls p (.slice ca p.wt.length cc) (wr.alloc (.cells #[.int .i64 p.ph, .int .i64 p.val, .slice ca p.wt.length cc] 60)) ⟨_, _, rfl⟩
      have HB2 := Lib.hid hb2
      obtain ⟨E, hE⟩ : ∃ E, okP p = E := ⟨_, rfl⟩
      rw [hE] at hck
      have HE := Lib.hid hE
      obtain ⟨ph, val, wt⟩ := p
      unfold prV at hck
      simp only at hck x0 x1 x2 HB2
      clear hp hbel hb2 hs hbw hE
      by_cases h0 : E = 0
      · subst h0
        go_wp2_with fail
        refine hck.mono ?_
        rintro e w2 ⟨rfl, hb2⟩
        have HB3 := Lib.hid (HB2.out.then hb2)
        clear hck hb2
        go_wp2_with fail
        go_roundw
        case rel => exact ⟨kk + 1, by omega, by go_num, HR.out.succ HP.out HE.out, HB3.out⟩
        case measure => simp [intOf]; omega
      · go_wp2_with fail
        refine hck.mono ?_
        rintro e w2 ⟨rfl, hb2⟩
        have hb3 := HB2.out.then hb2
        have z0 := (hb3.block w.heap.size (by have := Z1.out; omega)).trans G0.out
        obtain ⟨e0, e1, e2, f0⟩ := row3 z0
        have Y0 := Lib.hid z0
        have HB3 := Lib.hid (B1.out.trans (hb3.mono B1.out.size))
        clear hck hb2 hb3 z0
        go_wp2_with fail
        refine bodyPost_ret (results_cell2 rfl _ _ w.heap.size 60 _ (0, 0) _ rfl (fill3 Y0.out _ _ _).1 Try.underlying60 size60) rfl ?_
        refine ⟨?_, below_fill3 HB3.out (Nat.le_refl _) _ _ _⟩
        have h2 := HE.out
        rw [joinS_bad HP.out (by rw [h2]; exact h0)]
        rw [← okP_two (p := ⟨ph, val, wt⟩) (by rw [h2]; exact h0), h2]
        rfl
    · have hke : kk = n := by omega
      subst hke
      have hlt' : ¬ (kk : Int) < (kk : Int) := by omega
      have hall := HR.out.all HN.out.symm
      have HALL := Lib.hid hall
      obtain ⟨w2, hw2⟩ : ∃ w2, wr.alloc (.cells #[.int .i64 1, .int .i64 0, .slice none 0 0] 60) = w2 := ⟨_, rfl⟩
      have hb2 : Below w1.heap.size w1 w2 := by rw [← hw2]; exact hbel.alloc hbel.size _
      have g7 : w2.heap[wr.heap.size]? = some (.cells #[.int .i64 1, .int .i64 0, .slice none 0 0] 60 (0, 0)) := by rw [← hw2]; exact heap_alloc_new _ _
      have hz2 : w2.heap.size = wr.heap.size + 1 := by rw [← hw2]; simp
      have HB2 := Lib.hid hb2
      have G7 := Lib.hid g7
      have Z2 := Lib.hid hz2
      clear hall hb2 g7 hz2 hbel
      obtain ⟨m, hm⟩ : ∃ m, wr.heap.size = m := ⟨_, rfl⟩
      have hm1 : w1.heap.size ≤ m := by rw [← hm]; exact HB.out.size
      have G7' := G7.out
      have Z2' := Z2.out
      rw [hm] at G7' Z2'
      have HW2 := Lib.hid hw2
      have HMM := Lib.hid hm
      clear hw2 hm
      go_wp2_with fail
      rw [HW2.out, HMM.out]
      clear G7 Z2 HW2 HB HMM hlt hlt' hk
      have G7 := Lib.hid G7'
      have Z2 := Lib.hid Z2'
      have HM := Lib.hid hm1
      clear G7' Z2' hm1
      trace_state
      go_loopw [26] (fun i wr => ∃ k2 : Nat, k2 ≤ kk ∧ i = .int .i64 (k2 : Int) ∧ rejS l k2 = none ∧ wr.heap[m]? = some (.cells #[.int .i64 (if opS l k2 then 0 else 1), .int .i64 (sumW (l.take k2)), .slice none 0 0] 60 (0, 0)) ∧ Below w1.heap.size w1 wr) (fun i _ => kk - (intOf i).toNat)
      case atStart => exact ⟨0, Nat.zero_le _, rfl, rfl, G7.out, HB2.out⟩
      case round =>
        obtain ⟨k2, hk2, rfl, hrej, hrow, hbel⟩ := hrel
        have HJ := Lib.hid hrej
        have HROW := Lib.hid hrow
        obtain ⟨y0, y1, y2, yf⟩ := row3 hrow
        have HB := Lib.hid hbel
        have mlt := (Array.getElem?_eq_some_iff.1 hrow).1
        clear hrej hrow
        by_cases hlt : k2 < kk
        · obtain ⟨p, hp⟩ : ∃ p, l[k2]? = some p := ⟨_, List.getElem?_eq_getElem (by have := HN.out; omega)⟩
          obtain ⟨g, o, sv, rfl, x0, x1, x2, hs⟩ := HC.out k2 p hp
          have HP := Lib.hid hp
          have hbw := B1.out.trans (hbel.mono B1.out.size)
          have gm : g < m := by have := World.block_lt_of_cell? w _ x0; have := Z1.out; have := HM.out; simp only at *; omega
          have gm1 : ¬ g = m := Nat.ne_of_lt gm
          have gm2 : ¬ m = g := Nat.ne_of_gt gm
          replace x0 := hbw.at_cell x0
          replace x1 := hbw.at_cell x1
          replace x2 := hbw.at_cell x2
          replace hs := hs.below hbw
          have gl := World.block_lt_of_cell? wr _ x0
          have gn : ¬ g = wr.heap.size := Nat.ne_of_lt gl
          have gn1 : ¬ m = wr.heap.size := Nat.ne_of_lt mlt
          have gn2 : ¬ wr.heap.size = m := Nat.ne_of_gt mlt
          have hlt' : (k2 : Int) < (kk : Int) := by omega
          have hos := opS_succ hp
          have hrs := rejS_succ hp
          have hss := sumW_succ hp
          rw [HJ.out] at hrs
          obtain ⟨ca, cc, rfl⟩ := hs.form
          obtain ⟨ph, val, wt⟩ := p
          simp only at x0 x1 x2 hos hrs hss
          have HOS := Lib.hid hos
          have HRS := Lib.hid hrs
          have HSS := Lib.hid hss
          clear hs hp hbel hbw hos hrs hss
          by_cases h2 : ph = 2
          · subst h2
            have z0 := (HB.out.block w.heap.size (by have := Z1.out; omega)).trans G0.out
            obtain ⟨e0, e1, e2, f0⟩ := row3 z0
            have Y0 := Lib.hid z0
            have q1 : w.heap.size < wr.heap.size := (Array.getElem?_eq_some_iff.1 z0).1
            have q2 : ¬ w.heap.size = wr.heap.size := Nat.ne_of_lt q1
            have q3 : ¬ wr.heap.size = w.heap.size := Nat.ne_of_gt q1
            have q4 : ¬ w.heap.size = m := by have := Z1.out; have := HM.out; omega
            clear z0
            go_wp2_with fail
            refine bodyPost_ret (results_cell2 rfl _ _ w.heap.size 60 _ (0, 0) _ rfl ((heap_alloc_old _ _ (by rw [(fill3 Y0.out _ _ _).2.1]; exact q1)).trans (fill3 Y0.out _ _ _).1) Try.underlying60 size60) rfl ?_
            refine ⟨?_, ?_⟩
            · rw [joinS_rej HALL.out HP.out rfl HJ.out]
              rfl
            · have hB := below_fill3 (B1.out.trans (HB.out.mono B1.out.size)) (b := w.heap.size) (Nat.le_refl _) (.int .i64 2) (.int .i64 val) (.slice none 0 0)
              exact hB.alloc hB.size _
          · have hrs2 : rejS l (k2 + 1) = none := by rw [HRS.out, if_neg h2]; rfl
            have HRS2 := Lib.hid hrs2
            clear hrs2
            by_cases h0 : ph = 0
            · subst h0
              go_wp2_with fail
              go_roundw
              case rel =>
                refine ⟨k2 + 1, by omega, by go_num, HRS2.out, ?_, ?_⟩
                · rw [HOS.out, HSS.out]
                  simp only [decide_true, Bool.or_true, if_true]
                  refine (heap_alloc_old _ _ (by simpa using mlt)).trans ?_
                  exact set1 (set0 HROW.out _) _
                · have hB := (HB.out.setCell (p := ⟨m, 0, none⟩) HM.out (.int .i64 0)).setCell (p := ⟨m, 1, none⟩) HM.out (.int .i64 (wrap64 (sumW (l.take k2) + val)))
                  exact hB.alloc hB.size _
              case measure => simp [intOf]; omega
            · go_wp2_with fail
              go_roundw
              case rel =>
                refine ⟨k2 + 1, by omega, by go_num, HRS2.out, ?_, ?_⟩
                · rw [HOS.out, HSS.out]
                  simp only [h0, decide_false, Bool.or_false]
                  refine (heap_alloc_old _ _ (by simpa using mlt)).trans ?_
                  exact set1 HROW.out _
                · have hB := HB.out.setCell (p := ⟨m, 1, none⟩) HM.out (.int .i64 (wrap64 (sumW (l.take k2) + val)))
                  exact hB.alloc hB.size _
              case measure => simp [intOf]; omega
        · have hke : k2 = kk := by omega
          subst hke
          have hlt' : ¬ (k2 : Int) < (k2 : Int) := by omega
          have hjs : joinS l = if opS l k2 then (pr0, 0) else (⟨1, sumW (l.take k2), []⟩, 0) := by
            unfold joinS opS
            rw [if_neg (by rw [HALL.out]; simp)]
            have := HJ.out
            unfold rejS at this
            have ht : l.take k2 = l := List.take_of_length_le (by rw [HN.out]; exact Nat.le_refl _)
            rw [ht] at this ⊢
            rw [this]
          have HJS := Lib.hid hjs
          have z0 := (HB.out.block w.heap.size (by have := Z1.out; omega)).trans G0.out
          obtain ⟨e0, e1, e2, f0⟩ := row3 z0
          have Y0 := Lib.hid z0
          have q4 : ¬ w.heap.size = m := by have := Z1.out; have := HM.out; omega
          have q5 : ¬ m = w.heap.size := fun e => q4 e.symm
          have HBW := Lib.hid (B1.out.trans (HB.out.mono B1.out.size))
          clear z0 hbel hjs
          cases hop : opS l k2
          · rw [hop] at y0
            have HOP := Lib.hid hop
            simp only [Bool.false_eq_true, if_false] at y0
            clear hop
            go_wp2_with fail
            refine bodyPost_ret (results_cell2 rfl _ _ w.heap.size 60 _ (0, 0) _ rfl (fill3 Y0.out _ _ _).1 Try.underlying60 size60) rfl ?_
            refine ⟨?_, below_fill3 HBW.out (Nat.le_refl _) _ _ _⟩
            rw [HJS.out, HOP.out]
            rfl
          · rw [hop] at y0
            have HOP := Lib.hid hop
            simp only [if_true] at y0
            clear hop
            have zs := (Below.heap_setCell wr ⟨m, 1, none⟩ (.int .i64 0) w.heap.size q4).trans Y0.out
            have ZS := Lib.hid zs
            clear zs
            go_wp2_with fail
            refine bodyPost_ret (results_cell2 rfl _ _ w.heap.size 60 _ (0, 0) _ rfl (fill3 ZS.out _ _ _).1 Try.underlying60 size60) rfl ?_
            refine ⟨?_, below_fill3 (HBW.out.setCell (p := ⟨m, 1, none⟩) (by have := HM.out; have := B1.out.size; simp only; omega) _) (Nat.le_refl _) _ _ _⟩
            rw [HJS.out, HOP.out]
            rfl
end Go.Proofs.Ytddajaikighjlaa
