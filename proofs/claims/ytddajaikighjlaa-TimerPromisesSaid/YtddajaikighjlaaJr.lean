/- Join 34 of the reference. -/
import Derived.Test.YtddajaikighjlaaJn
namespace Go.Proofs.Ytddajaikighjlaa
open Go.RowKit Go.Sl Go.Mp

theorem row_nx {w w' : World} (hb : Below w.heap.size w w') {b : Nat} {o : Obj} (h : w.heap[b]? = some o) : w'.heap[b]? = some o := (hb.block b (Array.getElem?_eq_some_iff.1 h).1).trans h
def rv : Option Pr → Int × Int
  | none => (0, 0)
  | some p => (2, p.val)

set_option maxRecDepth 100000 in
set_option maxHeartbeats 4000000 in
theorem rjoin_calls (v : Value) (l : List Pr) (w : World) (h : RowP w v l) (hn : l.length ≤ 1000000) : Calls Try.prog 34 #[v] w fun e w' => e = .returned (.tuple #[prV (joinS l).1 (.slice none 0 0), .int .i64 (joinS l).2]) ∧ Below w.heap.size w w' := by
  obtain ⟨a, c, rfl, hc⟩ := h
  have HC := Lib.hid hc
  obtain ⟨n, hn2⟩ : ∃ n, l.length = n := ⟨_, rfl⟩
  rw [hn2] at hn ⊢
  have HN := Lib.hid hn2
  obtain ⟨w1, hw1⟩ : ∃ w1, w.alloc (.cells #[.int .i64 0, .int .i64 0, .slice none 0 0] 75) = w1 := ⟨_, rfl⟩
  have hb1 : Below w.heap.size w w1 := by rw [← hw1]; exact (Below.refl w.heap.size w).alloc (Nat.le_refl _) _
  have hz1 : w1.heap.size = w.heap.size + 1 := by rw [← hw1]; simp
  have g0 : w1.heap[w.heap.size]? = some (.cells #[.int .i64 0, .int .i64 0, .slice none 0 0] 75 (0, 0)) := by
    rw [← hw1]
    exact heap_alloc_new _ _
  obtain ⟨m, hm⟩ : ∃ m, w1.heap.size = m := ⟨_, rfl⟩
  have g6 : (w1.alloc (.cells #[.int .i64 0, .int .i64 0, .slice none 0 0] 75)).heap[m]? = some (.cells #[.int .i64 0, .int .i64 0, .slice none 0 0] 75 (0, 0)) := by
    rw [← hm]
    exact heap_alloc_new _ _
  have B1 := Lib.hid hb1
  have Z1 := Lib.hid (hm.symm.trans hz1)
  have G0 := Lib.hid g0
  have G6 := Lib.hid g6
  have HM := Lib.hid hm
  have B2 := Lib.hid (show Below m w1 (w1.alloc (.cells #[.int .i64 0, .int .i64 0, .slice none 0 0] 75)) from (Below.refl m w1).alloc (Nat.le_of_eq hm.symm) _)
  clear hc hn2 hb1 hz1 g0 g6
  go_enter Try.func34, Try.ntmps34
  go_wp2_with fail
  clear hw1
  go_loopw [7, 5, 4] (fun i sm op wr => ∃ kk : Nat, kk ≤ n ∧ i = .int .i64 (kk : Int) ∧ sm = .int .i64 (sumW (l.take kk)) ∧ op = .bool (opS l kk) ∧ Right l kk ∧ wr.heap[m]? = some (.cells #[.int .i64 (rv (rejS l kk)).1, .int .i64 (rv (rejS l kk)).2, .slice none 0 0] 75 (0, 0)) ∧ Below m w1 wr) (fun i _ _ _ => n - (intOf i).toNat)
  case atStart => exact ⟨0, Nat.zero_le _, rfl, rfl, rfl, Right.zero l, G6.out, B2.out⟩
  case round =>
    obtain ⟨kk, hk, rfl, rfl, rfl, hR, hrow, hbel⟩ := hrel
    have HR := Lib.hid hR
    have HROW := Lib.hid hrow
    have HB := Lib.hid hbel
    have mlt := (Array.getElem?_eq_some_iff.1 hrow).1
    clear hR
    by_cases hlt : kk < n
    · obtain ⟨p, hp⟩ : ∃ p, l[kk]? = some p := ⟨_, List.getElem?_eq_getElem (by have := HN.out; omega)⟩
      obtain ⟨g, o, sv, rfl, x0, x1, x2, hs⟩ := HC.out kk p hp
      have HP := Lib.hid hp
      have hbw := B1.out.trans (hbel.mono (by have := Z1.out; omega))
      replace x0 := hbw.at_cell x0
      replace x1 := hbw.at_cell x1
      replace x2 := hbw.at_cell x2
      replace hs := hs.below hbw
      have hlt' : (kk : Int) < (n : Int) := by omega
      obtain ⟨ca, cc, rfl⟩ := hs.form
      have hck := right_calls p (.slice ca p.wt.length cc) wr ⟨ca, cc, rfl⟩
      obtain ⟨E, hE⟩ : ∃ E, okP p = E := ⟨_, rfl⟩
      rw [hE] at hck
      have HE := Lib.hid hE
      have hos := opS_succ hp
      have hrs := rejS_succ hp
      have hss := sumW_succ hp
      obtain ⟨ph, val, wt⟩ := p
      unfold prV at hck
      simp only at hck x0 x1 x2 hos hrs hss
      have HOS := Lib.hid hos
      have HRS := Lib.hid hrs
      have HSS := Lib.hid hss
      have HX0 := Lib.hid x0
      have HX1 := Lib.hid x1
      clear hp hbel hs hbw hE hos hrs hss hrow
      by_cases h0 : E = 0
      · subst h0
        obtain ⟨ps, hps⟩ : ∃ ps, rejS l kk = ps := ⟨_, rfl⟩
        have HPS := Lib.hid hps
        have hrow := HROW.out
        rw [hps] at hrow
        have HROW := Lib.hid hrow
        clear hrow hps
        go_wp2_with fail
        refine hck.mono ?_
        rintro e w2 ⟨rfl, hb2⟩
        have hr2 := row_nx hb2 HROW.out
        obtain ⟨y0, y1, y2, yf⟩ := row3 hr2
        have HR2 := Lib.hid hr2
        replace x0 := hb2.at_cell x0
        replace x1 := hb2.at_cell x1
        have HB3 := Lib.hid (HB.out.trans (hb2.mono (by have := HB.out.size; have := HM.out; omega)))
        clear hck hb2 hr2 x2
        cases hop : opS l kk <;> (
          have HOP := Lib.hid hop
          clear hop
          by_cases h1 : ph = 0
          · subst h1
            go_wp2_with fail
            go_roundw
            case rel =>
              refine ⟨kk + 1, by omega, by go_num, by rw [HSS.out], ?_, HR.out.succ HP.out HE.out, ?_, HB3.out⟩
              · rw [HOS.out, HOP.out]; rfl
              · rw [HRS.out, HPS.out, if_neg (by decide), Option.or_none]; exact HR2.out
            case measure => simp [intOf]; omega
          · by_cases h2 : ph = 2
            · subst h2
              cases ps with
              | none =>
                unfold rv at y0 y1 HR2
                simp only at y0 y1 HR2
                go_wp2_with fail
                go_roundw
                case rel =>
                  refine ⟨kk + 1, by omega, by go_num, by rw [HSS.out], ?_, HR.out.succ HP.out HE.out, ?_, ?_⟩
                  · rw [HOS.out, HOP.out]; rfl
                  · rw [HRS.out, HPS.out]; exact (fill3 HR2.out _ _ _).1
                  · exact below_fill3 HB3.out (Nat.le_refl _) _ _ _
                case measure => simp [intOf]; omega
              | some q =>
                unfold rv at y0 y1 HR2
                simp only at y0 y1 HR2
                go_wp2_with fail
                go_roundw
                case rel =>
                  refine ⟨kk + 1, by omega, by go_num, by rw [HSS.out], ?_, HR.out.succ HP.out HE.out, ?_, HB3.out⟩
                  · rw [HOS.out, HOP.out]; rfl
                  · rw [HRS.out, HPS.out]; exact HR2.out
                case measure => simp [intOf]; omega
            · go_wp2_with fail
              go_roundw
              case rel =>
                refine ⟨kk + 1, by omega, by go_num, by rw [HSS.out], ?_, HR.out.succ HP.out HE.out, ?_, HB3.out⟩
                · rw [HOS.out, HOP.out]; simp [h1]
                · rw [HRS.out, HPS.out, if_neg h2, Option.or_none]; exact HR2.out
              case measure => simp [intOf]; omega)
      · go_wp2_with fail
        refine hck.mono ?_
        rintro e w2 ⟨rfl, hb2⟩
        have hb3 := HB.out.trans (hb2.mono (by have := HB.out.size; have := HM.out; omega))
        have z0 := (hb3.block w.heap.size (by have := Z1.out; omega)).trans G0.out
        obtain ⟨e0, e1, e2, f0⟩ := row3 z0
        have Y0 := Lib.hid z0
        have HB3 := Lib.hid (B1.out.trans (hb3.mono (by have := Z1.out; omega)))
        clear hck hb2 hb3 z0
        go_wp2_with fail
        refine bodyPost_ret (results_cell2 rfl _ _ w.heap.size 75 _ (0, 0) _ rfl (fill3 Y0.out _ _ _).1 Try.underlying75 size75) rfl ?_
        refine ⟨?_, below_fill3 HB3.out (Nat.le_refl _) _ _ _⟩
        have h2 := HE.out
        rw [joinS_bad HP.out (by rw [h2]; exact h0)]
        rw [← okP_two (p := ⟨ph, val, wt⟩) (by rw [h2]; exact h0), h2]
        rfl
    · have hke : kk = n := by omega
      subst hke
      have hlt' : ¬ (kk : Int) < (kk : Int) := by omega
      have hjs := joinS_right HR.out HN.out.symm
      have HJS := Lib.hid hjs
      have z0 := (HB.out.block w.heap.size (by have := Z1.out; omega)).trans G0.out
      obtain ⟨e0, e1, e2, f0⟩ := row3 z0
      have Y0 := Lib.hid z0
      have HBW := Lib.hid (B1.out.trans (HB.out.mono (by have := Z1.out; omega)))
      have hrow := HROW.out
      obtain ⟨ps, hps⟩ : ∃ ps, rejS l kk = ps := ⟨_, rfl⟩
      rw [hps] at hrow
      have HPS := Lib.hid hps
      clear hbel z0 hjs hps
      cases ps with
      | some q =>
        unfold rv at hrow
        simp only at hrow
        obtain ⟨y0, y1, y2, yf⟩ := row3 hrow
        clear hrow
        go_wp2_with fail
        refine bodyPost_ret (results_cell2 rfl _ _ w.heap.size 75 _ (0, 0) _ rfl (fill3 Y0.out _ _ _).1 Try.underlying75 size75) rfl ?_
        refine ⟨?_, below_fill3 HBW.out (Nat.le_refl _) _ _ _⟩
        rw [HJS.out, HPS.out]
        rfl
      | none =>
        unfold rv at hrow
        simp only at hrow
        obtain ⟨y0, y1, y2, yf⟩ := row3 hrow
        clear hrow
        cases hop : opS l kk
        · have HOP := Lib.hid hop
          clear hop
          go_wp2_with fail
          refine bodyPost_ret (results_cell2 rfl _ _ w.heap.size 75 _ (0, 0) _ rfl (fill3 Y0.out _ _ _).1 Try.underlying75 size75) rfl ?_
          refine ⟨?_, below_fill3 HBW.out (Nat.le_refl _) _ _ _⟩
          rw [HJS.out, HPS.out, HOP.out]
          rfl
        · have HOP := Lib.hid hop
          clear hop
          go_wp2_with fail
          refine bodyPost_ret (results_cell2 rfl _ _ w.heap.size 75 _ (0, 0) _ rfl (fill3 Y0.out _ _ _).1 Try.underlying75 size75) rfl ?_
          refine ⟨?_, below_fill3 HBW.out (Nat.le_refl _) _ _ _⟩
          rw [HJS.out, HPS.out, HOP.out]
          rfl
end Go.Proofs.Ytddajaikighjlaa
