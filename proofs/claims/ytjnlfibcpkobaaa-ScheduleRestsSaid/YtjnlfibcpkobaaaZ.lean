/- New. -/
import Derived.Test.YtjnlfibcpkobaaaW
namespace Go.Proofs.Ytjnlfibcpkobaaa
open Go.RowKit Go.Sl Go.Sched

def wkZ : Wk := ⟨[], 0, 0, 0⟩
def wkN : Wk := ⟨[], 0, -1, 0⟩
theorem made42 : ∀ (n : Nat), (madeCells #[Value.slice none 0 0, .int .i64 0, .int .i64 0, .int .i64 0] (n * 4)).toList = wcells (List.replicate n (.slice none 0 0)) (List.replicate n wkZ) := by
  intro n
  apply List.ext_getElem?
  intro j
  have hl := wcells_length (List.replicate n (Value.slice none 0 0)) (List.replicate n wkZ) (by simp)
  by_cases hj : j < n * 4
  · obtain ⟨h1, h2, h3, h4⟩ := wcells_at (List.replicate n (Value.slice none 0 0)) (List.replicate n wkZ) (by simp) (j / 4) (by simp; omega)
    have hi : j / 4 < n := by omega
    have e1 : (List.replicate n (Value.slice none 0 0)).getD (j / 4) undef = .slice none 0 0 := by simp [List.getD, hi]
    have e2 : (List.replicate n wkZ).getD (j / 4) wk0 = wkZ := by simp [List.getD, hi]
    rw [e1] at h1
    rw [e2] at h2 h3 h4
    have hm : j = j / 4 * 4 + j % 4 := by omega
    have hlt : j % 4 < 4 := by omega
    have hL : (madeCells #[Value.slice none 0 0, .int .i64 0, .int .i64 0, .int .i64 0] (n * 4)).toList[j]? = some (#[Value.slice none 0 0, .int .i64 0, .int .i64 0, .int .i64 0][j % 4]!) := by
      simp [madeCells, hj]
    rw [hL]
    generalize j / 4 = q at *
    generalize hr : j % 4 = r at *
    subst hm
    match r, hlt with
    | 0, _ => rw [Nat.add_zero, h1]; rfl
    | 1, _ => rw [h2]; rfl
    | 2, _ => rw [h3]; rfl
    | 3, _ => rw [h4]; rfl
  · rw [List.getElem?_eq_none (by simp [madeCells]; omega), List.getElem?_eq_none (by simp at hl; omega)]

/-- A state on its way. -/
def stN (n k : Nat) : St := ⟨List.replicate k wkN ++ List.replicate (n - k) wkZ, []⟩
theorem stN_len (n k : Nat) (h : k ≤ n) : (stN n k).ws.length = n := by simp [stN]; omega
theorem stN_step (n k : Nat) (h : k < n) : upd (stN n k) k (fun u => { u with tk := -1 }) = stN n (k + 1) := by
  have e : (stN n k).ws.getD k wk0 = wkZ := by
    simp [stN, List.getD]
    rw [List.getElem?_append_right (by simp)]
    simp [show 0 < n - k by omega]
  unfold upd
  rw [e]
  unfold stN
  simp only [St.mk.injEq, and_true]
  obtain ⟨m, hm⟩ : ∃ m, n - k = m + 1 := ⟨n - k - 1, by omega⟩
  have hm2 : n - (k + 1) = m := by omega
  rw [hm, hm2, List.replicate_succ, List.set_append_right _ _ (by simp)]
  simp only [List.length_replicate, Nat.sub_self, List.set_cons_zero]
  rw [List.replicate_succ', List.append_assoc]
  rfl

/-- What New does. -/
def newS (n : Int) : St × Int := if n < 1 ∨ 64 < n then (⟨[], []⟩, 1) else (⟨List.replicate n.toNat wkN, []⟩, 0)

set_option maxRecDepth 100000 in
set_option maxHeartbeats 4000000 in
theorem new_calls (x : Int) (w : World) :
    Calls Try.prog 9 #[.int .i64 x] w fun e w' => ∃ a b qs', e = .returned (.tuple #[.agg #[a, b], .int .i64 (newS x).2]) ∧ StT (w.heap.size ≤ ·) w' a b qs' (newS x).1 ∧ Below w.heap.size w w' := by
  by_cases hx : x < 1 ∨ 64 < x
  · have hC : newS x = (⟨[], []⟩, 1) := by unfold newS; rw [if_pos hx]
    rw [hC]
    by_cases h1 : x < 1
    · clear hx
      go_enter Try.func9, Try.ntmps9
      go_wp2_with fail
      refine bodyPost_ret (results_ct rfl _ _ w.heap.size 26 _ (0, 0) _ rfl (heap_alloc_new _ _) Try.underlying26 rfl size26) rfl ?_
      first
        | exact ⟨.slice none 0 0, .slice none 0 0, [], rfl, StT.empty _ _, (Below.refl _ _).alloc (Nat.le_refl _) _⟩
        | exact ⟨.slice none 0 0, .slice none 0 0, rfl, ⟨[], StT.empty _ _⟩, (Below.refl _ _).alloc (Nat.le_refl _) _⟩
    · have h2 : 64 < x := by omega
      clear hx
      go_enter Try.func9, Try.ntmps9
      go_wp2_with fail
      refine bodyPost_ret (results_ct rfl _ _ w.heap.size 26 _ (0, 0) _ rfl (heap_alloc_new _ _) Try.underlying26 rfl size26) rfl ?_
      first
        | exact ⟨.slice none 0 0, .slice none 0 0, [], rfl, StT.empty _ _, (Below.refl _ _).alloc (Nat.le_refl _) _⟩
        | exact ⟨.slice none 0 0, .slice none 0 0, rfl, ⟨[], StT.empty _ _⟩, (Below.refl _ _).alloc (Nat.le_refl _) _⟩
  obtain ⟨n, rfl⟩ : ∃ n : Nat, x = (n : Int) := ⟨x.toNat, by omega⟩
  have hC : newS (n : Int) = (⟨List.replicate n wkN, []⟩, 0) := by unfold newS; rw [if_neg hx, Int.toNat_natCast]
  rw [hC]
  have g1 : ¬ (n : Int) < 1 := by omega
  have g2 : ¬ 64 < (n : Int) := by omega
  have hn1 : 1 ≤ n := by omega
  have hn2 : n ≤ 64 := by omega
  have hb1 : Below w.heap.size w (w.alloc z26) := (Below.refl _ _).alloc (Nat.le_refl _) _
  have hr0 : (w.alloc z26).heap[w.heap.size]? = some z26 := heap_alloc_new _ _
  clear hC hx
  obtain ⟨i0, hif, hz0, hz1, hz2⟩ := info_parts info42
  have hib : i0.bytes * n ≤ 281474976710656 := by rw [hz2]; omega
  have HIB := Lib.hid hib
  have HB1 := Lib.hid hb1
  have HR0 := Lib.hid hr0
  clear hib hr0 hb1
  go_enter Try.func9, Try.ntmps9
  go_wp2_with (at_make; refine wpList_make_full _ rfl _ _ 23 rfl w.heap.size 42 i0 _ 4 Try.underlying23 hif hz0 hz1 .i64 .i64 _ _ n rfl rfl rfl rfl HIB.out ?b3 ?b4 ?_)
  case b3 => unfold maxLen; omega
  intro w1 hown hgrow
  rw [made42] at hown
  have hb2 : Below w.heap.size w w1 := HB1.out.grown hgrow HB1.out.size (fun k hk => by cases hk)
  have hr1 : w1.heap[w.heap.size]? = some z26 := (hgrow.block _ (by simp) (by simp)).trans HR0.out
  have hL := (Array.getElem?_eq_some_iff.1 hr1).1
  have hba : Below w1.heap.size w1 (w1.alloc (.cells #[.slice (some ⟨w.heap.size + 1, 0, none⟩) n n, .slice none 0 0] 26)) := (Below.refl _ _).alloc (Nat.le_refl _) _
  have hO : OwnSt w.heap.size w1.heap.size (w.heap.size + 1) n (List.replicate n (.slice none 0 0)) (.slice none 0 0) (stN n 0) (w1.alloc (.cells #[.slice (some ⟨w.heap.size + 1, 0, none⟩) n n, .slice none 0 0] 26)) := by
    have hl := stN_len n 0 (by omega)
    refine ⟨by omega, ?_, ?_, ?_, tyI_nil _ _, fun i hi => ?_⟩
    · rw [hl]; exact heap_alloc_new _ _
    · rw [hl]; exact owns_below (by simpa [stN] using hown) hba (Nat.le_refl _)
    · rw [hl]; simp
    · rw [hl] at hi
      have e1 : (List.replicate n (Value.slice none 0 0)).getD i undef = .slice none 0 0 := by simp [List.getD, hi]
      have e2 : ((stN n 0).ws.getD i wk0).q = [] := by simp [stN, List.getD, hi, wkZ]
      rw [e1, e2]
      exact tyI_nil _ _
  have hb3 := hb2.alloc hb2.size (.cells #[.slice (some ⟨w.heap.size + 1, 0, none⟩) n n, .slice none 0 0] 26)
  have hr2 : (w1.alloc (.cells #[.slice (some ⟨w.heap.size + 1, 0, none⟩) n n, .slice none 0 0] 26)).heap[w.heap.size]? = some z26 := (heap_alloc_old _ _ hL).trans hr1
  have HO := Lib.hid hO
  obtain ⟨x0, x1, -⟩ := hO.boxed
  rw [stN_len n 0 (by omega)] at x0
  clear hO hown hgrow hb2 hr1 hba hif hz0 hz1 hz2
  have nX : ¬ w1.heap.size = w.heap.size := by omega
  have nX2 : ¬ w.heap.size = w1.heap.size := by omega
  go_wp2_with fail
  go_loopw [19] (fun i wr => ∃ k : Nat, k ≤ n ∧ i = .int .i64 k ∧ Below w.heap.size w wr ∧ OwnSt w.heap.size w1.heap.size (w.heap.size + 1) n (List.replicate n (.slice none 0 0)) (.slice none 0 0) (stN n k) wr ∧ wr.heap[w.heap.size]? = some z26) (fun i _ => n - (intOf i).toNat)
  case atStart => exact ⟨0, Nat.zero_le _, rfl, hb3, HO.out, hr2⟩
  case round =>
    obtain ⟨k, hk, rfl, hbel, hO, hr3⟩ := hrel
    have hl := stN_len n k hk
    obtain ⟨f0, f1, -⟩ := hO.boxed
    rw [hl] at f0
    have ff := hO.free
    by_cases hlt : k < n
    · obtain ⟨-, -, c2, -⟩ := hO.cells k (by rw [hl]; exact hlt)
      have g3 : (k : Int) < (n : Int) := by omega
      have g4 : (0 : Int) ≤ (k : Int) := by omega
      have o := hO.setTk k (by rw [hl]; exact hlt) (-1)
      rw [stN_step n k hlt] at o
      have hr4 := (Below.heap_setCell wr ⟨w.heap.size + 1, k * 4 + 2, none⟩ (.int .i64 (-1)) w.heap.size (show w.heap.size ≠ w.heap.size + 1 by omega)).trans hr3
      generalize ((stN n k).ws.getD k wk0).tk = tk at c2
      have O := Lib.hid o
      clear hO o x0 x1
      go_wp2_with fail
      go_roundw
      case rel => exact ⟨k + 1, by omega, by go_num, hbel.trans O.out.2.below, O.out.1, hr4⟩
      case measure => simp [intOf]; omega
    · have hkn : k = n := by omega
      subst hkn
      obtain ⟨-, p0, p1, pf⟩ := keep26 (Below.refl _ _) hr3
      have O := Lib.hid hO
      have R := Lib.hid hr3
      clear hO hr3 x0 x1
      go_wp2_with fail
      have z1 := heap_setCell_same wr w.heap.size 0 _ 26 (.slice (some ⟨w.heap.size + 1, 0, none⟩) k k) R.out
      have z2 := heap_setCell_same _ w.heap.size 1 _ 26 (.slice none 0 0) z1
      refine bodyPost_ret (results_ct rfl _ _ w.heap.size 26 _ (0, 0) _ rfl z2 Try.underlying26 rfl size26) rfl ?_
      have o1 := (O.out.elsewhere26 (a := ⟨w.heap.size, 0, none⟩) (.slice (some ⟨w.heap.size + 1, 0, none⟩) k k) R.out (fun e => nX e)).elsewhere26 (a := ⟨w.heap.size, 1, none⟩) (.slice none 0 0) z1 (fun e => nX e)
      have st := o1.stT
      rw [hl] at st
      refine ⟨.slice (some ⟨w.heap.size + 1, 0, none⟩) k k, .slice none 0 0, List.replicate k (.slice none 0 0), rfl, ?_, (hbel.setCell (Nat.le_refl _) _).setCell (Nat.le_refl _) _⟩
      have e : stN k k = ⟨List.replicate k wkN, []⟩ := by simp [stN]
      rw [e] at st
      exact st
end Go.Proofs.Ytjnlfibcpkobaaa
