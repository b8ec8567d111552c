/- many 56. -/
import Derived.Test.YtddajaikighjlaaSc
import Derived.Test.YtddajaikighjlaaIv
namespace Go.Proofs.Ytddajaikighjlaa
open Go.RowKit Go.Mp Go.Wh

def cnt (u : Int) (t : Tm) : Int := if u < t.when then 0 else if t.iv = 0 then 1 else 1 + (u - t.when) / t.iv
def cnts (u : Int) (L : List (Int × Tm)) : Int := (L.map fun p => cnt u p.2).sum
theorem many_cnts (W : Wh) (u : Int) : manyS W u = cnts u W.tm := rfl
theorem cnt_bound {u : Int} {t : Tm} (ht : 0 ≤ u ∧ u ≤ 1099511627776) (h : 0 ≤ t.when ∧ 0 ≤ t.iv) : 0 ≤ cnt u t ∧ cnt u t ≤ 1099511627777 := by
  unfold cnt
  split
  · omega
  · split
    · omega
    · have h1 : 0 ≤ (u - t.when) / t.iv := Int.ediv_nonneg (by omega) (by omega)
      have h2 : (u - t.when) / t.iv ≤ u - t.when := Int.ediv_le_self _ (by omega)
      omega
theorem cnts_bound {u : Int} (ht : 0 ≤ u ∧ u ≤ 1099511627776) : ∀ (L : List (Int × Tm)), (∀ p ∈ L, 0 ≤ p.2.when ∧ 0 ≤ p.2.iv) → 0 ≤ cnts u L ∧ cnts u L ≤ 1099511627777 * (L.length : Int)
  | [], _ => by simp [cnts]
  | p :: L, h => by
    have h1 := cnt_bound ht (h p (by simp))
    have h2 := cnts_bound ht L (fun q hq => h q (by simp [hq]))
    unfold cnts at *
    simp only [List.map_cons, List.sum_cons, List.length_cons]
    push_cast
    omega
theorem filt_out {L : List (Int × Tm)} {x : Int} (h : x ∉ L.map Prod.fst) : (L.filter fun q => q.1 != x) = L := by
  rw [List.filter_eq_self]
  intro a ha
  simp only [bne_iff_ne, ne_eq]
  exact fun e => h (e ▸ List.mem_map.2 ⟨a, ha, rfl⟩)
/-- One taken out. -/
theorem cnts_one (u : Int) : ∀ {L : List (Int × Tm)} {p : Int × Tm}, (L.map Prod.fst).Nodup → p ∈ L → cnts u L = cnt u p.2 + cnts u (L.filter fun q => q.1 != p.1) ∧ L.length = (L.filter fun q => q.1 != p.1).length + 1
  | [], _, _, hp => by simp at hp
  | a :: L, p, hn, hp => by
    rw [List.map_cons, List.nodup_cons] at hn
    rcases List.mem_cons.1 hp with rfl | hp
    · have : ((p :: L).filter fun q => q.1 != p.1) = L := by simp [filt_out hn.1]
      rw [this]
      exact ⟨rfl, rfl⟩
    · have hne : a.1 ≠ p.1 := fun e => hn.1 (e ▸ List.mem_map.2 ⟨p, hp, rfl⟩)
      obtain ⟨ih1, ih2⟩ := cnts_one u hn.2 hp
      have : ((a :: L).filter fun q => q.1 != p.1) = a :: (L.filter fun q => q.1 != p.1) := by simp [hne]
      rw [this]
      unfold cnts at *
      simp only [List.map_cons, List.sum_cons, List.length_cons]
      exact ⟨by omega, by omega⟩
theorem rng_it_lt {w : World} {r it : Nat} {L left : List (Int × Value)} (h : RngI w r it L left) : it < w.heap.size := by
  obtain ⟨es, c, since, seen, c0, h1, h2, h3, h4, h5, h6, h7⟩ := h
  exact (Array.getElem?_eq_some_iff.1 h6).1
theorem mv_filter {α : Type} (f : α → Value) (L : List (Int × α)) (x : Int) : ((mv f L).filter fun q => q.1 != x) = mv f (L.filter fun q => q.1 != x) := by
  unfold mv
  rw [List.filter_map]
  rfl

set_option maxRecDepth 100000 in
set_option maxHeartbeats 1000000 in
theorem many_calls (R : Refs) (X : Nat) (W : Wh) (u : Int) (w : World) (h : WhAt R w X W) (hi : Inv W) (hl : W.tm.length ≤ 1000) (ht : 0 ≤ u ∧ u ≤ 1099511627776) :
    Calls Try.prog 56 #[.pointer (some ⟨X, 0, none⟩), .int .i64 u] w fun e w' => e = .returned (.int .i64 (manyS W u)) ∧ Below w.heap.size w w' := by
  have ct := h.ct
  obtain ⟨o, hr, hR⟩ := run_range (P := Try.prog) Try.underlying136 h.mt
  have hb := (Below.refl w.heap.size w).alloc (Nat.le_refl _) o
  have HR := Lib.hid hR
  have HB := Lib.hid hb
  clear h hR hb
  have hMb := cnts_bound ht W.tm (fun p hp => ⟨(hi.tm p hp).2.1, (hi.tm p hp).2.2.2.1⟩)
  have hM : manyS W u = cnts u W.tm := rfl
  rw [hM]
  obtain ⟨M, hMe⟩ : ∃ M, cnts u W.tm = M := ⟨_, rfl⟩
  rw [hMe] at hMb ⊢
  have hk := hi.keys
  have htm := Lib.hid hi.tm
  have MB : 0 ≤ M ∧ M ≤ 1099511627777000 := ⟨hMb.1, by omega⟩
  have ME := Lib.hid hMe
  have HK := Lib.hid hk
  have hrl : R.rt < (w.alloc o).heap.size := (HR.out).map.lt
  clear hM hMb hMe hk hi hl
  go_enter Try.func56, Try.ntmps56
  go_wp2
  go_loopg [5] (W.tm.length) (fun gk n wr => ∃ left : List (Int × Tm), left.length = gk ∧ n = .int .i64 (M - cnts u left) ∧ 0 ≤ cnts u left ∧ cnts u left ≤ M ∧ (∀ p ∈ left, p ∈ W.tm) ∧ (left.map Prod.fst).Nodup ∧ RngI wr R.rt w.heap.size (mv tmV W.tm) (mv tmV left) ∧ Below w.heap.size w wr)
  case atStart =>
    exact ⟨W.tm, rfl, by rw [ME.out, Int.sub_self], by rw [ME.out]; omega, by rw [ME.out]; omega, fun _ h => h, HK.out, HR.out, HB.out⟩
  case round =>
    obtain ⟨left, hlen, rfl, hs0, hsM, hsub, hnod, hrng, hbel⟩ := hrel
    rcases run_next (P := Try.prog) hrng 0 with ⟨hnil, hrun⟩ | ⟨pv, hp, w2, hrun, hrng2, hg2, hz2, hent⟩
    · have hl0 : left = [] := by cases left with | nil => rfl | cons _ _ => simp [mv] at hnil
      subst hl0
      have e0 : cnts u [] = 0 := rfl
      rw [e0, Int.sub_zero]
      have HBe := Lib.hid hbel
      clear hrng hbel hsub hnod hnil
      go_wp2
      go_ret
      exact ⟨rfl, HBe.out⟩
    · obtain ⟨p, hpl, rfl⟩ := List.mem_map.1 hp
      simp only at hrun hent hrng2
      rw [mv_filter] at hrng2
      obtain ⟨e1, e2⟩ := cnts_one u hnod hpl
      obtain ⟨hid, hw0, hw1, hv0, hv1⟩ := htm.out p (hsub p hpl)
      have hcb := cnt_bound ht (t := p.2) ⟨hw0, hv0⟩
      obtain ⟨pk, ⟨ti, tw, tv, to_⟩⟩ := p
      simp only at hid hw0 hw1 hv0 hv1 hcb hrun hent hrng2 e1 e2
      simp only [show tmV ⟨ti, tw, tv, to_⟩ = .agg #[.int .i64 ti, .int .i64 tw, .int .i64 tv, .int .i64 to_] from rfl] at hrun hent
      have hsub' : ∀ p ∈ left.filter (fun q => q.1 != pk), p ∈ W.tm := fun p hp => hsub p (List.mem_filter.1 hp).1
      have hnod' : ((left.filter fun q => q.1 != pk).map Prod.fst).Nodup := ((List.filter_sublist).map _).nodup hnod
      obtain ⟨left', hl'⟩ : ∃ l, left.filter (fun q => q.1 != pk) = l := ⟨_, rfl⟩
      rw [hl'] at hrng2 e1 e2 hsub' hnod'
      obtain ⟨S', hS'⟩ : ∃ S, cnts u left' = S := ⟨_, rfl⟩
      have hS0 := (cnts_bound ht left' (fun p hp => ⟨(htm.out p (hsub' p hp)).2.1, (htm.out p (hsub' p hp)).2.2.2.1⟩)).1
      rw [hS'] at e1 hS0
      obtain ⟨N, hN⟩ : ∃ N, M - cnts u left = N := ⟨_, rfl⟩
      rw [hN]
      obtain ⟨c, hc⟩ : ∃ c, cnt u ⟨ti, tw, tv, to_⟩ = c := ⟨_, rfl⟩
      rw [hc] at e1 hcb
      have hNN : N = M - c - S' := by omega
      have hcM : c + S' ≤ M := by omega
      have hbel2 : Below w.heap.size w w2 := hbel.grown hg2 hbel.size (fun k e => by cases e; exact Nat.le_refl _)
      have LL := Lib.hid (show left'.length < gk by omega)
      have HSUB := Lib.hid hsub'
      have HNOD := Lib.hid hnod'
      have HRNG := Lib.hid hrng2
      have HBEL := Lib.hid hbel2
      have HSS := Lib.hid hS'
      have hc2 : (if u < tw then 0 else if tv = 0 then 1 else 1 + (u - tw) / tv) = c := hc
      have HC := Lib.hid hc2
      have hlt : R.rt < w2.heap.size := hrng2.map.lt
      have hBl := hbel2.size
      have hitl : w.heap.size < w2.heap.size := rng_it_lt hrng2
      clear hsub hsub' hnod hnod' hl' hrng hrng2 hbel hbel2 hg2 hz2 hp hpl hlen e1 e2 hsM hs0 hN hS' hc hc2 hid
      by_cases h1 : u < tw
      · have ec : c = 0 := by rw [← HC.out, if_pos h1]
        go_wp2
        go_roundg left'.length
        case measure => exact LL.out
        case rel => exact ⟨left', rfl, by rw [HSS.out]; congr 1; omega, by rw [HSS.out]; exact hS0, by rw [HSS.out]; omega, HSUB.out, HNOD.out, HRNG.out.same (Below.heap_alloc _ _ _ hlt) (Below.heap_alloc _ _ _ hitl), HBEL.out.alloc (by omega) _⟩
      · by_cases h2 : tv = 0
        · have ec : c = 1 := by rw [← HC.out, if_neg h1, if_pos h2]
          have g1 : IntKind.i64.wrap (N + 1) = N + 1 := IntWalk.i64_in _ (by omega)
          go_wp2
          go_roundg left'.length
          case measure => exact LL.out
          case rel => exact ⟨left', rfl, by rw [HSS.out]; congr 1; omega, by rw [HSS.out]; exact hS0, by rw [HSS.out]; omega, HSUB.out, HNOD.out, HRNG.out.same (Below.heap_alloc _ _ _ hlt) (Below.heap_alloc _ _ _ hitl), HBEL.out.alloc (by omega) _⟩
        · obtain ⟨q, hq⟩ : ∃ q, (u - tw) / tv = q := ⟨_, rfl⟩
          have ec : c = 1 + q := by rw [← HC.out, if_neg h1, if_neg h2, hq]
          have hq0 : 0 ≤ q := by rw [← hq]; exact Int.ediv_nonneg (by omega) (by omega)
          have hq1 : q ≤ u - tw := by rw [← hq]; exact Int.ediv_le_self _ (by omega)
          have g1 : IntKind.i64.wrap (u - tw) = u - tw := IntWalk.i64_in _ (by omega)
          have g2 : Int.tdiv (u - tw) tv = q := by rw [Int.tdiv_eq_ediv_of_nonneg (by omega)]; exact hq
          have g3 : IntKind.i64.wrap q = q := IntWalk.i64_in _ (by omega)
          have g4 : IntKind.i64.wrap (1 + q) = 1 + q := IntWalk.i64_in _ (by omega)
          have g5 : IntKind.i64.wrap (N + (1 + q)) = N + (1 + q) := IntWalk.i64_in _ (by omega)
          clear hq
          go_wp2
          go_roundg left'.length
          case measure => exact LL.out
          case rel => exact ⟨left', rfl, by rw [HSS.out]; congr 1; omega, by rw [HSS.out]; exact hS0, by rw [HSS.out]; omega, HSUB.out, HNOD.out, HRNG.out.same (Below.heap_alloc _ _ _ hlt) (Below.heap_alloc _ _ _ hitl), HBEL.out.alloc (by omega) _⟩
end Go.Proofs.Ytddajaikighjlaa
