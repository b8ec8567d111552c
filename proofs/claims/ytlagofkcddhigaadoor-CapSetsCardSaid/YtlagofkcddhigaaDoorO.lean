/- The reference's Members; the walk of the law CapTables. -/
import Derived.Test.YtlagofkcddhigaaDoorN
namespace Go.Proofs.YtlagofkcddhigaaDoor
open Go.RowKit

set_option maxHeartbeats 2000000 in
theorem ref_members_calls (c : Int) (w : World) : Calls Tryd.prog 37 #[.int .i64 c] w fun e w' => ∃ v, e = .returned v ∧ SlI w' v (membersL c) ∧ Below w.heap.size w w' := by
  by_cases hc : 1 ≤ c ∧ c ≤ 6
  · have hi : isC c = true := isC_iff.2 hc
    obtain ⟨g1, g2⟩ := hc
    go_enter Tryd.func37, Tryd.ntmps37
    go_wp2_with (go_at_call 34; refine (ref_is_calls _ _).mono ?_; rintro e w' ⟨rfl, rfl⟩)
    go_ret
    exact ⟨_, rfl, SlI.fresh _ _ _ _ (by simp [membersL, hi]) _ (by simp [membersL, hi]) (by decide), (Below.refl _ _).alloc (Nat.le_refl _) _⟩
  · have hi : isC c = false := isC_no.2 hc
    have hm : membersL c = setOf c := by simp [membersL, hi]
    rw [hm]
    clear hm hc
    by_cases h7 : c = 7
    · subst h7
      go_enter Tryd.func37, Tryd.ntmps37
      go_wp2_with (go_at_call 34; refine (ref_is_calls _ _).mono ?_; rintro e w' ⟨rfl, rfl⟩)
      go_ret
      exact ⟨_, rfl, SlI.fresh _ _ _ _ rfl _ rfl (by decide), (Below.refl _ _).alloc (Nat.le_refl _) _⟩
    by_cases h8 : c = 8
    · subst h8
      go_enter Tryd.func37, Tryd.ntmps37
      go_wp2_with (go_at_call 34; refine (ref_is_calls _ _).mono ?_; rintro e w' ⟨rfl, rfl⟩)
      go_ret
      exact ⟨_, rfl, SlI.fresh _ _ _ _ rfl _ rfl (by decide), (Below.refl _ _).alloc (Nat.le_refl _) _⟩
    by_cases h9 : c = 9
    · subst h9
      go_enter Tryd.func37, Tryd.ntmps37
      go_wp2_with (go_at_call 34; refine (ref_is_calls _ _).mono ?_; rintro e w' ⟨rfl, rfl⟩)
      go_ret
      exact ⟨_, rfl, SlI.fresh _ _ _ _ rfl _ rfl (by decide), (Below.refl _ _).alloc (Nat.le_refl _) _⟩
    by_cases h10 : c = 10
    · subst h10
      go_enter Tryd.func37, Tryd.ntmps37
      go_wp2_with (go_at_call 34; refine (ref_is_calls _ _).mono ?_; rintro e w' ⟨rfl, rfl⟩)
      go_ret
      exact ⟨_, rfl, SlI.fresh _ _ _ _ rfl _ rfl (by decide), (Below.refl _ _).alloc (Nat.le_refl _) _⟩
    by_cases h11 : c = 11
    · subst h11
      go_enter Tryd.func37, Tryd.ntmps37
      go_wp2_with (go_at_call 34; refine (ref_is_calls _ _).mono ?_; rintro e w' ⟨rfl, rfl⟩)
      go_ret
      exact ⟨_, rfl, SlI.fresh _ _ _ _ rfl _ rfl (by decide), (Below.refl _ _).alloc (Nat.le_refl _) _⟩
    have hs : setOf c = [] := by simp [setOf, h7, h8, h9, h10, h11]
    rw [hs]
    have b7 : (c == 7) = false := by simp [h7]
    have b8 : (c == 8) = false := by simp [h8]
    have b9 : (c == 9) = false := by simp [h9]
    have b10 : (c == 10) = false := by simp [h10]
    have b11 : (c == 11) = false := by simp [h11]
    clear hs h7 h8 h9 h10 h11
    go_enter Tryd.func37, Tryd.ntmps37
    go_wp2_with (go_at_call 34; refine (ref_is_calls _ _).mono ?_; rintro e w' ⟨rfl, rfl⟩)
    go_ret
    exact ⟨_, rfl, Or.inl ⟨rfl, _, _, rfl⟩, Below.refl _ _⟩

structure ET (w : World) : Prop where
  v : TV w
  f : T1 1 .u64 fitsL w
  s : T1 4 .u64 setsL w
  d : T1 8 .u8 dbL w
  n : TN w
  b : NB w
theorem ET.below {w w' : World} (h : ET w) (hb : Below w.heap.size w w') : ET w' := ⟨h.v.below hb, h.f.below hb, h.s.below hb, h.d.below hb, h.n.below hb, h.b.below hb⟩
theorem ET.two {w : World} (h : ET w) : E2 w := ⟨h.v, h.f⟩
theorem membersL_len (c : Int) : (membersL c).length ≤ 1000000 := by
  unfold membersL
  split
  · simp
  · exact Nat.le_trans (setOf_len c) (by decide)

set_option maxRecDepth 100000 in
set_option maxHeartbeats 8000000 in
theorem tables_core (a m b o : Int) (s : ByteArray) (w0 w : World) (hB : Below w0.heap.size w0 w) (hE : ET w) :
    Calls Tryd.prog 7 #[.int .i64 a, .int .i64 m, .int .i64 b, .int .i64 o, .string s] w fun e w' => e = .returned (.bool true) ∧ Below w0.heap.size w0 w' := by
  have ml := membersL_len a
  go_enter Tryd.func7, Tryd.ntmps7
  go_wp2_with (first
    | (go_at_call 29; refine (parse_calls _ _ hE.b).mono ?_; rintro e w' ⟨rfl, rfl⟩)
    | (go_at_call 30; refine (ref_parse_calls _ _).mono ?_; rintro e w1 ⟨rfl, hb1⟩; replace hE := hE.below hb1; replace hB := hB.then hb1; clear hb1)
    | (go_at_call 31; refine (name_calls _ _ hE.n).mono ?_; rintro e w' ⟨rfl, rfl⟩)
    | (go_at_call 32; refine (ref_name_calls _ _).mono ?_; rintro e w1 ⟨rfl, hb1⟩; replace hE := hE.below hb1; replace hB := hB.then hb1; clear hb1)
    | (go_at_call 33; refine (is_calls _ _).mono ?_; rintro e w' ⟨rfl, rfl⟩)
    | (go_at_call 34; refine (ref_is_calls _ _).mono ?_; rintro e w' ⟨rfl, rfl⟩)
    | (go_at_call 36; refine (members_calls _ _ hE.s hE.d).mono ?_; rintro e w1 ⟨v36, rfl, h36, hb1⟩; replace hE := hE.below hb1; replace hB := hB.then hb1; clear hb1)
    | (go_at_call 37; refine (ref_members_calls _ _).mono ?_; rintro e w1 ⟨v37, rfl, h37, hb1⟩; replace hE := hE.below hb1; replace hB := hB.then hb1; replace h36 := h36.below hb1; clear hb1)
    | (go_at_call 35; refine (equal_calls _ _ _ _ _ h36 h37 ml ml).mono ?_; rintro e w1 ⟨rfl, hb1⟩; replace hE := hE.below hb1; replace hB := hB.then hb1; clear hb1 h36 h37)
    | (go_at_call 12; refine (reads_calls _ _).mono ?_; rintro e w' ⟨rfl, rfl⟩)
    | (go_at_call 38; refine (ref_reads_calls _ _).mono ?_; rintro e w' ⟨rfl, rfl⟩)
    | (go_at_call 13; refine (writes_calls _ _).mono ?_; rintro e w1 ⟨rfl, hb1⟩; replace hE := hE.below hb1; replace hB := hB.then hb1; clear hb1)
    | (go_at_call 39; refine (ref_writes_calls _ _).mono ?_; rintro e w' ⟨rfl, rfl⟩)
    | (go_at_call 22; refine (sendable_calls _ _ hE.s).mono ?_; rintro e w' ⟨rfl, rfl⟩)
    | (go_at_call 40; refine (ref_sendable_calls _ _).mono ?_; rintro e w' ⟨rfl, rfl⟩)
    | (go_at_call 18; refine (sub_calls _ _ _ hE.f).mono ?_; rintro e w1 ⟨rfl, hb1⟩; replace hE := hE.below hb1; replace hB := hB.then hb1; clear hb1)
    | (go_at_call 41; refine (ref_sub_calls _ _ _).mono ?_; rintro e w' ⟨rfl, rfl⟩)
    | (go_at_call 17; refine (fits_calls _ _ _ _ _ hE.f).mono ?_; rintro e w1 ⟨rfl, hb1⟩; replace hE := hE.below hb1; replace hB := hB.then hb1; clear hb1)
    | (go_at_call 42; refine (ref_fits_calls _ _ _ _ _).mono ?_; rintro e w' ⟨rfl, rfl⟩)
    | (go_at_call 21; refine (alias_calls _ _ _).mono ?_; rintro e w1 ⟨rfl, hb1⟩; replace hE := hE.below hb1; replace hB := hB.then hb1; clear hb1)
    | (go_at_call 43; refine (ref_alias_calls _ _ _).mono ?_; rintro e w' ⟨rfl, rfl⟩)
    | (go_at_call 44; refine (consumed_calls _ _ _).mono ?_; rintro e w1 ⟨rfl, hb1⟩; replace hE := hE.below hb1; replace hB := hB.then hb1; clear hb1)
    | (go_at_call 45; refine (ref_consumed_calls _ _ _).mono ?_; rintro e w' ⟨rfl, rfl⟩)
    | (go_at_call 46; refine (recover_calls _ _).mono ?_; rintro e w' ⟨rfl, rfl⟩)
    | (go_at_call 47; refine (ref_recover_calls _ _).mono ?_; rintro e w' ⟨rfl, rfl⟩)
    | (go_at_call 15; refine (awake_calls _ hE.two).mono ?_; rintro e w1 ⟨rfl, hb1⟩; replace hE := hE.below hb1; replace hB := hB.then hb1; clear hb1))
  go_ret
  exact ⟨rfl, hB⟩
end Go.Proofs.YtlagofkcddhigaaDoor
