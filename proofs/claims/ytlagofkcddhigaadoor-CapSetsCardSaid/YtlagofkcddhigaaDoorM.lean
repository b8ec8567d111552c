/- The members of a capability: math/bits.TrailingZeros over its table, the loop over a set. -/
import Derived.Test.YtlagofkcddhigaaDoorL
import Derived.Deep.LoopGhost
import Derived.Maps.AppendAt
namespace Go.Proofs.YtlagofkcddhigaaDoor
open Go.RowKit

def dbL : List Int := [0, 1, 56, 2, 57, 49, 28, 3, 61, 58, 42, 50, 38, 29, 17, 4, 62, 47, 59, 36, 45, 43, 51, 22, 53, 39, 33, 30, 24, 18, 12, 5, 63, 55, 48, 27, 60, 41, 37, 16, 46, 35, 44, 21, 52, 32, 23, 11, 54, 26, 40, 15, 34, 20, 31, 10, 25, 14, 19, 9, 13, 8, 7, 6]
def tzD : List Int := [56, 48, 32, 82, 80, 64, 120, 112, 96, 126, 124]
def tzC (x : Int) : Int := if x % 2 = 1 then 0 else if x % 4 = 2 then 1 else if x % 8 = 4 then 2 else if x % 16 = 8 then 3 else if x % 32 = 16 then 4 else if x % 64 = 32 then 5 else 6

theorem info3 : (Tryd.prog.info? 3).map (fun i => (i.zero, i.size, i.bytes)) = some (some (.int .i64 0), 1, 8) := by kernel_rfl
theorem tz_law : ∀ x ∈ tzD, (x == 0) = false ∧ 0 ≤ IntKind.u64.wrap (bits BinOp.and IntKind.u64 x (IntKind.u64.wrap (-x)) * 285870213051353865) / 288230376151711744 ∧ IntKind.u64.wrap (bits BinOp.and IntKind.u64 x (IntKind.u64.wrap (-x)) * 285870213051353865) / 288230376151711744 < 64 ∧
    at1 dbL (IntKind.u64.wrap (bits BinOp.and IntKind.u64 x (IntKind.u64.wrap (-x)) * 285870213051353865) / 288230376151711744) = tzC x ∧ 0 ≤ tzC x ∧ tzC x ≤ 6 := by decide +kernel
set_option maxHeartbeats 1000000 in
theorem tz64_calls (x : Int) (hx : x ∈ tzD) (w : World) (ht : T1 8 .u8 dbL w) : Calls Tryd.prog 78 #[.int .u64 x] w fun e w' => e = .returned (.int .i64 (tzC x)) ∧ w = w' := by
  obtain ⟨h1, h2, h3, h4, h5, h6⟩ := tz_law x hx
  have hc := ht.at h2 (by show _ < (64 : Int); exact h3)
  rw [h4] at hc
  clear h4 ht hx
  go_enter Tryd.func78, Tryd.ntmps78
  go_wp2
  go_ret
  exact ⟨rfl, rfl⟩
set_option maxHeartbeats 400000 in
theorem tz_calls (x : Int) (hx : x ∈ tzD) (w : World) (ht : T1 8 .u8 dbL w) : Calls Tryd.prog 66 #[.int .u64 x] w fun e w' => e = .returned (.int .i64 (tzC x)) ∧ w = w' := by
  go_enter Tryd.func66, Tryd.ntmps66
  go_wp2_with fail
  refine (tz64_calls x hx w ht).mono ?_
  rintro e w' ⟨rfl, rfl⟩
  go_wp2
  go_ret
  exact ⟨rfl, rfl⟩

def setOf (c : Int) : List Int := if c = 7 then [3, 4, 5] else if c = 8 then [1, 4, 6] else if c = 9 then [4, 6] else if c = 10 then [3, 4, 5, 6] else if c = 11 then [1, 2, 3, 4, 5, 6] else []
theorem setOf_len (c : Int) : (setOf c).length ≤ 6 := by
  unfold setOf
  split
  · decide
  split
  · decide
  split
  · decide
  split
  · decide
  split <;> decide
def membersL (c : Int) : List Int := if isC c then [c] else setOf c
def masksL (c : Int) : List Int := if c = 7 then [56, 48, 32, 0] else if c = 8 then [82, 80, 64, 0] else if c = 9 then [80, 64, 0] else if c = 10 then [120, 112, 96, 64, 0] else [126, 124, 120, 112, 96, 64, 0]
def maskAt (c : Int) (k : Nat) : Int := (masksL c).getD k 0
theorem masks_law : ∀ c ∈ [7, 8, 9, 10, 11], maskAt c 0 = at1 setsL c ∧ maskAt c (setOf c).length = 0 ∧ ∀ k ∈ List.range (setOf c).length,
    maskAt c k ∈ tzD ∧ (maskAt c k != 0) = true ∧ 1 ≤ maskAt c k ∧ maskAt c k ≤ 126 ∧ tzC (maskAt c k) = (setOf c).getD k 0 ∧ bits BinOp.and IntKind.u64 (maskAt c k) (maskAt c k - 1) = maskAt c (k + 1) := by decide +kernel

theorem SlI.fresh (w : World) (e : TypeId) (xs : List Int) (cs : Array Value) (hcs : cs = (xs.map (Value.int .i64)).toArray) (n : Nat) (hn : n = xs.length) (hx : 0 < n) : SlI (w.alloc (.cells cs e)) (.slice (some ⟨w.heap.size, 0, none⟩) n n) xs := by
  subst hn hcs
  refine Or.inr ⟨hx, w.heap.size, 0, xs.length, rfl, fun i hi => ?_⟩
  rw [World.cell?_alloc_at _ _ _ _ rfl]
  simp [List.getD, hi]

set_option maxRecDepth 100000 in
set_option maxHeartbeats 2000000 in
theorem members_calls (c : Int) (w : World) (hs : T1 4 .u64 setsL w) (ht : T1 8 .u8 dbL w) :
    Calls Tryd.prog 36 #[.int .i64 c] w fun e w' => ∃ v, e = .returned v ∧ SlI w' v (membersL c) ∧ Below w.heap.size w w' := by
  by_cases hc : 1 ≤ c ∧ c ≤ 6
  · have hi : isC c = true := isC_iff.2 hc
    clear hc
    go_enter Tryd.func36, Tryd.ntmps36
    go_wp2_with (go_at_call 33; refine (is_calls _ _).mono ?_; rintro e w' ⟨rfl, rfl⟩)
    go_ret
    exact ⟨_, rfl, SlI.fresh _ _ _ _ (by simp [membersL, hi]) _ (by simp [membersL, hi]) (by decide), (Below.refl _ _).alloc (Nat.le_refl _) _⟩
  · have hi : isC c = false := isC_no.2 hc
    by_cases h7 : c < 7
    · clear hc
      have hm : membersL c = [] := by
        unfold membersL setOf; rw [hi]; simp only [Bool.false_eq_true, if_false]
        rw [if_neg (by omega), if_neg (by omega), if_neg (by omega), if_neg (by omega), if_neg (by omega)]
      have HM := Lib.hid hm
      clear hm
      go_enter Tryd.func36, Tryd.ntmps36
      go_wp2_with (go_at_call 33; refine (is_calls _ _).mono ?_; rintro e w' ⟨rfl, rfl⟩)
      go_ret
      exact ⟨_, rfl, by rw [HM.out]; exact Or.inl ⟨rfl, _, _, rfl⟩, Below.refl _ _⟩
    · by_cases h11 : 11 < c
      · clear hc
        have hm : membersL c = [] := by
          unfold membersL setOf; rw [hi]; simp only [Bool.false_eq_true, if_false]
          rw [if_neg (by omega), if_neg (by omega), if_neg (by omega), if_neg (by omega), if_neg (by omega)]
        have HM := Lib.hid hm
        clear hm
        go_enter Tryd.func36, Tryd.ntmps36
        go_wp2_with (go_at_call 33; refine (is_calls _ _).mono ?_; rintro e w' ⟨rfl, rfl⟩)
        go_ret
        exact ⟨_, rfl, by rw [HM.out]; exact Or.inl ⟨rfl, _, _, rfl⟩, Below.refl _ _⟩
      · have hmem : c ∈ [7, 8, 9, 10, 11] := by simp; omega
        have hL := masks_law c hmem
        obtain ⟨m0, mn, mk⟩ := hL
        have hcell := hs.at (i := c) (by omega) (by show c < 12; omega)
        rw [← m0] at hcell
        have hm : membersL c = setOf c := by simp [membersL, hi]
        have g7 : 7 ≤ c := by omega
        have g11 : c ≤ 11 := by omega
        have MN := Lib.hid mn
        have MK := Lib.hid mk
        have HM := Lib.hid hm
        clear hs hc h7 h11 hmem m0 mn mk hm
        generalize hn : (setOf c).length = n at *
        have hn6 : n ≤ 6 := by
          rw [← hn]; exact setOf_len c
        have N := Lib.hid hn
        clear hn
        go_enter Tryd.func36, Tryd.ntmps36
        go_wp2_with (go_at_call 33; refine (is_calls _ _).mono ?_; rintro e w' ⟨rfl, rfl⟩)
        go_loopg [3, 4] n (fun gk out s wr => gk ≤ n ∧ s = .int .u64 (maskAt c (n - gk)) ∧ wr.ownsRow w.heap.size 3 1 out (n - gk) (((setOf c).take (n - gk)).map (Value.int .i64)) ∧ Below w.heap.size w wr)
        case atStart => exact ⟨Nat.le_refl _, by simp, by simp only [Nat.sub_self, List.take_zero, List.map_nil]; exact World.ownsRow_nil _ _ _ _, Below.refl _ _⟩
        case round =>
          obtain ⟨hgk, rfl, hown, hbel⟩ := hrel
          have hu : (Tryd.prog.underlying 42) = some (.slice 3) := Tryd.underlying42
          by_cases hg0 : gk = 0
          · subst hg0
            have e0 : (maskAt c n != 0) = false := by rw [MN.out]; rfl
            simp only [Nat.sub_zero] at hown
            rw [List.take_of_length_le (by rw [N.out]; exact Nat.le_refl _)] at hown
            have O := Lib.hid (SlI.of_owns hown)
            clear hown
            rw [Nat.sub_zero]
            go_wp2
            go_ret
            exact ⟨_, rfl, by rw [HM.out]; exact O.out, hbel⟩
          · have hk := MK.out (n - gk) (by simp; omega)
            obtain ⟨k1, k2, k3, k4, k5, k6⟩ := hk
            have hT := (ht.below hbel)
            have K5 := Lib.hid k5
            have K6 := Lib.hid k6
            clear k5 k6
            have htk : (setOf c).take (n - gk) ++ [(setOf c).getD (n - gk) 0] = (setOf c).take (n - (gk - 1)) := by
              rw [show n - (gk - 1) = (n - gk) + 1 from by omega, List.take_succ_eq_append_getElem (by rw [N.out]; omega)]
              congr 2
              have : n - gk < (setOf c).length := by rw [N.out]; omega
              simp [List.getD, this]
            have TK := Lib.hid htk
            clear htk
            generalize hmv : maskAt c (n - gk) = mv at *
            have V := Lib.hid hmv
            clear hmv
            have hb : w.heap.size ≤ wr.heap.size := hbel.size
            have hn64 : n - gk + 1 ≤ maxLen := by unfold maxLen; omega
            go_wp2_with fail
            refine (tz_calls mv k1 wr hT).mono ?_
            rintro e w' ⟨rfl, rfl⟩
            clear hT k1
            generalize htz : tzC mv = tv at *
            have Z := Lib.hid htz
            clear htz
            have hown1 := hown.alloc (.cells #[.int .i64 tv] 3)
            have hcl : ∀ j u, [Value.int .i64 tv][j]? = some u → (wr.alloc (.cells #[.int .i64 tv] 3)).cell? ((⟨wr.heap.size, 0, none⟩ : Addr).add j) = some u := cell_one_new _ _ _
            obtain ⟨i0, hif, hz0, hz1, hz2⟩ := info_parts info3
            go_wp2_with (at_builtin; refine wpList_append_own _ rfl _ _ 42 rfl w.heap.size 3 i0 (.int .i64 0) 1 8 Tryd.underlying42 hif hz0 hz1 hz2 rfl (by decide) _ _ _ rfl hown1 ⟨wr.heap.size, 0, none⟩ 1 1 [.int .i64 tv] rfl rfl hcl ?c2 ?c3 ?c4 ?c5 ?_)
            case c2 => intro u hu; simp at hu; subst hu; rfl
            case c3 => exact hn64
            case c4 => omega
            case c5 => simp; omega
            intro v' w2 hown2 hgrow _
            have hbel2 : Below w.heap.size w w2 := (hbel.alloc hb _).grown hgrow (by simp; omega) (fun k hk => (hown1.lt k hk).1)
            have hown3 : w2.ownsRow w.heap.size 3 1 v' (n - (gk - 1)) (((setOf c).take (n - (gk - 1))).map (Value.int .i64)) := by
              rw [← TK.out, show n - (gk - 1) = n - gk + 1 from by omega, List.map_append, List.map_take, ← K5.out]
              exact hown2
            clear hown hown1 hown2 hgrow hbel hcl hif hz0 hz1 hz2
            have O := Lib.hid hown3
            clear hown3
            go_wp2
            go_roundg (gk - 1)
            case measure => omega
            case rel =>
              refine ⟨by omega, ?_, O.out, hbel2⟩
              rw [show n - (gk - 1) = n - gk + 1 from by omega, ← K6.out]

end Go.Proofs.YtlagofkcddhigaaDoor
