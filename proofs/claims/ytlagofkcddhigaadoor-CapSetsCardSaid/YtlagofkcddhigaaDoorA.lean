/- Contracts of the small functions of packages cap and the reference: what each returns, over the tables. -/
import Derived.Test.YtlagofkcddhigaaDoorProg
import Derived.WalkKit
import Derived.Outline
import Derived.BigQuiet
import Derived.Lib.Hide
import Derived.RowKit3
import Derived.Below
import Derived.LoopN
namespace Go.Proofs.YtlagofkcddhigaaDoor
open Go.RowKit

def isC (c : Int) : Bool := decide (1 ≤ c ∧ c ≤ 6)
def hasC (s c : Int) : Bool := isC c && (bits BinOp.and IntKind.u64 (s / 2 ^ c.toNat) 1 == 1)
def at1 (l : List Int) (i : Int) : Int := l.getD i.toNat 0
def viewL : List (List Int) := [[0,0,0,0,0,0,0],[0,1,6,6,4,6,6],[0,1,2,5,4,5,6],[0,1,2,3,4,5,6],[0,4,4,4,4,4,6],[0,6,5,5,4,5,6],[0,0,0,0,0,0,0]]
def fitsL : List Int := [1023,518,516,1016,816,800,832,896,768,512]
def localL : List Int := [0,64,96,104,112,124,126]
def globalL : List Int := [0,64,64,64,112,112,126]
def setsL : List Int := [0,0,0,0,0,0,0,56,82,80,120,126]
def storesL : List Int := [0,82,86,126,0,0,0]
def viewAt (o f : Int) : Int := at1 (viewL.getD o.toNat []) f

/-- A table of integers lies at block g. -/
def T1 (g : Nat) (k : IntKind) (l : List Int) (w : World) : Prop := ∀ (i : Nat) (z : Int), l[i]? = some z → w.cell? ⟨g, i, none⟩ = some (.int k z)
def TV (w : World) : Prop := ∀ (i j : Nat) (zs : List Int) (z : Int), viewL[i]? = some zs → zs[j]? = some z → w.cell? ⟨0, i * 7 + j, none⟩ = some (.int .i64 z)

theorem T1.at {g : Nat} {k : IntKind} {l : List Int} {w : World} (h : T1 g k l w) {i : Int} (h0 : 0 ≤ i) (h1 : i < l.length) : w.cell? ⟨g, i.toNat, none⟩ = some (.int k (at1 l i)) := by
  have hi : i.toNat < l.length := by omega
  rw [h i.toNat l[i.toNat] (List.getElem?_eq_getElem hi)]
  simp [at1, List.getD, hi]
theorem T1.below {g : Nat} {k : IntKind} {l : List Int} {w w' : World} (h : T1 g k l w) (hb : Below w.heap.size w w') : T1 g k l w' := by
  intro i z hz
  have hc := h i z hz
  exact (hb.cell (World.block_lt_of_cell? w _ hc)).trans hc
theorem TV.below {w w' : World} (h : TV w) (hb : Below w.heap.size w w') : TV w' := by
  intro i j zs z h1 h2
  have hc := h i j zs z h1 h2
  exact (hb.cell (World.block_lt_of_cell? w _ hc)).trans hc
theorem viewL_rows : ∀ zs ∈ viewL, zs.length = 7 := by decide
theorem TV.at {w : World} (h : TV w) {o f : Int} (h0 : 0 ≤ o) (h1 : o < 7) (h2 : 0 ≤ f) (h3 : f < 7) : w.cell? ⟨0, o.toNat * 7 + f.toNat, none⟩ = some (.int .i64 (viewAt o f)) := by
  have hi : o.toNat < viewL.length := by show o.toNat < 7; omega
  have hr := viewL_rows (viewL[o.toNat]) (List.getElem_mem hi)
  have hj : f.toNat < (viewL[o.toNat]).length := by omega
  rw [h o.toNat f.toNat _ ((viewL[o.toNat])[f.toNat]) (List.getElem?_eq_getElem hi) (List.getElem?_eq_getElem hj)]
  simp [viewAt, at1, List.getD, hi, hj]

theorem ret_bool {a b : Bool} (h : a = b) : Ending.returned (.bool a) = Ending.returned (.bool b) := by rw [h]
theorem ret_int {k : IntKind} {a b : Int} (h : a = b) : Ending.returned (.int k a) = Ending.returned (.int k b) := by rw [h]
theorem isC_iff {c : Int} : isC c = true ↔ 1 ≤ c ∧ c ≤ 6 := by simp [isC]
theorem isC_no {c : Int} : isC c = false ↔ ¬ (1 ≤ c ∧ c ≤ 6) := by rw [← isC_iff]; simp

set_option maxHeartbeats 400000 in
theorem is_calls (c : Int) (w : World) : Calls Tryd.prog 33 #[.int .i64 c] w fun e w' => e = .returned (.bool (isC c)) ∧ w = w' := by
  go_enter Tryd.func33, Tryd.ntmps33
  go_wp2
  all_goals
    go_ret
    exact ⟨ret_bool (by simp [isC]; omega), rfl⟩
set_option maxHeartbeats 400000 in
theorem ref_is_calls (c : Int) (w : World) : Calls Tryd.prog 34 #[.int .i64 c] w fun e w' => e = .returned (.bool (isC c)) ∧ w = w' := by
  go_enter Tryd.func34, Tryd.ntmps34
  go_wp2
  all_goals
    go_ret
    exact ⟨ret_bool (by simp [isC]; omega), rfl⟩

set_option maxHeartbeats 400000 in
theorem has_calls (s c : Int) (w : World) : Calls Tryd.prog 58 #[.int .u64 s, .int .i64 c] w fun e w' => e = .returned (.bool (hasC s c)) ∧ w = w' := by
  by_cases hc : 1 ≤ c ∧ c ≤ 6
  · obtain ⟨h2, h3⟩ := hc
    have hi : isC c = true := by simp [isC]; omega
    go_enter Tryd.func58, Tryd.ntmps58
    go_wp2_with (go_at_call 33; refine (is_calls _ _).mono ?_; rintro e w' ⟨rfl, rfl⟩)
    go_ret
    exact ⟨ret_bool (by simp [hasC, hi]), rfl⟩
  · have hi : isC c = false := by simp [isC]; omega
    go_enter Tryd.func58, Tryd.ntmps58
    go_wp2_with (go_at_call 33; refine (is_calls _ _).mono ?_; rintro e w' ⟨rfl, rfl⟩)
    go_ret
    exact ⟨ret_bool (by simp [hasC, hi]), rfl⟩

def readsC (c : Int) : Bool := isC c && c != 6
set_option maxHeartbeats 400000 in
theorem reads_calls (c : Int) (w : World) : Calls Tryd.prog 12 #[.int .i64 c] w fun e w' => e = .returned (.bool (readsC c)) ∧ w = w' := by
  go_enter Tryd.func12, Tryd.ntmps12
  go_wp2_with (go_at_call 33; refine (is_calls _ _).mono ?_; rintro e w' ⟨rfl, rfl⟩)
  all_goals
    go_ret
    exact ⟨ret_bool (by simp_all [readsC]), rfl⟩

set_option maxHeartbeats 400000 in
theorem of_calls (b : Nat) (w : World) (h0 : w.cell? ⟨b, 0, none⟩ = some (.int .i64 1)) (h1 : w.cell? ⟨b, 1, none⟩ = some (.int .i64 2)) (h2 : w.cell? ⟨b, 2, none⟩ = some (.int .i64 3)) :
    Calls Tryd.prog 57 #[.slice (some ⟨b, 0, none⟩) 3 3] w fun e w' => e = .returned (.int .u64 14) ∧ w = w' := by
  go_enter Tryd.func57, Tryd.ntmps57
  go_wp2
  refine wp_loop_rounds 4 ?_
  rw [rounds_succ]; go_wp2
  rw [rounds_succ]; go_wp2
  rw [rounds_succ]; go_wp2
  rw [rounds_succ]; go_wp2
  go_ret
  exact ⟨ret_int (by decide), rfl⟩

set_option maxHeartbeats 400000 in
theorem writes_calls (c : Int) (w : World) : Calls Tryd.prog 13 #[.int .i64 c] w fun e w' => e = .returned (.bool (hasC 14 c)) ∧ Below w.heap.size w w' := by
  go_enter Tryd.func13, Tryd.ntmps13
  go_wp2_with (first | (go_at_call 57; refine (of_calls _ _ (by simp) (by simp) (by simp)).mono ?_; rintro e w' ⟨rfl, rfl⟩) | (go_at_call 58; refine (has_calls _ _ _).mono ?_; rintro e w' ⟨rfl, rfl⟩))
  go_ret
  exact ⟨rfl, (Below.refl _ _).alloc (Nat.le_refl _) _⟩

set_option maxHeartbeats 400000 in
theorem sendable_calls (c : Int) (w : World) (hs : T1 4 .u64 setsL w) : Calls Tryd.prog 22 #[.int .i64 c] w fun e w' => e = .returned (.bool (hasC 82 c)) ∧ w = w' := by
  have hc : w.cell? ⟨4, 8, none⟩ = some (.int .u64 82) := hs 8 82 rfl
  go_enter Tryd.func22, Tryd.ntmps22
  go_wp2_with (go_at_call 58; refine (has_calls _ _ _).mono ?_; rintro e w' ⟨rfl, rfl⟩)
  go_ret
  exact ⟨rfl, rfl⟩

def viewB (o f : Int) : Bool := isC o && isC f && o != 6
def viewC (o f : Int) : Int := if viewB o f then viewAt o f else 0
set_option maxHeartbeats 400000 in
theorem view_calls (o f : Int) (w : World) (hv : TV w) : Calls Tryd.prog 11 #[.int .i64 o, .int .i64 f] w fun e w' => e = .returned (.tuple #[.int .i64 (viewC o f), .bool (viewB o f)]) ∧ w = w' := by
  by_cases h : viewB o f = true
  · have hC : viewC o f = viewAt o f := by simp [viewC, h]
    have hh := h
    simp only [viewB, Bool.and_eq_true] at hh
    obtain ⟨⟨h1, h2⟩, h3⟩ := hh
    have g1 := isC_iff.1 h1
    have g2 := isC_iff.1 h2
    obtain ⟨g1, g1'⟩ := g1
    obtain ⟨g2, g2'⟩ := g2
    have h4 : (o == 6) = false := by simpa using h3
    have hc := hv.at (o := o) (f := f) (by omega) (by omega) (by omega) (by omega)
    clear hv h3
    go_enter Tryd.func11, Tryd.ntmps11
    go_wp2_with (go_at_call 33; refine (is_calls _ _).mono ?_; rintro e w' ⟨rfl, rfl⟩)
    go_ret2
    exact ⟨by simp [hC, h], rfl⟩
  · have hB : viewB o f = false := by simpa using h
    have hC : viewC o f = 0 := by simp [viewC, h]
    by_cases h1 : isC o = true
    · by_cases h2 : isC f = true
      · have h3 : (o == 6) = true := by simp [viewB, h1, h2] at h; simp [h]
        clear hv h
        go_enter Tryd.func11, Tryd.ntmps11
        go_wp2_with (go_at_call 33; refine (is_calls _ _).mono ?_; rintro e w' ⟨rfl, rfl⟩)
        go_ret2
        exact ⟨by simp [hC, hB], rfl⟩
      · have h3 : isC f = false := by simpa using h2
        clear hv h h2
        go_enter Tryd.func11, Tryd.ntmps11
        go_wp2_with (go_at_call 33; refine (is_calls _ _).mono ?_; rintro e w' ⟨rfl, rfl⟩)
        go_ret2
        exact ⟨by simp [hC, hB], rfl⟩
    · have h3 : isC o = false := by simpa using h1
      clear hv h h1
      go_enter Tryd.func11, Tryd.ntmps11
      go_wp2_with (go_at_call 33; refine (is_calls _ _).mono ?_; rintro e w' ⟨rfl, rfl⟩)
      go_ret2
      exact ⟨by simp [hC, hB], rfl⟩
end Go.Proofs.YtlagofkcddhigaaDoor
