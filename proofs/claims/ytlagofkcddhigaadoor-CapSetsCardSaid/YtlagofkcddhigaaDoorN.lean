/- Contracts: Parse of the program and of the reference; the reference's Members. -/
import Derived.Test.YtlagofkcddhigaaDoorM
import Derived.Lib.SlicesS
namespace Go.Proofs.YtlagofkcddhigaaDoor
open Go.RowKit

def nm (k : Nat) : ByteArray := ⟨(namesL.getD k []).toArray⟩
def parseN (s : ByteArray) : Int := if s = nm 1 then 1 else if s = nm 2 then 2 else if s = nm 3 then 3 else if s = nm 4 then 4 else if s = nm 5 then 5 else if s = nm 6 then 6 else if s = nm 7 then 7 else if s = nm 8 then 8 else if s = nm 9 then 9 else if s = nm 10 then 10 else if s = nm 11 then 11 else 0
def parseE (s : ByteArray) : Int := if parseN s = 0 then 5 else 0
def namesA : Array Value := #[.string ⟨#[]⟩, .string ⟨#[105, 115, 111]⟩, .string ⟨#[116, 114, 110]⟩, .string ⟨#[114, 101, 102]⟩, .string ⟨#[118, 97, 108]⟩, .string ⟨#[98, 111, 120]⟩, .string ⟨#[116, 97, 103]⟩, .string ⟨#[35, 114, 101, 97, 100]⟩, .string ⟨#[35, 115, 101, 110, 100]⟩, .string ⟨#[35, 115, 104, 97, 114, 101]⟩, .string ⟨#[35, 97, 108, 105, 97, 115]⟩, .string ⟨#[35, 97, 110, 121]⟩]
/-- The table of names lies whole at block 6. -/
def NB (w : World) : Prop := ∃ t fr, w.heap[6]? = some (.cells namesA t fr)
theorem NB.below {w w' : World} (h : NB w) (hb : Below w.heap.size w w') : NB w' := by
  obtain ⟨t, fr, h⟩ := h
  refine ⟨t, fr, ?_⟩
  rw [hb.block 6 (by
    rcases Nat.lt_or_ge 6 w.heap.size with g | g
    · exact g
    · rw [Array.getElem?_eq_none g] at h; cases h)]
  exact h

theorem parse_cases (s : ByteArray) : (∃ k, 1 ≤ k ∧ k ≤ 11 ∧ s = nm k) ∨ (parseN s = 0 ∧ ∀ k, 1 ≤ k → k ≤ 11 → s ≠ nm k) := by
  by_cases h : ∃ k, 1 ≤ k ∧ k ≤ 11 ∧ s = nm k
  · exact Or.inl h
  · right
    have g : ∀ k, 1 ≤ k → k ≤ 11 → s ≠ nm k := fun k h1 h2 e => h ⟨k, h1, h2, e⟩
    refine ⟨?_, g⟩
    unfold parseN
    rw [if_neg (g 1 (by decide) (by decide)), if_neg (g 2 (by decide) (by decide)), if_neg (g 3 (by decide) (by decide)), if_neg (g 4 (by decide) (by decide)), if_neg (g 5 (by decide) (by decide)), if_neg (g 6 (by decide) (by decide)), if_neg (g 7 (by decide) (by decide)), if_neg (g 8 (by decide) (by decide)), if_neg (g 9 (by decide) (by decide)), if_neg (g 10 (by decide) (by decide)), if_neg (g 11 (by decide) (by decide))]

theorem ix0 (w : World) : (Instr.index 74 (.agg namesA) (.int .i64 0)).run Tryd.prog w = .ok (.string ⟨#[]⟩) w := by kernel_rfl
theorem ix1 (w : World) : (Instr.index 74 (.agg namesA) (.int .i64 1)).run Tryd.prog w = .ok (.string ⟨#[105, 115, 111]⟩) w := by kernel_rfl
theorem ix2 (w : World) : (Instr.index 74 (.agg namesA) (.int .i64 2)).run Tryd.prog w = .ok (.string ⟨#[116, 114, 110]⟩) w := by kernel_rfl
theorem ix3 (w : World) : (Instr.index 74 (.agg namesA) (.int .i64 3)).run Tryd.prog w = .ok (.string ⟨#[114, 101, 102]⟩) w := by kernel_rfl
theorem ix4 (w : World) : (Instr.index 74 (.agg namesA) (.int .i64 4)).run Tryd.prog w = .ok (.string ⟨#[118, 97, 108]⟩) w := by kernel_rfl
theorem ix5 (w : World) : (Instr.index 74 (.agg namesA) (.int .i64 5)).run Tryd.prog w = .ok (.string ⟨#[98, 111, 120]⟩) w := by kernel_rfl
theorem ix6 (w : World) : (Instr.index 74 (.agg namesA) (.int .i64 6)).run Tryd.prog w = .ok (.string ⟨#[116, 97, 103]⟩) w := by kernel_rfl
theorem ix7 (w : World) : (Instr.index 74 (.agg namesA) (.int .i64 7)).run Tryd.prog w = .ok (.string ⟨#[35, 114, 101, 97, 100]⟩) w := by kernel_rfl
theorem ix8 (w : World) : (Instr.index 74 (.agg namesA) (.int .i64 8)).run Tryd.prog w = .ok (.string ⟨#[35, 115, 101, 110, 100]⟩) w := by kernel_rfl
theorem ix9 (w : World) : (Instr.index 74 (.agg namesA) (.int .i64 9)).run Tryd.prog w = .ok (.string ⟨#[35, 115, 104, 97, 114, 101]⟩) w := by kernel_rfl
theorem ix10 (w : World) : (Instr.index 74 (.agg namesA) (.int .i64 10)).run Tryd.prog w = .ok (.string ⟨#[35, 97, 108, 105, 97, 115]⟩) w := by kernel_rfl
theorem ix11 (w : World) : (Instr.index 74 (.agg namesA) (.int .i64 11)).run Tryd.prog w = .ok (.string ⟨#[35, 97, 110, 121]⟩) w := by kernel_rfl
theorem nm1 : (nm 1).toList = [105, 115, 111] := by decide +kernel
theorem nm2 : (nm 2).toList = [116, 114, 110] := by decide +kernel
theorem nm3 : (nm 3).toList = [114, 101, 102] := by decide +kernel
theorem nm4 : (nm 4).toList = [118, 97, 108] := by decide +kernel
theorem nm5 : (nm 5).toList = [98, 111, 120] := by decide +kernel
theorem nm6 : (nm 6).toList = [116, 97, 103] := by decide +kernel
theorem nm7 : (nm 7).toList = [35, 114, 101, 97, 100] := by decide +kernel
theorem nm8 : (nm 8).toList = [35, 115, 101, 110, 100] := by decide +kernel
theorem nm9 : (nm 9).toList = [35, 115, 104, 97, 114, 101] := by decide +kernel
theorem nm10 : (nm 10).toList = [35, 97, 108, 105, 97, 115] := by decide +kernel
theorem nm11 : (nm 11).toList = [35, 97, 110, 121] := by decide +kernel
theorem nc1 : nameC 1 = ⟨#[105, 115, 111]⟩ := by decide
theorem nc2 : nameC 2 = ⟨#[116, 114, 110]⟩ := by decide
theorem nc3 : nameC 3 = ⟨#[114, 101, 102]⟩ := by decide
theorem nc4 : nameC 4 = ⟨#[118, 97, 108]⟩ := by decide
theorem nc5 : nameC 5 = ⟨#[98, 111, 120]⟩ := by decide
theorem nc6 : nameC 6 = ⟨#[116, 97, 103]⟩ := by decide
theorem nc7 : nameC 7 = ⟨#[35, 114, 101, 97, 100]⟩ := by decide
theorem nc8 : nameC 8 = ⟨#[35, 115, 101, 110, 100]⟩ := by decide
theorem nc9 : nameC 9 = ⟨#[35, 115, 104, 97, 114, 101]⟩ := by decide
theorem nc10 : nameC 10 = ⟨#[35, 97, 108, 105, 97, 115]⟩ := by decide
theorem nc11 : nameC 11 = ⟨#[35, 97, 110, 121]⟩ := by decide
theorem nm_no {s : ByteArray} {k : Nat} {l : List UInt8} (hl : (nm k).toList = l) (h : s ≠ nm k) : (l == s.toList) = false := by
  rw [← hl]
  exact (Lib.bytes_beq_false_iff _ _).2 (fun e => h e.symm)
theorem nm_yes {s : ByteArray} {k : Nat} {l : List UInt8} (hl : (nm k).toList = l) (h : s = nm k) : (l == s.toList) = true := by
  rw [h, hl]
  exact beq_self_eq_true l
theorem nm_inj : ∀ j ∈ List.range 12, ∀ k ∈ List.range 12, nm j = nm k → j = k := by decide
theorem nm_other {s : ByteArray} {j k : Nat} (hk : s = nm k) (h : j ≠ k) (h1 : j < 12) (h2 : k < 12) : s ≠ nm j := by
  rw [hk]
  exact fun e => h (nm_inj j (by simpa using h1) k (by simpa using h2) e.symm)
theorem parse_nm : ∀ k ∈ List.range 12, k ≠ 0 → parseN (nm k) = k ∧ parseE (nm k) = 0 := by decide

set_option maxRecDepth 100000 in
set_option maxHeartbeats 4000000 in
theorem parse_calls_1 (s : ByteArray) (w : World) (hs : s = nm 1) (hn : NB w) : Calls Tryd.prog 29 #[.string s] w fun e w' => e = .returned (.tuple #[.int .i64 1, .int .i64 0]) ∧ w = w' := by
  obtain ⟨tn, fr, hg⟩ := hn
  have f1 := nm_yes nm1 hs
  have j1 := ix1
  have j0 := ix0
  clear hs
  go_enter Tryd.func29, Tryd.ntmps29
  go_wp2_with (refine wpList_load_row rfl 74 _ rfl 6 rfl tn namesA fr _ hg Tryd.underlying74 rfl (by kernel_rfl) ?_)
  refine wp_loop_rounds 2 ?_
  rw [rounds_succ]; go_wp2
  rw [rounds_succ]; go_wp2
  go_ret2
  exact ⟨rfl, rfl⟩

set_option maxRecDepth 100000 in
set_option maxHeartbeats 4000000 in
theorem parse_calls_2 (s : ByteArray) (w : World) (hs : s = nm 2) (hn : NB w) : Calls Tryd.prog 29 #[.string s] w fun e w' => e = .returned (.tuple #[.int .i64 2, .int .i64 0]) ∧ w = w' := by
  obtain ⟨tn, fr, hg⟩ := hn
  have f1 := nm_no nm1 (nm_other (j := 1) hs (by decide) (by decide) (by decide))
  have j1 := ix1
  have f2 := nm_yes nm2 hs
  have j2 := ix2
  have j0 := ix0
  clear hs
  go_enter Tryd.func29, Tryd.ntmps29
  go_wp2_with (refine wpList_load_row rfl 74 _ rfl 6 rfl tn namesA fr _ hg Tryd.underlying74 rfl (by kernel_rfl) ?_)
  refine wp_loop_rounds 3 ?_
  rw [rounds_succ]; go_wp2
  rw [rounds_succ]; go_wp2
  rw [rounds_succ]; go_wp2
  go_ret2
  exact ⟨rfl, rfl⟩

set_option maxRecDepth 100000 in
set_option maxHeartbeats 4000000 in
theorem parse_calls_3 (s : ByteArray) (w : World) (hs : s = nm 3) (hn : NB w) : Calls Tryd.prog 29 #[.string s] w fun e w' => e = .returned (.tuple #[.int .i64 3, .int .i64 0]) ∧ w = w' := by
  obtain ⟨tn, fr, hg⟩ := hn
  have f1 := nm_no nm1 (nm_other (j := 1) hs (by decide) (by decide) (by decide))
  have j1 := ix1
  have f2 := nm_no nm2 (nm_other (j := 2) hs (by decide) (by decide) (by decide))
  have j2 := ix2
  have f3 := nm_yes nm3 hs
  have j3 := ix3
  have j0 := ix0
  clear hs
  go_enter Tryd.func29, Tryd.ntmps29
  go_wp2_with (refine wpList_load_row rfl 74 _ rfl 6 rfl tn namesA fr _ hg Tryd.underlying74 rfl (by kernel_rfl) ?_)
  refine wp_loop_rounds 4 ?_
  rw [rounds_succ]; go_wp2
  rw [rounds_succ]; go_wp2
  rw [rounds_succ]; go_wp2
  rw [rounds_succ]; go_wp2
  go_ret2
  exact ⟨rfl, rfl⟩

set_option maxRecDepth 100000 in
set_option maxHeartbeats 4000000 in
theorem parse_calls_4 (s : ByteArray) (w : World) (hs : s = nm 4) (hn : NB w) : Calls Tryd.prog 29 #[.string s] w fun e w' => e = .returned (.tuple #[.int .i64 4, .int .i64 0]) ∧ w = w' := by
  obtain ⟨tn, fr, hg⟩ := hn
  have f1 := nm_no nm1 (nm_other (j := 1) hs (by decide) (by decide) (by decide))
  have j1 := ix1
  have f2 := nm_no nm2 (nm_other (j := 2) hs (by decide) (by decide) (by decide))
  have j2 := ix2
  have f3 := nm_no nm3 (nm_other (j := 3) hs (by decide) (by decide) (by decide))
  have j3 := ix3
  have f4 := nm_yes nm4 hs
  have j4 := ix4
  have j0 := ix0
  clear hs
  go_enter Tryd.func29, Tryd.ntmps29
  go_wp2_with (refine wpList_load_row rfl 74 _ rfl 6 rfl tn namesA fr _ hg Tryd.underlying74 rfl (by kernel_rfl) ?_)
  refine wp_loop_rounds 5 ?_
  rw [rounds_succ]; go_wp2
  rw [rounds_succ]; go_wp2
  rw [rounds_succ]; go_wp2
  rw [rounds_succ]; go_wp2
  rw [rounds_succ]; go_wp2
  go_ret2
  exact ⟨rfl, rfl⟩

set_option maxRecDepth 100000 in
set_option maxHeartbeats 4000000 in
theorem parse_calls_5 (s : ByteArray) (w : World) (hs : s = nm 5) (hn : NB w) : Calls Tryd.prog 29 #[.string s] w fun e w' => e = .returned (.tuple #[.int .i64 5, .int .i64 0]) ∧ w = w' := by
  obtain ⟨tn, fr, hg⟩ := hn
  have f1 := nm_no nm1 (nm_other (j := 1) hs (by decide) (by decide) (by decide))
  have j1 := ix1
  have f2 := nm_no nm2 (nm_other (j := 2) hs (by decide) (by decide) (by decide))
  have j2 := ix2
  have f3 := nm_no nm3 (nm_other (j := 3) hs (by decide) (by decide) (by decide))
  have j3 := ix3
  have f4 := nm_no nm4 (nm_other (j := 4) hs (by decide) (by decide) (by decide))
  have j4 := ix4
  have f5 := nm_yes nm5 hs
  have j5 := ix5
  have j0 := ix0
  clear hs
  go_enter Tryd.func29, Tryd.ntmps29
  go_wp2_with (refine wpList_load_row rfl 74 _ rfl 6 rfl tn namesA fr _ hg Tryd.underlying74 rfl (by kernel_rfl) ?_)
  refine wp_loop_rounds 6 ?_
  rw [rounds_succ]; go_wp2
  rw [rounds_succ]; go_wp2
  rw [rounds_succ]; go_wp2
  rw [rounds_succ]; go_wp2
  rw [rounds_succ]; go_wp2
  rw [rounds_succ]; go_wp2
  go_ret2
  exact ⟨rfl, rfl⟩

set_option maxRecDepth 100000 in
set_option maxHeartbeats 4000000 in
theorem parse_calls_6 (s : ByteArray) (w : World) (hs : s = nm 6) (hn : NB w) : Calls Tryd.prog 29 #[.string s] w fun e w' => e = .returned (.tuple #[.int .i64 6, .int .i64 0]) ∧ w = w' := by
  obtain ⟨tn, fr, hg⟩ := hn
  have f1 := nm_no nm1 (nm_other (j := 1) hs (by decide) (by decide) (by decide))
  have j1 := ix1
  have f2 := nm_no nm2 (nm_other (j := 2) hs (by decide) (by decide) (by decide))
  have j2 := ix2
  have f3 := nm_no nm3 (nm_other (j := 3) hs (by decide) (by decide) (by decide))
  have j3 := ix3
  have f4 := nm_no nm4 (nm_other (j := 4) hs (by decide) (by decide) (by decide))
  have j4 := ix4
  have f5 := nm_no nm5 (nm_other (j := 5) hs (by decide) (by decide) (by decide))
  have j5 := ix5
  have f6 := nm_yes nm6 hs
  have j6 := ix6
  have j0 := ix0
  clear hs
  go_enter Tryd.func29, Tryd.ntmps29
  go_wp2_with (refine wpList_load_row rfl 74 _ rfl 6 rfl tn namesA fr _ hg Tryd.underlying74 rfl (by kernel_rfl) ?_)
  refine wp_loop_rounds 7 ?_
  rw [rounds_succ]; go_wp2
  rw [rounds_succ]; go_wp2
  rw [rounds_succ]; go_wp2
  rw [rounds_succ]; go_wp2
  rw [rounds_succ]; go_wp2
  rw [rounds_succ]; go_wp2
  rw [rounds_succ]; go_wp2
  go_ret2
  exact ⟨rfl, rfl⟩

set_option maxRecDepth 100000 in
set_option maxHeartbeats 4000000 in
theorem parse_calls_7 (s : ByteArray) (w : World) (hs : s = nm 7) (hn : NB w) : Calls Tryd.prog 29 #[.string s] w fun e w' => e = .returned (.tuple #[.int .i64 7, .int .i64 0]) ∧ w = w' := by
  obtain ⟨tn, fr, hg⟩ := hn
  have f1 := nm_no nm1 (nm_other (j := 1) hs (by decide) (by decide) (by decide))
  have j1 := ix1
  have f2 := nm_no nm2 (nm_other (j := 2) hs (by decide) (by decide) (by decide))
  have j2 := ix2
  have f3 := nm_no nm3 (nm_other (j := 3) hs (by decide) (by decide) (by decide))
  have j3 := ix3
  have f4 := nm_no nm4 (nm_other (j := 4) hs (by decide) (by decide) (by decide))
  have j4 := ix4
  have f5 := nm_no nm5 (nm_other (j := 5) hs (by decide) (by decide) (by decide))
  have j5 := ix5
  have f6 := nm_no nm6 (nm_other (j := 6) hs (by decide) (by decide) (by decide))
  have j6 := ix6
  have f7 := nm_yes nm7 hs
  have j7 := ix7
  have j0 := ix0
  clear hs
  go_enter Tryd.func29, Tryd.ntmps29
  go_wp2_with (refine wpList_load_row rfl 74 _ rfl 6 rfl tn namesA fr _ hg Tryd.underlying74 rfl (by kernel_rfl) ?_)
  refine wp_loop_rounds 8 ?_
  rw [rounds_succ]; go_wp2
  rw [rounds_succ]; go_wp2
  rw [rounds_succ]; go_wp2
  rw [rounds_succ]; go_wp2
  rw [rounds_succ]; go_wp2
  rw [rounds_succ]; go_wp2
  rw [rounds_succ]; go_wp2
  rw [rounds_succ]; go_wp2
  go_ret2
  exact ⟨rfl, rfl⟩

set_option maxRecDepth 100000 in
set_option maxHeartbeats 4000000 in
theorem parse_calls_8 (s : ByteArray) (w : World) (hs : s = nm 8) (hn : NB w) : Calls Tryd.prog 29 #[.string s] w fun e w' => e = .returned (.tuple #[.int .i64 8, .int .i64 0]) ∧ w = w' := by
  obtain ⟨tn, fr, hg⟩ := hn
  have f1 := nm_no nm1 (nm_other (j := 1) hs (by decide) (by decide) (by decide))
  have j1 := ix1
  have f2 := nm_no nm2 (nm_other (j := 2) hs (by decide) (by decide) (by decide))
  have j2 := ix2
  have f3 := nm_no nm3 (nm_other (j := 3) hs (by decide) (by decide) (by decide))
  have j3 := ix3
  have f4 := nm_no nm4 (nm_other (j := 4) hs (by decide) (by decide) (by decide))
  have j4 := ix4
  have f5 := nm_no nm5 (nm_other (j := 5) hs (by decide) (by decide) (by decide))
  have j5 := ix5
  have f6 := nm_no nm6 (nm_other (j := 6) hs (by decide) (by decide) (by decide))
  have j6 := ix6
  have f7 := nm_no nm7 (nm_other (j := 7) hs (by decide) (by decide) (by decide))
  have j7 := ix7
  have f8 := nm_yes nm8 hs
  have j8 := ix8
  have j0 := ix0
  clear hs
  go_enter Tryd.func29, Tryd.ntmps29
  go_wp2_with (refine wpList_load_row rfl 74 _ rfl 6 rfl tn namesA fr _ hg Tryd.underlying74 rfl (by kernel_rfl) ?_)
  refine wp_loop_rounds 9 ?_
  rw [rounds_succ]; go_wp2
  rw [rounds_succ]; go_wp2
  rw [rounds_succ]; go_wp2
  rw [rounds_succ]; go_wp2
  rw [rounds_succ]; go_wp2
  rw [rounds_succ]; go_wp2
  rw [rounds_succ]; go_wp2
  rw [rounds_succ]; go_wp2
  rw [rounds_succ]; go_wp2
  go_ret2
  exact ⟨rfl, rfl⟩

set_option maxRecDepth 100000 in
set_option maxHeartbeats 4000000 in
theorem parse_calls_9 (s : ByteArray) (w : World) (hs : s = nm 9) (hn : NB w) : Calls Tryd.prog 29 #[.string s] w fun e w' => e = .returned (.tuple #[.int .i64 9, .int .i64 0]) ∧ w = w' := by
  obtain ⟨tn, fr, hg⟩ := hn
  have f1 := nm_no nm1 (nm_other (j := 1) hs (by decide) (by decide) (by decide))
  have j1 := ix1
  have f2 := nm_no nm2 (nm_other (j := 2) hs (by decide) (by decide) (by decide))
  have j2 := ix2
  have f3 := nm_no nm3 (nm_other (j := 3) hs (by decide) (by decide) (by decide))
  have j3 := ix3
  have f4 := nm_no nm4 (nm_other (j := 4) hs (by decide) (by decide) (by decide))
  have j4 := ix4
  have f5 := nm_no nm5 (nm_other (j := 5) hs (by decide) (by decide) (by decide))
  have j5 := ix5
  have f6 := nm_no nm6 (nm_other (j := 6) hs (by decide) (by decide) (by decide))
  have j6 := ix6
  have f7 := nm_no nm7 (nm_other (j := 7) hs (by decide) (by decide) (by decide))
  have j7 := ix7
  have f8 := nm_no nm8 (nm_other (j := 8) hs (by decide) (by decide) (by decide))
  have j8 := ix8
  have f9 := nm_yes nm9 hs
  have j9 := ix9
  have j0 := ix0
  clear hs
  go_enter Tryd.func29, Tryd.ntmps29
  go_wp2_with (refine wpList_load_row rfl 74 _ rfl 6 rfl tn namesA fr _ hg Tryd.underlying74 rfl (by kernel_rfl) ?_)
  refine wp_loop_rounds 10 ?_
  rw [rounds_succ]; go_wp2
  rw [rounds_succ]; go_wp2
  rw [rounds_succ]; go_wp2
  rw [rounds_succ]; go_wp2
  rw [rounds_succ]; go_wp2
  rw [rounds_succ]; go_wp2
  rw [rounds_succ]; go_wp2
  rw [rounds_succ]; go_wp2
  rw [rounds_succ]; go_wp2
  rw [rounds_succ]; go_wp2
  go_ret2
  exact ⟨rfl, rfl⟩

set_option maxRecDepth 100000 in
set_option maxHeartbeats 4000000 in
theorem parse_calls_10 (s : ByteArray) (w : World) (hs : s = nm 10) (hn : NB w) : Calls Tryd.prog 29 #[.string s] w fun e w' => e = .returned (.tuple #[.int .i64 10, .int .i64 0]) ∧ w = w' := by
  obtain ⟨tn, fr, hg⟩ := hn
  have f1 := nm_no nm1 (nm_other (j := 1) hs (by decide) (by decide) (by decide))
  have j1 := ix1
  have f2 := nm_no nm2 (nm_other (j := 2) hs (by decide) (by decide) (by decide))
  have j2 := ix2
  have f3 := nm_no nm3 (nm_other (j := 3) hs (by decide) (by decide) (by decide))
  have j3 := ix3
  have f4 := nm_no nm4 (nm_other (j := 4) hs (by decide) (by decide) (by decide))
  have j4 := ix4
  have f5 := nm_no nm5 (nm_other (j := 5) hs (by decide) (by decide) (by decide))
  have j5 := ix5
  have f6 := nm_no nm6 (nm_other (j := 6) hs (by decide) (by decide) (by decide))
  have j6 := ix6
  have f7 := nm_no nm7 (nm_other (j := 7) hs (by decide) (by decide) (by decide))
  have j7 := ix7
  have f8 := nm_no nm8 (nm_other (j := 8) hs (by decide) (by decide) (by decide))
  have j8 := ix8
  have f9 := nm_no nm9 (nm_other (j := 9) hs (by decide) (by decide) (by decide))
  have j9 := ix9
  have f10 := nm_yes nm10 hs
  have j10 := ix10
  have j0 := ix0
  clear hs
  go_enter Tryd.func29, Tryd.ntmps29
  go_wp2_with (refine wpList_load_row rfl 74 _ rfl 6 rfl tn namesA fr _ hg Tryd.underlying74 rfl (by kernel_rfl) ?_)
  refine wp_loop_rounds 11 ?_
  rw [rounds_succ]; go_wp2
  rw [rounds_succ]; go_wp2
  rw [rounds_succ]; go_wp2
  rw [rounds_succ]; go_wp2
  rw [rounds_succ]; go_wp2
  rw [rounds_succ]; go_wp2
  rw [rounds_succ]; go_wp2
  rw [rounds_succ]; go_wp2
  rw [rounds_succ]; go_wp2
  rw [rounds_succ]; go_wp2
  rw [rounds_succ]; go_wp2
  go_ret2
  exact ⟨rfl, rfl⟩

set_option maxRecDepth 100000 in
set_option maxHeartbeats 4000000 in
theorem parse_calls_11 (s : ByteArray) (w : World) (hs : s = nm 11) (hn : NB w) : Calls Tryd.prog 29 #[.string s] w fun e w' => e = .returned (.tuple #[.int .i64 11, .int .i64 0]) ∧ w = w' := by
  obtain ⟨tn, fr, hg⟩ := hn
  have f1 := nm_no nm1 (nm_other (j := 1) hs (by decide) (by decide) (by decide))
  have j1 := ix1
  have f2 := nm_no nm2 (nm_other (j := 2) hs (by decide) (by decide) (by decide))
  have j2 := ix2
  have f3 := nm_no nm3 (nm_other (j := 3) hs (by decide) (by decide) (by decide))
  have j3 := ix3
  have f4 := nm_no nm4 (nm_other (j := 4) hs (by decide) (by decide) (by decide))
  have j4 := ix4
  have f5 := nm_no nm5 (nm_other (j := 5) hs (by decide) (by decide) (by decide))
  have j5 := ix5
  have f6 := nm_no nm6 (nm_other (j := 6) hs (by decide) (by decide) (by decide))
  have j6 := ix6
  have f7 := nm_no nm7 (nm_other (j := 7) hs (by decide) (by decide) (by decide))
  have j7 := ix7
  have f8 := nm_no nm8 (nm_other (j := 8) hs (by decide) (by decide) (by decide))
  have j8 := ix8
  have f9 := nm_no nm9 (nm_other (j := 9) hs (by decide) (by decide) (by decide))
  have j9 := ix9
  have f10 := nm_no nm10 (nm_other (j := 10) hs (by decide) (by decide) (by decide))
  have j10 := ix10
  have f11 := nm_yes nm11 hs
  have j11 := ix11
  have j0 := ix0
  clear hs
  go_enter Tryd.func29, Tryd.ntmps29
  go_wp2_with (refine wpList_load_row rfl 74 _ rfl 6 rfl tn namesA fr _ hg Tryd.underlying74 rfl (by kernel_rfl) ?_)
  refine wp_loop_rounds 12 ?_
  rw [rounds_succ]; go_wp2
  rw [rounds_succ]; go_wp2
  rw [rounds_succ]; go_wp2
  rw [rounds_succ]; go_wp2
  rw [rounds_succ]; go_wp2
  rw [rounds_succ]; go_wp2
  rw [rounds_succ]; go_wp2
  rw [rounds_succ]; go_wp2
  rw [rounds_succ]; go_wp2
  rw [rounds_succ]; go_wp2
  rw [rounds_succ]; go_wp2
  rw [rounds_succ]; go_wp2
  go_ret2
  exact ⟨rfl, rfl⟩

set_option maxRecDepth 100000 in
set_option maxHeartbeats 4000000 in
theorem parse_calls_0 (s : ByteArray) (w : World) (hs : ∀ k, 1 ≤ k → k ≤ 11 → s ≠ nm k) (hn : NB w) : Calls Tryd.prog 29 #[.string s] w fun e w' => e = .returned (.tuple #[.int .i64 0, .int .i64 5]) ∧ w = w' := by
  obtain ⟨tn, fr, hg⟩ := hn
  have f1 := nm_no nm1 (hs 1 (by decide) (by decide))
  have j1 := ix1
  have f2 := nm_no nm2 (hs 2 (by decide) (by decide))
  have j2 := ix2
  have f3 := nm_no nm3 (hs 3 (by decide) (by decide))
  have j3 := ix3
  have f4 := nm_no nm4 (hs 4 (by decide) (by decide))
  have j4 := ix4
  have f5 := nm_no nm5 (hs 5 (by decide) (by decide))
  have j5 := ix5
  have f6 := nm_no nm6 (hs 6 (by decide) (by decide))
  have j6 := ix6
  have f7 := nm_no nm7 (hs 7 (by decide) (by decide))
  have j7 := ix7
  have f8 := nm_no nm8 (hs 8 (by decide) (by decide))
  have j8 := ix8
  have f9 := nm_no nm9 (hs 9 (by decide) (by decide))
  have j9 := ix9
  have f10 := nm_no nm10 (hs 10 (by decide) (by decide))
  have j10 := ix10
  have f11 := nm_no nm11 (hs 11 (by decide) (by decide))
  have j11 := ix11
  have j0 := ix0
  clear hs
  go_enter Tryd.func29, Tryd.ntmps29
  go_wp2_with (refine wpList_load_row rfl 74 _ rfl 6 rfl tn namesA fr _ hg Tryd.underlying74 rfl (by kernel_rfl) ?_)
  refine wp_loop_rounds 13 ?_
  rw [rounds_succ]; go_wp2
  rw [rounds_succ]; go_wp2
  rw [rounds_succ]; go_wp2
  rw [rounds_succ]; go_wp2
  rw [rounds_succ]; go_wp2
  rw [rounds_succ]; go_wp2
  rw [rounds_succ]; go_wp2
  rw [rounds_succ]; go_wp2
  rw [rounds_succ]; go_wp2
  rw [rounds_succ]; go_wp2
  rw [rounds_succ]; go_wp2
  rw [rounds_succ]; go_wp2
  rw [rounds_succ]; go_wp2
  go_ret2
  exact ⟨rfl, rfl⟩
theorem parse_calls (s : ByteArray) (w : World) (hn : NB w) : Calls Tryd.prog 29 #[.string s] w fun e w' => e = .returned (.tuple #[.int .i64 (parseN s), .int .i64 (parseE s)]) ∧ w = w' := by
  rcases parse_cases s with ⟨k, h1, h2, hs⟩ | ⟨h0, hs⟩
  · have hk : k = 1 ∨ k = 2 ∨ k = 3 ∨ k = 4 ∨ k = 5 ∨ k = 6 ∨ k = 7 ∨ k = 8 ∨ k = 9 ∨ k = 10 ∨ k = 11 := by omega
    rcases hk with rfl | rfl | rfl | rfl | rfl | rfl | rfl | rfl | rfl | rfl | rfl
    · have hp := parse_nm 1 (by decide) (by decide)
      rw [← hs] at hp
      rw [hp.1, hp.2]
      exact parse_calls_1 s w hs hn
    · have hp := parse_nm 2 (by decide) (by decide)
      rw [← hs] at hp
      rw [hp.1, hp.2]
      exact parse_calls_2 s w hs hn
    · have hp := parse_nm 3 (by decide) (by decide)
      rw [← hs] at hp
      rw [hp.1, hp.2]
      exact parse_calls_3 s w hs hn
    · have hp := parse_nm 4 (by decide) (by decide)
      rw [← hs] at hp
      rw [hp.1, hp.2]
      exact parse_calls_4 s w hs hn
    · have hp := parse_nm 5 (by decide) (by decide)
      rw [← hs] at hp
      rw [hp.1, hp.2]
      exact parse_calls_5 s w hs hn
    · have hp := parse_nm 6 (by decide) (by decide)
      rw [← hs] at hp
      rw [hp.1, hp.2]
      exact parse_calls_6 s w hs hn
    · have hp := parse_nm 7 (by decide) (by decide)
      rw [← hs] at hp
      rw [hp.1, hp.2]
      exact parse_calls_7 s w hs hn
    · have hp := parse_nm 8 (by decide) (by decide)
      rw [← hs] at hp
      rw [hp.1, hp.2]
      exact parse_calls_8 s w hs hn
    · have hp := parse_nm 9 (by decide) (by decide)
      rw [← hs] at hp
      rw [hp.1, hp.2]
      exact parse_calls_9 s w hs hn
    · have hp := parse_nm 10 (by decide) (by decide)
      rw [← hs] at hp
      rw [hp.1, hp.2]
      exact parse_calls_10 s w hs hn
    · have hp := parse_nm 11 (by decide) (by decide)
      rw [← hs] at hp
      rw [hp.1, hp.2]
      exact parse_calls_11 s w hs hn
  · have he : parseE s = 5 := by simp [parseE, h0]
    rw [h0, he]
    exact parse_calls_0 s w hs hn

set_option maxRecDepth 100000 in
set_option maxHeartbeats 4000000 in
theorem ref_parse_calls_1 (s : ByteArray) (w0 w : World) (hs : s = nm 1) (hB : Below w0.heap.size w0 w) : Calls Tryd.prog 30 #[.string s] w fun e w' => e = .returned (.tuple #[.int .i64 1, .int .i64 0]) ∧ Below w0.heap.size w0 w' := by
  have f1 := nm_yes nm1 hs
  have c1 := nc1
  clear hs
  go_enter Tryd.func30, Tryd.ntmps30
  go_wp2
  refine wp_loop_rounds 1 ?_
  rw [rounds_succ]; go_wp2_with (go_at_call 32; refine (ref_name_calls _ _).mono ?_; rintro e w1 ⟨rfl, hb1⟩; replace hB := hB.then hb1; clear hb1)
  go_ret2
  exact ⟨rfl, hB⟩

set_option maxRecDepth 100000 in
set_option maxHeartbeats 4000000 in
theorem ref_parse_calls_2 (s : ByteArray) (w0 w : World) (hs : s = nm 2) (hB : Below w0.heap.size w0 w) : Calls Tryd.prog 30 #[.string s] w fun e w' => e = .returned (.tuple #[.int .i64 2, .int .i64 0]) ∧ Below w0.heap.size w0 w' := by
  have f1 := nm_no nm1 (nm_other (j := 1) hs (by decide) (by decide) (by decide))
  have c1 := nc1
  have f2 := nm_yes nm2 hs
  have c2 := nc2
  clear hs
  go_enter Tryd.func30, Tryd.ntmps30
  go_wp2
  refine wp_loop_rounds 2 ?_
  rw [rounds_succ]; go_wp2_with (go_at_call 32; refine (ref_name_calls _ _).mono ?_; rintro e w1 ⟨rfl, hb1⟩; replace hB := hB.then hb1; clear hb1)
  rw [rounds_succ]; go_wp2_with (go_at_call 32; refine (ref_name_calls _ _).mono ?_; rintro e w1 ⟨rfl, hb1⟩; replace hB := hB.then hb1; clear hb1)
  go_ret2
  exact ⟨rfl, hB⟩

set_option maxRecDepth 100000 in
set_option maxHeartbeats 4000000 in
theorem ref_parse_calls_3 (s : ByteArray) (w0 w : World) (hs : s = nm 3) (hB : Below w0.heap.size w0 w) : Calls Tryd.prog 30 #[.string s] w fun e w' => e = .returned (.tuple #[.int .i64 3, .int .i64 0]) ∧ Below w0.heap.size w0 w' := by
  have f1 := nm_no nm1 (nm_other (j := 1) hs (by decide) (by decide) (by decide))
  have c1 := nc1
  have f2 := nm_no nm2 (nm_other (j := 2) hs (by decide) (by decide) (by decide))
  have c2 := nc2
  have f3 := nm_yes nm3 hs
  have c3 := nc3
  clear hs
  go_enter Tryd.func30, Tryd.ntmps30
  go_wp2
  refine wp_loop_rounds 3 ?_
  rw [rounds_succ]; go_wp2_with (go_at_call 32; refine (ref_name_calls _ _).mono ?_; rintro e w1 ⟨rfl, hb1⟩; replace hB := hB.then hb1; clear hb1)
  rw [rounds_succ]; go_wp2_with (go_at_call 32; refine (ref_name_calls _ _).mono ?_; rintro e w1 ⟨rfl, hb1⟩; replace hB := hB.then hb1; clear hb1)
  rw [rounds_succ]; go_wp2_with (go_at_call 32; refine (ref_name_calls _ _).mono ?_; rintro e w1 ⟨rfl, hb1⟩; replace hB := hB.then hb1; clear hb1)
  go_ret2
  exact ⟨rfl, hB⟩

set_option maxRecDepth 100000 in
set_option maxHeartbeats 4000000 in
theorem ref_parse_calls_4 (s : ByteArray) (w0 w : World) (hs : s = nm 4) (hB : Below w0.heap.size w0 w) : Calls Tryd.prog 30 #[.string s] w fun e w' => e = .returned (.tuple #[.int .i64 4, .int .i64 0]) ∧ Below w0.heap.size w0 w' := by
  have f1 := nm_no nm1 (nm_other (j := 1) hs (by decide) (by decide) (by decide))
  have c1 := nc1
  have f2 := nm_no nm2 (nm_other (j := 2) hs (by decide) (by decide) (by decide))
  have c2 := nc2
  have f3 := nm_no nm3 (nm_other (j := 3) hs (by decide) (by decide) (by decide))
  have c3 := nc3
  have f4 := nm_yes nm4 hs
  have c4 := nc4
  clear hs
  go_enter Tryd.func30, Tryd.ntmps30
  go_wp2
  refine wp_loop_rounds 4 ?_
  rw [rounds_succ]; go_wp2_with (go_at_call 32; refine (ref_name_calls _ _).mono ?_; rintro e w1 ⟨rfl, hb1⟩; replace hB := hB.then hb1; clear hb1)
  rw [rounds_succ]; go_wp2_with (go_at_call 32; refine (ref_name_calls _ _).mono ?_; rintro e w1 ⟨rfl, hb1⟩; replace hB := hB.then hb1; clear hb1)
  rw [rounds_succ]; go_wp2_with (go_at_call 32; refine (ref_name_calls _ _).mono ?_; rintro e w1 ⟨rfl, hb1⟩; replace hB := hB.then hb1; clear hb1)
  rw [rounds_succ]; go_wp2_with (go_at_call 32; refine (ref_name_calls _ _).mono ?_; rintro e w1 ⟨rfl, hb1⟩; replace hB := hB.then hb1; clear hb1)
  go_ret2
  exact ⟨rfl, hB⟩

set_option maxRecDepth 100000 in
set_option maxHeartbeats 4000000 in
theorem ref_parse_calls_5 (s : ByteArray) (w0 w : World) (hs : s = nm 5) (hB : Below w0.heap.size w0 w) : Calls Tryd.prog 30 #[.string s] w fun e w' => e = .returned (.tuple #[.int .i64 5, .int .i64 0]) ∧ Below w0.heap.size w0 w' := by
  have f1 := nm_no nm1 (nm_other (j := 1) hs (by decide) (by decide) (by decide))
  have c1 := nc1
  have f2 := nm_no nm2 (nm_other (j := 2) hs (by decide) (by decide) (by decide))
  have c2 := nc2
  have f3 := nm_no nm3 (nm_other (j := 3) hs (by decide) (by decide) (by decide))
  have c3 := nc3
  have f4 := nm_no nm4 (nm_other (j := 4) hs (by decide) (by decide) (by decide))
  have c4 := nc4
  have f5 := nm_yes nm5 hs
  have c5 := nc5
  clear hs
  go_enter Tryd.func30, Tryd.ntmps30
  go_wp2
  refine wp_loop_rounds 5 ?_
  rw [rounds_succ]; go_wp2_with (go_at_call 32; refine (ref_name_calls _ _).mono ?_; rintro e w1 ⟨rfl, hb1⟩; replace hB := hB.then hb1; clear hb1)
  rw [rounds_succ]; go_wp2_with (go_at_call 32; refine (ref_name_calls _ _).mono ?_; rintro e w1 ⟨rfl, hb1⟩; replace hB := hB.then hb1; clear hb1)
  rw [rounds_succ]; go_wp2_with (go_at_call 32; refine (ref_name_calls _ _).mono ?_; rintro e w1 ⟨rfl, hb1⟩; replace hB := hB.then hb1; clear hb1)
  rw [rounds_succ]; go_wp2_with (go_at_call 32; refine (ref_name_calls _ _).mono ?_; rintro e w1 ⟨rfl, hb1⟩; replace hB := hB.then hb1; clear hb1)
  rw [rounds_succ]; go_wp2_with (go_at_call 32; refine (ref_name_calls _ _).mono ?_; rintro e w1 ⟨rfl, hb1⟩; replace hB := hB.then hb1; clear hb1)
  go_ret2
  exact ⟨rfl, hB⟩

set_option maxRecDepth 100000 in
set_option maxHeartbeats 4000000 in
theorem ref_parse_calls_6 (s : ByteArray) (w0 w : World) (hs : s = nm 6) (hB : Below w0.heap.size w0 w) : Calls Tryd.prog 30 #[.string s] w fun e w' => e = .returned (.tuple #[.int .i64 6, .int .i64 0]) ∧ Below w0.heap.size w0 w' := by
  have f1 := nm_no nm1 (nm_other (j := 1) hs (by decide) (by decide) (by decide))
  have c1 := nc1
  have f2 := nm_no nm2 (nm_other (j := 2) hs (by decide) (by decide) (by decide))
  have c2 := nc2
  have f3 := nm_no nm3 (nm_other (j := 3) hs (by decide) (by decide) (by decide))
  have c3 := nc3
  have f4 := nm_no nm4 (nm_other (j := 4) hs (by decide) (by decide) (by decide))
  have c4 := nc4
  have f5 := nm_no nm5 (nm_other (j := 5) hs (by decide) (by decide) (by decide))
  have c5 := nc5
  have f6 := nm_yes nm6 hs
  have c6 := nc6
  clear hs
  go_enter Tryd.func30, Tryd.ntmps30
  go_wp2
  refine wp_loop_rounds 6 ?_
  rw [rounds_succ]; go_wp2_with (go_at_call 32; refine (ref_name_calls _ _).mono ?_; rintro e w1 ⟨rfl, hb1⟩; replace hB := hB.then hb1; clear hb1)
  rw [rounds_succ]; go_wp2_with (go_at_call 32; refine (ref_name_calls _ _).mono ?_; rintro e w1 ⟨rfl, hb1⟩; replace hB := hB.then hb1; clear hb1)
  rw [rounds_succ]; go_wp2_with (go_at_call 32; refine (ref_name_calls _ _).mono ?_; rintro e w1 ⟨rfl, hb1⟩; replace hB := hB.then hb1; clear hb1)
  rw [rounds_succ]; go_wp2_with (go_at_call 32; refine (ref_name_calls _ _).mono ?_; rintro e w1 ⟨rfl, hb1⟩; replace hB := hB.then hb1; clear hb1)
  rw [rounds_succ]; go_wp2_with (go_at_call 32; refine (ref_name_calls _ _).mono ?_; rintro e w1 ⟨rfl, hb1⟩; replace hB := hB.then hb1; clear hb1)
  rw [rounds_succ]; go_wp2_with (go_at_call 32; refine (ref_name_calls _ _).mono ?_; rintro e w1 ⟨rfl, hb1⟩; replace hB := hB.then hb1; clear hb1)
  go_ret2
  exact ⟨rfl, hB⟩

set_option maxRecDepth 100000 in
set_option maxHeartbeats 4000000 in
theorem ref_parse_calls_7 (s : ByteArray) (w0 w : World) (hs : s = nm 7) (hB : Below w0.heap.size w0 w) : Calls Tryd.prog 30 #[.string s] w fun e w' => e = .returned (.tuple #[.int .i64 7, .int .i64 0]) ∧ Below w0.heap.size w0 w' := by
  have f1 := nm_no nm1 (nm_other (j := 1) hs (by decide) (by decide) (by decide))
  have c1 := nc1
  have f2 := nm_no nm2 (nm_other (j := 2) hs (by decide) (by decide) (by decide))
  have c2 := nc2
  have f3 := nm_no nm3 (nm_other (j := 3) hs (by decide) (by decide) (by decide))
  have c3 := nc3
  have f4 := nm_no nm4 (nm_other (j := 4) hs (by decide) (by decide) (by decide))
  have c4 := nc4
  have f5 := nm_no nm5 (nm_other (j := 5) hs (by decide) (by decide) (by decide))
  have c5 := nc5
  have f6 := nm_no nm6 (nm_other (j := 6) hs (by decide) (by decide) (by decide))
  have c6 := nc6
  have f7 := nm_yes nm7 hs
  have c7 := nc7
  clear hs
  go_enter Tryd.func30, Tryd.ntmps30
  go_wp2
  refine wp_loop_rounds 7 ?_
  rw [rounds_succ]; go_wp2_with (go_at_call 32; refine (ref_name_calls _ _).mono ?_; rintro e w1 ⟨rfl, hb1⟩; replace hB := hB.then hb1; clear hb1)
  rw [rounds_succ]; go_wp2_with (go_at_call 32; refine (ref_name_calls _ _).mono ?_; rintro e w1 ⟨rfl, hb1⟩; replace hB := hB.then hb1; clear hb1)
  rw [rounds_succ]; go_wp2_with (go_at_call 32; refine (ref_name_calls _ _).mono ?_; rintro e w1 ⟨rfl, hb1⟩; replace hB := hB.then hb1; clear hb1)
  rw [rounds_succ]; go_wp2_with (go_at_call 32; refine (ref_name_calls _ _).mono ?_; rintro e w1 ⟨rfl, hb1⟩; replace hB := hB.then hb1; clear hb1)
  rw [rounds_succ]; go_wp2_with (go_at_call 32; refine (ref_name_calls _ _).mono ?_; rintro e w1 ⟨rfl, hb1⟩; replace hB := hB.then hb1; clear hb1)
  rw [rounds_succ]; go_wp2_with (go_at_call 32; refine (ref_name_calls _ _).mono ?_; rintro e w1 ⟨rfl, hb1⟩; replace hB := hB.then hb1; clear hb1)
  rw [rounds_succ]; go_wp2_with (go_at_call 32; refine (ref_name_calls _ _).mono ?_; rintro e w1 ⟨rfl, hb1⟩; replace hB := hB.then hb1; clear hb1)
  go_ret2
  exact ⟨rfl, hB⟩

set_option maxRecDepth 100000 in
set_option maxHeartbeats 4000000 in
theorem ref_parse_calls_8 (s : ByteArray) (w0 w : World) (hs : s = nm 8) (hB : Below w0.heap.size w0 w) : Calls Tryd.prog 30 #[.string s] w fun e w' => e = .returned (.tuple #[.int .i64 8, .int .i64 0]) ∧ Below w0.heap.size w0 w' := by
  have f1 := nm_no nm1 (nm_other (j := 1) hs (by decide) (by decide) (by decide))
  have c1 := nc1
  have f2 := nm_no nm2 (nm_other (j := 2) hs (by decide) (by decide) (by decide))
  have c2 := nc2
  have f3 := nm_no nm3 (nm_other (j := 3) hs (by decide) (by decide) (by decide))
  have c3 := nc3
  have f4 := nm_no nm4 (nm_other (j := 4) hs (by decide) (by decide) (by decide))
  have c4 := nc4
  have f5 := nm_no nm5 (nm_other (j := 5) hs (by decide) (by decide) (by decide))
  have c5 := nc5
  have f6 := nm_no nm6 (nm_other (j := 6) hs (by decide) (by decide) (by decide))
  have c6 := nc6
  have f7 := nm_no nm7 (nm_other (j := 7) hs (by decide) (by decide) (by decide))
  have c7 := nc7
  have f8 := nm_yes nm8 hs
  have c8 := nc8
  clear hs
  go_enter Tryd.func30, Tryd.ntmps30
  go_wp2
  refine wp_loop_rounds 8 ?_
  rw [rounds_succ]; go_wp2_with (go_at_call 32; refine (ref_name_calls _ _).mono ?_; rintro e w1 ⟨rfl, hb1⟩; replace hB := hB.then hb1; clear hb1)
  rw [rounds_succ]; go_wp2_with (go_at_call 32; refine (ref_name_calls _ _).mono ?_; rintro e w1 ⟨rfl, hb1⟩; replace hB := hB.then hb1; clear hb1)
  rw [rounds_succ]; go_wp2_with (go_at_call 32; refine (ref_name_calls _ _).mono ?_; rintro e w1 ⟨rfl, hb1⟩; replace hB := hB.then hb1; clear hb1)
  rw [rounds_succ]; go_wp2_with (go_at_call 32; refine (ref_name_calls _ _).mono ?_; rintro e w1 ⟨rfl, hb1⟩; replace hB := hB.then hb1; clear hb1)
  rw [rounds_succ]; go_wp2_with (go_at_call 32; refine (ref_name_calls _ _).mono ?_; rintro e w1 ⟨rfl, hb1⟩; replace hB := hB.then hb1; clear hb1)
  rw [rounds_succ]; go_wp2_with (go_at_call 32; refine (ref_name_calls _ _).mono ?_; rintro e w1 ⟨rfl, hb1⟩; replace hB := hB.then hb1; clear hb1)
  rw [rounds_succ]; go_wp2_with (go_at_call 32; refine (ref_name_calls _ _).mono ?_; rintro e w1 ⟨rfl, hb1⟩; replace hB := hB.then hb1; clear hb1)
  rw [rounds_succ]; go_wp2_with (go_at_call 32; refine (ref_name_calls _ _).mono ?_; rintro e w1 ⟨rfl, hb1⟩; replace hB := hB.then hb1; clear hb1)
  go_ret2
  exact ⟨rfl, hB⟩

set_option maxRecDepth 100000 in
set_option maxHeartbeats 4000000 in
theorem ref_parse_calls_9 (s : ByteArray) (w0 w : World) (hs : s = nm 9) (hB : Below w0.heap.size w0 w) : Calls Tryd.prog 30 #[.string s] w fun e w' => e = .returned (.tuple #[.int .i64 9, .int .i64 0]) ∧ Below w0.heap.size w0 w' := by
  have f1 := nm_no nm1 (nm_other (j := 1) hs (by decide) (by decide) (by decide))
  have c1 := nc1
  have f2 := nm_no nm2 (nm_other (j := 2) hs (by decide) (by decide) (by decide))
  have c2 := nc2
  have f3 := nm_no nm3 (nm_other (j := 3) hs (by decide) (by decide) (by decide))
  have c3 := nc3
  have f4 := nm_no nm4 (nm_other (j := 4) hs (by decide) (by decide) (by decide))
  have c4 := nc4
  have f5 := nm_no nm5 (nm_other (j := 5) hs (by decide) (by decide) (by decide))
  have c5 := nc5
  have f6 := nm_no nm6 (nm_other (j := 6) hs (by decide) (by decide) (by decide))
  have c6 := nc6
  have f7 := nm_no nm7 (nm_other (j := 7) hs (by decide) (by decide) (by decide))
  have c7 := nc7
  have f8 := nm_no nm8 (nm_other (j := 8) hs (by decide) (by decide) (by decide))
  have c8 := nc8
  have f9 := nm_yes nm9 hs
  have c9 := nc9
  clear hs
  go_enter Tryd.func30, Tryd.ntmps30
  go_wp2
  refine wp_loop_rounds 9 ?_
  rw [rounds_succ]; go_wp2_with (go_at_call 32; refine (ref_name_calls _ _).mono ?_; rintro e w1 ⟨rfl, hb1⟩; replace hB := hB.then hb1; clear hb1)
  rw [rounds_succ]; go_wp2_with (go_at_call 32; refine (ref_name_calls _ _).mono ?_; rintro e w1 ⟨rfl, hb1⟩; replace hB := hB.then hb1; clear hb1)
  rw [rounds_succ]; go_wp2_with (go_at_call 32; refine (ref_name_calls _ _).mono ?_; rintro e w1 ⟨rfl, hb1⟩; replace hB := hB.then hb1; clear hb1)
  rw [rounds_succ]; go_wp2_with (go_at_call 32; refine (ref_name_calls _ _).mono ?_; rintro e w1 ⟨rfl, hb1⟩; replace hB := hB.then hb1; clear hb1)
  rw [rounds_succ]; go_wp2_with (go_at_call 32; refine (ref_name_calls _ _).mono ?_; rintro e w1 ⟨rfl, hb1⟩; replace hB := hB.then hb1; clear hb1)
  rw [rounds_succ]; go_wp2_with (go_at_call 32; refine (ref_name_calls _ _).mono ?_; rintro e w1 ⟨rfl, hb1⟩; replace hB := hB.then hb1; clear hb1)
  rw [rounds_succ]; go_wp2_with (go_at_call 32; refine (ref_name_calls _ _).mono ?_; rintro e w1 ⟨rfl, hb1⟩; replace hB := hB.then hb1; clear hb1)
  rw [rounds_succ]; go_wp2_with (go_at_call 32; refine (ref_name_calls _ _).mono ?_; rintro e w1 ⟨rfl, hb1⟩; replace hB := hB.then hb1; clear hb1)
  rw [rounds_succ]; go_wp2_with (go_at_call 32; refine (ref_name_calls _ _).mono ?_; rintro e w1 ⟨rfl, hb1⟩; replace hB := hB.then hb1; clear hb1)
  go_ret2
  exact ⟨rfl, hB⟩

set_option maxRecDepth 100000 in
set_option maxHeartbeats 4000000 in
theorem ref_parse_calls_10 (s : ByteArray) (w0 w : World) (hs : s = nm 10) (hB : Below w0.heap.size w0 w) : Calls Tryd.prog 30 #[.string s] w fun e w' => e = .returned (.tuple #[.int .i64 10, .int .i64 0]) ∧ Below w0.heap.size w0 w' := by
  have f1 := nm_no nm1 (nm_other (j := 1) hs (by decide) (by decide) (by decide))
  have c1 := nc1
  have f2 := nm_no nm2 (nm_other (j := 2) hs (by decide) (by decide) (by decide))
  have c2 := nc2
  have f3 := nm_no nm3 (nm_other (j := 3) hs (by decide) (by decide) (by decide))
  have c3 := nc3
  have f4 := nm_no nm4 (nm_other (j := 4) hs (by decide) (by decide) (by decide))
  have c4 := nc4
  have f5 := nm_no nm5 (nm_other (j := 5) hs (by decide) (by decide) (by decide))
  have c5 := nc5
  have f6 := nm_no nm6 (nm_other (j := 6) hs (by decide) (by decide) (by decide))
  have c6 := nc6
  have f7 := nm_no nm7 (nm_other (j := 7) hs (by decide) (by decide) (by decide))
  have c7 := nc7
  have f8 := nm_no nm8 (nm_other (j := 8) hs (by decide) (by decide) (by decide))
  have c8 := nc8
  have f9 := nm_no nm9 (nm_other (j := 9) hs (by decide) (by decide) (by decide))
  have c9 := nc9
  have f10 := nm_yes nm10 hs
  have c10 := nc10
  clear hs
  go_enter Tryd.func30, Tryd.ntmps30
  go_wp2
  refine wp_loop_rounds 10 ?_
  rw [rounds_succ]; go_wp2_with (go_at_call 32; refine (ref_name_calls _ _).mono ?_; rintro e w1 ⟨rfl, hb1⟩; replace hB := hB.then hb1; clear hb1)
  rw [rounds_succ]; go_wp2_with (go_at_call 32; refine (ref_name_calls _ _).mono ?_; rintro e w1 ⟨rfl, hb1⟩; replace hB := hB.then hb1; clear hb1)
  rw [rounds_succ]; go_wp2_with (go_at_call 32; refine (ref_name_calls _ _).mono ?_; rintro e w1 ⟨rfl, hb1⟩; replace hB := hB.then hb1; clear hb1)
  rw [rounds_succ]; go_wp2_with (go_at_call 32; refine (ref_name_calls _ _).mono ?_; rintro e w1 ⟨rfl, hb1⟩; replace hB := hB.then hb1; clear hb1)
  rw [rounds_succ]; go_wp2_with (go_at_call 32; refine (ref_name_calls _ _).mono ?_; rintro e w1 ⟨rfl, hb1⟩; replace hB := hB.then hb1; clear hb1)
  rw [rounds_succ]; go_wp2_with (go_at_call 32; refine (ref_name_calls _ _).mono ?_; rintro e w1 ⟨rfl, hb1⟩; replace hB := hB.then hb1; clear hb1)
  rw [rounds_succ]; go_wp2_with (go_at_call 32; refine (ref_name_calls _ _).mono ?_; rintro e w1 ⟨rfl, hb1⟩; replace hB := hB.then hb1; clear hb1)
  rw [rounds_succ]; go_wp2_with (go_at_call 32; refine (ref_name_calls _ _).mono ?_; rintro e w1 ⟨rfl, hb1⟩; replace hB := hB.then hb1; clear hb1)
  rw [rounds_succ]; go_wp2_with (go_at_call 32; refine (ref_name_calls _ _).mono ?_; rintro e w1 ⟨rfl, hb1⟩; replace hB := hB.then hb1; clear hb1)
  rw [rounds_succ]; go_wp2_with (go_at_call 32; refine (ref_name_calls _ _).mono ?_; rintro e w1 ⟨rfl, hb1⟩; replace hB := hB.then hb1; clear hb1)
  go_ret2
  exact ⟨rfl, hB⟩

set_option maxRecDepth 100000 in
set_option maxHeartbeats 4000000 in
theorem ref_parse_calls_11 (s : ByteArray) (w0 w : World) (hs : s = nm 11) (hB : Below w0.heap.size w0 w) : Calls Tryd.prog 30 #[.string s] w fun e w' => e = .returned (.tuple #[.int .i64 11, .int .i64 0]) ∧ Below w0.heap.size w0 w' := by
  have f1 := nm_no nm1 (nm_other (j := 1) hs (by decide) (by decide) (by decide))
  have c1 := nc1
  have f2 := nm_no nm2 (nm_other (j := 2) hs (by decide) (by decide) (by decide))
  have c2 := nc2
  have f3 := nm_no nm3 (nm_other (j := 3) hs (by decide) (by decide) (by decide))
  have c3 := nc3
  have f4 := nm_no nm4 (nm_other (j := 4) hs (by decide) (by decide) (by decide))
  have c4 := nc4
  have f5 := nm_no nm5 (nm_other (j := 5) hs (by decide) (by decide) (by decide))
  have c5 := nc5
  have f6 := nm_no nm6 (nm_other (j := 6) hs (by decide) (by decide) (by decide))
  have c6 := nc6
  have f7 := nm_no nm7 (nm_other (j := 7) hs (by decide) (by decide) (by decide))
  have c7 := nc7
  have f8 := nm_no nm8 (nm_other (j := 8) hs (by decide) (by decide) (by decide))
  have c8 := nc8
  have f9 := nm_no nm9 (nm_other (j := 9) hs (by decide) (by decide) (by decide))
  have c9 := nc9
  have f10 := nm_no nm10 (nm_other (j := 10) hs (by decide) (by decide) (by decide))
  have c10 := nc10
  have f11 := nm_yes nm11 hs
  have c11 := nc11
  clear hs
  go_enter Tryd.func30, Tryd.ntmps30
  go_wp2
  refine wp_loop_rounds 11 ?_
  rw [rounds_succ]; go_wp2_with (go_at_call 32; refine (ref_name_calls _ _).mono ?_; rintro e w1 ⟨rfl, hb1⟩; replace hB := hB.then hb1; clear hb1)
  rw [rounds_succ]; go_wp2_with (go_at_call 32; refine (ref_name_calls _ _).mono ?_; rintro e w1 ⟨rfl, hb1⟩; replace hB := hB.then hb1; clear hb1)
  rw [rounds_succ]; go_wp2_with (go_at_call 32; refine (ref_name_calls _ _).mono ?_; rintro e w1 ⟨rfl, hb1⟩; replace hB := hB.then hb1; clear hb1)
  rw [rounds_succ]; go_wp2_with (go_at_call 32; refine (ref_name_calls _ _).mono ?_; rintro e w1 ⟨rfl, hb1⟩; replace hB := hB.then hb1; clear hb1)
  rw [rounds_succ]; go_wp2_with (go_at_call 32; refine (ref_name_calls _ _).mono ?_; rintro e w1 ⟨rfl, hb1⟩; replace hB := hB.then hb1; clear hb1)
  rw [rounds_succ]; go_wp2_with (go_at_call 32; refine (ref_name_calls _ _).mono ?_; rintro e w1 ⟨rfl, hb1⟩; replace hB := hB.then hb1; clear hb1)
  rw [rounds_succ]; go_wp2_with (go_at_call 32; refine (ref_name_calls _ _).mono ?_; rintro e w1 ⟨rfl, hb1⟩; replace hB := hB.then hb1; clear hb1)
  rw [rounds_succ]; go_wp2_with (go_at_call 32; refine (ref_name_calls _ _).mono ?_; rintro e w1 ⟨rfl, hb1⟩; replace hB := hB.then hb1; clear hb1)
  rw [rounds_succ]; go_wp2_with (go_at_call 32; refine (ref_name_calls _ _).mono ?_; rintro e w1 ⟨rfl, hb1⟩; replace hB := hB.then hb1; clear hb1)
  rw [rounds_succ]; go_wp2_with (go_at_call 32; refine (ref_name_calls _ _).mono ?_; rintro e w1 ⟨rfl, hb1⟩; replace hB := hB.then hb1; clear hb1)
  rw [rounds_succ]; go_wp2_with (go_at_call 32; refine (ref_name_calls _ _).mono ?_; rintro e w1 ⟨rfl, hb1⟩; replace hB := hB.then hb1; clear hb1)
  go_ret2
  exact ⟨rfl, hB⟩

set_option maxRecDepth 100000 in
set_option maxHeartbeats 4000000 in
theorem ref_parse_calls_0 (s : ByteArray) (w0 w : World) (hs : ∀ k, 1 ≤ k → k ≤ 11 → s ≠ nm k) (hB : Below w0.heap.size w0 w) : Calls Tryd.prog 30 #[.string s] w fun e w' => e = .returned (.tuple #[.int .i64 0, .int .i64 5]) ∧ Below w0.heap.size w0 w' := by
  have f1 := nm_no nm1 (hs 1 (by decide) (by decide))
  have c1 := nc1
  have f2 := nm_no nm2 (hs 2 (by decide) (by decide))
  have c2 := nc2
  have f3 := nm_no nm3 (hs 3 (by decide) (by decide))
  have c3 := nc3
  have f4 := nm_no nm4 (hs 4 (by decide) (by decide))
  have c4 := nc4
  have f5 := nm_no nm5 (hs 5 (by decide) (by decide))
  have c5 := nc5
  have f6 := nm_no nm6 (hs 6 (by decide) (by decide))
  have c6 := nc6
  have f7 := nm_no nm7 (hs 7 (by decide) (by decide))
  have c7 := nc7
  have f8 := nm_no nm8 (hs 8 (by decide) (by decide))
  have c8 := nc8
  have f9 := nm_no nm9 (hs 9 (by decide) (by decide))
  have c9 := nc9
  have f10 := nm_no nm10 (hs 10 (by decide) (by decide))
  have c10 := nc10
  have f11 := nm_no nm11 (hs 11 (by decide) (by decide))
  have c11 := nc11
  clear hs
  go_enter Tryd.func30, Tryd.ntmps30
  go_wp2
  refine wp_loop_rounds 12 ?_
  rw [rounds_succ]; go_wp2_with (go_at_call 32; refine (ref_name_calls _ _).mono ?_; rintro e w1 ⟨rfl, hb1⟩; replace hB := hB.then hb1; clear hb1)
  rw [rounds_succ]; go_wp2_with (go_at_call 32; refine (ref_name_calls _ _).mono ?_; rintro e w1 ⟨rfl, hb1⟩; replace hB := hB.then hb1; clear hb1)
  rw [rounds_succ]; go_wp2_with (go_at_call 32; refine (ref_name_calls _ _).mono ?_; rintro e w1 ⟨rfl, hb1⟩; replace hB := hB.then hb1; clear hb1)
  rw [rounds_succ]; go_wp2_with (go_at_call 32; refine (ref_name_calls _ _).mono ?_; rintro e w1 ⟨rfl, hb1⟩; replace hB := hB.then hb1; clear hb1)
  rw [rounds_succ]; go_wp2_with (go_at_call 32; refine (ref_name_calls _ _).mono ?_; rintro e w1 ⟨rfl, hb1⟩; replace hB := hB.then hb1; clear hb1)
  rw [rounds_succ]; go_wp2_with (go_at_call 32; refine (ref_name_calls _ _).mono ?_; rintro e w1 ⟨rfl, hb1⟩; replace hB := hB.then hb1; clear hb1)
  rw [rounds_succ]; go_wp2_with (go_at_call 32; refine (ref_name_calls _ _).mono ?_; rintro e w1 ⟨rfl, hb1⟩; replace hB := hB.then hb1; clear hb1)
  rw [rounds_succ]; go_wp2_with (go_at_call 32; refine (ref_name_calls _ _).mono ?_; rintro e w1 ⟨rfl, hb1⟩; replace hB := hB.then hb1; clear hb1)
  rw [rounds_succ]; go_wp2_with (go_at_call 32; refine (ref_name_calls _ _).mono ?_; rintro e w1 ⟨rfl, hb1⟩; replace hB := hB.then hb1; clear hb1)
  rw [rounds_succ]; go_wp2_with (go_at_call 32; refine (ref_name_calls _ _).mono ?_; rintro e w1 ⟨rfl, hb1⟩; replace hB := hB.then hb1; clear hb1)
  rw [rounds_succ]; go_wp2_with (go_at_call 32; refine (ref_name_calls _ _).mono ?_; rintro e w1 ⟨rfl, hb1⟩; replace hB := hB.then hb1; clear hb1)
  rw [rounds_succ]; go_wp2_with (go_at_call 32; refine (ref_name_calls _ _).mono ?_; rintro e w1 ⟨rfl, hb1⟩; replace hB := hB.then hb1; clear hb1)
  go_ret2
  exact ⟨rfl, hB⟩
theorem ref_parse_calls (s : ByteArray) (w : World) : Calls Tryd.prog 30 #[.string s] w fun e w' => e = .returned (.tuple #[.int .i64 (parseN s), .int .i64 (parseE s)]) ∧ Below w.heap.size w w' := by
  rcases parse_cases s with ⟨k, h1, h2, hs⟩ | ⟨h0, hs⟩
  · have hk : k = 1 ∨ k = 2 ∨ k = 3 ∨ k = 4 ∨ k = 5 ∨ k = 6 ∨ k = 7 ∨ k = 8 ∨ k = 9 ∨ k = 10 ∨ k = 11 := by omega
    rcases hk with rfl | rfl | rfl | rfl | rfl | rfl | rfl | rfl | rfl | rfl | rfl
    · have hp := parse_nm 1 (by decide) (by decide)
      rw [← hs] at hp
      rw [hp.1, hp.2]
      exact ref_parse_calls_1 s w w hs (Below.refl _ _)
    · have hp := parse_nm 2 (by decide) (by decide)
      rw [← hs] at hp
      rw [hp.1, hp.2]
      exact ref_parse_calls_2 s w w hs (Below.refl _ _)
    · have hp := parse_nm 3 (by decide) (by decide)
      rw [← hs] at hp
      rw [hp.1, hp.2]
      exact ref_parse_calls_3 s w w hs (Below.refl _ _)
    · have hp := parse_nm 4 (by decide) (by decide)
      rw [← hs] at hp
      rw [hp.1, hp.2]
      exact ref_parse_calls_4 s w w hs (Below.refl _ _)
    · have hp := parse_nm 5 (by decide) (by decide)
      rw [← hs] at hp
      rw [hp.1, hp.2]
      exact ref_parse_calls_5 s w w hs (Below.refl _ _)
    · have hp := parse_nm 6 (by decide) (by decide)
      rw [← hs] at hp
      rw [hp.1, hp.2]
      exact ref_parse_calls_6 s w w hs (Below.refl _ _)
    · have hp := parse_nm 7 (by decide) (by decide)
      rw [← hs] at hp
      rw [hp.1, hp.2]
      exact ref_parse_calls_7 s w w hs (Below.refl _ _)
    · have hp := parse_nm 8 (by decide) (by decide)
      rw [← hs] at hp
      rw [hp.1, hp.2]
      exact ref_parse_calls_8 s w w hs (Below.refl _ _)
    · have hp := parse_nm 9 (by decide) (by decide)
      rw [← hs] at hp
      rw [hp.1, hp.2]
      exact ref_parse_calls_9 s w w hs (Below.refl _ _)
    · have hp := parse_nm 10 (by decide) (by decide)
      rw [← hs] at hp
      rw [hp.1, hp.2]
      exact ref_parse_calls_10 s w w hs (Below.refl _ _)
    · have hp := parse_nm 11 (by decide) (by decide)
      rw [← hs] at hp
      rw [hp.1, hp.2]
      exact ref_parse_calls_11 s w w hs (Below.refl _ _)
  · have he : parseE s = 5 := by simp [parseE, h0]
    rw [h0, he]
    exact ref_parse_calls_0 s w w hs (Below.refl _ _)
end Go.Proofs.YtlagofkcddhigaaDoor
