/-
  No cell of these rows narrows 'for every input' (looked for: loops, veiled, ifaces, maps, wideKeys, modest, calm, conditions, laid).
  DERIVED. THE GIVEN ROWS OF THIS SEAT. 6 by the template 'for every input the law returns true; each argument reads behind the call as it read before'; 0 by the template 'total and deterministic' (their statements: YtjnlfibcpkobaaaTotals.lean).
  GIVEN WITH THE SEED: the statements are not yours to turn. If you find one false, say at which input.
  Laid BY PROGRAM, IN A SANDBOX (cutbox-rows.mjs): the forced cells as the released guide's own fill.sh prints them over the translation 73c40cd09ebbf7f2… (all of the seat's roots in one cut). By AI agents, Wed Nov 11 2026. No macro, syntax, notation, axiom, sorry.
-/
import Derived.Test.YtjnlfibcpkobaaaChecked
import GoSem.Claim
import GoSem.ClaimJoined
import GoSem.ClaimMapViews
import Derived.JoinedTies
import Derived.KernelRfl
namespace Go.Proofs.Ytjnlfibcpkobaaa
/- THE CELL 'sum', in the pinned program and in every row, IS THE sha256 OF THE DUMP (.gsa) THAT YtjnlfibcpkobaaaProg.lean LOADS. Nothing in Lean hashes anything: it is a label: what it is worth is what the hold of that sum in a sandbox is worth. -/
noncomputable def Try.pinned : Pinned := { name := "ytjnlfibcpkobaaa", sum := "73c40cd09ebbf7f210280832ba76790df45239cd99e084744a2162b9695ff9d6", checked := Try.checked }
namespace Rows
def none {H : Type} : Left H := { results := [], args := [] }

/-- 'hackamorelaw29.ScheduleWakes': WHATEVER THE INPUT: true; the input reads as it did. -/
def scheduleWakesSpec : ChangeSpec := { name := "scheduleWakes", fn := fun _ => fun
  | [d1, d2] => { results := [.lit (.bool true)], args := [d1, d2] }
  | _ => none }
def scheduleWakesRow : OpenClaim := { program := "ytjnlfibcpkobaaa", sum := "73c40cd09ebbf7f210280832ba76790df45239cd99e084744a2162b9695ff9d6", func := "hackamore/hackamorelaw29.ScheduleWakes", spec := "scheduleWakes", unfollowed := true, recurses := true, apart := false }
def ScheduleWakesSaid : Prop := scheduleWakesRow.holds Try.pinned (OpenSpec.ofChange scheduleWakesSpec)

/-- ITS FALSE NEIGHBOUR: 'it returns false'. Refute it at one input. -/
def scheduleWakesWrong : ChangeSpec := { name := "scheduleWakes", fn := fun _ => fun
  | [d1, d2] => { results := [.lit (.bool false)], args := [d1, d2] }
  | _ => none }
def ScheduleWakesWrongFalsely : Prop := scheduleWakesRow.holds Try.pinned (OpenSpec.ofChange scheduleWakesWrong)

/-- 'hackamorelaw29.ScheduleRuns': WHATEVER THE INPUT: true; the input reads as it did. -/
def scheduleRunsSpec : ChangeSpec := { name := "scheduleRuns", fn := fun _ => fun
  | [d1, d2] => { results := [.lit (.bool true)], args := [d1, d2] }
  | _ => none }
def scheduleRunsRow : OpenClaim := { program := "ytjnlfibcpkobaaa", sum := "73c40cd09ebbf7f210280832ba76790df45239cd99e084744a2162b9695ff9d6", func := "hackamore/hackamorelaw29.ScheduleRuns", spec := "scheduleRuns", unfollowed := true, recurses := true, apart := false }
def ScheduleRunsSaid : Prop := scheduleRunsRow.holds Try.pinned (OpenSpec.ofChange scheduleRunsSpec)

/-- ITS FALSE NEIGHBOUR: 'it returns false'. Refute it at one input. -/
def scheduleRunsWrong : ChangeSpec := { name := "scheduleRuns", fn := fun _ => fun
  | [d1, d2] => { results := [.lit (.bool false)], args := [d1, d2] }
  | _ => none }
def ScheduleRunsWrongFalsely : Prop := scheduleRunsRow.holds Try.pinned (OpenSpec.ofChange scheduleRunsWrong)

/-- 'hackamorelaw29.ScheduleRests': WHATEVER THE INPUT: true; the input reads as it did. -/
def scheduleRestsSpec : ChangeSpec := { name := "scheduleRests", fn := fun _ => fun
  | [d1, d2, d3] => { results := [.lit (.bool true)], args := [d1, d2, d3] }
  | _ => none }
def scheduleRestsRow : OpenClaim := { program := "ytjnlfibcpkobaaa", sum := "73c40cd09ebbf7f210280832ba76790df45239cd99e084744a2162b9695ff9d6", func := "hackamore/hackamorelaw29.ScheduleRests", spec := "scheduleRests", unfollowed := true, recurses := true, apart := false }
def ScheduleRestsSaid : Prop := scheduleRestsRow.holds Try.pinned (OpenSpec.ofChange scheduleRestsSpec)

/-- ITS FALSE NEIGHBOUR: 'it returns false'. Refute it at one input. -/
def scheduleRestsWrong : ChangeSpec := { name := "scheduleRests", fn := fun _ => fun
  | [d1, d2, d3] => { results := [.lit (.bool false)], args := [d1, d2, d3] }
  | _ => none }
def ScheduleRestsWrongFalsely : Prop := scheduleRestsRow.holds Try.pinned (OpenSpec.ofChange scheduleRestsWrong)

/-- 'hackamorelaw29.ScheduleBells': WHATEVER THE INPUT: true; the input reads as it did. -/
def scheduleBellsSpec : ChangeSpec := { name := "scheduleBells", fn := fun _ => fun
  | [d] => { results := [.lit (.bool true)], args := [d] }
  | _ => none }
def scheduleBellsRow : OpenClaim := { program := "ytjnlfibcpkobaaa", sum := "73c40cd09ebbf7f210280832ba76790df45239cd99e084744a2162b9695ff9d6", func := "hackamore/hackamorelaw29.ScheduleBells", spec := "scheduleBells", unfollowed := true, recurses := true, apart := false }
def ScheduleBellsSaid : Prop := scheduleBellsRow.holds Try.pinned (OpenSpec.ofChange scheduleBellsSpec)

/-- ITS FALSE NEIGHBOUR: 'it returns false'. Refute it at one input. -/
def scheduleBellsWrong : ChangeSpec := { name := "scheduleBells", fn := fun _ => fun
  | [d] => { results := [.lit (.bool false)], args := [d] }
  | _ => none }
def ScheduleBellsWrongFalsely : Prop := scheduleBellsRow.holds Try.pinned (OpenSpec.ofChange scheduleBellsWrong)

/-- 'hackamorelaw29.ScheduleStates': WHATEVER THE INPUT: true; the input reads as it did. -/
def scheduleStatesSpec : ChangeSpec := { name := "scheduleStates", fn := fun _ => fun
  | [d1, d2, d3, d4, d5] => { results := [.lit (.bool true)], args := [d1, d2, d3, d4, d5] }
  | _ => none }
def scheduleStatesRow : OpenClaim := { program := "ytjnlfibcpkobaaa", sum := "73c40cd09ebbf7f210280832ba76790df45239cd99e084744a2162b9695ff9d6", func := "hackamore/hackamorelaw29.ScheduleStates", spec := "scheduleStates", unfollowed := true, recurses := true, apart := false }
def ScheduleStatesSaid : Prop := scheduleStatesRow.holds Try.pinned (OpenSpec.ofChange scheduleStatesSpec)

/-- ITS FALSE NEIGHBOUR: 'it returns false'. Refute it at one input. -/
def scheduleStatesWrong : ChangeSpec := { name := "scheduleStates", fn := fun _ => fun
  | [d1, d2, d3, d4, d5] => { results := [.lit (.bool false)], args := [d1, d2, d3, d4, d5] }
  | _ => none }
def ScheduleStatesWrongFalsely : Prop := scheduleStatesRow.holds Try.pinned (OpenSpec.ofChange scheduleStatesWrong)

/-- 'hackamorelaw29.SchedulePlays': WHATEVER THE INPUT: true; the input reads as it did. -/
def schedulePlaysSpec : ChangeSpec := { name := "schedulePlays", fn := fun _ => fun
  | [d1, d2, d3, d4] => { results := [.lit (.bool true)], args := [d1, d2, d3, d4] }
  | _ => none }
def schedulePlaysRow : OpenClaim := { program := "ytjnlfibcpkobaaa", sum := "73c40cd09ebbf7f210280832ba76790df45239cd99e084744a2162b9695ff9d6", func := "hackamore/hackamorelaw29.SchedulePlays", spec := "schedulePlays", unfollowed := true, recurses := true, apart := false }
def SchedulePlaysSaid : Prop := schedulePlaysRow.holds Try.pinned (OpenSpec.ofChange schedulePlaysSpec)

/-- ITS FALSE NEIGHBOUR: 'it returns false'. Refute it at one input. -/
def schedulePlaysWrong : ChangeSpec := { name := "schedulePlays", fn := fun _ => fun
  | [d1, d2, d3, d4] => { results := [.lit (.bool false)], args := [d1, d2, d3, d4] }
  | _ => none }
def SchedulePlaysWrongFalsely : Prop := schedulePlaysRow.holds Try.pinned (OpenSpec.ofChange schedulePlaysWrong)

/- THE SECOND FORM. 'bulk': how many values and letters a reading holds, each counted each time it is reached (what is shared counts as often as it is met; a slice's spare places count too). A statement '..UptoSaid' is the law's where the arguments, and the package variables that the reading takes, are together of bulk at most 1048576: NARROWER than '..Said'. Prove '..Said' where nothing that the law and all that it calls make is longer than what came in: it says more and counts as full. Else prove '..UptoSaid'. A law counts once. -/
mutual
def uptoBulk {H : Type} : DataW H → Nat
  | .lit (.string bytes) => bytes.length + 1
  | .lit _ => 1
  | .nil => 1
  | .ptr d => uptoBulk d + 1
  | .slice elems spare => uptoBulkAll elems + uptoBulkAll spare + 1
  | .agg parts => uptoBulkAll parts + 1
  | .iface _ d => uptoBulk d + 1
  | .map entries => uptoBulkEntries entries + 1
  | .held _ => 1
def uptoBulkAll {H : Type} : List (DataW H) → Nat
  | [] => 0
  | d :: r => uptoBulk d + uptoBulkAll r
def uptoBulkEntries {H : Type} : List (Lit × DataW H) → Nat
  | [] => 0
  | x :: r => uptoBulkEntry x + uptoBulkEntries r
def uptoBulkEntry {H : Type} : Lit × DataW H → Nat
  | (.string bytes, d) => bytes.length + uptoBulk d + 1
  | (_, d) => uptoBulk d + 1
 end
def uptoSmall : (H : Type) → List (DataW H) → Bool := fun _ ds => decide (uptoBulkAll ds ≤ 1048576)
def OpenSpec.upto (s : _root_.Go.ChangeSpec) : _root_.Go.OpenSpec := { _root_.Go.OpenSpec.ofChange s with cond := some uptoSmall }

/-- 'hackamorelaw29.ScheduleWakes', WHERE WHAT IT READS IS OF BULK AT MOST 1048576: true; the input reads as it did. -/
def scheduleWakesUptoRow : OpenClaim := { program := "ytjnlfibcpkobaaa", sum := "73c40cd09ebbf7f210280832ba76790df45239cd99e084744a2162b9695ff9d6", func := "hackamore/hackamorelaw29.ScheduleWakes", spec := "scheduleWakes", unfollowed := true, recurses := true, apart := false, narrowed := true }
def ScheduleWakesUptoSaid : Prop := scheduleWakesUptoRow.holds Try.pinned (OpenSpec.upto scheduleWakesSpec)

/-- 'hackamorelaw29.ScheduleRuns', WHERE WHAT IT READS IS OF BULK AT MOST 1048576: true; the input reads as it did. -/
def scheduleRunsUptoRow : OpenClaim := { program := "ytjnlfibcpkobaaa", sum := "73c40cd09ebbf7f210280832ba76790df45239cd99e084744a2162b9695ff9d6", func := "hackamore/hackamorelaw29.ScheduleRuns", spec := "scheduleRuns", unfollowed := true, recurses := true, apart := false, narrowed := true }
def ScheduleRunsUptoSaid : Prop := scheduleRunsUptoRow.holds Try.pinned (OpenSpec.upto scheduleRunsSpec)

/-- 'hackamorelaw29.ScheduleRests', WHERE WHAT IT READS IS OF BULK AT MOST 1048576: true; the input reads as it did. -/
def scheduleRestsUptoRow : OpenClaim := { program := "ytjnlfibcpkobaaa", sum := "73c40cd09ebbf7f210280832ba76790df45239cd99e084744a2162b9695ff9d6", func := "hackamore/hackamorelaw29.ScheduleRests", spec := "scheduleRests", unfollowed := true, recurses := true, apart := false, narrowed := true }
def ScheduleRestsUptoSaid : Prop := scheduleRestsUptoRow.holds Try.pinned (OpenSpec.upto scheduleRestsSpec)

/-- 'hackamorelaw29.ScheduleBells', WHERE WHAT IT READS IS OF BULK AT MOST 1048576: true; the input reads as it did. -/
def scheduleBellsUptoRow : OpenClaim := { program := "ytjnlfibcpkobaaa", sum := "73c40cd09ebbf7f210280832ba76790df45239cd99e084744a2162b9695ff9d6", func := "hackamore/hackamorelaw29.ScheduleBells", spec := "scheduleBells", unfollowed := true, recurses := true, apart := false, narrowed := true }
def ScheduleBellsUptoSaid : Prop := scheduleBellsUptoRow.holds Try.pinned (OpenSpec.upto scheduleBellsSpec)

/-- 'hackamorelaw29.ScheduleStates', WHERE WHAT IT READS IS OF BULK AT MOST 1048576: true; the input reads as it did. -/
def scheduleStatesUptoRow : OpenClaim := { program := "ytjnlfibcpkobaaa", sum := "73c40cd09ebbf7f210280832ba76790df45239cd99e084744a2162b9695ff9d6", func := "hackamore/hackamorelaw29.ScheduleStates", spec := "scheduleStates", unfollowed := true, recurses := true, apart := false, narrowed := true }
def ScheduleStatesUptoSaid : Prop := scheduleStatesUptoRow.holds Try.pinned (OpenSpec.upto scheduleStatesSpec)

/-- 'hackamorelaw29.SchedulePlays', WHERE WHAT IT READS IS OF BULK AT MOST 1048576: true; the input reads as it did. -/
def schedulePlaysUptoRow : OpenClaim := { program := "ytjnlfibcpkobaaa", sum := "73c40cd09ebbf7f210280832ba76790df45239cd99e084744a2162b9695ff9d6", func := "hackamore/hackamorelaw29.SchedulePlays", spec := "schedulePlays", unfollowed := true, recurses := true, apart := false, narrowed := true }
def SchedulePlaysUptoSaid : Prop := schedulePlaysUptoRow.holds Try.pinned (OpenSpec.upto schedulePlaysSpec)

end Rows
end Go.Proofs.Ytjnlfibcpkobaaa
