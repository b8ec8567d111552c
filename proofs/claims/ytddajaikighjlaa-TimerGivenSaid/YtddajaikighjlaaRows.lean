/-
  No cell of these rows narrows 'for every input' (looked for: loops, veiled, ifaces, maps, wideKeys, modest, calm, conditions, laid).
  DERIVED. THE GIVEN ROWS OF THIS SEAT. 7 by the template 'for every input the law returns true; each argument reads behind the call as it read before'; 0 by the template 'total and deterministic' (their statements: YtddajaikighjlaaTotals.lean).
  GIVEN WITH THE SEED: the statements are not yours to turn. If you find one false, say at which input.
  Laid BY PROGRAM, IN A SANDBOX (cutbox-rows.mjs): the forced cells as the released guide's own fill.sh prints them over the translation b0ad5c17e3aac5a6… (all of the seat's roots in one cut). By AI agents, Wed Nov 11 2026. No macro, syntax, notation, axiom, sorry.
-/
import Derived.Test.YtddajaikighjlaaChecked
import GoSem.Claim
import GoSem.ClaimJoined
import GoSem.ClaimMapViews
import Derived.JoinedTies
import Derived.KernelRfl
namespace Go.Proofs.Ytddajaikighjlaa
/- THE CELL 'sum', in the pinned program and in every row, IS THE sha256 OF THE DUMP (.gsa) THAT YtddajaikighjlaaProg.lean LOADS. Nothing in Lean hashes anything: it is a label: what it is worth is what the hold of that sum in a sandbox is worth. -/
noncomputable def Try.pinned : Pinned := { name := "ytddajaikighjlaa", sum := "b0ad5c17e3aac5a6f475ab48440d786a90e9df054a65b79d436fd3847b6b2e87", checked := Try.checked }
namespace Rows
def none {H : Type} : Left H := { results := [], args := [] }

/-- 'hackamorelaw31.TimerRepeats': WHATEVER THE INPUT: true; the input reads as it did. -/
def timerRepeatsSpec : ChangeSpec := { name := "timerRepeats", fn := fun _ => fun
  | [d1, d2, d3] => { results := [.lit (.bool true)], args := [d1, d2, d3] }
  | _ => none }
def timerRepeatsRow : OpenClaim := { program := "ytddajaikighjlaa", sum := "b0ad5c17e3aac5a6f475ab48440d786a90e9df054a65b79d436fd3847b6b2e87", func := "hackamore/hackamorelaw31.TimerRepeats", spec := "timerRepeats", unfollowed := true, recurses := true, apart := false }
def TimerRepeatsSaid : Prop := timerRepeatsRow.holds Try.pinned (OpenSpec.ofChange timerRepeatsSpec)

/-- ITS FALSE NEIGHBOUR: 'it returns false'. Refute it at one input. -/
def timerRepeatsWrong : ChangeSpec := { name := "timerRepeats", fn := fun _ => fun
  | [d1, d2, d3] => { results := [.lit (.bool false)], args := [d1, d2, d3] }
  | _ => none }
def TimerRepeatsWrongFalsely : Prop := timerRepeatsRow.holds Try.pinned (OpenSpec.ofChange timerRepeatsWrong)

/-- 'hackamorelaw31.TimerRuns': WHATEVER THE INPUT: true; the input reads as it did. -/
def timerRunsSpec : ChangeSpec := { name := "timerRuns", fn := fun _ => fun
  | [d1, d2] => { results := [.lit (.bool true)], args := [d1, d2] }
  | _ => none }
def timerRunsRow : OpenClaim := { program := "ytddajaikighjlaa", sum := "b0ad5c17e3aac5a6f475ab48440d786a90e9df054a65b79d436fd3847b6b2e87", func := "hackamore/hackamorelaw31.TimerRuns", spec := "timerRuns", unfollowed := true, recurses := true, apart := false }
def TimerRunsSaid : Prop := timerRunsRow.holds Try.pinned (OpenSpec.ofChange timerRunsSpec)

/-- ITS FALSE NEIGHBOUR: 'it returns false'. Refute it at one input. -/
def timerRunsWrong : ChangeSpec := { name := "timerRuns", fn := fun _ => fun
  | [d1, d2] => { results := [.lit (.bool false)], args := [d1, d2] }
  | _ => none }
def TimerRunsWrongFalsely : Prop := timerRunsRow.holds Try.pinned (OpenSpec.ofChange timerRunsWrong)

/-- 'hackamorelaw31.TimerTold': WHATEVER THE INPUT: true; the input reads as it did. -/
def timerToldSpec : ChangeSpec := { name := "timerTold", fn := fun _ => fun
  | [d1, d2, d3, d4, d5] => { results := [.lit (.bool true)], args := [d1, d2, d3, d4, d5] }
  | _ => none }
def timerToldRow : OpenClaim := { program := "ytddajaikighjlaa", sum := "b0ad5c17e3aac5a6f475ab48440d786a90e9df054a65b79d436fd3847b6b2e87", func := "hackamore/hackamorelaw31.TimerTold", spec := "timerTold", unfollowed := true, recurses := true, apart := false }
def TimerToldSaid : Prop := timerToldRow.holds Try.pinned (OpenSpec.ofChange timerToldSpec)

/-- ITS FALSE NEIGHBOUR: 'it returns false'. Refute it at one input. -/
def timerToldWrong : ChangeSpec := { name := "timerTold", fn := fun _ => fun
  | [d1, d2, d3, d4, d5] => { results := [.lit (.bool false)], args := [d1, d2, d3, d4, d5] }
  | _ => none }
def TimerToldWrongFalsely : Prop := timerToldRow.holds Try.pinned (OpenSpec.ofChange timerToldWrong)

/-- 'hackamorelaw31.TimerPromises': WHATEVER THE INPUT: true; the input reads as it did. -/
def timerPromisesSpec : ChangeSpec := { name := "timerPromises", fn := fun _ => fun
  | [d1, d2, d3, d4] => { results := [.lit (.bool true)], args := [d1, d2, d3, d4] }
  | _ => none }
def timerPromisesRow : OpenClaim := { program := "ytddajaikighjlaa", sum := "b0ad5c17e3aac5a6f475ab48440d786a90e9df054a65b79d436fd3847b6b2e87", func := "hackamore/hackamorelaw31.TimerPromises", spec := "timerPromises", unfollowed := true, recurses := true, apart := false }
def TimerPromisesSaid : Prop := timerPromisesRow.holds Try.pinned (OpenSpec.ofChange timerPromisesSpec)

/-- ITS FALSE NEIGHBOUR: 'it returns false'. Refute it at one input. -/
def timerPromisesWrong : ChangeSpec := { name := "timerPromises", fn := fun _ => fun
  | [d1, d2, d3, d4] => { results := [.lit (.bool false)], args := [d1, d2, d3, d4] }
  | _ => none }
def TimerPromisesWrongFalsely : Prop := timerPromisesRow.holds Try.pinned (OpenSpec.ofChange timerPromisesWrong)

/-- 'hackamorelaw31.TimerCustodians': WHATEVER THE INPUT: true; the input reads as it did. -/
def timerCustodiansSpec : ChangeSpec := { name := "timerCustodians", fn := fun _ => fun
  | [d] => { results := [.lit (.bool true)], args := [d] }
  | _ => none }
def timerCustodiansRow : OpenClaim := { program := "ytddajaikighjlaa", sum := "b0ad5c17e3aac5a6f475ab48440d786a90e9df054a65b79d436fd3847b6b2e87", func := "hackamore/hackamorelaw31.TimerCustodians", spec := "timerCustodians", unfollowed := true, recurses := true, apart := false }
def TimerCustodiansSaid : Prop := timerCustodiansRow.holds Try.pinned (OpenSpec.ofChange timerCustodiansSpec)

/-- ITS FALSE NEIGHBOUR: 'it returns false'. Refute it at one input. -/
def timerCustodiansWrong : ChangeSpec := { name := "timerCustodians", fn := fun _ => fun
  | [d] => { results := [.lit (.bool false)], args := [d] }
  | _ => none }
def TimerCustodiansWrongFalsely : Prop := timerCustodiansRow.holds Try.pinned (OpenSpec.ofChange timerCustodiansWrong)

/-- 'hackamorelaw31.TimerFires': WHATEVER THE INPUT: true; the input reads as it did. -/
def timerFiresSpec : ChangeSpec := { name := "timerFires", fn := fun _ => fun
  | [d1, d2, d3] => { results := [.lit (.bool true)], args := [d1, d2, d3] }
  | _ => none }
def timerFiresRow : OpenClaim := { program := "ytddajaikighjlaa", sum := "b0ad5c17e3aac5a6f475ab48440d786a90e9df054a65b79d436fd3847b6b2e87", func := "hackamore/hackamorelaw31.TimerFires", spec := "timerFires", unfollowed := true, recurses := true, apart := false }
def TimerFiresSaid : Prop := timerFiresRow.holds Try.pinned (OpenSpec.ofChange timerFiresSpec)

/-- ITS FALSE NEIGHBOUR: 'it returns false'. Refute it at one input. -/
def timerFiresWrong : ChangeSpec := { name := "timerFires", fn := fun _ => fun
  | [d1, d2, d3] => { results := [.lit (.bool false)], args := [d1, d2, d3] }
  | _ => none }
def TimerFiresWrongFalsely : Prop := timerFiresRow.holds Try.pinned (OpenSpec.ofChange timerFiresWrong)

/-- 'hackamorelaw31.TimerGiven': WHATEVER THE INPUT: true; the input reads as it did. -/
def timerGivenSpec : ChangeSpec := { name := "timerGiven", fn := fun _ => fun
  | [d1, d2] => { results := [.lit (.bool true)], args := [d1, d2] }
  | _ => none }
def timerGivenRow : OpenClaim := { program := "ytddajaikighjlaa", sum := "b0ad5c17e3aac5a6f475ab48440d786a90e9df054a65b79d436fd3847b6b2e87", func := "hackamore/hackamorelaw31.TimerGiven", spec := "timerGiven", unfollowed := true, recurses := true, apart := false }
def TimerGivenSaid : Prop := timerGivenRow.holds Try.pinned (OpenSpec.ofChange timerGivenSpec)

/-- ITS FALSE NEIGHBOUR: 'it returns false'. Refute it at one input. -/
def timerGivenWrong : ChangeSpec := { name := "timerGiven", fn := fun _ => fun
  | [d1, d2] => { results := [.lit (.bool false)], args := [d1, d2] }
  | _ => none }
def TimerGivenWrongFalsely : Prop := timerGivenRow.holds Try.pinned (OpenSpec.ofChange timerGivenWrong)

/- THE SECOND FORM. 'bulk': how many values and letters a reading holds, each counted each time it is reached (what is shared counts as often as it is met; a slice's spare places count too). A statement '..UptoSaid' is the law's where the arguments, and the package variables that the reading takes, are together of bulk at most 1048576: NARROWER than '..Said'. Prove '..Said' where nothing that the law and all that it calls make is longer than what came in: it says more and counts as full. Else prove '..UptoSaid'. A law counts once. -/
mutual
def uptoBulk {H : Type} : DataW H → Nat
  | .lit (.string bytes) => bytes.length + 1
  | .lit _ => 1
  | .nil => 1
  | .ptr d => uptoBulk d + 1
  | .slice elems spare => uptoBulkAll elems + uptoBulkAll spare + 1
  | .agg parts => uptoBulkAll parts + 1
  | .iface _ d => uptoBulk d + 1
  | .map entries => uptoBulkEntries entries + 1
  | .held _ => 1
def uptoBulkAll {H : Type} : List (DataW H) → Nat
  | [] => 0
  | d :: r => uptoBulk d + uptoBulkAll r
def uptoBulkEntries {H : Type} : List (Lit × DataW H) → Nat
  | [] => 0
  | x :: r => uptoBulkEntry x + uptoBulkEntries r
def uptoBulkEntry {H : Type} : Lit × DataW H → Nat
  | (.string bytes, d) => bytes.length + uptoBulk d + 1
  | (_, d) => uptoBulk d + 1
 end
def uptoSmall : (H : Type) → List (DataW H) → Bool := fun _ ds => decide (uptoBulkAll ds ≤ 1048576)
def OpenSpec.upto (s : _root_.Go.ChangeSpec) : _root_.Go.OpenSpec := { _root_.Go.OpenSpec.ofChange s with cond := some uptoSmall }

/-- 'hackamorelaw31.TimerRepeats', WHERE WHAT IT READS IS OF BULK AT MOST 1048576: true; the input reads as it did. -/
def timerRepeatsUptoRow : OpenClaim := { program := "ytddajaikighjlaa", sum := "b0ad5c17e3aac5a6f475ab48440d786a90e9df054a65b79d436fd3847b6b2e87", func := "hackamore/hackamorelaw31.TimerRepeats", spec := "timerRepeats", unfollowed := true, recurses := true, apart := false, narrowed := true }
def TimerRepeatsUptoSaid : Prop := timerRepeatsUptoRow.holds Try.pinned (OpenSpec.upto timerRepeatsSpec)

/-- 'hackamorelaw31.TimerRuns', WHERE WHAT IT READS IS OF BULK AT MOST 1048576: true; the input reads as it did. -/
def timerRunsUptoRow : OpenClaim := { program := "ytddajaikighjlaa", sum := "b0ad5c17e3aac5a6f475ab48440d786a90e9df054a65b79d436fd3847b6b2e87", func := "hackamore/hackamorelaw31.TimerRuns", spec := "timerRuns", unfollowed := true, recurses := true, apart := false, narrowed := true }
def TimerRunsUptoSaid : Prop := timerRunsUptoRow.holds Try.pinned (OpenSpec.upto timerRunsSpec)

/-- 'hackamorelaw31.TimerTold', WHERE WHAT IT READS IS OF BULK AT MOST 1048576: true; the input reads as it did. -/
def timerToldUptoRow : OpenClaim := { program := "ytddajaikighjlaa", sum := "b0ad5c17e3aac5a6f475ab48440d786a90e9df054a65b79d436fd3847b6b2e87", func := "hackamore/hackamorelaw31.TimerTold", spec := "timerTold", unfollowed := true, recurses := true, apart := false, narrowed := true }
def TimerToldUptoSaid : Prop := timerToldUptoRow.holds Try.pinned (OpenSpec.upto timerToldSpec)

/-- 'hackamorelaw31.TimerPromises', WHERE WHAT IT READS IS OF BULK AT MOST 1048576: true; the input reads as it did. -/
def timerPromisesUptoRow : OpenClaim := { program := "ytddajaikighjlaa", sum := "b0ad5c17e3aac5a6f475ab48440d786a90e9df054a65b79d436fd3847b6b2e87", func := "hackamore/hackamorelaw31.TimerPromises", spec := "timerPromises", unfollowed := true, recurses := true, apart := false, narrowed := true }
def TimerPromisesUptoSaid : Prop := timerPromisesUptoRow.holds Try.pinned (OpenSpec.upto timerPromisesSpec)

/-- 'hackamorelaw31.TimerCustodians', WHERE WHAT IT READS IS OF BULK AT MOST 1048576: true; the input reads as it did. -/
def timerCustodiansUptoRow : OpenClaim := { program := "ytddajaikighjlaa", sum := "b0ad5c17e3aac5a6f475ab48440d786a90e9df054a65b79d436fd3847b6b2e87", func := "hackamore/hackamorelaw31.TimerCustodians", spec := "timerCustodians", unfollowed := true, recurses := true, apart := false, narrowed := true }
def TimerCustodiansUptoSaid : Prop := timerCustodiansUptoRow.holds Try.pinned (OpenSpec.upto timerCustodiansSpec)

/-- 'hackamorelaw31.TimerFires', WHERE WHAT IT READS IS OF BULK AT MOST 1048576: true; the input reads as it did. -/
def timerFiresUptoRow : OpenClaim := { program := "ytddajaikighjlaa", sum := "b0ad5c17e3aac5a6f475ab48440d786a90e9df054a65b79d436fd3847b6b2e87", func := "hackamore/hackamorelaw31.TimerFires", spec := "timerFires", unfollowed := true, recurses := true, apart := false, narrowed := true }
def TimerFiresUptoSaid : Prop := timerFiresUptoRow.holds Try.pinned (OpenSpec.upto timerFiresSpec)

/-- 'hackamorelaw31.TimerGiven', WHERE WHAT IT READS IS OF BULK AT MOST 1048576: true; the input reads as it did. -/
def timerGivenUptoRow : OpenClaim := { program := "ytddajaikighjlaa", sum := "b0ad5c17e3aac5a6f475ab48440d786a90e9df054a65b79d436fd3847b6b2e87", func := "hackamore/hackamorelaw31.TimerGiven", spec := "timerGiven", unfollowed := true, recurses := true, apart := false, narrowed := true }
def TimerGivenUptoSaid : Prop := timerGivenUptoRow.holds Try.pinned (OpenSpec.upto timerGivenSpec)

end Rows
end Go.Proofs.Ytddajaikighjlaa
