/- The scheduler as plain data: workers, states, what each operation computes. No program. -/
namespace Go.Sched

structure Wk where
  q : List Int
  ph : Int
  tk : Int
  lk : Int
deriving DecidableEq

structure St where
  ws : List Wk
  inj : List Int
deriving DecidableEq

structure Ev where
  kind : Int
  worker : Int
  task : Int
  src : Int
deriving DecidableEq

def asleep (w : Wk) : Bool := w.ph == 1 || w.ph == 2
def most (n ph : Int) : Int := if ph = 0 then max (n - 2) 0 else if ph = 1 then n else 0
def formed (n : Int) (w : Wk) : Bool :=
  (w.ph == 0 || w.ph == 1 || w.ph == 2 || w.ph == 3) && decide (0 ≤ w.lk) && decide (w.lk ≤ most n w.ph) && ((w.ph == 3 && decide (0 ≤ w.tk)) || (w.ph != 3 && w.tk == -1))
def own (w : Wk) : List Int := w.q ++ (if w.ph = 3 then [w.tk] else [])
def tasks (s : St) : List Int := s.inj ++ s.ws.flatMap own
def queue (s : St) (k : Nat) : List Int := if k = 0 then s.inj else (s.ws.getD (k - 1) ⟨[], 0, 0, 0⟩).q
def watched (s : St) (k : Int) : Bool := s.ws.any fun w => w.ph == 1 && decide (w.lk ≤ k)

theorem tasks_snoc (inj : List Int) (l : List Wk) (w : Wk) : inj ++ (l ++ [w]).flatMap own = (inj ++ l.flatMap own) ++ w.q ++ (if w.ph = 3 then [w.tk] else []) := by
  simp [own, List.append_assoc]
end Go.Sched
