/- Timing wheels as plain data: what each operation does. No program. -/
namespace Go.Wh

/-- Pairs by keys. -/
def putA {α : Type} (L : List (Int × α)) (x : Int) (v : α) : List (Int × α) := match L.findIdx? fun p => p.1 == x with
  | some j => L.set j (x, v)
  | none => L ++ [(x, v)]
def delA {α : Type} (L : List (Int × α)) (x : Int) : List (Int × α) := match L.findIdx? fun p => p.1 == x with
  | some j => L.eraseIdx j
  | none => L
def getA {α : Type} (L : List (Int × α)) (x : Int) (z : α) : α × Bool := match L.findIdx? fun p => p.1 == x with
  | some j => ((L.getD j (0, z)).2, true)
  | none => (z, false)

structure Tm where
  id : Int
  when : Int
  iv : Int
  ord : Int
deriving DecidableEq
def tm0 : Tm := ⟨0, 0, 0, 0⟩
/-- Wheels: the slot s of the wheel k has the number k * 64 + s. -/
structure Wh where
  now : Int
  ord : Int
  sl : List (List (Int × Bool))
  tm : List (Int × Tm)
  pl : List (Int × (Int × Int))
deriving DecidableEq

def newS (now : Int) : Wh := ⟨now, 0, List.replicate 448 [], [], []⟩
/-- The wheel for a distance; its size. -/
def whl (d : Int) : Nat := if d < 64 then 0 else if d < 4096 then 1 else if d < 262144 then 2 else if d < 16777216 then 3 else if d < 1073741824 then 4 else if d < 68719476736 then 5 else 6
def pw : Nat → Int
  | 0 => 1
  | k + 1 => pw k * 64
def slotOf (k : Nat) (when : Int) : Nat := (when / pw k % 64).toNat
def putS (w : Wh) (t : Tm) : Wh :=
  let k := whl (t.when - w.now)
  let s := slotOf k t.when
  { w with sl := w.sl.set (k * 64 + s) (putA (w.sl.getD (k * 64 + s) []) t.id true), tm := putA w.tm t.id t, pl := putA w.pl t.id ((k : Int), (s : Int)) }
def takeS (w : Wh) (id : Int) : Wh × Tm :=
  let t := (getA w.tm id tm0).1
  let p := (getA w.pl id (0, 0)).1
  let n := (p.1 * 64 + p.2).toNat
  ({ w with sl := w.sl.set n (delA (w.sl.getD n []) id), tm := delA w.tm id, pl := delA w.pl id }, t)
/-- The order of timers. -/
def before (a b : Tm) : Bool := decide (a.when < b.when) || (a.when == b.when && decide (a.ord ≤ b.ord))
def ins (t : Tm) : List Tm → List Tm
  | [] => [t]
  | u :: l => if before t u then t :: u :: l else u :: ins t l
def srt : List Tm → List Tm
  | [] => []
  | t :: l => ins t (srt l)
def setS (w : Wh) (id when iv : Int) : Wh × Int :=
  if id < 0 ∨ iv < 0 then (w, 1) else if 1099511627776 < when ∨ 1099511627776 < iv then (w, 3) else if (getA w.tm id tm0).2 then (w, 6)
  else if w.tm.length = 1000 then (w, 8) else if when ≤ w.now then (w, 330) else ({ putS w ⟨id, when, iv, w.ord⟩ with ord := w.ord + 1 }, 0)
def cancelS (w : Wh) (id : Int) : Wh × Bool := if (getA w.tm id tm0).2 then ((takeS w id).1, true) else (w, false)
def timersS (w : Wh) : List Tm := srt (w.tm.map Prod.snd)
def slotS (w : Wh) (id : Int) : Int × Int × Int := if (getA w.pl id (0, 0)).2 then ((getA w.pl id (0, 0)).1.1, (getA w.pl id (0, 0)).1.2, 0) else (0, 0, 5)
def manyS (w : Wh) (to : Int) : Int := (w.tm.map fun p => if to < p.2.when then 0 else if p.2.iv = 0 then 1 else 1 + (to - p.2.when) / p.2.iv).sum
def dueS (w : Wh) (n : Nat) : List Tm := srt ((w.sl.getD n []).map fun p => (getA w.tm p.1 tm0).1)
/-- How many wheels' slots the time has come to. -/
def topOf (now : Int) : Nat := if now % 64 ≠ 0 then 0 else if now % 4096 ≠ 0 then 1 else if now % 262144 ≠ 0 then 2 else if now % 16777216 ≠ 0 then 3 else if now % 1073741824 ≠ 0 then 4 else if now % 68719476736 ≠ 0 then 5 else 6
def anew (w : Wh) : List Tm → Wh
  | [] => w
  | t :: l => anew (putS (takeS w t.id).1 t) l
def cascS (w : Wh) : Nat → Wh
  | 0 => w
  | k + 1 => cascS (anew w (dueS w ((k + 1) * 64 + slotOf (k + 1) w.now))) k
def fireS (w : Wh) (out : List (Int × Int)) : List Tm → Wh × List (Int × Int)
  | [] => (w, out)
  | t :: l =>
    let w1 := (takeS w t.id).1
    let t1 : Tm := { t with when := t.when + t.iv }
    fireS (if 0 < t.iv ∧ t1.when ≤ 1099511627776 then putS w1 t1 else w1) (out ++ [(t.id, t.when)]) l
def tickS (w : Wh) (out : List (Int × Int)) : Wh × List (Int × Int) :=
  let w1 := { w with now := w.now + 1 }
  let w2 := if w1.now % 64 = 0 then cascS w1 (topOf w1.now) else w1
  fireS w2 out (dueS w2 (slotOf 0 w2.now))
def ticks : Nat → Wh → List (Int × Int) → Wh × List (Int × Int)
  | 0, w, out => (w, out)
  | n + 1, w, out => ticks n (tickS w out).1 (tickS w out).2
def advS (w : Wh) (to : Int) : Wh × List (Int × Int) × Int :=
  if to < 0 ∨ 1099511627776 < to ∨ w.now + 1000000 < to then (w, [], 3) else if to < w.now then (w, [], 330) else if 5000 < manyS w to then (w, [], 16)
  else ((ticks (to - w.now).toNat w []).1, (ticks (to - w.now).toNat w []).2, 0)

/-- The chapter's example. -/
def exS : Bool :=
  let w := (setS (newS 0) 1 100 0).1
  let a := advS w 64
  let b := advS a.1 100
  let w2 := setS b.1 2 110 5
  let c := advS w2.1 121
  (setS (newS 0) 1 100 0).2 == 0 && slotS w 1 == (1, 1, 0) && a.2.1 == [] && a.2.2 == 0 && slotS a.1 1 == (0, 36, 0) && b.2.1 == [(1, 100)] && b.2.2 == 0 && w2.2 == 0 && c.2.1 == [(2, 110), (2, 115), (2, 120)] && c.2.2 == 0
set_option maxRecDepth 100000 in
theorem ex_true : exS = true := by decide +kernel
end Go.Wh
