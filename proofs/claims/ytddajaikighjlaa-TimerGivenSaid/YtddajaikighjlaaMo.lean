/- Operations on maps with integer keys, as steps of a drawing region and of a plain walk. No program. -/
import Derived.Test.YtddajaikighjlaaWa
import Derived.Deep.RegionLaw
import Derived.BigFrame
import Derived.OwnWalk
namespace Go.Mp
open Go.RowKit Go.ChangeMaps Go.Wh

variable {P : Program}
theorem step_mapUpdate_i {ops : Array Oper} {o : Oper} {a : Act} {w : World} {K : Act → World → Prop} {Q : Exit → Act → World → Prop} {E : Prop} (hg : o.guard = none) (m x v : Operand) (t k e : TypeId) (ht : P.underlying t = some (.map k e)) (hk : P.underlying k = some (.int .i64)) (hop : o.op = Op.mapUpdate t m x v) (r : Nat) (L : List (Int × Value)) (hm : a.eval m = .map (some r)) (hL : MapI w r L) (xi : Int) (hx : a.eval x = .int .i64 xi) (vv : Value) (hv : a.eval v = vv)
    (hK : ∀ w2, MapI w2 r (put L xi vv) → w.grownBy w2 (some r) → w2.heap.size = w.heap.size → K (a.put o.dst (undef)) w2) : if Region.wanted o (yielded ops a.tmps) = true then Oper.wp P o a w K Q else E := by
  have hw : Region.wanted o (yielded ops a.tmps) = true := by simp [Region.wanted, hg]
  rw [if_pos hw]
  obtain ⟨w2, hrun, h1, h2, h3⟩ := run_mapUpdate (P := P) (w := w) ht hk hL xi vv
  unfold Oper.wp
  simp [execOp, hop, hm, hx, hv, hrun, Result.andThen]
  exact hK w2 h1 h2 h3
theorem wpList_mapUpdate_i {ops : Array Oper} {rest : List Oper} {o : Oper} {a : Act} {w : World} {Q : Exit → Act → World → Prop} (hg : o.guard = none) (m x v : Operand) (t k e : TypeId) (ht : P.underlying t = some (.map k e)) (hk : P.underlying k = some (.int .i64)) (hop : o.op = Op.mapUpdate t m x v) (r : Nat) (L : List (Int × Value)) (hm : a.eval m = .map (some r)) (hL : MapI w r L) (xi : Int) (hx : a.eval x = .int .i64 xi) (vv : Value) (hv : a.eval v = vv)
    (hK : ∀ w2, MapI w2 r (put L xi vv) → w.grownBy w2 (some r) → w2.heap.size = w.heap.size → wpList P ops Q rest (a.put o.dst (undef)) w2) : wpList P ops Q (o :: rest) a w := by
  refine wpList_plain hg fun K hK' => ?_
  obtain ⟨w2, hrun, h1, h2, h3⟩ := run_mapUpdate (P := P) (w := w) ht hk hL xi vv
  unfold Oper.wp
  simp [execOp, hop, hm, hx, hv, hrun, Result.andThen]
  exact hK' _ _ (hK w2 h1 h2 h3)
theorem step_mapEntry_i {ops : Array Oper} {o : Oper} {a : Act} {w : World} {K : Act → World → Prop} {Q : Exit → Act → World → Prop} {E : Prop} (hg : o.guard = none) (m x : Operand) (t k e : TypeId) (ht : P.underlying t = some (.map k e)) (hk : P.underlying k = some (.int .i64)) (hop : o.op = Op.mapEntry t m x) (z : Value) (hz : ∀ w, (zeroValue e).run P w = .ok z w) (r : Nat) (L : List (Int × Value)) (hm : a.eval m = .map (some r)) (hL : MapI w r L) (xi : Int) (hx : a.eval x = .int .i64 xi)
    (hK : ∀ w2 (st : Nat), MapI w2 r (put L xi (got L xi z).1) → Stamped w2 r xi st → w.grownBy w2 (some r) → w2.heap.size = w.heap.size → K (a.put o.dst (.tuple #[(got L xi z).1, .int .i64 (st : Int)])) w2) : if Region.wanted o (yielded ops a.tmps) = true then Oper.wp P o a w K Q else E := by
  have hw : Region.wanted o (yielded ops a.tmps) = true := by simp [Region.wanted, hg]
  rw [if_pos hw]
  obtain ⟨w2, st, hrun, h1, h0, h2, h3⟩ := run_mapEntry (P := P) (w := w) ht hk hz hL xi
  unfold Oper.wp
  simp [execOp, hop, hm, hx, hrun, Result.andThen]
  exact hK w2 st h1 h0 h2 h3
theorem wpList_mapEntry_i {ops : Array Oper} {rest : List Oper} {o : Oper} {a : Act} {w : World} {Q : Exit → Act → World → Prop} (hg : o.guard = none) (m x : Operand) (t k e : TypeId) (ht : P.underlying t = some (.map k e)) (hk : P.underlying k = some (.int .i64)) (hop : o.op = Op.mapEntry t m x) (z : Value) (hz : ∀ w, (zeroValue e).run P w = .ok z w) (r : Nat) (L : List (Int × Value)) (hm : a.eval m = .map (some r)) (hL : MapI w r L) (xi : Int) (hx : a.eval x = .int .i64 xi)
    (hK : ∀ w2 (st : Nat), MapI w2 r (put L xi (got L xi z).1) → Stamped w2 r xi st → w.grownBy w2 (some r) → w2.heap.size = w.heap.size → wpList P ops Q rest (a.put o.dst (.tuple #[(got L xi z).1, .int .i64 (st : Int)])) w2) : wpList P ops Q (o :: rest) a w := by
  refine wpList_plain hg fun K hK' => ?_
  obtain ⟨w2, st, hrun, h1, h0, h2, h3⟩ := run_mapEntry (P := P) (w := w) ht hk hz hL xi
  unfold Oper.wp
  simp [execOp, hop, hm, hx, hrun, Result.andThen]
  exact hK' _ _ (hK w2 st h1 h0 h2 h3)
theorem step_entryStore_i {ops : Array Oper} {o : Oper} {a : Act} {w : World} {K : Act → World → Prop} {Q : Exit → Act → World → Prop} {E : Prop} (hg : o.guard = none) (m s v : Operand) (t : TypeId) (hop : o.op = Op.entryStore t m s v) (r : Nat) (L : List (Int × Value)) (hm : a.eval m = .map (some r)) (hL : MapI w r L) (xi : Int) (st : Nat) (hst : Stamped w r xi st) (hs : a.eval s = .int .i64 (st : Int)) (vv : Value) (hv : a.eval v = vv)
    (hK : ∀ w2, MapI w2 r (put L xi vv) → w.grownBy w2 (some r) → w2.heap.size = w.heap.size → K (a.put o.dst (undef)) w2) : if Region.wanted o (yielded ops a.tmps) = true then Oper.wp P o a w K Q else E := by
  have hw : Region.wanted o (yielded ops a.tmps) = true := by simp [Region.wanted, hg]
  rw [if_pos hw]
  obtain ⟨w2, hrun, h1, h2, h3⟩ := run_entryStore (P := P) (w := w) (t := t) hL hst vv
  unfold Oper.wp
  simp [execOp, hop, hm, hs, hv, hrun, Result.andThen]
  exact hK w2 h1 h2 h3
theorem wpList_entryStore_i {ops : Array Oper} {rest : List Oper} {o : Oper} {a : Act} {w : World} {Q : Exit → Act → World → Prop} (hg : o.guard = none) (m s v : Operand) (t : TypeId) (hop : o.op = Op.entryStore t m s v) (r : Nat) (L : List (Int × Value)) (hm : a.eval m = .map (some r)) (hL : MapI w r L) (xi : Int) (st : Nat) (hst : Stamped w r xi st) (hs : a.eval s = .int .i64 (st : Int)) (vv : Value) (hv : a.eval v = vv)
    (hK : ∀ w2, MapI w2 r (put L xi vv) → w.grownBy w2 (some r) → w2.heap.size = w.heap.size → wpList P ops Q rest (a.put o.dst (undef)) w2) : wpList P ops Q (o :: rest) a w := by
  refine wpList_plain hg fun K hK' => ?_
  obtain ⟨w2, hrun, h1, h2, h3⟩ := run_entryStore (P := P) (w := w) (t := t) hL hst vv
  unfold Oper.wp
  simp [execOp, hop, hm, hs, hv, hrun, Result.andThen]
  exact hK' _ _ (hK w2 h1 h2 h3)
theorem step_delete_i {ops : Array Oper} {o : Oper} {a : Act} {w : World} {K : Act → World → Prop} {Q : Exit → Act → World → Prop} {E : Prop} (hg : o.guard = none) (m x : Operand) (t k e : TypeId) (ht : P.underlying t = some (.map k e)) (hk : P.underlying k = some (.int .i64)) (hop : o.op = Op.call { callee := Callee.builtin Builtin.delete, args := #[m, x], argTypes := #[t, k] }) (r : Nat) (L : List (Int × Value)) (hm : a.eval m = .map (some r)) (hL : MapI w r L) (xi : Int) (hx : a.eval x = .int .i64 xi)
    (hK : ∀ w2, MapI w2 r (del L xi) → w.grownBy w2 (some r) → w2.heap.size = w.heap.size → K (a.put o.dst (.tuple #[])) w2) : if Region.wanted o (yielded ops a.tmps) = true then Oper.wp P o a w K Q else E := by
  have hw : Region.wanted o (yielded ops a.tmps) = true := by simp [Region.wanted, hg]
  rw [if_pos hw]
  obtain ⟨w2, hrun, h1, h2, h3⟩ := run_delete (P := P) (w := w) ht hk hL xi o.type
  unfold Oper.wp
  simp [execOp, hop, resolve, invoke, builtin, hm, hx, hrun, Result.andThen]
  exact hK w2 h1 h2 h3
theorem wpList_delete_i {ops : Array Oper} {rest : List Oper} {o : Oper} {a : Act} {w : World} {Q : Exit → Act → World → Prop} (hg : o.guard = none) (m x : Operand) (t k e : TypeId) (ht : P.underlying t = some (.map k e)) (hk : P.underlying k = some (.int .i64)) (hop : o.op = Op.call { callee := Callee.builtin Builtin.delete, args := #[m, x], argTypes := #[t, k] }) (r : Nat) (L : List (Int × Value)) (hm : a.eval m = .map (some r)) (hL : MapI w r L) (xi : Int) (hx : a.eval x = .int .i64 xi)
    (hK : ∀ w2, MapI w2 r (del L xi) → w.grownBy w2 (some r) → w2.heap.size = w.heap.size → wpList P ops Q rest (a.put o.dst (.tuple #[])) w2) : wpList P ops Q (o :: rest) a w := by
  refine wpList_plain hg fun K hK' => ?_
  obtain ⟨w2, hrun, h1, h2, h3⟩ := run_delete (P := P) (w := w) ht hk hL xi o.type
  unfold Oper.wp
  simp [execOp, hop, resolve, invoke, builtin, hm, hx, hrun, Result.andThen]
  exact hK' _ _ (hK w2 h1 h2 h3)
end Go.Mp
