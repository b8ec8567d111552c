/- append of one element to an own row, as a step of a drawing region and in the walk: where the new row lies. -/
import Derived.Test.YtjnlfibcpkobaaaPl
import Derived.Maps.AppendAt
namespace Go.Proofs.Ytjnlfibcpkobaaa
open Go.RowKit Go.Sl Go.Sched

theorem step_append_at {P : Program} {ops : Array Oper} {o : Oper} {a : Act} {w : World} {K : Act → World → Prop} {Q : Exit → Act → World → Prop} {E : Prop}
    (hg : o.guard = none) (s x : Operand) (t : TypeId) (hop : o.op = Op.call { callee := Callee.builtin Builtin.append, args := #[s, x], argTypes := #[t, t] })
    (base : Nat) (e : TypeId) (i : TypeInfo) (z : Value) (size bytes : Nat) (ht : P.underlying t = some (.slice e)) (hi : P.info? e = some i) (hz : i.zero = some z)
    (hsize : i.size = size) (hby : i.bytes = bytes) (hzs : z.cells.size = size) (hsz : 0 < size) (v : Value) (n : Nat) (xs : List Value) (hs : a.eval s = v) (hown : w.ownsRow base e size v n xs)
    (ad : Addr) (m c : Nat) (news : List Value) (hx : a.eval x = .slice (some ad) m c) (hl : news.length = m * size) (hnews : ∀ j u, news[j]? = some u → w.cell? (ad.add j) = some u) (h1 : ∀ u ∈ news, u.oneCell' = true)
    (h63 : n + m ≤ maxLen) (hbytes : (n + m) * bytes ≤ 140737488355328) (hbase : base ≤ w.heap.size)
    (hK : ∀ v' w', w'.ownsRow base e size v' (n + m) (xs ++ news) → w.grownBy w' v.ownBlock → (v'.ownBlock = v.ownBlock ∨ v'.ownBlock = some w.heap.size) → K (a.put o.dst v') w') :
    if Region.wanted o (yielded ops a.tmps) = true then Oper.wp P o a w K Q else E := by
  have hw : Region.wanted o (yielded ops a.tmps) = true := by simp [Region.wanted, hg]
  rw [if_pos hw]
  obtain ⟨v', w', hr, h2, h3, h4, h5⟩ := run_append_own_at (P := P) w base t o.type e i z size bytes ht hi hz hsize hby hzs hsz v n xs hown ad m c news hl hnews h1 h63 hbytes hbase
  unfold Oper.wp
  simp [execOp, hop, resolve, invoke, builtin, hs, hx, hr, Result.andThen]
  exact hK v' w' h2 h3 h5

/-- Three rows of ints of the law's own, each apart. -/
structure Rows3 (B : Nat) (w : World) (v1 v2 v3 : Value) (l1 l2 l3 : List Int) : Prop where
  o1 : w.ownsRow B 3 1 v1 l1.length (l1.map (Value.int .i64))
  o2 : w.ownsRow B 3 1 v2 l2.length (l2.map (Value.int .i64))
  o3 : w.ownsRow B 3 1 v3 l3.length (l3.map (Value.int .i64))
  a12 : ∀ b, v1.ownBlock = some b → v2.ownBlock ≠ some b
  a13 : ∀ b, v1.ownBlock = some b → v3.ownBlock ≠ some b
  a23 : ∀ b, v2.ownBlock = some b → v3.ownBlock ≠ some b
theorem own_below {w w' : World} {base : Nat} {e : TypeId} {sz n : Nat} {v : Value} {cs : List Value} (h : w.ownsRow base e sz v n cs) (hb : Below w.heap.size w w') : w'.ownsRow base e sz v n cs := by
  refine ⟨h.1, ?_⟩
  rcases h.2 with hn | ⟨g, cap, cur, he, hbg, hg, hr⟩
  · exact Or.inl hn
  · exact Or.inr ⟨g, cap, cur, he, hbg, by rw [hb.block _ (Array.getElem?_eq_some_iff.1 hg).1]; exact hg, hr⟩
theorem Rows3.then {B : Nat} {w w' : World} {v1 v2 v3 : Value} {l1 l2 l3 : List Int} (h : Rows3 B w v1 v2 v3 l1 l2 l3) (hb : Below w.heap.size w w') : Rows3 B w' v1 v2 v3 l1 l2 l3 :=
  ⟨own_below h.o1 hb, own_below h.o2 hb, own_below h.o3 hb, h.a12, h.a13, h.a23⟩
theorem ob_cases (v : Value) (row : Option Nat) (h : ∀ b, v.ownBlock = some b → row ≠ some b) : v.ownBlock = none ∨ v.ownBlock ≠ row := by
  cases hv : v.ownBlock with
  | none => exact Or.inl rfl
  | some b => exact Or.inr fun e => h b hv e.symm
theorem ob_lt {w : World} {B sz n : Nat} {e : TypeId} {v : Value} {cs : List Value} (h : w.ownsRow B e sz v n cs) {b : Nat} (hb : v.ownBlock = some b) : b < w.heap.size := (World.ownsRow.lt h b hb).2
/-- The first grows. -/
theorem Rows3.push1 {B : Nat} {w w' : World} {v1 v2 v3 v' : Value} {l1 l2 l3 : List Int} (h : Rows3 B w v1 v2 v3 l1 l2 l3) {x : Int} (ho : w'.ownsRow B 3 1 v' (l1.length + 1) (l1.map (Value.int .i64) ++ [.int .i64 x])) (hg : w.grownBy w' v1.ownBlock)
    (hv : v'.ownBlock = v1.ownBlock ∨ v'.ownBlock = some w.heap.size) : Rows3 B w' v' v2 v3 (l1 ++ [x]) l2 l3 := by
  have key : ∀ {v : Value} {n : Nat} {cs : List Value}, w.ownsRow B 3 1 v n cs → (∀ b, v1.ownBlock = some b → v.ownBlock ≠ some b) → ∀ b, v'.ownBlock = some b → v.ownBlock ≠ some b := by
    intro v n cs hv2 ha b hb e
    rcases hv with h5 | h5
    · exact ha b (h5.symm.trans hb) e
    · have := ob_lt hv2 e
      rw [h5] at hb
      cases hb
      omega
  exact ⟨by simpa using ho, h.o2.kept hg (ob_cases _ _ fun b hb e => h.a12 b e hb), h.o3.kept hg (ob_cases _ _ fun b hb e => h.a13 b e hb), key h.o2 h.a12, key h.o3 h.a13, h.a23⟩
theorem Rows3.swap {B : Nat} {w : World} {v1 v2 v3 : Value} {l1 l2 l3 : List Int} (h : Rows3 B w v1 v2 v3 l1 l2 l3) : Rows3 B w v2 v1 v3 l2 l1 l3 :=
  ⟨h.o2, h.o1, h.o3, fun b hb e => h.a12 b e hb, h.a23, h.a13⟩
theorem Rows3.turn {B : Nat} {w : World} {v1 v2 v3 : Value} {l1 l2 l3 : List Int} (h : Rows3 B w v1 v2 v3 l1 l2 l3) : Rows3 B w v3 v2 v1 l3 l2 l1 :=
  ⟨h.o3, h.o2, h.o1, fun b hb e => h.a23 b e hb, fun b hb e => h.a13 b e hb, fun b hb e => h.a12 b e hb⟩
theorem Rows3.nil (B : Nat) (w : World) : Rows3 B w (.slice none 0 0) (.slice none 0 0) (.slice none 0 0) [] [] [] :=
  ⟨World.ownsRow_nil _ _ _ _, World.ownsRow_nil _ _ _ _, World.ownsRow_nil _ _ _ _, fun b hb => (by cases hb), fun b hb => (by cases hb), fun b hb => (by cases hb)⟩
end Go.Proofs.Ytjnlfibcpkobaaa
