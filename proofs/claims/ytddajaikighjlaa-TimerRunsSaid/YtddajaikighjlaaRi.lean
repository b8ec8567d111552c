/- The reference's Advance 19: what its rounds keep. -/
import Derived.Test.YtddajaikighjlaaRh
namespace Go.Proofs.Ytddajaikighjlaa
open Go.RowKit Go.Sl Go.Mp Go.Wh

theorem run_srt : ∀ (n : Nat) (L : List Rt) (out : List (Int × Int)), Srt L → Srt (runR n L out).1
  | 0, _, _, h => h
  | _ + 1, [], _, h => h
  | n + 1, _ :: _, _, h => run_srt n _ _ h.next
theorem run_iv {B : Int} : ∀ (n : Nat) (L : List Rt) (out : List (Int × Int)), (∀ e ∈ L, 0 ≤ e.t.iv ∧ e.t.iv ≤ B ∧ 0 ≤ e.t.when) → ∀ e ∈ (runR n L out).1, 0 ≤ e.t.iv ∧ e.t.iv ≤ B ∧ 0 ≤ e.t.when
  | 0, _, _, h => h
  | _ + 1, [], _, h => h
  | n + 1, e :: L, out, h => run_iv n (nextR e L) (out ++ [(e.t.id, e.t.when)]) fun x hx => by
    rcases mem_next.1 hx with hx | ⟨-, rfl⟩
    · exact h x (by simp [hx])
    · have := h e (by simp)
      refine ⟨this.1, this.2.1, ?_⟩
      show 0 ≤ e.t.when + e.t.iv
      omega
theorem next_len {e : Rt} {L : List Rt} : (nextR e L).length ≤ L.length + 1 := by
  unfold nextR
  split
  · rw [(addR_perm _ _).length_eq]; simp
  · omega
theorem run_len : ∀ (n : Nat) (L : List Rt) (out : List (Int × Int)), (runR n L out).1.length ≤ L.length
  | 0, _, _ => Nat.le_refl _
  | _ + 1, [], _ => Nat.le_refl _
  | n + 1, e :: L, out => Nat.le_trans (run_len n (nextR e L) (out ++ [(e.t.id, e.t.when)])) next_len
theorem run_out {u : Int} : ∀ (n : Nat) (L : List Rt) (out : List (Int × Int)), Go.Wh.Steps n L u → (runR n L out).2.length = out.length + n
  | 0, _, _, _ => rfl
  | _ + 1, [], _, h => h.elim
  | n + 1, e :: L, out, ⟨_, h⟩ => by
    show (runR n (nextR e L) (out ++ [(e.t.id, e.t.when)])).2.length = _
    rw [run_out n _ _ h, List.length_append]
    simp only [List.length_cons, List.length_nil]
    omega
theorem cntR_nonneg {u : Int} : ∀ (L : List Rt), (∀ e ∈ L, 0 ≤ e.t.iv) → 0 ≤ cntR u L
  | [], _ => Int.le_refl _
  | e :: L, h => by
    have h1 := cntR_nonneg (u := u) L fun x hx => h x (by simp [hx])
    have h2 : 0 ≤ cnt u e.t := by
      unfold cnt
      split
      · omega
      · split
        · omega
        · have := Int.ediv_nonneg (show 0 ≤ u - e.t.when by omega) (h e (by simp))
          omega
    show 0 ≤ cnt u e.t + cntR u L
    omega
/-- What j rounds have led to. -/
def Rounds (u : Int) (L : List Rt) (j : Nat) (M : List Rt) (O : List (Int × Int)) : Prop := runR j L [] = (M, O) ∧ Go.Wh.Steps j L u
theorem Rounds.zero (u : Int) (L : List Rt) : Rounds u L 0 L [] := ⟨rfl, trivial⟩
theorem Rounds.len {u : Int} {L : List Rt} {j : Nat} {M : List Rt} {O : List (Int × Int)} (h : Rounds u L j M O) : O.length = j := by
  have := run_out j L [] h.2
  rw [h.1] at this
  simpa using this
theorem Rounds.le {u : Int} {L : List Rt} {j : Nat} {M : List Rt} {O : List (Int × Int)} (h : Rounds u L j M O) : M.length ≤ L.length := by
  have := run_len j L []
  rw [h.1] at this
  exact this
theorem Rounds.srt {u : Int} {L : List Rt} {j : Nat} {M : List Rt} {O : List (Int × Int)} (h : Rounds u L j M O) (hs : Srt L) : Srt M := by
  have := run_srt j L [] hs
  rw [h.1] at this
  exact this
theorem Rounds.iv {u B : Int} {L : List Rt} {j : Nat} {M : List Rt} {O : List (Int × Int)} (h : Rounds u L j M O) (hs : ∀ e ∈ L, 0 ≤ e.t.iv ∧ e.t.iv ≤ B ∧ 0 ≤ e.t.when) : ∀ e ∈ M, 0 ≤ e.t.iv ∧ e.t.iv ≤ B ∧ 0 ≤ e.t.when := by
  have := run_iv j L [] hs
  rw [h.1] at this
  exact this
theorem Rounds.next {u : Int} {L : List Rt} {j : Nat} {e : Rt} {M : List Rt} {O : List (Int × Int)} (h : Rounds u L j (e :: M) O) (he : e.t.when ≤ u) : Rounds u L (j + 1) (nextR e M) (O ++ [(e.t.id, e.t.when)]) := by
  refine ⟨by rw [runR_add, h.1]; rfl, Go.Wh.Steps.add (out := []) h.2 ?_⟩
  rw [h.1]
  exact ⟨he, trivial⟩
theorem Rounds.count {u : Int} {L : List Rt} {j : Nat} {M : List Rt} {O : List (Int × Int)} (h : Rounds u L j M O) (hu : u ≤ 1099511627776) (hi : ∀ e ∈ L, 0 ≤ e.t.iv) : cntR u L = j + cntR u M := by
  have := steps_cnt hu j L [] h.2 hi
  rw [h.1] at this
  exact this
theorem Rounds.last {u : Int} {L : List Rt} {j : Nat} {M : List Rt} {O : List (Int × Int)} (h : Rounds u L j M O) (hs : Srt L) (hu : u ≤ 1099511627776) (hi : ∀ e ∈ L, 0 ≤ e.t.iv) (hM : ∀ e M', M = e :: M' → u < e.t.when) : cntR u L = j ∧ runR j L [] = (M, O) := by
  refine ⟨?_, h.1⟩
  rw [h.count hu hi, cntR_none M fun e he => ?_]
  · omega
  · cases M with
    | nil => simp at he
    | cons x M' =>
      have h0 := hM x M' rfl
      rcases List.mem_cons.1 he with rfl | he
      · exact h0
      · have := (List.pairwise_cons.1 (h.srt hs).sorted).1 e he
        rw [before_of] at this
        omega
theorem Rounds.many {u : Int} {L : List Rt} {j : Nat} {e : Rt} {M : List Rt} {O : List (Int × Int)} (h : Rounds u L j (e :: M) O) (he : e.t.when ≤ u) (hu : u ≤ 1099511627776) (hi : ∀ e ∈ L, 0 ≤ e.t.iv ∧ e.t.iv ≤ 1099511627776 ∧ 0 ≤ e.t.when) : (j : Int) + 1 ≤ cntR u L := by
  have h1 := h.next he
  rw [h1.count hu fun e he => (hi e he).1]
  have := cntR_nonneg (u := u) (nextR e M) fun x hx => (h1.iv hi x hx).1
  push_cast
  omega
/-- A slice that was handed in, or that is one's own. -/
def TvR (w : World) (base : Nat) (wr : World) (v : Value) (M : List Rt) : Prop := SlR w v M ∨ wr.ownsRow base 151 5 v M.length (M.flatMap encR)
theorem TvR.slR {w wr : World} {base : Nat} {v : Value} {M : List Rt} (h : TvR w base wr v M) (hb : Below w.heap.size w wr) : SlR wr v M := by
  rcases h with h | h
  · exact h.below hb
  · exact SlR.of_owns h
theorem TvR.below {w wr wx : World} {base B : Nat} {v : Value} {M : List Rt} (h : TvR w base wr v M) (hb : Below B wr wx) (hB : wr.heap.size ≤ B) : TvR w base wx v M := by
  rcases h with h | h
  · exact Or.inl h
  · exact Or.inr (own_belowR h hb hB)
theorem TvR.set {w wr : World} {base b : Nat} {v : Value} {M : List Rt} (h : TvR w base wr v M) {cs : Array Value} {f : Nat × Nat} (hb : wr.heap[b]? = some (.cells cs 40 f)) (j : Nat) (x : Value) : TvR w base (wr.setCell ⟨b, j, none⟩ x) v M := by
  rcases h with h | h
  · exact Or.inl h
  · refine Or.inr (own_same h fun g hg => ?_)
    have hne : g ≠ b := by
      rintro rfl
      obtain ⟨c1, h1, -⟩ := own_cells h hg
      rw [hb] at h1
      simp only [Option.some.injEq, Obj.cells.injEq] at h1
      exact absurd h1.2.1 (by decide)
    exact Below.heap_setCell _ ⟨b, j, none⟩ _ _ (by simp only; exact hne)
theorem TvR.grown {w W w5 : World} {base base2 k : Nat} {v v2 : Value} {M : List Rt} {xs : List Value} (h : TvR w base W v M) (hown : W.ownsRow base2 153 2 v2 k xs) (hg : W.grownBy w5 v2.ownBlock) : TvR w base w5 v M := by
  rcases h with h | h
  · exact Or.inl h
  · refine Or.inr (own_same h fun g hg2 => hg.block g (h.lt g hg2).2 fun e => ?_)
    obtain ⟨c1, h1, -⟩ := own_cells h hg2
    obtain ⟨c2, h2, -⟩ := own_cells hown e.symm
    rw [h1] at h2
    simp only [Option.some.injEq, Obj.cells.injEq] at h2
    exact absurd h2.2.1 (by decide)
theorem info153 : (Try.prog.info? 153).map (fun i => (i.zero, i.size, i.bytes)) = some (some (.agg #[.int .i64 0, .int .i64 0]), 2, 16) := by kernel_rfl
end Go.Proofs.Ytddajaikighjlaa
