/- What Advance keeps beside the wheels: its boxes, its row, its marks. -/
import Derived.Test.YtddajaikighjlaaCs
namespace Go.Proofs.Ytddajaikighjlaa
open Go.RowKit Go.Mp Go.Wh

def encF (p : Int × Int) : List Value := [.int .i64 p.1, .int .i64 p.2]
theorem encF_len (p : Int × Int) : (encF p).length = 2 := rfl
theorem own_same {w w' : World} {base size n : Nat} {e : TypeId} {v : Value} {xs : List Value} (h : w.ownsRow base e size v n xs) (hk : ∀ g, v.ownBlock = some g → w'.heap[g]? = w.heap[g]?) : w'.ownsRow base e size v n xs := by
  refine ⟨h.1, ?_⟩
  rcases h.2 with h0 | ⟨g, cap, cur, rfl, h2, h3, h4⟩
  · exact Or.inl h0
  · exact Or.inr ⟨g, cap, cur, rfl, h2, (hk g rfl).trans h3, h4⟩
theorem own_cells {w : World} {base size n g : Nat} {e : TypeId} {v : Value} {xs : List Value} (h : w.ownsRow base e size v n xs) (hg : v.ownBlock = some g) : ∃ cs, w.heap[g]? = some (.cells cs e (0, 0)) ∧ base ≤ g := by
  rcases h.2 with ⟨rfl, -⟩ | ⟨g', cap, cur, rfl, h2, h3, -⟩
  · cases hg
  · cases hg
    exact ⟨cur, h3, h2⟩
structure Fx (b X Bx Bo : Nat) (vo : Value) (out : List (Int × Int)) (ds : List Nat) (wr : World) : Prop where
  bx : wr.heap[Bx]? = some (.cells #[.pointer (some ⟨X, 0, none⟩)] 23 (0, 0))
  bo : wr.heap[Bo]? = some (.cells #[vo] 29 (0, 0))
  own : wr.ownsRow b 33 2 vo out.length (out.flatMap encF)
  nd : ds.Nodup
  ds : ∀ D ∈ ds, b ≤ D ∧ wr.heap[D]? = some (.deferred (some []))
theorem Fx.same {b X Bx Bo : Nat} {vo : Value} {out : List (Int × Int)} {ds : List Nat} {wr w2 : World} (h : Fx b X Bx Bo vo out ds wr) (h1 : w2.heap[Bx]? = wr.heap[Bx]?) (h2 : w2.heap[Bo]? = wr.heap[Bo]?) (h3 : ∀ g, vo.ownBlock = some g → w2.heap[g]? = wr.heap[g]?) (h4 : ∀ D ∈ ds, w2.heap[D]? = wr.heap[D]?) : Fx b X Bx Bo vo out ds w2 :=
  ⟨h1.trans h.bx, h2.trans h.bo, own_same h.own h3, h.nd, fun D hD => ⟨(h.ds D hD).1, (h4 D hD).trans (h.ds D hD).2⟩⟩
theorem Fx.lt {b X Bx Bo : Nat} {vo : Value} {out : List (Int × Int)} {ds : List Nat} {wr : World} (h : Fx b X Bx Bo vo out ds wr) : Bx < wr.heap.size ∧ Bo < wr.heap.size ∧ (∀ g, vo.ownBlock = some g → b ≤ g ∧ g < wr.heap.size) ∧ ∀ D ∈ ds, D < wr.heap.size :=
  ⟨(Array.getElem?_eq_some_iff.1 h.bx).1, (Array.getElem?_eq_some_iff.1 h.bo).1, fun g hg => h.own.lt g hg, fun D hD => (Array.getElem?_eq_some_iff.1 (h.ds D hD).2).1⟩
theorem Fx.below {b X Bx Bo : Nat} {vo : Value} {out : List (Int × Int)} {ds : List Nat} {wr w2 : World} (h : Fx b X Bx Bo vo out ds wr) (hb : Below wr.heap.size wr w2) : Fx b X Bx Bo vo out ds w2 :=
  h.same (hb.block _ h.lt.1) (hb.block _ h.lt.2.1) (fun g hg => hb.block _ (h.lt.2.2.1 g hg).2) (fun D hD => hb.block _ (h.lt.2.2.2 D hD))
/-- None of these is a block of the wheels. -/
theorem Fx.apart {b X Bx Bo : Nat} {vo : Value} {out : List (Int × Int)} {ds : List Nat} {wr : World} {R : Refs} {W : Wh} (h : Fx b X Bx Bo vo out ds wr) (hW : WhAt R wr X W) (hX : X < b) (hBx : b ≤ Bx) (hBo : b ≤ Bo) :
    ¬ Foot R X Bx ∧ ¬ Foot R X Bo ∧ (∀ g, vo.ownBlock = some g → ¬ Foot R X g) ∧ ∀ D ∈ ds, ¬ Foot R X D :=
  ⟨hW.apart h.bx (by omega), hW.apart h.bo (by omega), fun g hg => by obtain ⟨cs, hc, hb⟩ := own_cells h.own hg; exact hW.apart hc (by omega), fun D hD hf => hW.not_def hf (h.ds D hD).2⟩
theorem Fx.step {b X Bx Bo : Nat} {vo : Value} {out : List (Int × Int)} {ds : List Nat} {wr w2 : World} {R R2 : Refs} {W : Wh} (h : Fx b X Bx Bo vo out ds wr) (hW : WhAt R wr X W) (hX : X < b) (hBx : b ≤ Bx) (hBo : b ≤ Bo) (hs : Step R R2 X wr w2) : Fx b X Bx Bo vo out ds w2 := by
  obtain ⟨a1, a2, a3, a4⟩ := h.apart hW hX hBx hBo
  exact h.same (hs.block _ h.lt.1 a1) (hs.block _ h.lt.2.1 a2) (fun g hg => hs.block _ (h.lt.2.2.1 g hg).2 (a3 g hg)) (fun D hD => hs.block _ (h.lt.2.2.2 D hD) (a4 D hD))
/-- The row and the boxes are blocks apart. -/
theorem Fx.ne {b X Bx Bo : Nat} {vo : Value} {out : List (Int × Int)} {ds : List Nat} {wr : World} (h : Fx b X Bx Bo vo out ds wr) : Bx ≠ Bo ∧ (∀ g, vo.ownBlock = some g → g ≠ Bx ∧ g ≠ Bo ∧ g ∉ ds) ∧ Bx ∉ ds ∧ Bo ∉ ds := by
  refine ⟨fun e => ?_, fun g hg => ?_, fun hD => ?_, fun hD => ?_⟩
  · have h1 := h.bx
    rw [e, h.bo] at h1
    simp at h1
  · obtain ⟨cs, hc, -⟩ := own_cells h.own hg
    refine ⟨fun e => ?_, fun e => ?_, fun hD => ?_⟩
    · rw [e, h.bx] at hc; simp at hc
    · rw [e, h.bo] at hc; simp at hc
    · rw [(h.ds g hD).2] at hc; simp at hc
  · have h1 := h.bx
    rw [(h.ds _ hD).2] at h1
    simp at h1
  · have h1 := h.bo
    rw [(h.ds _ hD).2] at h1
    simp at h1
/-- One more in the row. -/
theorem Fx.appended {b X Bx Bo : Nat} {vo v' : Value} {out : List (Int × Int)} {ds : List Nat} {wr w1 : World} {p : Int × Int} (h : Fx b X Bx Bo vo out ds wr) (hg : wr.grownBy w1 vo.ownBlock) (ho : w1.ownsRow b 33 2 v' (out.length + 1) (out.flatMap encF ++ encF p)) : Fx b X Bx Bo v' (out ++ [p]) ds (w1.setCell ⟨Bo, 0, none⟩ v') := by
  obtain ⟨n1, n2, n3, n4⟩ := h.ne
  have hb : ∀ k, k < wr.heap.size → (∀ g, vo.ownBlock = some g → k ≠ g) → w1.heap[k]? = wr.heap[k]? := fun k hk hne => hg.block k hk (fun e => (hne k e.symm) rfl)
  have h1 := (hb Bx h.lt.1 fun g hg => Ne.symm (n2 g hg).1).trans h.bx
  have h2 := (hb Bo h.lt.2.1 fun g hg => Ne.symm (n2 g hg).2.1).trans h.bo
  have hne' : ∀ g, v'.ownBlock = some g → g ≠ Bo := fun g hg e => by
    obtain ⟨cs, hc, -⟩ := own_cells ho hg
    rw [e, h2] at hc
    simp at hc
  refine ⟨(Below.heap_setCell _ ⟨Bo, 0, none⟩ _ _ n1).trans h1, ?_, ?_, h.nd, fun D hD => ⟨(h.ds D hD).1, ?_⟩⟩
  · have := heap_setCell_same w1 Bo 0 _ 29 v' h2
    rw [this]
    rfl
  · rw [List.length_append, List.flatMap_append]
    simp only [List.length_cons, List.length_nil, List.flatMap_cons, List.flatMap_nil, List.append_nil]
    exact own_same ho fun g hg => Below.heap_setCell _ ⟨Bo, 0, none⟩ _ _ (hne' g hg)
  · exact (Below.heap_setCell _ ⟨Bo, 0, none⟩ _ _ (fun e => n4 (by rw [← show D = Bo from e]; exact hD))).trans ((hb D (h.lt.2.2.2 D hD) fun g hg e => (n2 g hg).2.2 (e ▸ hD)).trans (h.ds D hD).2)
end Go.Proofs.Ytddajaikighjlaa
