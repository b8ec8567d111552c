/- What the law ScheduleBells keeps of its bells. -/
import Derived.Test.YtjnlfibcpkobaaaBe
import Derived.Test.YtjnlfibcpkobaaaAw
namespace Go.Proofs.Ytjnlfibcpkobaaa
open Go.RowKit Go.Sl Go.Conc

def bufOf (b : Bool) : Array Value := if b then #[.agg #[]] else #[]
/-- The first m bells are made; f: their blocks and channels; rg: which rang. -/
structure Bls (w : World) (AB AR m : Nat) (f : Nat → Nat × Nat) (rg : Nat → Bool) (wr : World) : Prop where
  bel : Below w.heap.size w wr
  hA : w.heap.size ≤ AB
  hR : w.heap.size ≤ AR
  blkA : ∃ cur, wr.heap[AB]? = some (.cells cur 68 (0, 0)) ∧ cur.size = 4
  blkR : ∃ cur, wr.heap[AR]? = some (.cells cur 69 (0, 0)) ∧ cur.size = 4
  ab : ∀ k, k < m → wr.cell? ⟨AB, k, none⟩ = some (.pointer (some ⟨(f k).1, 0, none⟩))
  ar : ∀ k, k < 4 → wr.cell? ⟨AR, k, none⟩ = some (.bool (rg k))
  bc : ∀ k, k < m → wr.heap[(f k).1]? = some (.cells #[.chan (some (f k).2)] 73 (0, 0))
  ch : ∀ k, k < m → w.heap.size ≤ (f k).2 ∧ ∃ s r, wr.heap[(f k).2]? = some (.chan 1 (bufOf (rg k)) false s r false)
  inj : ∀ j, j < m → ∀ k, k < m → (f j).2 = (f k).2 → j = k

theorem Bls.then {w : World} {AB AR m : Nat} {f : Nat → Nat × Nat} {rg : Nat → Bool} {wr w' : World} (h : Bls w AB AR m f rg wr) (hb : Below wr.heap.size wr w') : Bls w AB AR m f rg w' := by
  obtain ⟨ca, ha, ha2⟩ := h.blkA
  obtain ⟨cr, hr, hr2⟩ := h.blkR
  have keep : ∀ {k : Nat} {o : Obj}, wr.heap[k]? = some o → w'.heap[k]? = some o := fun ho => (hb.block _ (Array.getElem?_eq_some_iff.1 ho).1).trans ho
  exact ⟨h.bel.then hb, h.hA, h.hR, ⟨ca, keep ha, ha2⟩, ⟨cr, keep hr, hr2⟩, fun k hk => hb.at_cell (h.ab k hk), fun k hk => hb.at_cell (h.ar k hk), fun k hk => keep (h.bc k hk),
    fun k hk => by
      obtain ⟨h1, s, r, h2⟩ := h.ch k hk
      exact ⟨h1, s, r, keep h2⟩, h.inj⟩
theorem Bls.ne {w : World} {AB AR m : Nat} {f : Nat → Nat × Nat} {rg : Nat → Bool} {wr : World} (h : Bls w AB AR m f rg wr) : AB ≠ AR := by
  obtain ⟨ca, ha, -⟩ := h.blkA
  obtain ⟨cr, hr, -⟩ := h.blkR
  rintro rfl
  rw [ha] at hr
  simp at hr
theorem Bls.free {w : World} {AB AR m : Nat} {f : Nat → Nat × Nat} {rg : Nat → Bool} {wr : World} (h : Bls w AB AR m f rg wr) : (∀ j, wr.frozen? ⟨AB, j, none⟩ = false) ∧ ∀ j, wr.frozen? ⟨AR, j, none⟩ = false := by
  obtain ⟨ca, ha, -⟩ := h.blkA
  obtain ⟨cr, hr, -⟩ := h.blkR
  exact ⟨fun j => by simp [World.frozen?, ha], fun j => by simp [World.frozen?, hr]⟩
theorem Bls.hasA {w : World} {AB AR m : Nat} {f : Nat → Nat × Nat} {rg : Nat → Bool} {wr : World} (h : Bls w AB AR m f rg wr) (k : Nat) (hk : k < 4) : ∃ v, wr.cell? ⟨AB, k, none⟩ = some v := by
  obtain ⟨ca, ha, h4⟩ := h.blkA
  rw [cell_of_row _ _ k _ 68 (0, 0) ha]
  exact ⟨ca[k]'(by omega), by simp [h4, hk]⟩
theorem setChan_far {w : World} {c cap s r k : Nat} {buf : Array Value} {cl tm : Bool} (h : k ≠ c) : (w.setChan c cap buf cl s r tm).heap[k]? = w.heap[k]? := by
  simp only [World.setChan]
  rw [Array.getElem?_setIfInBounds_ne (Ne.symm h)]

/-- One more bell. -/
theorem Bls.add {w : World} {AB AR m : Nat} {f : Nat → Nat × Nat} {wr : World} (h : Bls w AB AR m f (fun _ => false) wr) (hm : m < 4) :
    Bls w AB AR (m + 1) (fun k => if k = m then (wr.heap.size + 1, wr.heap.size) else f k) (fun _ => false)
      (((wr.alloc (.chan 1 #[] false 0 0 false)).alloc (.cells #[.chan (some wr.heap.size)] 73)).setCell ⟨AB, m, none⟩ (.pointer (some ⟨wr.heap.size + 1, 0, none⟩))) := by
  have hb : Below wr.heap.size wr ((wr.alloc (.chan 1 #[] false 0 0 false)).alloc (.cells #[.chan (some wr.heap.size)] 73)) := ((Below.refl _ _).alloc (Nat.le_refl _) _).alloc (by simp) _
  have h2 := h.then hb
  have hc : ((wr.alloc (.chan 1 #[] false 0 0 false)).alloc (.cells #[.chan (some wr.heap.size)] 73)).heap[wr.heap.size]? = some (.chan 1 #[] false 0 0 false) := by
    rw [heap_alloc_old _ _ (by simp)]
    exact heap_alloc_new _ _
  have hp : ((wr.alloc (.chan 1 #[] false 0 0 false)).alloc (.cells #[.chan (some wr.heap.size)] 73)).heap[wr.heap.size + 1]? = some (.cells #[.chan (some wr.heap.size)] 73 (0, 0)) := by
    have := heap_alloc_new (wr.alloc (.chan 1 #[] false 0 0 false)) (.cells #[.chan (some wr.heap.size)] 73)
    simpa using this
  generalize ((wr.alloc (.chan 1 #[] false 0 0 false)).alloc (.cells #[.chan (some wr.heap.size)] 73)) = W at *
  obtain ⟨ca, ha, ha4⟩ := h2.blkA
  obtain ⟨cr, hr, hr4⟩ := h2.blkR
  obtain ⟨ca0, ha0, -⟩ := h.blkA
  have hAlt := (Array.getElem?_eq_some_iff.1 ha0).1
  have hold : ∀ k, k < m → (f k).1 < wr.heap.size ∧ (f k).2 < wr.heap.size := fun k hk =>
    ⟨(Array.getElem?_eq_some_iff.1 (h.bc k hk)).1, by obtain ⟨_, s, r, h3⟩ := h.ch k hk; exact (Array.getElem?_eq_some_iff.1 h3).1⟩
  refine ⟨h2.bel.setCell h.hA _, h.hA, h.hR, ⟨_, heap_setCell_same W AB m ca 68 _ ha, by simpa using ha4⟩, ⟨cr, by rw [Below.heap_setCell _ _ _ _ (Ne.symm h2.ne)]; exact hr, hr4⟩, fun k hk => ?_, fun k hk => ?_, fun k hk => ?_, fun k hk => ?_, ?_⟩
  · by_cases e : k = m
    · subst e
      simp only [if_true]
      exact World.cell?_setCell_same' _ _ _ (by obtain ⟨v, hv⟩ := h2.hasA k hm; rw [hv]; rfl)
    · simp only [e, if_false]
      rw [World.cell?_setCell_other _ _ _ _ (by simp <;> omega)]
      exact h2.ab k (by omega)
  · rw [World.cell?_setCell_other _ _ _ _ (by intro e; exact h2.ne (congrArg Addr.block e))]
    exact h2.ar k hk
  · by_cases e : k = m
    · subst e
      simp only [if_true]
      rw [Below.heap_setCell _ _ _ _ (show wr.heap.size + 1 ≠ AB by omega)]
      exact hp
    · simp only [e, if_false]
      have h3 := h2.bc k (by omega)
      rw [Below.heap_setCell _ _ _ _ (show (f k).1 ≠ AB by rintro e2; rw [e2, ha] at h3; simp at h3)]
      exact h3
  · by_cases e : k = m
    · subst e
      simp only [if_true]
      refine ⟨h.bel.size, 0, 0, ?_⟩
      rw [Below.heap_setCell _ _ _ _ (show wr.heap.size ≠ AB by omega)]
      exact hc
    · simp only [e, if_false]
      obtain ⟨h3, s, r, h4⟩ := h2.ch k (by omega)
      refine ⟨h3, s, r, ?_⟩
      rw [Below.heap_setCell _ _ _ _ (show (f k).2 ≠ AB by rintro e2; rw [e2, ha] at h4; simp at h4)]
      exact h4
  · intro j hj k hk
    by_cases ej : j = m <;> by_cases ek : k = m
    · intro _; omega
    · subst ej
      simp only [if_true, ek, if_false]
      have := (hold k (by omega)).2
      intro e; omega
    · subst ek
      simp only [if_true, ej, if_false]
      have := (hold j (by omega)).2
      intro e; omega
    · simp only [ej, ek, if_false]
      exact h.inj j (by omega) k (by omega)

/-- Bell k is rung, or heard; and what the law remembers of it. -/
theorem Bls.turn {w : World} {AB AR : Nat} {f : Nat → Nat × Nat} {rg : Nat → Bool} {wr : World} (h : Bls w AB AR 4 f rg wr) {k : Nat} (hk : k < 4) (b : Bool) (s r : Nat) :
    Bls w AB AR 4 f (fun j => if j = k then b else rg j) ((wr.setChan (f k).2 1 (bufOf b) false s r false).setCell ⟨AR, k, none⟩ (.bool b)) ∧
    (∀ j, j < 4 → (wr.setChan (f k).2 1 (bufOf b) false s r false).cell? ⟨AR, j, none⟩ = some (.bool (rg j))) ∧ (∀ j, (wr.setChan (f k).2 1 (bufOf b) false s r false).frozen? ⟨AR, j, none⟩ = false) := by
  obtain ⟨hck, s0, r0, hch⟩ := h.ch k hk
  have hclt := (Array.getElem?_eq_some_iff.1 hch).1
  have far : ∀ {x : Nat} {o : Obj}, wr.heap[x]? = some o → (∀ a2 a3 a4 a5 a6 a7, o ≠ .chan a2 a3 a4 a5 a6 a7) → (wr.setChan (f k).2 1 (bufOf b) false s r false).heap[x]? = some o := by
    intro x o ho hn
    rw [setChan_far (by rintro rfl; rw [hch] at ho; cases ho; exact hn _ _ _ _ _ _ rfl)]
    exact ho
  obtain ⟨ca, ha, ha4⟩ := h.blkA
  obtain ⟨cr, hr, hr4⟩ := h.blkR
  have ha2 := far ha (by intros; simp)
  have hr2 := far hr (by intros; simp)
  have hcr : ∀ j, j < 4 → (wr.setChan (f k).2 1 (bufOf b) false s r false).cell? ⟨AR, j, none⟩ = some (.bool (rg j)) := fun j hj => (World.cell?_of_block (hr2.trans hr.symm)).trans (h.ar j hj)
  have hcf : ∀ j, (wr.setChan (f k).2 1 (bufOf b) false s r false).frozen? ⟨AR, j, none⟩ = false := fun j => (World.frozen?_of_block (hr2.trans hr.symm)).trans (h.free.2 j)
  have hsame := heap_setChan wr (f k).2 1 (bufOf b) false s r false hclt
  have hbel := below_setChan h.bel hck 1 (bufOf b) false s r false
  have hcA : ∀ j, j < 4 → (wr.setChan (f k).2 1 (bufOf b) false s r false).cell? ⟨AB, j, none⟩ = some (.pointer (some ⟨(f j).1, 0, none⟩)) := fun j hj => (World.cell?_of_block (ha2.trans ha.symm)).trans (h.ab j hj)
  have hbc : ∀ j, j < 4 → (wr.setChan (f k).2 1 (bufOf b) false s r false).heap[(f j).1]? = some (.cells #[.chan (some (f j).2)] 73 (0, 0)) := fun j hj => far (h.bc j hj) (by intros; simp)
  have hcc : ∀ j, j < 4 → j ≠ k → (wr.setChan (f k).2 1 (bufOf b) false s r false).heap[(f j).2]? = wr.heap[(f j).2]? := fun j hj hne => setChan_far (fun e => hne (h.inj j hj k hk e))
  refine ⟨?_, hcr, hcf⟩
  generalize (wr.setChan (f k).2 1 (bufOf b) false s r false) = W at *
  refine ⟨hbel.setCell h.hR _, h.hA, h.hR, ⟨ca, by rw [Below.heap_setCell _ _ _ _ h.ne]; exact ha2, ha4⟩, ⟨_, heap_setCell_same W AR k cr 69 _ hr2, by simpa using hr4⟩, fun j hj => ?_, fun j hj => ?_, fun j hj => ?_, fun j hj => ?_, h.inj⟩
  · rw [World.cell?_setCell_other _ _ _ _ (by intro e; exact h.ne (congrArg Addr.block e).symm)]
    exact hcA j hj
  · by_cases e : j = k
    · subst e
      simp only [if_true]
      exact World.cell?_setCell_same' _ _ _ (by rw [hcr j hj]; rfl)
    · simp only [e, if_false]
      rw [World.cell?_setCell_other _ _ _ _ (by simp <;> omega)]
      exact hcr j hj
  · have h3 := hbc j hj
    rw [Below.heap_setCell _ _ _ _ (show (f j).1 ≠ AR by rintro e2; rw [e2, hr2] at h3; simp at h3)]
    exact h3
  · obtain ⟨h3, s1, r1, h4⟩ := h.ch j hj
    by_cases e : j = k
    · subst e
      refine ⟨h3, s, r, ?_⟩
      simp only [if_true]
      rw [Below.heap_setCell _ _ _ _ (show (f j).2 ≠ AR by rintro e2; rw [e2, hr2] at hsame; simp at hsame)]
      exact hsame
    · refine ⟨h3, s1, r1, ?_⟩
      simp only [e, if_false]
      have h5 := (hcc j hj e).trans h4
      rw [Below.heap_setCell _ _ _ _ (show (f j).2 ≠ AR by rintro e2; rw [e2, hr2] at h5; simp at h5)]
      exact h5
end Go.Proofs.Ytjnlfibcpkobaaa
