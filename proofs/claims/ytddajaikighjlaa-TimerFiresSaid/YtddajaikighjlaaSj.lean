/- Two wheels side by side; slices of uint16 that came in. -/
import Derived.Test.YtddajaikighjlaaSi
import Derived.Test.YtddajaikighjlaaSh
import Derived.Test.YtddajaikighjlaaOa
import Derived.Test.YtddajaikighjlaaAw
namespace Go.Proofs.Ytddajaikighjlaa
open Go.ChangeShapes Go.WideShapes Go.ChangeAt Go.RowKit Go.LawRow Go.Sl Go.Mp Go.Wh

/-- Two wheels, apart, behind the world w0. -/
structure Two (R1 R2 : Refs) (X1 X2 : Nat) (w0 : World) (W1 W2 : Wh) (w : World) : Prop where
  h1 : WhAt R1 w X1 W1
  h2 : WhAt R2 w X2 W2
  ap : ∀ k, Foot R1 X1 k → ¬ Foot R2 X2 k
  bel : Below w0.heap.size w0 w
  f1 : ∀ k, Foot R1 X1 k → w0.heap.size ≤ k
  f2 : ∀ k, Foot R2 X2 k → w0.heap.size ≤ k
theorem Two.below {R1 R2 : Refs} {X1 X2 : Nat} {w0 w w' : World} {W1 W2 : Wh} (h : Two R1 R2 X1 X2 w0 W1 W2 w) (hb : Below w.heap.size w w') : Two R1 R2 X1 X2 w0 W1 W2 w' :=
  ⟨h.h1.below hb, h.h2.below hb, h.ap, h.bel.then hb, h.f1, h.f2⟩
theorem Two.step1 {R1 R1' R2 : Refs} {X1 X2 : Nat} {w0 w w' : World} {W1 W1' W2 : Wh} (h : Two R1 R2 X1 X2 w0 W1 W2 w) (s : Step R1 R1' X1 w w') (hw : WhAt R1' w' X1 W1') : Two R1' R2 X1 X2 w0 W1' W2 w' :=
  ⟨hw, h.h2.same fun k hk => s.block k (h.h2.foot_lt hk) (fun h1 => h.ap k h1 hk), fun k hk h2 => by
    rcases s.foot k hk with h1 | h1
    · exact h.ap k h1 h2
    · have := h.h2.foot_lt h2; omega,
    h.bel.trans (s.below h.bel.size h.f1), fun k hk => by
    rcases s.foot k hk with h1 | h1
    · exact h.f1 k h1
    · exact Nat.le_trans h.bel.size h1, h.f2⟩
theorem Two.step2 {R1 R2 R2' : Refs} {X1 X2 : Nat} {w0 w w' : World} {W1 W2 W2' : Wh} (h : Two R1 R2 X1 X2 w0 W1 W2 w) (s : Step R2 R2' X2 w w') (hw : WhAt R2' w' X2 W2') : Two R1 R2' X1 X2 w0 W1 W2' w' :=
  ⟨h.h1.same fun k hk => s.block k (h.h1.foot_lt hk) (fun h2 => h.ap k hk h2), hw, fun k hk h2 => by
    rcases s.foot k h2 with h3 | h3
    · exact h.ap k hk h3
    · have := h.h1.foot_lt hk; omega,
    h.bel.trans (s.below h.bel.size h.f2), h.f1, fun k hk => by
    rcases s.foot k hk with h1 | h1
    · exact h.f2 k h1
    · exact Nat.le_trans h.bel.size h1⟩
/-- A row of one's own stays while wheels turn. -/
theorem own_step {R R' : Refs} {X : Nat} {W : Wh} {w w' : World} (h : WhAt R w X W) (s : Step R R' X w w') {base sz n : Nat} {e : TypeId} {v : Value} {xs : List Value} (ho : w.ownsRow base e sz v n xs) (he : e ≠ 142) : w'.ownsRow base e sz v n xs :=
  own_same ho fun g hg => by
    obtain ⟨cs, hc, -⟩ := own_cells ho hg
    refine s.block g (ho.lt g hg).2 (h.apart hc ?_)
    rintro rfl
    obtain ⟨cs2, h2, -⟩ := h.blk
    rw [hc] at h2
    simp only [Option.some.injEq, Obj.cells.injEq] at h2
    exact he h2.2.1
theorem Two.grown {R1 R2 : Refs} {X1 X2 : Nat} {w0 w w' : World} {W1 W2 : Wh} (h : Two R1 R2 X1 X2 w0 W1 W2 w) {base sz n : Nat} {e : TypeId} {v : Value} {xs : List Value} (ho : w.ownsRow base e sz v n xs) (hB : w0.heap.size ≤ base) (he : e ≠ 142) (hg : w.grownBy w' v.ownBlock) : Two R1 R2 X1 X2 w0 W1 W2 w' := by
  have key : ∀ (R : Refs) (X : Nat) (W : Wh), WhAt R w X W → ∀ k, Foot R X k → w'.heap[k]? = w.heap[k]? := fun R X W hw k hk => hg.block k (hw.foot_lt hk) fun e2 => by
    obtain ⟨cs, hc, -⟩ := own_cells ho e2.symm
    by_cases hX : k = X
    · subst hX
      obtain ⟨cs2, h2, -⟩ := hw.blk
      rw [hc] at h2
      simp only [Option.some.injEq, Obj.cells.injEq] at h2
      exact he h2.2.1
    · exact hw.apart hc hX hk
  exact ⟨h.h1.same (key _ _ _ h.h1), h.h2.same (key _ _ _ h.h2), h.ap, h.bel.grown hg h.bel.size (fun k hk => Nat.le_trans hB (ho.lt k hk).1), h.f1, h.f2⟩
set_option maxRecDepth 100000 in
theorem open_u16s {H : Type} {enc : TypeId × Value → H} {W : World} {base : Nat} {v : Value} {d : DataW H} {p : List MemPlace} (hv : Value.okWide Try.prog W .any base 118 v) (h : DataW.Trod enc Try.prog W 0 (fun _ => true) true 118 v d p) : ∃ l : List Int, SlV W v l.length 1 (l.map (Value.int .u16)) ∧ ∀ x ∈ l, 0 ≤ x ∧ x ≤ 65535 := by
  obtain ⟨a, n, c, rfl⟩ := slice_of_ok Try.underlying118 hv
  obtain ⟨fuel, hf⟩ := h
  rcases open_ints Try.underlying118 Try.underlying120 (by kernel_rfl) hf with ⟨hcs, -⟩ | ⟨ad, len, cap, zs, hcs, -, hlc, hcm, hzl, -, hcell, hwf⟩
  · simp [Value.cells] at hcs
    obtain ⟨rfl, rfl, rfl⟩ := hcs
    exact ⟨[], Go.Sl.SlV.nil W 1, by simp⟩
  · simp [Value.cells] at hcs
    obtain ⟨rfl, rfl, rfl⟩ := hcs
    simp only [if_true] at hzl
    have key : SlV W (.slice (some ad) n c) (zs.take n).length 1 ((zs.take n).map (Value.int .u16)) := by
      refine ⟨by simp, ?_⟩
      have hlen : (zs.take n).length = n := by simp; omega
      rw [hlen]
      by_cases h0 : n = 0
      · subst h0
        exact Or.inl ⟨rfl, Or.inr ⟨_, _, rfl⟩⟩
      · obtain ⟨b, off, rfl, hc⟩ := ints_at hcell (by omega)
        refine Or.inr ⟨by omega, b, off, c, rfl, fun j u hu => ?_⟩
        have hlt := (List.getElem?_eq_some_iff.1 hu).1
        simp only [List.length_map, hlen] at hlt
        rw [hc j (by omega)]
        rw [List.getElem?_map, List.getElem?_take_of_lt hlt, List.getElem?_eq_getElem (by omega)] at hu
        simp at hu
        simp [List.getD, show j < zs.length by omega, hu]
    exact ⟨zs.take n, key, fun x hx => bounds_u16 (hwf x (List.mem_of_mem_take hx))⟩
end Go.Proofs.Ytddajaikighjlaa
