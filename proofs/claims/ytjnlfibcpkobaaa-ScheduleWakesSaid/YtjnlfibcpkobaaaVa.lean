/- A state's variable beside rows that grow: what lies apart stays. -/
import Derived.Test.YtjnlfibcpkobaaaAq
import Derived.Test.YtjnlfibcpkobaaaPd
import Derived.Test.YtjnlfibcpkobaaaLp
namespace Go.Proofs.Ytjnlfibcpkobaaa
open Go.RowKit Go.Sl Go.Sched

theorem TyI.grown {A : Nat → Prop} {w w' : World} {u : Value} {xs : List Int} {row : Option Nat} (h : TyI A w u xs) (hg : w.grownBy w' row) (hr : ∀ g, row = some g → ¬ A g) : TyI A w' u xs := by
  have key : ∀ ad k c, u = .slice (some ad) k c → w'.heap[ad.block]? = w.heap[ad.block]? := by
    intro ad k c he
    obtain ⟨_, cur, hc⟩ := h.2 ad k c he
    exact hg.block _ (Array.getElem?_eq_some_iff.1 hc).1 (fun e => hr _ e.symm (h.3 ad k c he))
  refine ⟨⟨h.1.1, ?_⟩, fun ad k c he => ?_, h.3⟩
  · rcases h.1.2 with hn | ⟨h0, b, o, c, rfl, hc⟩
    · exact Or.inl hn
    · refine Or.inr ⟨h0, b, o, c, rfl, fun i y hi => ?_⟩
      have : w'.cell? ⟨b, o + i, none⟩ = w.cell? ⟨b, o + i, none⟩ := World.cell?_of_block (key ⟨b, o, none⟩ _ _ rfl)
      rw [this]
      exact hc i y hi
  · obtain ⟨hnc, cur, hc⟩ := h.2 ad k c he
    exact ⟨hnc, cur, by rw [key ad k c he]; exact hc⟩
theorem StT.grown {A : Nat → Prop} {w w' : World} {a b : Value} {q : List Value} {s : St} (h : StT A w a b q s) {v : Value} {B n : Nat} {cs : List Value} (ho : w.ownsRow B 3 1 v n cs) (hg : w.grownBy w' v.ownBlock) (hr : ∀ g, v.ownBlock = some g → ¬ A g) : StT A w' a b q s := by
  have key : ∀ ad k c, a = .slice (some ad) k c → w'.heap[ad.block]? = w.heap[ad.block]? := by
    intro ad k c he
    obtain ⟨cur, hc⟩ := h.ws ad k c he
    exact hg.block _ (Array.getElem?_eq_some_iff.1 hc).1 (fun e => owns_apart ho hc (by decide) e.symm)
  have hi := h.inj.grown hg hr
  have hq : ∀ i, i < s.ws.length → TyI A w' (q.getD i undef) (s.ws.getD i wk0).q := fun i hi => (h.qu i hi).grown hg hr
  refine ⟨⟨⟨h.st.ws.1, h.st.ws.2.1, ?_⟩, hi.1, fun i h2 => (hq i h2).1⟩, fun ad k c he => ?_, hi, hq⟩
  · rcases h.st.ws.2.2 with hn | ⟨h0, b, o, c, rfl, hc⟩
    · exact Or.inl hn
    · refine Or.inr ⟨h0, b, o, c, rfl, fun i y hi => ?_⟩
      have : w'.cell? ⟨b, o + i, none⟩ = w.cell? ⟨b, o + i, none⟩ := World.cell?_of_block (key ⟨b, o, none⟩ _ _ rfl)
      rw [this]
      exact hc i y hi
  · obtain ⟨cur, hc⟩ := h.ws ad k c he
    exact ⟨cur, by rw [key ad k c he]; exact hc⟩

/-- Not a block of the three rows. -/
def Ap (v1 v2 v3 : Value) (g : Nat) : Prop := v1.ownBlock ≠ some g ∧ v2.ownBlock ≠ some g ∧ v3.ownBlock ≠ some g
theorem Ap.none (g : Nat) : Ap (.slice none 0 0) (.slice none 0 0) (.slice none 0 0) g := ⟨fun e => (by cases e), fun e => (by cases e), fun e => (by cases e)⟩
theorem Ap.fresh {B : Nat} {w : World} {v1 v2 v3 : Value} {l1 l2 l3 : List Int} (h : Rows3 B w v1 v2 v3 l1 l2 l3) {g : Nat} (hg : w.heap.size ≤ g) : Ap v1 v2 v3 g :=
  ⟨fun e => by have := ob_lt h.o1 e; omega, fun e => by have := ob_lt h.o2 e; omega, fun e => by have := ob_lt h.o3 e; omega⟩

/-- A state that lies in two values and in the cells of block X; three rows; all apart. -/
structure Bd (w : World) (X : Nat) (x y a b : Value) (q : List Value) (s : St) (v1 v2 v3 : Value) (l1 l2 l3 : List Int) (wx : World) : Prop where
  st : StT (Ap v1 v2 v3) wx a b q s
  at_ : wx.heap[X]? = some (.cells #[x, y] 26 (0, 0))
  rows : Rows3 w.heap.size wx v1 v2 v3 l1 l2 l3
  bel : Below w.heap.size w wx
  hX : w.heap.size ≤ X
theorem Bd.then {w : World} {X : Nat} {x y a b : Value} {q : List Value} {s : St} {v1 v2 v3 : Value} {l1 l2 l3 : List Int} {wx wy : World} (h : Bd w X x y a b q s v1 v2 v3 l1 l2 l3 wx) (hb : Below wx.heap.size wx wy) : Bd w X x y a b q s v1 v2 v3 l1 l2 l3 wy :=
  ⟨h.st.below hb, by rw [hb.block _ (Array.getElem?_eq_some_iff.1 h.at_).1]; exact h.at_, h.rows.then hb, h.bel.then hb, h.hX⟩
theorem Rows3.put {B : Nat} {w : World} {v1 v2 v3 : Value} {l1 l2 l3 : List Int} (h : Rows3 B w v1 v2 v3 l1 l2 l3) {X : Nat} {cur : Array Value} {t : TypeId} (hX : w.heap[X]? = some (.cells cur t (0, 0))) (ht : t ≠ 3) (j : Nat) (u : Value) : Rows3 B (w.setCell ⟨X, j, none⟩ u) v1 v2 v3 l1 l2 l3 :=
  ⟨ownsRow_setCell_other h.o1 (owns_apart h.o1 hX ht) _, ownsRow_setCell_other h.o2 (owns_apart h.o2 hX ht) _, ownsRow_setCell_other h.o3 (owns_apart h.o3 hX ht) _, h.a12, h.a13, h.a23⟩
/-- The state's values are put into the cells. -/
theorem Bd.put {w : World} {X : Nat} {x y a b : Value} {q : List Value} {s : St} {v1 v2 v3 : Value} {l1 l2 l3 : List Int} {wx : World} (h : Bd w X x y a b q s v1 v2 v3 l1 l2 l3 wx) : Bd w X a b a b q s v1 v2 v3 l1 l2 l3 ((wx.setCell ⟨X, 0, none⟩ a).setCell ⟨X, 1, none⟩ b) := by
  obtain ⟨p1, p2⟩ := stT_put h.st h.at_
  have z1 := heap_setCell_same wx X 0 _ 26 a h.at_
  exact ⟨p1, p2, (h.rows.put h.at_ (by decide) 0 a).put z1 (by decide) 1 b, (h.bel.setCell (p := ⟨X, 0, none⟩) h.hX _).setCell (p := ⟨X, 1, none⟩) h.hX _, h.hX⟩
/-- The first row grows. -/
theorem Bd.grow {w : World} {X : Nat} {x y a b : Value} {q : List Value} {s : St} {v1 v2 v3 v' : Value} {l1 l2 l3 : List Int} {wx wy : World} (h : Bd w X x y a b q s v1 v2 v3 l1 l2 l3 wx) {t : Int}
    (ho : wy.ownsRow w.heap.size 3 1 v' (l1.length + 1) (l1.map (Value.int .i64) ++ [.int .i64 t])) (hg : wx.grownBy wy v1.ownBlock) (hv : v'.ownBlock = v1.ownBlock ∨ v'.ownBlock = some wx.heap.size) : Bd w X x y a b q s v' v2 v3 (l1 ++ [t]) l2 l3 wy := by
  have h2 := (h.st.imp (A' := fun g => Ap v1 v2 v3 g ∧ g < wx.heap.size) fun g hgl hA => ⟨hA, hgl⟩).grown h.rows.o1 hg fun g hg2 hA => hA.1.1 hg2
  refine ⟨h2.imp fun g _ hA => ⟨fun e => ?_, hA.1.2.1, hA.1.2.2⟩, ?_, h.rows.push1 ho hg hv, ?_, h.hX⟩
  · rcases hv with h5 | h5
    · exact hA.1.1 (h5.symm.trans e)
    · rw [h5] at e
      cases e
      exact absurd hA.2 (Nat.lt_irrefl _)
  · rw [hg.block _ (Array.getElem?_eq_some_iff.1 h.at_).1 (fun e => owns_apart h.rows.o1 h.at_ (by decide) e.symm)]
    exact h.at_
  · exact h.bel.grown hg h.bel.size (fun k hk => (World.ownsRow.lt h.rows.o1 k hk).1)
theorem Ap.swap {v1 v2 v3 : Value} {g : Nat} (h : Ap v1 v2 v3 g) : Ap v2 v1 v3 g := ⟨h.2.1, h.1, h.2.2⟩
theorem Ap.turn {v1 v2 v3 : Value} {g : Nat} (h : Ap v1 v2 v3 g) : Ap v3 v2 v1 g := ⟨h.2.2, h.2.1, h.1⟩
theorem Bd.swap {w : World} {X : Nat} {x y a b : Value} {q : List Value} {s : St} {v1 v2 v3 : Value} {l1 l2 l3 : List Int} {wx : World} (h : Bd w X x y a b q s v1 v2 v3 l1 l2 l3 wx) : Bd w X x y a b q s v2 v1 v3 l2 l1 l3 wx :=
  ⟨h.st.imp fun _ _ h => h.swap, h.at_, h.rows.swap, h.bel, h.hX⟩
theorem Bd.turn {w : World} {X : Nat} {x y a b : Value} {q : List Value} {s : St} {v1 v2 v3 : Value} {l1 l2 l3 : List Int} {wx : World} (h : Bd w X x y a b q s v1 v2 v3 l1 l2 l3 wx) : Bd w X x y a b q s v3 v2 v1 l3 l2 l1 wx :=
  ⟨h.st.imp fun _ _ h => h.turn, h.at_, h.rows.turn, h.bel, h.hX⟩
/-- Another state, of later blocks. -/
theorem Bd.other {w : World} {X : Nat} {x y a b a2 b2 : Value} {q q2 : List Value} {s s2 : St} {v1 v2 v3 : Value} {l1 l2 l3 : List Int} {wx wy : World} (h : Bd w X x y a b q s v1 v2 v3 l1 l2 l3 wx) (hb : Below wx.heap.size wx wy) (h2 : StT (wx.heap.size ≤ ·) wy a2 b2 q2 s2) : Bd w X x y a2 b2 q2 s2 v1 v2 v3 l1 l2 l3 wy :=
  ⟨h2.imp fun _ _ hg => Ap.fresh h.rows hg, (h.then hb).at_, h.rows.then hb, h.bel.then hb, h.hX⟩
/-- A block of two cells of no row stays while the first row grows. -/
theorem Bd.far {w : World} {X : Nat} {x y a b : Value} {q : List Value} {s : St} {v1 v2 v3 : Value} {l1 l2 l3 : List Int} {wx wy : World} (h : Bd w X x y a b q s v1 v2 v3 l1 l2 l3 wx) (hg : wx.grownBy wy v1.ownBlock) {P : Nat} {cur : Array Value} {t : TypeId} (hP : wx.heap[P]? = some (.cells cur t (0, 0))) (ht : t ≠ 3) : wy.heap[P]? = some (.cells cur t (0, 0)) :=
  (hg.block _ (Array.getElem?_eq_some_iff.1 hP).1 (fun e => owns_apart h.rows.o1 hP ht e.symm)).trans hP

/-- What the event of a step says of the state ahead of it. -/
def EvSays (s : St) (i : Nat) (e : Ev) : Prop :=
  e.worker = i ∧ ((e.kind ≠ 1 ∧ e.kind ≠ 2) ∨ ((e.kind = 1 ∨ e.kind = 2) ∧ (e.src = -1 ∨ ∃ j : Nat, e.src = j ∧ j < s.ws.length ∧ (s.ws.getD j wk0).q ≠ [] ∧ (e.kind = 1 → (s.ws.getD j wk0).q.getLastD 0 = e.task) ∧ (e.kind = 2 → (s.ws.getD j wk0).q.headD 0 = e.task))))
theorem step_says (s : St) (i : Nat) (hi : i < s.ws.length) (c : Int) : EvSays s i (stepS s i c).2 := by
  unfold stepS
  split
  · unfold sk
    split
    · rename_i h
      exact ⟨rfl, Or.inr ⟨Or.inl rfl, Or.inr ⟨i, rfl, hi, h, fun _ => rfl, fun e => by simp at e⟩⟩⟩
    split
    · exact ⟨rfl, Or.inr ⟨Or.inl rfl, Or.inl rfl⟩⟩
    split
    · exact ⟨rfl, Or.inl ⟨by simp, by simp⟩⟩
    split
    · rename_i h2 h
      obtain ⟨x, y, hx, hx1, hx2, hy, hy1, hy2, hv1, hv2, hvn⟩ := victim_bounds s.ws.length i c (by omega)
      exact ⟨rfl, Or.inr ⟨Or.inr rfl, Or.inr ⟨_, rfl, hvn, h, (fun e => by simp at e), fun _ => rfl⟩⟩⟩
    split
    · exact ⟨rfl, Or.inl ⟨by simp, by simp⟩⟩
    · exact ⟨rfl, Or.inl ⟨by simp, by simp⟩⟩
  split
  · unfold chk
    split
    · exact ⟨rfl, Or.inl ⟨by simp, by simp⟩⟩
    split
    · exact ⟨rfl, Or.inl ⟨by simp, by simp⟩⟩
    · exact ⟨rfl, Or.inl ⟨by simp, by simp⟩⟩
  split
  · exact ⟨rfl, Or.inl ⟨by simp, by simp⟩⟩
  · exact ⟨rfl, Or.inl ⟨by simp, by simp⟩⟩

/-- How many tasks lie outside and in the first j queues; how many of the first j workers sleep. -/
def leftN (s : St) (j : Nat) : Nat := (s.inj ++ (s.ws.take j).flatMap fun k => k.q).length
def aslN (s : St) (j : Nat) : Nat := ((s.ws.take j).filter fun k => k.ph == 2).length
theorem leftN_zero (s : St) : leftN s 0 = s.inj.length := by simp [leftN]
theorem aslN_zero (s : St) : aslN s 0 = 0 := by simp [aslN]
theorem leftN_succ (s : St) (j : Nat) (hj : j < s.ws.length) : leftN s (j + 1) = leftN s j + (s.ws.getD j wk0).q.length := by
  unfold leftN
  rw [List.take_succ_eq_append_getElem hj, List.flatMap_append]
  simp [List.getD, hj, Nat.add_assoc]
theorem aslN_succ (s : St) (j : Nat) (hj : j < s.ws.length) : aslN s (j + 1) = aslN s j + if (s.ws.getD j wk0).ph = 2 then 1 else 0 := by
  unfold aslN
  rw [List.take_succ_eq_append_getElem hj, List.filter_append, List.length_append]
  have : s.ws.getD j wk0 = s.ws[j] := by simp [List.getD, hj]
  rw [this]
  by_cases h : s.ws[j].ph = 2
  · simp [h, List.filter]
  · have h2 : (s.ws[j].ph == 2) = false := by simpa using h
    simp [h, h2, List.filter]
theorem leftN_all (s : St) : leftN s s.ws.length = (qT s).length := by simp [leftN, qT]
theorem leftN_le (s : St) (j : Nat) : leftN s j ≤ (qT s).length := by
  unfold leftN qT
  conv => rhs; rw [← List.take_append_drop j s.ws]
  simp only [List.flatMap_append, List.length_append]
  omega
theorem aslN_le (s : St) (j : Nat) : aslN s j ≤ j := Nat.le_trans (List.length_filter_le _ _) (by rw [List.length_take]; omega)
theorem aslN_all (s : St) (h : aslN s s.ws.length = s.ws.length) : ∀ u ∈ s.ws, u.ph = 2 := by
  unfold aslN at h
  rw [List.take_length] at h
  have := List.length_filter_eq_length_iff.1 h
  intro u hu
  simpa using this u hu
theorem qT_few {s : St} (h : Ok s) : (qT s).length ≤ 2000 := by
  have h1 := (tasks_perm s).length_eq
  have := h.few
  rw [List.length_append] at h1
  omega

theorem sort_own2 (v : Value) (xs : List Int) (base : Nat) (w : World) (h : w.ownsRow base 3 1 v xs.length (xs.map (Value.int .i64))) (hb : xs.length ≤ 1000000) :
    Calls Try.prog 14 #[v] w fun e w' => e = .returned (.tuple #[]) ∧ w'.ownsRow base 3 1 v xs.length ((sorted xs).map (Value.int .i64)) ∧ w.grownBy w' v.ownBlock := by
  rcases h.2 with ⟨rfl, h0⟩ | ⟨g, cap, cur, rfl, hg, hc, h1, h2, h3, h4⟩
  · have hx : xs = [] := List.eq_nil_of_length_eq_zero h0
    subst hx
    refine (Try.slices_Sort_int_none none 0 w).mono ?_
    rintro e w' ⟨rfl, rfl⟩
    exact ⟨rfl, by simpa [sorted] using h, World.grownBy.refl _ _⟩
  · rw [Nat.mul_one] at h4
    have hH := holds_of_blockI hc h4
    have hlt : g < w.heap.size := (Array.getElem?_eq_some_iff.1 hc).1
    refine (Try.slices_Sort_int g 0 cap xs w hH hlt (by omega)).mono ?_
    rintro e w' ⟨rfl, n, os, rfl⟩
    have hl : (xs.mergeSort fun x y => decide (x ≤ y)).length = xs.length := by simp
    exact ⟨rfl, ownsRow_sortedI hl hg hc h1 h2 h3, grownBy_sortedI _⟩
/-- Two rows apart, and an array that holds both. -/
structure Fin2 (w : World) (A : Nat) (v u : Value) (L M : List Int) (wx : World) : Prop where
  o1 : wx.ownsRow w.heap.size 3 1 v L.length (L.map (Value.int .i64))
  o2 : wx.ownsRow w.heap.size 3 1 u M.length (M.map (Value.int .i64))
  ap : ∀ b, v.ownBlock = some b → u.ownBlock ≠ some b
  arr : wx.heap[A]? = some (.cells #[v, u] 24 (0, 0))
  bel : Below w.heap.size w wx
theorem Fin2.then {w : World} {A : Nat} {v u : Value} {L M : List Int} {wx wy : World} (h : Fin2 w A v u L M wx) (hb : Below wx.heap.size wx wy) : Fin2 w A v u L M wy :=
  ⟨own_below h.o1 hb, own_below h.o2 hb, h.ap, by rw [hb.block _ (Array.getElem?_eq_some_iff.1 h.arr).1]; exact h.arr, h.bel.then hb⟩
theorem Fin2.sort1 {w : World} {A : Nat} {v u : Value} {L M : List Int} {wx wy : World} (h : Fin2 w A v u L M wx) (ho : wy.ownsRow w.heap.size 3 1 v L.length ((sorted L).map (Value.int .i64))) (hg : wx.grownBy wy v.ownBlock) : Fin2 w A v u (sorted L) M wy :=
  ⟨by rw [sorted_length]; exact ho, h.o2.kept hg (ob_cases _ _ fun b hb e => h.ap b e hb), h.ap, (hg.block _ (Array.getElem?_eq_some_iff.1 h.arr).1 (fun e => owns_apart h.o1 h.arr (by decide) e.symm)).trans h.arr, h.bel.grown hg h.bel.size (fun k hk => (World.ownsRow.lt h.o1 k hk).1)⟩
theorem Fin2.sort2 {w : World} {A : Nat} {v u : Value} {L M : List Int} {wx wy : World} (h : Fin2 w A v u L M wx) (ho : wy.ownsRow w.heap.size 3 1 u M.length ((sorted M).map (Value.int .i64))) (hg : wx.grownBy wy u.ownBlock) : Fin2 w A v u L (sorted M) wy :=
  ⟨h.o1.kept hg (ob_cases _ _ fun b hb e => h.ap b hb e), by rw [sorted_length]; exact ho, h.ap, (hg.block _ (Array.getElem?_eq_some_iff.1 h.arr).1 (fun e => owns_apart h.o2 h.arr (by decide) e.symm)).trans h.arr, h.bel.grown hg h.bel.size (fun k hk => (World.ownsRow.lt h.o2 k hk).1)⟩
theorem Fin2.cells {w : World} {A : Nat} {v u : Value} {L M : List Int} {wx : World} (h : Fin2 w A v u L M wx) : wx.cell? ⟨A, 0, none⟩ = some v ∧ wx.cell? ⟨A, 1, none⟩ = some u := by
  refine ⟨?_, ?_⟩
  · simp [World.cell?, h.arr]
  · simp [World.cell?, h.arr]
theorem compact_same {L : List Int} (h : L.Nodup) : (Lib.compact (sorted L)).length = L.length := by
  rw [(compact_len (sorted L) (sorted_pair L)).2 ((sorted_nodup L).2 h), sorted_length]
end Go.Proofs.Ytjnlfibcpkobaaa
