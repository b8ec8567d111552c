/- TimerFires' state: two wheels, the row of what is wanted, the row of what fired. -/
import Derived.Test.YtddajaikighjlaaSj
namespace Go.Proofs.Ytddajaikighjlaa
open Go.RowKit Go.Sl Go.Mp Go.Wh

structure FS (w0 : World) (X1 X2 : Nat) (P1 P2 : Wh → Prop) (S : List (Int × Int)) (v : Value) (G : List (Int × Int)) (vg : Value) (w : World) : Prop where
  ex : ∃ R1 R2 W1 W2, Two R1 R2 X1 X2 w0 W1 W2 w ∧ P1 W1 ∧ P2 W2
  row : w.ownsRow w0.heap.size 122 2 v S.length (S.flatMap encF)
  got : w.ownsRow w0.heap.size 33 2 vg G.length (G.flatMap encF)
theorem own_below {w w' : World} {base sz n : Nat} {e : TypeId} {v : Value} {xs : List Value} (ho : w.ownsRow base e sz v n xs) (hb : Below w.heap.size w w') : w'.ownsRow base e sz v n xs :=
  own_same ho fun g hg => hb.block g (ho.lt g hg).2
theorem own_grown {w w' : World} {base sz n base2 sz2 n2 : Nat} {e e2 : TypeId} {v v2 : Value} {xs xs2 : List Value} (ho : w.ownsRow base e sz v n xs) (h2 : w.ownsRow base2 e2 sz2 v2 n2 xs2) (he : e ≠ e2) (hg : w.grownBy w' v2.ownBlock) : w'.ownsRow base e sz v n xs :=
  own_same ho fun g hv => hg.block g (ho.lt g hv).2 fun e3 => by
    obtain ⟨cs, hc, -⟩ := own_cells ho hv
    obtain ⟨cs2, hc2, -⟩ := own_cells h2 e3.symm
    rw [hc] at hc2
    simp only [Option.some.injEq, Obj.cells.injEq] at hc2
    exact he hc2.2.1
theorem own_alloc {w : World} {base sz n : Nat} {e : TypeId} {v : Value} {xs : List Value} (ho : w.ownsRow base e sz v n xs) (o : Obj) : (w.alloc o).ownsRow base e sz v n xs :=
  own_below ho ((Below.refl _ _).alloc (Nat.le_refl _) o)
/-- Blocks that are no wheel's stay. -/
def Keeps (w w' : World) : Prop := ∀ (g : Nat) (cs : Array Value) (e : TypeId) (f : Nat × Nat), w.heap[g]? = some (Obj.cells cs e f) → e ≠ 142 → w'.heap[g]? = some (.cells cs e f)
theorem keeps_step {R R' : Refs} {X : Nat} {W : Wh} {w w' : World} (h : WhAt R w X W) (s : Step R R' X w w') : Keeps w w' := fun g cs e f hc he =>
  (s.block g (Array.getElem?_eq_some_iff.1 hc).1 (h.apart hc (by
    rintro rfl
    obtain ⟨cs2, h2, -⟩ := h.blk
    rw [hc] at h2
    simp only [Option.some.injEq, Obj.cells.injEq] at h2
    exact he h2.2.1))).trans hc
theorem keeps_below {w w' : World} (hb : Below w.heap.size w w') : Keeps w w' := fun _ _ _ _ hc _ => (hb.block _ (Array.getElem?_eq_some_iff.1 hc).1).trans hc
section
variable {w0 : World} {X1 X2 : Nat} {P1 P2 Q1 : Wh → Prop} {S : List (Int × Int)} {v : Value} {G : List (Int × Int)} {vg : Value} {w w' : World}
theorem FS.bel (h : FS w0 X1 X2 P1 P2 S v G vg w) : Below w0.heap.size w0 w := by
  obtain ⟨_, _, _, _, t, _, _⟩ := h.ex
  exact t.bel
theorem FS.lt1 (h : FS w0 X1 X2 P1 P2 S v G vg w) : X1 < w.heap.size := by
  obtain ⟨_, _, _, _, t, _, _⟩ := h.ex
  exact t.h1.foot_lt (Or.inl rfl)
theorem FS.below (h : FS w0 X1 X2 P1 P2 S v G vg w) (hb : Below w.heap.size w w') : FS w0 X1 X2 P1 P2 S v G vg w' := by
  obtain ⟨R1, R2, W1, W2, t, p1, p2⟩ := h.ex
  exact ⟨⟨R1, R2, W1, W2, t.below hb, p1, p2⟩, own_below h.row hb, own_below h.got hb⟩
theorem FS.alloc (h : FS w0 X1 X2 P1 P2 S v G vg w) (o : Obj) : FS w0 X1 X2 P1 P2 S v G vg (w.alloc o) :=
  h.below ((Below.refl _ _).alloc (Nat.le_refl _) o)
theorem FS.put (h : FS w0 X1 X2 P1 P2 S v G vg w) {S' : List (Int × Int)} {v' : Value} (hr : w'.ownsRow w0.heap.size 122 2 v' S'.length (S'.flatMap encF)) (hg : w.grownBy w' v.ownBlock) : FS w0 X1 X2 P1 P2 S' v' G vg w' := by
  obtain ⟨R1, R2, W1, W2, t, p1, p2⟩ := h.ex
  exact ⟨⟨R1, R2, W1, W2, t.grown h.row (Nat.le_refl _) (by decide) hg, p1, p2⟩, hr, own_grown h.got h.row (by decide) hg⟩
theorem FS.putG (h : FS w0 X1 X2 P1 P2 S v G vg w) {G' : List (Int × Int)} {vg' : Value} (hr : w'.ownsRow w0.heap.size 33 2 vg' G'.length (G'.flatMap encF)) (hg : w.grownBy w' vg.ownBlock) : FS w0 X1 X2 P1 P2 S v G' vg' w' := by
  obtain ⟨R1, R2, W1, W2, t, p1, p2⟩ := h.ex
  exact ⟨⟨R1, R2, W1, W2, t.grown h.got (Nat.le_refl _) (by decide) hg, p1, p2⟩, own_grown h.row h.got (by decide) hg, hr⟩
theorem FS.imp (h : FS w0 X1 X2 P1 P2 S v G vg w) {Q1 Q2 : Wh → Prop} (h1 : ∀ W, P1 W → Q1 W) (h2 : ∀ W, P2 W → Q2 W) : FS w0 X1 X2 Q1 Q2 S v G vg w := by
  obtain ⟨R1, R2, W1, W2, t, p1, p2⟩ := h.ex
  exact ⟨⟨R1, R2, W1, W2, t, h1 _ p1, h2 _ p2⟩, h.row, h.got⟩
theorem FS.call1 (h : FS w0 X1 X2 P1 P2 S v G vg w) {f : FuncId} {args : Array Value} {Q : Ending → World → Prop}
    (hc : ∀ R W, WhAt R w X1 W → P1 W → Calls Try.prog f args w fun e w' => Q e w' ∧ ∃ R' W', Q1 W' ∧ WhAt R' w' X1 W' ∧ Step R R' X1 w w') :
    Calls Try.prog f args w fun e w' => Q e w' ∧ FS w0 X1 X2 Q1 P2 S v G vg w' ∧ Keeps w w' := by
  obtain ⟨R1, R2, W1, W2, t, p1, p2⟩ := h.ex
  refine (hc R1 W1 t.h1 p1).mono ?_
  rintro e w1 ⟨q, R', W', q1, hw, s⟩
  exact ⟨q, ⟨⟨R', R2, W', W2, t.step1 s hw, q1, p2⟩, own_step t.h1 s h.row (by decide), own_step t.h1 s h.got (by decide)⟩, keeps_step t.h1 s⟩
theorem FS.call2 (h : FS w0 X1 X2 P1 P2 S v G vg w) {f : FuncId} {args : Array Value} {Q : Ending → World → Prop}
    (hc : ∀ R W, WhAt R w X2 W → P2 W → Calls Try.prog f args w fun e w' => Q e w' ∧ ∃ R' W', Q1 W' ∧ WhAt R' w' X2 W' ∧ Step R R' X2 w w') :
    Calls Try.prog f args w fun e w' => Q e w' ∧ FS w0 X1 X2 P1 Q1 S v G vg w' ∧ Keeps w w' := by
  obtain ⟨R1, R2, W1, W2, t, p1, p2⟩ := h.ex
  refine (hc R2 W2 t.h2 p2).mono ?_
  rintro e w1 ⟨q, R', W', q1, hw, s⟩
  exact ⟨q, ⟨⟨R1, R', W1, W', t.step2 s hw, p1, q1⟩, own_step t.h2 s h.row (by decide), own_step t.h2 s h.got (by decide)⟩, keeps_step t.h2 s⟩
end
/-- So many were set. -/
def WO (l : List (Int × Int)) (W : Wh) : Prop := Wants W l ∧ W.ord = (l.length : Int)
theorem set_w {R : Refs} {W : Wh} {w : World} {X : Nat} {l : List (Int × Int)} (hw : WhAt R w X W) (h : WO l W) (hid : ∀ s ∈ l, s.1 < (l.length : Int)) (hl : l.length < 1000) (a : Int) (ha : 6 ≤ a ∧ a ≤ 1099511627776) :
    Calls Try.prog 12 #[.pointer (some ⟨X, 0, none⟩), .int .i64 (l.length : Int), .int .i64 a, .int .i64 0] w fun e w' => e = .returned (.int .i64 0) ∧ ∃ R' W', WO (l ++ [((l.length : Int), a)]) W' ∧ WhAt R' w' X W' ∧ Step R R' X w w' := by
  obtain ⟨e1, e2, e3⟩ := wants_set h.1 h.2 hid hl a ha
  refine (set_calls R X W (l.length : Int) a 0 w hw (by rw [h.1.1]; decide) (by rw [h.2]; omega)).mono ?_
  rintro e w1 ⟨rfl, R', h1, h2⟩
  exact ⟨by rw [e1], R', _, ⟨e2, by rw [e3, List.length_append]; rfl⟩, h1, h2⟩
theorem cancel_w {R : Refs} {W : Wh} {w : World} {X : Nat} {l : List (Int × Int)} (hw : WhAt R w X W) (h : Wants W l) (id : Int) :
    Calls Try.prog 18 #[.pointer (some ⟨X, 0, none⟩), .int .i64 id] w fun e w' => e = .returned (.bool (l.any fun s => s.1 == id)) ∧ ∃ R' W', Wants W' (l.filter fun s => !(s.1 == id)) ∧ WhAt R' w' X W' ∧ Step R R' X w w' := by
  obtain ⟨e1, e2⟩ := wants_cancel h id
  obtain ⟨L, hc, -⟩ := h.2
  obtain ⟨pk, ps, hpk, hps, hpl⟩ := hc.ok.inv.place id
  refine (cancel_calls R X W id w hw pk ps hpk hps hpl).mono ?_
  rintro e w1 ⟨rfl, h1, h2⟩
  exact ⟨by rw [e1], R, _, e2, h1, h2⟩
/-- A wheel at a time, with this list. -/
def CN (l : List (Int × Int)) (t : Int) (W : Wh) : Prop := W.now = t ∧ Cpl W (l.map mkR)
theorem adv_w {R : Refs} {W : Wh} {w : World} {X : Nat} {l : List (Int × Int)} {t : Int} (hw : WhAt R w X W) (h : CN l t W) (hS : l.Pairwise (fun x y => x.2 ≤ y.2)) (hl : l.length ≤ 5000) (u : Int) (h0 : 0 ≤ u ∧ u ≤ 1099511627776) (h1 : t ≤ u ∧ u ≤ t + 1000000) :
    Calls Try.prog 13 #[.pointer (some ⟨X, 0, none⟩), .int .i64 u] w fun e w' => (∃ v, e = .returned (.tuple #[v, .int .i64 0]) ∧ w'.ownsRow w.heap.size 33 2 v (l.takeWhile (upTo u)).length ((l.takeWhile (upTo u)).flatMap encF)) ∧ ∃ R' W', CN (l.dropWhile (upTo u)) u W' ∧ WhAt R' w' X W' ∧ Step R R' X w w' := by
  obtain ⟨hn, hc⟩ := h
  have hr := radv_zero hS hl t u h0 h1
  obtain ⟨a1, a2, a3, a4⟩ := adv_cpl hc u
  rw [hn, hr] at a1 a2 a3
  simp only at a1 a2 a3
  refine (advance_calls R X W u w hw hc.ok.inv hc.ok.len).mono ?_
  rintro e w1 ⟨v, R', rfl, b1, b2, b3⟩
  rw [a1] at b3
  exact ⟨⟨v, by rw [a1], b3⟩, R', _, ⟨a3, a2⟩, b1, b2⟩
theorem FS.timers {w0 : World} {X1 X2 : Nat} {P2 : Wh → Prop} {S : List (Int × Int)} {v : Value} {G : List (Int × Int)} {vg : Value} {w : World} {l : List (Int × Int)} {t : Int} (h : FS w0 X1 X2 (CN l t) P2 S v G vg w) :
    Calls Try.prog 45 #[.pointer (some ⟨X1, 0, none⟩)] w fun e w' => ∃ u, e = .returned u ∧ w'.ownsRow w.heap.size 129 4 u l.length ((l.map fun s => (mkR s).t).flatMap encT) ∧ Below w.heap.size w w' := by
  obtain ⟨R1, R2, W1, W2, t, ⟨p1, p3⟩, p2⟩ := h.ex
  refine (timers_calls R1 X1 W1 w t.h1 p3.ok.inv p3.ok.len).mono ?_
  rintro e w1 ⟨u, rfl, h1, h2⟩
  rw [p3.timers, p3.len, List.length_map, List.map_map] at h1
  exact ⟨u, rfl, h1, h2⟩
theorem slot_zero {when : Int} (h : 0 ≤ when) : (slotOf 0 when : Int) = Int.tmod when 64 := by
  unfold slotOf
  rw [show pw 0 = 1 from rfl, Int.ediv_one, Int.tmod_eq_emod_of_nonneg h]
  omega
theorem FS.slot {w0 : World} {X1 X2 : Nat} {P2 : Wh → Prop} {S : List (Int × Int)} {v : Value} {G : List (Int × Int)} {vg : Value} {w : World} {l : List (Int × Int)} {t : Int} (h : FS w0 X1 X2 (CN l t) P2 S v G vg w) {s : Int × Int} (hs : s ∈ l) (h0 : 0 ≤ s.2) :
    Calls Try.prog 22 #[.pointer (some ⟨X1, 0, none⟩), .int .i64 s.1] w fun e w' => (∃ k q : Int, e = .returned (.tuple #[.int .i64 k, .int .i64 q, .int .i64 0]) ∧ (0 ≤ k ∧ k ≤ 6) ∧ (0 ≤ q ∧ q ≤ 63) ∧ (k = 0 → q = Int.tmod s.2 64)) ∧ Below w.heap.size w w' := by
  obtain ⟨R1, R2, W1, W2, t, ⟨p1, p3⟩, p2⟩ := h.ex
  refine (slot_calls R1 X1 W1 s.1 w t.h1).mono ?_
  rintro e w1 ⟨rfl, hb⟩
  refine ⟨?_, hb⟩
  obtain ⟨k, hk, hpl, -⟩ := p3.full _ (p3.tm (List.mem_map.2 ⟨s, hs, rfl⟩))
  have hs2 : (slotS W1 s.1) = ((k : Int), (slotOf k s.2 : Int), 0) := by
    unfold slotS
    rw [get_of p3.ok.inv.pkeys (show (s.1, ((k : Int), (slotOf k s.2 : Int))) ∈ W1.pl from hpl.1)]
    rfl
  rw [hs2]
  refine ⟨(k : Int), (slotOf k s.2 : Int), rfl, by omega, ?_, fun hk0 => ?_⟩
  · have := slot_lt k s.2
    omega
  · obtain rfl : k = 0 := by omega
    exact slot_zero h0
/-- What is wanted when these were set. -/
def wantL (l : List Int) : List (Int × Int) := l.zipIdx.map fun p => ((p.2 : Int), 6 + p.1)
theorem wantL_len (l : List Int) : (wantL l).length = l.length := by simp [wantL]
theorem wantL_take {l : List Int} {k : Nat} {x : Int} (h : l[k]? = some x) : wantL (l.take (k + 1)) = wantL (l.take k) ++ [((k : Int), 6 + x)] := by
  have hk := (List.getElem?_eq_some_iff.1 h).1
  unfold wantL
  rw [List.take_add_one, h, List.zipIdx_append, List.map_append]
  simp [List.length_take, Nat.min_eq_left (Nat.le_of_lt hk)]
theorem wantL_mem {l : List Int} (hl : ∀ x ∈ l, 0 ≤ x ∧ x ≤ 65535) : ∀ s ∈ wantL l, (0 ≤ s.1 ∧ s.1 < (l.length : Int)) ∧ 6 ≤ s.2 ∧ s.2 ≤ 65541 := by
  intro s hs
  obtain ⟨⟨x, i⟩, hp, rfl⟩ := List.mem_map.1 hs
  have h1 := List.mem_zipIdx hp
  have hi : i < l.length := by omega
  have hx : x ∈ l := by
    have := h1.2.2
    rw [this]
    exact List.getElem_mem _
  have := hl x hx
  simp only
  omega
theorem wantL_ids (l : List Int) : (wantL l).Pairwise fun x y => x.1 < y.1 := by
  unfold wantL
  rw [List.pairwise_map]
  have h := List.pairwise_lt_range (n := l.length)
  have e : l.zipIdx.map Prod.snd = List.range l.length := by simp [List.zipIdx_map_snd, List.range_eq_range']
  rw [← e, List.pairwise_map] at h
  exact h.imp fun {a b} hab => by omega
end Go.Proofs.Ytddajaikighjlaa
