/- A loop over an iterator that first collects, then yields: the caller's side. The body may write maps, old and new. No program. -/
import Derived.RangeFuncBox
import Derived.RangeFuncCalls
import Derived.Test.YtddajaikighjlaaWs
namespace Go.Mp
open Go.RowKit

variable {F : Fence} {n : Nat} {P : Program}

/-- What an iterator gives that collects xs in memory of its own (blocks from the size at its start to n1), then yields each. -/
def Gives {α : Type} (F : Fence) (n : Nat) (P : Program) (g : Nat) (lb : Array Value) (enc : α → Array Value) (xs : List α) (w : World) : Prop :=
  ∀ (l : Nat) (J : Nat → List α → World → Prop) (W : World), Below w.heap.size w W →
    (∀ W2, Below W.heap.size W W2 → J W2.heap.size [] W2) →
    (∀ n1 pre W2 o, J n1 pre W2 → J n1 pre (W2.alloc o)) →
    (∀ n1 pre x W2, W.heap.size ≤ n1 → J n1 pre W2 → (pre ++ [x]) <+: xs → YieldAt F (n - 1) P l (enc x) W2 fun e W3 =>
      e = .returned (.bool true) ∧ J n1 (pre ++ [x]) W3 ∧ ∀ k, W.heap.size ≤ k → k < n1 → W3.heap[k]? = W2.heap[k]?) →
    CallsIn F n P g (#[.func (.yield l) #[] #[]] ++ lb) W fun e W' => (∃ v, e = .returned v) ∧ ∃ n1, W.heap.size ≤ n1 ∧ J n1 xs W'

theorem putObj_below {w W : World} {l : Nat} (o : Obj) (h : Below w.heap.size w W) (hl : w.heap.size ≤ l) : Below w.heap.size w (W.putObj l o) :=
  h.trans ((Below.refl w.heap.size W).grown (grownBy_putObj' W l o) h.size fun k e => by cases e; exact hl)

/-- The loop: J n1 pre: pre has gone; the blocks from w's size to n1 are not the body's. -/
theorem range_gives {α : Type} {g : Operand} {ps : Array Tmp} {assign body : Code} {Q : Exit → Act → World → Prop} {a : Act} {w : World}
    (hro : F.round = none) (h1 : 1 ≤ n) {gf : Nat} {lb : Array Value} (hg : a.eval g = .func (.func gf) #[] lb) (hFg : F.fn gf) (eg : ∀ args w, (callFunc gf args).run P w = .ok (.enter gf args) w)
    {enc : α → Array Value} {xs : List α} (hseq : Gives F (n - 1) P gf lb enc xs w) (hps : ∀ x, (enc x).size = ps.size)
    (J : Nat → List α → World → Prop) (h0 : ∀ W2, Below w.heap.size w W2 → w.heap.size ≤ W2.heap.size → J W2.heap.size [] W2)
    (hJa : ∀ n1 pre W o, J n1 pre W → J n1 pre (W.alloc o))
    (hJ : ∀ n1 pre W l o, J n1 pre W → w.heap.size ≤ l → l < n1 → J n1 pre (W.putObj l o))
    (Ax : Nat → α → Act → World → Prop) (hAx : ∀ n1 x a' W l o, Ax n1 x a' W → (∃ r, W.heap[l]? = some (.loop r)) → Ax n1 x a' (W.putObj l o))
    (hassign : ∀ (l n1 : Nat) (pre : List α) (x : α) (W : World) (K : Act → World → Prop), J n1 pre W → n1 ≤ W.heap.size → (∀ a' W', J n1 pre W' → (∀ k, w.heap.size ≤ k → k < n1 → W'.heap[k]? = W.heap[k]?) → W.heap.size ≤ W'.heap.size → Ax n1 x a' W' → K a' W') →
      assign.wpIn (F.inRound l) (n - 1 - 1) P (Exit.then K (fun _ _ _ => False)) { tmps := (ps.zip (enc x)).foldl (fun t (p, v) => t.setIfInBounds p v) a.tmps, defers := [] } W)
    (hbody : ∀ (l n1 : Nat) (pre : List α) (x : α) (a' : Act) (W : World), J n1 pre W → n1 ≤ W.heap.size → (pre ++ [x]) <+: xs → Ax n1 x a' W → body.wpIn (F.inRound l) (n - 1 - 1) P (fun e _ W' => e = .normal ∧ J n1 (pre ++ [x]) W' ∧ W.heap.size ≤ W'.heap.size ∧ ∀ k, w.heap.size ≤ k → k < n1 → W'.heap[k]? = W.heap[k]?) a' W)
    (hdone : ∀ (n1 : Nat) (W : World), w.heap.size < n1 → J n1 xs W → W.heap[w.heap.size]? = some (.deferred (some [])) → Q .normal { a with defers := { target := .collected w.heap.size, args := #[] } :: a.defers } W) :
    (Code.rangeFunc g ps assign body).wpIn F n P Q a w := by
  refine wpIn_rangeFunc fun fn hfn => ?_
  rw [hro]
  generalize hrec : (fun st pe => ({ state := st, pending := pe, fn, tmps := a.tmps, params := ps, assign, body, defers := w.heap.size } : Loop)) = rec
  have hW1 : Below w.heap.size w ((w.alloc (.deferred (some []))).alloc (.loop (rec .ready none))) := ((Below.refl _ w).alloc (Nat.le_refl _) _).alloc (by simp) _
  have hs1 : ((w.alloc (.deferred (some []))).alloc (.loop (rec .ready none))).heap.size = w.heap.size + 2 := by simp
  have hL1 : ((w.alloc (.deferred (some []))).alloc (.loop (rec .ready none))).heap[w.heap.size + 1]? = some (.loop (rec .ready none)) := by
    have := World.alloc_heap_new (w.alloc (.deferred (some []))) (.loop (rec .ready none)); rwa [World.size_alloc] at this
  have hD1 : ((w.alloc (.deferred (some []))).alloc (.loop (rec .ready none))).heap[w.heap.size]? = some (.deferred (some [])) :=
    (Below.heap_alloc _ _ _ (by simp)).trans (World.alloc_heap_new w _)
  refine ⟨w.heap.size + 1, [{ target := .collected w.heap.size, args := #[] }], (w.alloc (.deferred (some []))).alloc (.loop (rec .ready none)), { target := .fn (.func gf) lb, args := #[.func (.yield (w.heap.size + 1)) #[] #[]] }, (w.alloc (.deferred (some []))).alloc (.loop (rec .ready none)), gf,
    #[.func (.yield (w.heap.size + 1)) #[] #[]] ++ lb, (w.alloc (.deferred (some []))).alloc (.loop (rec .ready none)), ?_, ?_, ?_, ?_, fun _ => h1, ?_⟩
  · rw [← hrec]; exact run_enterLoop_outer _ _ _ _ _
  · simp only [resolve, hg]
    simp [go_sem]
  · intro f' hf'; simp [Target.leads] at hf'; subst hf'; exact hFg
  · simp [invoke, go_sem, eg]
  · generalize hW1d : (w.alloc (.deferred (some []))).alloc (.loop (rec .ready none)) = W1 at hW1 hs1 hL1 hD1 ⊢
    have hst : ∀ st pe, (rec st pe).state = st := fun st pe => by rw [← hrec]
    have hpe : ∀ st pe, (rec st pe).pending = pe := fun st pe => by rw [← hrec]
    have hpar : ∀ st pe, (rec st pe).params = ps := fun st pe => by rw [← hrec]
    have hset : ∀ st pe st', ({ rec st pe with state := st' } : Loop) = rec st' pe := fun st pe st' => by rw [← hrec]
    have hset2 : ∀ st pe st' pe', ({ rec st pe with state := st', pending := pe' } : Loop) = rec st' pe' := fun st pe st' pe' => by rw [← hrec]
    refine (hseq (w.heap.size + 1) (fun n1 pre W => J n1 pre W ∧ w.heap.size + 2 ≤ n1 ∧ n1 ≤ W.heap.size ∧ W.heap[w.heap.size + 1]? = some (.loop (rec .ready none)) ∧ W.heap[w.heap.size]? = some (.deferred (some []))) W1 hW1 (fun W2 hb => ?_) (fun n1 pre W2 o hj => ?_) ?_).mono ?_
    · have hb2 : W1.heap.size ≤ W2.heap.size := hb.size
      exact ⟨h0 W2 (hW1.trans (hb.mono hW1.size)) (by omega), by omega, Nat.le_refl _, (hb.block _ (by omega)).trans hL1, (hb.block _ (by omega)).trans hD1⟩
    · obtain ⟨hj, h2, h3, hl, hd⟩ := hj
      exact ⟨hJa _ _ _ _ hj, h2, by simp; omega, (Below.heap_alloc _ _ _ (by omega)).trans hl, (Below.heap_alloc _ _ _ (by omega)).trans hd⟩
    · rintro n1 pre x W hn1 ⟨hj, h2, h3, hl, hd⟩ hpre
      have hy := run_yield (P := P) (args := enc x) hl (by rw [hpar]; exact hps x)
      refine ⟨fn, _, assign, body, by rw [hy]; rw [← hrec], roundIn_of_wpIn hfn (hassign _ n1 pre x W _ hj h3 ?_)⟩
      intro a' Wa hja hka hza hax
      have hl2 : Wa.heap[w.heap.size + 1]? = some (.loop (rec .ready none)) := (hka _ (by omega) (by omega)).trans hl
      have hd2 : Wa.heap[w.heap.size]? = some (.deferred (some [])) := (hka _ (by omega) (by omega)).trans hd
      refine ⟨_, run_beginRound hl2 (hst _ _), ?_⟩
      rw [hset]
      refine wpIn_mono (hbody _ n1 pre x a' _ (hJ _ _ _ _ _ hja (by omega) (by omega)) (by rw [World.putObj_size]; omega) hpre (hAx _ _ _ _ _ _ hax ⟨_, hl2⟩)) ?_
      rintro e a3 W3 ⟨rfl, hj3, hz3, hk3⟩
      rw [World.putObj_size] at hz3
      have hl3 : W3.heap[w.heap.size + 1]? = some (.loop (rec .busy none)) := (hk3 _ (by omega) (by omega)).trans (World.putObj_heap_same (Array.getElem?_eq_some_iff.1 hl2).1)
      have hd3 : W3.heap[w.heap.size]? = some (.deferred (some [])) := (hk3 _ (by omega) (by omega)).trans ((World.putObj_heap_other (by omega)).trans hd2)
      have hr3 := run_endRound (P := P) none hl3
      simp only [Option.isNone_none, if_true, hset2] at hr3
      refine ⟨_, _, hr3, rfl, ⟨hJ _ _ _ _ _ hj3 (by omega) (by omega), h2, by rw [World.putObj_size]; omega, World.putObj_heap_same (Array.getElem?_eq_some_iff.1 hl3).1, (World.putObj_heap_other (by omega)).trans hd3⟩, fun k hk1 hk2 => ?_⟩
      have hne : k ≠ w.heap.size + 1 := by omega
      rw [World.putObj_heap_other hne, hk3 k (by omega) hk2, World.putObj_heap_other hne, hka k (by omega) hk2]
    · rintro e W2 ⟨⟨v, rfl⟩, n1, hn1, hj, h2, h3, hl, hd⟩
      refine ⟨none, _, by have := run_endLoop (P := P) hl (by rw [hst]; simp); rw [hpe] at this; exact this, ?_⟩
      exact hdone n1 _ (by omega) (hJ _ _ _ _ _ hj (by omega) (by omega)) ((World.putObj_heap_other (by omega)).trans hd)
/-- The marks that loops over iterators leave; the world in which all are taken up. -/
def mark (D : Nat) : Deferred := { target := .collected D, args := #[] }
def shut : List Nat → World → World
  | [], w => w
  | D :: ds, w => shut ds (w.putObj D (.deferred none))
theorem shut_size : ∀ (ds : List Nat) (w : World), (shut ds w).heap.size = w.heap.size
  | [], _ => rfl
  | _ :: ds, _ => (shut_size ds _).trans World.putObj_size
theorem shut_other : ∀ (ds : List Nat) (w : World) (k : Nat), k ∉ ds → (shut ds w).heap[k]? = w.heap[k]?
  | [], _, _, _ => rfl
  | D :: ds, w, k, h => by
    rw [List.mem_cons, not_or] at h
    exact (shut_other ds _ k h.2).trans (World.putObj_heap_other h.1)
theorem shut_below {n : Nat} : ∀ (ds : List Nat) (w : World), (∀ D ∈ ds, n ≤ D) → Below n w (shut ds w)
  | [], w, _ => Below.refl n w
  | D :: ds, w, h => by
    have h1 : Below n w (w.putObj D (.deferred none)) := ⟨rfl, rfl, rfl, by rw [World.putObj_size]; exact Nat.le_refl _, fun k hk => World.putObj_heap_other (by have := h D (by simp); omega)⟩
    exact h1.trans (shut_below ds _ fun D hD => h D (by simp [hD]))
theorem leaves_marks {F : Fence} {n : Nat} {fn : Func} {tmps : Array Value} {R : Ending → World → Prop} : ∀ (ds : List Nat) (w : World), (∀ D ∈ ds, w.heap[D]? = some (.deferred (some []))) → ds.Nodup →
    LeavesIn F n P fn tmps R [] .returning (shut ds w) → LeavesInM F n P fn tmps R (ds.map mark) .returning w
  | [], _, _, _, h => h
  | D :: ds, w, hd, hn, h => by
    rw [List.nodup_cons] at hn
    refine ⟨by simp, .inl ⟨D, _, rfl, run_takeDeferred (hd D (by simp)), ?_⟩⟩
    exact leaves_marks ds _ (fun E hE => (World.putObj_heap_other (show E ≠ D from fun e => hn.1 (by rw [← e]; exact hE))).trans (hd E (by simp [hE]))) hn.2 h
theorem MapI.not_def {w : World} {r : Nat} {L : List (Int × Value)} (h : MapI w r L) {o : Option (List Deferred)} (hd : w.heap[r]? = some (.deferred o)) : False := by
  obtain ⟨es, c, hb, -⟩ := h
  rw [hb] at hd
  cases hd
/-- A block of the wheels holds no deferred calls. -/
theorem WhAt.not_def {R : Refs} {w : World} {X k : Nat} {W : Go.Wh.Wh} (h : WhAt R w X W) (hk : Foot R X k) {o : Option (List Deferred)} (hd : w.heap[k]? = some (.deferred o)) : False := by
  rcases hk with rfl | rfl | rfl | ⟨i, hi, e⟩
  · obtain ⟨cs, hb, -⟩ := h.blk
    rw [hb] at hd
    cases hd
  · exact h.mt.not_def hd
  · exact h.mp.not_def hd
  · exact (h.slotAt hi e).not_def hd
theorem Step.trans_shut {R R' : Refs} {X : Nat} {w w' : World} (h : Step R R' X w w') (ds : List Nat) (hd : ∀ D ∈ ds, w.heap.size ≤ D) : Step R R' X w (shut ds w') := by
  have hb : Below w.heap.size w' (shut ds w') := shut_below ds w' hd
  exact ⟨hb.os.trans h.os, hb.tape.trans h.tape, hb.output.trans h.output, Nat.le_trans h.size hb.size, fun k hk hf => (hb.block k hk).trans (h.block k hk hf), h.foot⟩
end Go.Mp
