/- copied. -/
import Derived.Test.YtjnlfibcpkobaaaT
import Derived.Deep.CutRange
namespace Go.Proofs.Ytjnlfibcpkobaaa
open Go.RowKit Go.Sl Go.Sched

abbrev z26 : Obj := .cells #[.slice none 0 0, .slice none 0 0] 26
/-- Behind the first statement of copied. -/
def Copied1 (w : World) (qs : List Value) (s : St) (t3 : Value) (wx : World) : Prop :=
  ∃ P g cap injV', t3 = .pointer (some ⟨P, 0, none⟩) ∧ w.heap.size + 2 ≤ P ∧ wx.heap[P]? = some (.cells #[.slice (some ⟨g, 0, none⟩) s.ws.length cap, injV'] 26 (0, 0)) ∧
    wx.ownsRow w.heap.size 42 4 (.slice (some ⟨g, 0, none⟩) s.ws.length cap) s.ws.length (wcells qs s.ws) ∧ wx.ownsRow w.heap.size 3 1 injV' s.inj.length (s.inj.map (Value.int .i64)) ∧ Below w.heap.size w wx ∧
    wx.heap[w.heap.size + 1]? = some z26

theorem owns_form {w : World} {base : Nat} {e : TypeId} {sz n : Nat} {v : Value} {cs : List Value} (h : w.ownsRow base e sz v n cs) (h0 : 0 < n) : ∃ g cap, v = .slice (some ⟨g, 0, none⟩) n cap := by
  rcases h.2 with ⟨_, rfl⟩ | ⟨g, cap, cur, rfl, _⟩
  · omega
  · exact ⟨_, _, rfl⟩
theorem keep26 {w1 wx : World} {P : Nat} (hb : Below w1.heap.size w1 wx) (h : w1.heap[P]? = some z26) :
    wx.heap[P]? = some z26 ∧ wx.cell? ⟨P, 0, none⟩ = some (.slice none 0 0) ∧ wx.cell? ⟨P, 1, none⟩ = some (.slice none 0 0) ∧ ∀ j, wx.frozen? ⟨P, j, none⟩ = false := by
  have h2 : wx.heap[P]? = some z26 := (hb.block _ (Array.getElem?_eq_some_iff.1 h).1).trans h
  refine ⟨h2, ?_, ?_, fun j => ?_⟩
  · simp [World.cell?, h2]
  · simp [World.cell?, h2]
  · simp [World.frozen?, h2]
theorem owns_below {w w' : World} {base base' : Nat} {e : TypeId} {sz n : Nat} {v : Value} {cs : List Value} (h : w.ownsRow base e sz v n cs) (hb : Below w.heap.size w w') (hbb : base' ≤ base) : w'.ownsRow base' e sz v n cs := by
  refine ⟨h.1, ?_⟩
  rcases h.2 with hn | ⟨g, cap, cur, he, hbg, hg, hr⟩
  · exact Or.inl hn
  · exact Or.inr ⟨g, cap, cur, he, Nat.le_trans hbb hbg, by rw [hb.block _ (Array.getElem?_eq_some_iff.1 hg).1]; exact hg, hr⟩

/-- A state whose workers' queues are copied for the first k workers. -/
structure OwnPre (base P g cap : Nat) (qs0 : List Value) (k : Nat) (qs : List Value) (injV : Value) (s : St) (w : World) : Prop where
  bP : base ≤ P
  box : w.heap[P]? = some (.cells #[.slice (some ⟨g, 0, none⟩) s.ws.length cap, injV] 26 (0, 0))
  row : w.ownsRow base 42 4 (.slice (some ⟨g, 0, none⟩) s.ws.length cap) s.ws.length (wcells qs s.ws)
  lq : qs.length = s.ws.length
  inj : TyI (base ≤ ·) w injV s.inj
  qu : ∀ i, i < k → TyI (base ≤ ·) w (qs.getD i undef) (s.ws.getD i wk0).q
  injO : w.ownsRow base 3 1 injV s.inj.length (s.inj.map (Value.int .i64))
  quO : ∀ i, i < k → w.ownsRow base 3 1 (qs.getD i undef) (s.ws.getD i wk0).q.length ((s.ws.getD i wk0).q.map (Value.int .i64))
  apart : ∀ i, i < k → ∀ b, (qs.getD i undef).ownBlock = some b → injV.ownBlock ≠ some b ∧ ∀ j, j < k → j ≠ i → (qs.getD j undef).ownBlock ≠ some b
  rest : ∀ i, k ≤ i → qs.getD i undef = qs0.getD i undef
theorem OwnPre.below {base P g cap k : Nat} {qs0 qs : List Value} {injV : Value} {s : St} {w w' : World} (h : OwnPre base P g cap qs0 k qs injV s w) (hb : Below w.heap.size w w') : OwnPre base P g cap qs0 k qs injV s w' :=
  ⟨h.bP, by rw [hb.block _ (Array.getElem?_eq_some_iff.1 h.box).1]; exact h.box, owns_below h.row hb (Nat.le_refl _), h.lq, h.inj.below hb, fun i hi => (h.qu i hi).below hb, owns_below h.injO hb (Nat.le_refl _), fun i hi => owns_below (h.quO i hi) hb (Nat.le_refl _), h.apart, h.rest⟩
theorem OwnPre.facts {base P g cap k : Nat} {qs0 qs : List Value} {injV : Value} {s : St} {w : World} (h : OwnPre base P g cap qs0 k qs injV s w) :
    w.cell? ⟨P, 0, none⟩ = some (.slice (some ⟨g, 0, none⟩) s.ws.length cap) ∧ w.cell? ⟨P, 1, none⟩ = some injV ∧ (∀ j, w.frozen? ⟨g, j, none⟩ = false) ∧
    (∀ i, i < s.ws.length → w.cell? ⟨g, i * 4, none⟩ = some (qs.getD i undef)) ∧ base ≤ g ∧ g ≠ P := by
  have hg := h.row.2
  rcases hg with ⟨he, _⟩ | ⟨g', cap', cur, he, hbg, hg, _⟩
  · cases he
  cases he
  refine ⟨?_, ?_, h.row.frozenAt, fun i hi => ?_, hbg, ?_⟩
  · simp [World.cell?, h.box]
  · simp [World.cell?, h.box]
  · obtain ⟨h1, _⟩ := wcells_at qs s.ws h.lq i hi
    have hlt := (List.getElem?_eq_some_iff.1 h1).1
    rw [h.row.1] at hlt
    rw [h.row.cellAt _ hlt, h1]
  · rintro rfl
    have := h.box
    rw [hg] at this
    simp at this
theorem getD_same (l : List Wk) (k : Nat) (hk : k < l.length) : l.set k { l.getD k wk0 with q := (l.getD k wk0).q } = l := by
  have : ({ l.getD k wk0 with q := (l.getD k wk0).q } : Wk) = l[k] := by simp [List.getD, hk]
  rw [this]
  simp
theorem OwnPre.step {base P g cap k : Nat} {qs0 qs : List Value} {injV : Value} {s : St} {w : World} (h : OwnPre base P g cap qs0 k qs injV s w) (hk : k < s.ws.length) {v : Value} {B : Nat} (hv : w.ownsRow B 3 1 v (s.ws.getD k wk0).q.length ((s.ws.getD k wk0).q.map (Value.int .i64))) (hB : base ≤ B)
    (hnew : (∀ b, injV.ownBlock = some b → b < B) ∧ ∀ i, i < k → ∀ b, (qs.getD i undef).ownBlock = some b → b < B) :
    OwnPre base P g cap qs0 (k + 1) (qs.set k v) injV s (w.setCell ⟨g, k * 4, none⟩ v) := by
  obtain ⟨-, -, -, -, hbg, hne⟩ := h.facts
  have hg := h.row.2
  rcases hg with ⟨he, _⟩ | ⟨g', cap', cur, he, _, hg, _⟩
  · cases he
  cases he
  have hw := wcells_setQ qs s.ws k h.lq hk v (s.ws.getD k wk0).q
  rw [getD_same _ _ hk] at hw
  have far : ∀ {B : Nat} {v' : Value} {n : Nat} {cs : List Value}, w.ownsRow B 3 1 v' n cs → v'.ownBlock ≠ some g := by
    intro B v' n cs h2 e
    rcases h2.2 with ⟨rfl, _⟩ | ⟨g', cap', cur', rfl, _, hg', _⟩
    · cases e
    · cases e
      rw [hg] at hg'
      simp at hg'
  have self : qs.length = s.ws.length := h.lq
  refine ⟨h.bP, ?_, ?_, by simp [h.lq], h.inj.setCell v hg (by decide), fun i hi => ?_, ownsRow_setCell_other h.injO (far h.injO) _, fun i hi => ?_, fun i hi b hb => ?_, fun i hi => ?_⟩
  · rw [Below.heap_setCell w _ v P (Ne.symm hne)]; exact h.box
  · rw [hw]; exact (h.row.stored (k * 4) v).1
  · rw [getD_set, h.lq]
    by_cases e : i = k
    · subst e
      simpa [hk] using ((TyI.of_owns hv).imp fun g _ h => Nat.le_trans hB h).setCell v hg (by decide)
    · simp only [e, false_and, if_false]
      exact (h.qu i (by omega)).setCell v hg (by decide)
  · rw [getD_set, h.lq]
    by_cases e : i = k
    · subst e
      simp only [hk, and_self, if_true]
      exact owns_below (ownsRow_setCell_other hv (far hv) _) (Below.refl _ _) hB
    · simp only [e, false_and, if_false]
      exact ownsRow_setCell_other (h.quO i (by omega)) (far (h.quO i (by omega))) _
  · have hvl : ∀ b, v.ownBlock = some b → B ≤ b := fun b hb => (World.ownsRow.lt hv b hb).1
    rw [getD_set, self] at hb
    by_cases e : i = k
    · subst e
      simp only [hk, and_self, if_true] at hb
      have h1 := hvl b hb
      refine ⟨fun h2 => by have := hnew.1 b h2; omega, fun j hj hji => ?_⟩
      rw [getD_set, if_neg (by omega)]
      intro h2
      have := hnew.2 j (by omega) b h2
      omega
    · simp only [e, false_and, if_false] at hb
      obtain ⟨a1, a2⟩ := h.apart i (by omega) b hb
      refine ⟨a1, fun j hj hji => ?_⟩
      rw [getD_set, self]
      by_cases e2 : j = k
      · subst e2
        simp only [hk, and_self, if_true]
        intro h2
        have h3 := hvl b h2
        have := hnew.2 i (by omega) b hb
        omega
      · simp only [e2, false_and, if_false]
        exact a2 j (by omega) hji
  · rw [getD_set, if_neg (by omega)]
    exact h.rest i (by omega)
/-- A state just copied: all rows its own, each apart. -/
structure Fresh (base P g cap : Nat) (qs : List Value) (injV : Value) (s : St) (w : World) : Prop where
  own : OwnSt base P g cap qs injV s w
  injO : w.ownsRow base 3 1 injV s.inj.length (s.inj.map (Value.int .i64))
  quO : ∀ i, i < s.ws.length → w.ownsRow base 3 1 (qs.getD i undef) (s.ws.getD i wk0).q.length ((s.ws.getD i wk0).q.map (Value.int .i64))
  apart : ∀ i, i < s.ws.length → ∀ b, (qs.getD i undef).ownBlock = some b → injV.ownBlock ≠ some b ∧ ∀ j, j < s.ws.length → j ≠ i → (qs.getD j undef).ownBlock ≠ some b
theorem Fresh.below {base P g cap : Nat} {qs : List Value} {injV : Value} {s : St} {w w' : World} (h : Fresh base P g cap qs injV s w) (hb : Below w.heap.size w w') : Fresh base P g cap qs injV s w' :=
  ⟨h.own.below hb, owns_below h.injO hb (Nat.le_refl _), fun i hi => owns_below (h.quO i hi) hb (Nat.le_refl _), h.apart⟩
theorem OwnPre.all {base P g cap k : Nat} {qs0 qs : List Value} {injV : Value} {s : St} {w : World} (h : OwnPre base P g cap qs0 k qs injV s w) (hk : s.ws.length ≤ k) : Fresh base P g cap qs injV s w :=
  ⟨⟨h.bP, h.box, h.row, h.lq, h.inj, fun i hi => h.qu i (by omega)⟩, h.injO, fun i hi => h.quO i (by omega), fun i hi b hb => ⟨(h.apart i (by omega) b hb).1, fun j hj => (h.apart i (by omega) b hb).2 j (by omega)⟩⟩
theorem owns_far {w : World} {B R : Nat} {v : Value} {n : Nat} {xs : List Value} {cur : Array Value} {t : TypeId} (h : w.ownsRow B 3 1 v n xs) (hR : w.heap[R]? = some (.cells cur t (0, 0))) (ht : t ≠ 3) : v.ownBlock ≠ some R := by
  intro e
  rcases h.2 with ⟨rfl, _⟩ | ⟨g', cap', cur', rfl, _, hg', _⟩
  · cases e
  · cases e
    rw [hR] at hg'
    simp only [Option.some.injEq, Obj.cells.injEq] at hg'
    exact ht hg'.2.1
theorem OwnSt.elsewhere26 {base P g cap : Nat} {qs : List Value} {injV : Value} {s : St} {w : World} (h : OwnSt base P g cap qs injV s w) {a : Addr} (u : Value) {cur : Array Value} (ha : w.heap[a.block]? = some (.cells cur 26 (0, 0))) (n1 : P ≠ a.block) : OwnSt base P g cap qs injV s (w.setCell a u) := by
  obtain ⟨_, c2, hg⟩ := h.block
  have n2 : g ≠ a.block := by
    intro e
    rw [e, ha] at hg
    simp at hg
  refine ⟨h.bP, by rw [Below.heap_setCell w a u P n1]; exact h.box, ?_, h.lq, h.inj.setCell u ha (by decide), fun i hi => (h.qu i hi).setCell u ha (by decide)⟩
  refine ownsRow_setCell_other h.row ?_ _
  simp only [Value.ownBlock, ne_eq, Option.some.injEq]
  exact n2
theorem Fresh.elsewhere26 {base P g cap : Nat} {qs : List Value} {injV : Value} {s : St} {w : World} (h : Fresh base P g cap qs injV s w) {a : Addr} (u : Value) {cur : Array Value} (ha : w.heap[a.block]? = some (.cells cur 26 (0, 0))) (n1 : P ≠ a.block) : Fresh base P g cap qs injV s (w.setCell a u) :=
  ⟨h.own.elsewhere26 u ha n1, ownsRow_setCell_other h.injO (owns_far h.injO ha (by decide)) _, fun i hi => ownsRow_setCell_other (h.quO i hi) (owns_far (h.quO i hi) ha (by decide)) _, h.apart⟩
theorem size26 : (Try.prog.info? 26).map (·.size) = some 2 := by kernel_rfl

theorem q_le_flat : ∀ (ws : List Wk) (i : Nat), i < ws.length → (ws.getD i wk0).q.length ≤ (ws.flatMap own).length
  | [], i, h => by simp at h
  | k :: ws, 0, _ => by simp [own]
  | k :: ws, i + 1, h => by
    have := q_le_flat ws i (by simpa using h)
    simp only [List.getD_cons_succ, List.flatMap_cons, List.length_append]
    omega
theorem q_le_tasks (s : St) (i : Nat) (h : i < s.ws.length) : (s.ws.getD i wk0).q.length ≤ (tasks s).length := by
  have := q_le_flat s.ws i h
  unfold tasks
  rw [List.length_append]
  omega
theorem inj_le_tasks (s : St) : s.inj.length ≤ (tasks s).length := by
  unfold tasks
  rw [List.length_append]
  omega

/-- The store that ends the first statement. -/
theorem Copied1.of {w W : World} {qs : List Value} {s : St} {P g cap : Nat} {injV' : Value} (hP : w.heap.size + 2 ≤ P) (hz : W.heap[P]? = some z26)
    (hrow : W.ownsRow w.heap.size 42 4 (.slice (some ⟨g, 0, none⟩) s.ws.length cap) s.ws.length (wcells qs s.ws)) (hi : W.ownsRow w.heap.size 3 1 injV' s.inj.length (s.inj.map (Value.int .i64))) (hb : Below w.heap.size w W) (hr : W.heap[w.heap.size + 1]? = some z26) :
    Copied1 w qs s (.pointer (some ⟨P, 0, none⟩)) ((W.setCell ⟨P, 0, none⟩ (.slice (some ⟨g, 0, none⟩) s.ws.length cap)).setCell ⟨P, 1, none⟩ injV') := by
  have hz1 := heap_setCell_same W P 0 _ 26 (.slice (some ⟨g, 0, none⟩) s.ws.length cap) hz
  have hz2 := heap_setCell_same _ P 1 _ 26 injV' hz1
  have hg : g ≠ P := by
    rcases hrow.2 with ⟨he, _⟩ | ⟨g', cap', cur, he, _, hg, _⟩
    · cases he
    · cases he
      rintro rfl
      rw [hz] at hg
      simp at hg
  refine ⟨P, g, cap, injV', rfl, hP, by simpa using hz2, ?_, ?_, ?_, ?_⟩
  · refine ownsRow_setCell_other (ownsRow_setCell_other hrow ?_ _) ?_ _
    · simpa [Value.ownBlock] using hg
    · simpa [Value.ownBlock] using hg
  · have hi1 := ownsRow_setCell_other hi (owns_far hi hz (by decide)) (a := ⟨P, 0, none⟩) (.slice (some ⟨g, 0, none⟩) s.ws.length cap)
    exact ownsRow_setCell_other hi1 (owns_far hi1 hz1 (by decide)) _
  · exact (hb.setCell (show w.heap.size ≤ P by omega) _).setCell (show w.heap.size ≤ P by omega) _
  · rw [Below.heap_setCell _ _ _ _ (show w.heap.size + 1 ≠ P by omega), Below.heap_setCell _ _ _ _ (show w.heap.size + 1 ≠ P by omega)]
    exact hr

/-- The same where the walk has drawn store and allocation together. -/
theorem Copied1.ofAlloc {w W : World} {qs : List Value} {s : St} {g cap : Nat} {injV' : Value} (hP : w.heap.size + 2 ≤ W.heap.size)
    (hrow : W.ownsRow w.heap.size 42 4 (.slice (some ⟨g, 0, none⟩) s.ws.length cap) s.ws.length (wcells qs s.ws)) (hi : W.ownsRow w.heap.size 3 1 injV' s.inj.length (s.inj.map (Value.int .i64))) (hb : Below w.heap.size w W) (hr : W.heap[w.heap.size + 1]? = some z26) :
    Copied1 w qs s (.pointer (some ⟨W.heap.size, 0, none⟩)) (W.alloc (.cells #[.slice (some ⟨g, 0, none⟩) s.ws.length cap, injV'] 26)) := by
  have hba : Below W.heap.size W (W.alloc (.cells #[.slice (some ⟨g, 0, none⟩) s.ws.length cap, injV'] 26)) := (Below.refl _ _).alloc (Nat.le_refl _) _
  exact ⟨W.heap.size, g, cap, injV', rfl, hP, heap_alloc_new _ _, owns_below hrow hba (Nat.le_refl _), owns_below hi hba (Nat.le_refl _), hb.alloc (by omega) _, by rw [hba.block _ (by omega)]; exact hr⟩

set_option maxRecDepth 100000 in
set_option maxHeartbeats 4000000 in
theorem copied_calls (wsV injV : Value) (qs : List Value) (s : St) (w : World) (h : StV w wsV injV qs s) (hs : small s) (h0 : 0 < s.ws.length) :
    Calls Try.prog 36 #[.agg #[wsV, injV]] w fun e w' => ∃ P g cap qs' injV', e = .returned (.agg #[.slice (some ⟨g, 0, none⟩) s.ws.length cap, injV']) ∧ Fresh w.heap.size P g cap qs' injV' s w' ∧ Below w.heap.size w w' := by
  obtain ⟨hs1, hs2⟩ := hs
  have hb2 : Below w.heap.size w ((w.alloc (.cells #[wsV, injV] 26)).alloc z26) := ((Below.refl _ _).alloc (Nat.le_refl _) _).alloc (by simp) _
  have hr0 : ((w.alloc (.cells #[wsV, injV] 26)).alloc z26).heap[w.heap.size + 1]? = some z26 := by
    have := heap_alloc_new (w.alloc (.cells #[wsV, injV] 26)) z26
    simpa using this
  have hb0 : Below ((w.alloc (.cells #[wsV, injV] 26)).alloc z26).heap.size ((w.alloc (.cells #[wsV, injV] 26)).alloc z26) ((w.alloc (.cells #[wsV, injV] 26)).alloc z26) := Below.refl _ _
  have hqs : ∀ q ∈ qs, ∃ a n c, q = .slice a n c := by
    intro q hq
    obtain ⟨i, hi, rfl⟩ := List.getElem_of_mem hq
    obtain ⟨a, c, he⟩ := (h.qu i (by rw [← h.ws.1]; exact hi)).form
    rw [List.getD, List.getElem?_eq_getElem hi] at he
    exact ⟨a, _, c, he⟩
  have hij := inj_le_tasks s
  have H := Lib.hid h
  clear h
  go_enter Try.func36, Try.ntmps36
  go_wp2_with fail
  go_cut [3] from 5 to 11 (fun t3 wx => Copied1 w qs s t3 wx)
  case first =>
    go_region_held3 (fun w' => w'.cell? ⟨w.heap.size, 0, none⟩ = some wsV ∧ w'.cell? ⟨w.heap.size, 1, none⟩ = some injV) (first | go_keep | (refine ⟨(World.cell?_setCell_far _ _ _ _ ?_).trans ((World.cell?_setCell_far _ _ _ _ ?_).trans l0), (World.cell?_setCell_far _ _ _ _ ?_).trans ((World.cell?_setCell_far _ _ _ _ ?_).trans l1)⟩ <;> (simp; omega)))
      (first
        | (go_at_call 57; refine (cloneW_calls _ qs s.ws _ (H.out.ws.below (by first | exact hb2.drew | exact (hb2.alloc (by simp; omega) _).drew)) hqs (by omega) h0).mono ?_; rintro e wx ⟨vx, rfl, hown, hbx⟩; obtain ⟨g, cap, rfl⟩ := owns_form hown h0; have hh := ‹World.cell? _ _ = some wsV ∧ World.cell? _ _ = some injV›; have k0 := hbx.at_cell hh.1; have k1 := hbx.at_cell hh.2; clear hh; replace hown := Lib.hid hown; have nx : w.heap.size + 1 + 1 ≤ wx.heap.size := (by have := hbx.size; (try simp at this); omega); have nx1 : ¬ wx.heap.size = w.heap.size := (by omega); have nx2 : ¬ w.heap.size = wx.heap.size := (by omega); (first | (have p' := keep26 hbx (P := _) (heap_alloc_new _ _); simp only [World.alloc, Array.size_push] at p'; obtain ⟨p, p0, p1, pf⟩ := p') | skip))
        | (go_at_call 16; refine (clone_calls _ s.inj _ (H.out.inj.below (by first | exact hb2.then ((hb0.drew).then hbx) | exact hb2.then (((hb0.drew).then hbx).alloc hbx.size _) | exact hb2.then (((hb0.alloc (Nat.le_refl _) _).drew).then hbx))) (by omega)).mono ?_; rintro e wy ⟨vy, rfl, hown2, hby⟩; obtain ⟨a2, cap2, rfl⟩ := (SlI.of_owns hown2).form; have hh := ‹World.cell? _ _ = some wsV ∧ World.cell? _ _ = some injV›; have l0 := hby.at_cell hh.1; have l1 := hby.at_cell hh.2; clear hh; replace hown2 := Lib.hid hown2; have nx : w.heap.size + 1 + 1 ≤ wy.heap.size := (by have := hby.size; (try simp at this); omega); have ny1 : ¬ wy.heap.size = w.heap.size := (by omega); have ny2 : ¬ w.heap.size = wy.heap.size := (by omega); (first | (have p' := keep26 hby (P := w.heap.size + 1 + 1) p; obtain ⟨p, p0, p1, pf⟩ := p') | (have p' := keep26 hby (P := wx.heap.size) (heap_alloc_new _ _); obtain ⟨p, p0, p1, pf⟩ := p') | skip)))
    all_goals (have hown := hown.out; have hown2 := hown2.out; go_wp2_with fail; go_meet; case' rel => skip)
    · have hx := (hb0.drew).then hbx
      have hxy := hx.then hby
      exact Copied1.ofAlloc (by omega) (owns_below (owns_below hown hby (Nat.le_refl _)) (Below.refl _ _) (by simp; omega)) (owns_below hown2 (Below.refl _ _) (by have := hx.size; simp at this; omega)) (hb2.then hxy) (by rw [hxy.block _ (by simp)]; exact hr0)
    · have hx := (hb0.drew).then hbx
      have hxy := (hx.alloc (hx.size) _).then hby
      exact Copied1.of (by omega) p (owns_below (owns_below hown ((Below.refl _ _).alloc (Nat.le_refl _) _ |>.then hby) (Nat.le_refl _)) (Below.refl _ _) (by simp; omega)) (owns_below hown2 (Below.refl _ _) (by have := hx.size; simp at this; simp; omega)) (hb2.then hxy) (by rw [hxy.block _ (by simp)]; exact hr0)
    · have hx := ((hb0.alloc (Nat.le_refl _) z26).drew).then hbx
      have hxy := hx.then hby
      exact Copied1.of (by omega) p (owns_below (owns_below hown hby (Nat.le_refl _)) (Below.refl _ _) (by simp; omega)) (owns_below hown2 (Below.refl _ _) (by have := hx.size; simp at this; omega)) (hb2.then hxy) (by rw [hxy.block _ (by simp)]; exact hr0)
  case rest =>
    clear hb0 hr0 hb2
    obtain ⟨P, g, cap, injV', rfl, hP, hbox, hrow, hinj, hb, hr⟩ := hcut
    have hpre : OwnPre w.heap.size P g cap qs 0 qs injV' s wc := ⟨by omega, hbox, hrow, H.out.ws.1, TyI.of_owns hinj, fun i hi => by omega, hinj, fun i hi => by omega, fun i hi => by omega, fun i _ => rfl⟩
    obtain ⟨c0, c1, -, -, hbg, hne⟩ := hpre.facts
    obtain ⟨ja, jc, rfl⟩ := (SlI.of_owns hinj).form
    clear hbox hrow hinj
    have HP := Lib.hid hpre
    clear hpre
    generalize s.inj.length = jn at *
    generalize hnn : s.ws.length = n at *
    have NN := Lib.hid hnn
    clear hnn
    go_wp2_with fail
    go_loopw [15] (fun i wr => ∃ (k : Nat) (qs' : List Value), k ≤ n ∧ i = .int .i64 k ∧ Below w.heap.size w wr ∧ OwnPre w.heap.size P g cap qs k qs' (.slice ja jn jc) s wr ∧ wr.heap[w.heap.size + 1]? = some z26) (fun i _ => n - (intOf i).toNat)
    case atStart => exact ⟨0, qs, Nat.zero_le _, rfl, hb, HP.out, hr⟩
    case round =>
      obtain ⟨k, qs', hk, rfl, hbel, hpre, hr2⟩ := hrel
      obtain ⟨f0, f1, ff, fq, -, -⟩ := hpre.facts
      have hgP : ¬ P = g := fun e => hne e.symm
      have hgR : g ≠ w.heap.size + 1 := by
        rcases hpre.row.2 with ⟨he, _⟩ | ⟨g', cap', cur, he, _, hg, _⟩
        · cases he
        · cases he
          rintro rfl
          rw [hr2] at hg
          simp at hg
      by_cases hlt : k < n
      · have hc := fq k (by rw [NN.out]; exact hlt)
        have hql := (H.out.qu k (by rw [NN.out]; exact hlt)).below hbel
        rw [← hpre.rest k (Nat.le_refl _)] at hql
        have hqb : (s.ws.getD k wk0).q.length ≤ 1000000 := by have := q_le_tasks s k (by rw [NN.out]; exact hlt); omega
        obtain ⟨qa, qc, hqf⟩ := hql.form
        rw [hqf] at hc hql
        rw [NN.out] at f0
        have hc2 : wr.drew.cell? ⟨g, k * 4, none⟩ = some (.slice qa (s.ws.getD k wk0).q.length qc) := hc
        have f02 : wr.drew.cell? ⟨P, 0, none⟩ = some (.slice (some ⟨g, 0, none⟩) n cap) := f0
        have hcall := clone_calls _ _ _ (hql.below (Below.refl _ _).drew) hqb
        have g1 : (k : Int) < (n : Int) := by omega
        have g2 : (0 : Int) ≤ (k : Int) := by omega
        have HP2 := Lib.hid hpre
        clear hpre fq f1 hqf c0 c1 hql
        generalize hmm : (s.ws.getD k wk0).q.length = m at *
        have MM := Lib.hid hmm
        clear hmm
        go_upto_region 5 with (fail)
        go_region_with (go_at_call 16; refine hcall.mono ?_; rintro e wx ⟨vx, rfl, hown, hbx⟩; have kx := hbx.at_cell f02; obtain ⟨a2, cap2, rfl⟩ := (SlV.of_owns hown).form; have cx := hbx.at_cell hc2; have pre2 := HP2.out.below ((Below.refl _ _).drew.then hbx); have fx := pre2.facts.2.2.1; replace pre2 := Lib.hid pre2; replace hown := Lib.hid hown)
        all_goals (
          have pre3 := pre2.out.step (by rw [NN.out]; exact hlt) (MM.out ▸ hown.out) (by have := hbel.size; simp; omega) ⟨fun b hb => (World.ownsRow.lt HP2.out.injO b hb).2, fun i hi b hb => (World.ownsRow.lt (HP2.out.quO i hi) b hb).2⟩
          rw [MM.out] at pre3
          have hbl := (hbel.then ((Below.refl _ _).drew.then hbx)).setCell (show w.heap.size ≤ (⟨g, k * 4, none⟩ : Addr).block from hbg) (.slice a2 m cap2)
          have hr3 := (Below.heap_setCell wx ⟨g, k * 4, none⟩ (.slice a2 m cap2) (w.heap.size + 1) (Ne.symm hgR)).trans ((hbx.block _ (Array.getElem?_eq_some_iff.1 hr2).1).trans hr2)
          clear kx cx hown pre2
          go_wp2_with fail
          go_roundw
          case rel => exact ⟨k + 1, _, by omega, by go_num, hbl, pre3, hr3⟩
          case measure => simp [intOf]; omega)
      · have hkn : k = n := by omega
        subst hkn
        have all := hpre.all (by rw [NN.out]; exact Nat.le_refl _)
        obtain ⟨-, p0, p1, pf⟩ := keep26 (Below.refl _ _) hr2
        have nP : P ≠ w.heap.size + 1 := by omega
        have nP2 : ¬ w.heap.size + 1 = P := by omega
        rw [NN.out] at f0
        have AA := Lib.hid all
        have R2 := Lib.hid hr2
        clear all fq hpre hr2 hgR c0 c1 hr hgP
        go_wp2_with fail
        have z1 := heap_setCell_same wr (w.heap.size + 1) 0 _ 26 (.slice (some ⟨g, 0, none⟩) k cap) R2.out
        have z2 := heap_setCell_same _ (w.heap.size + 1) 1 _ 26 (.slice ja jn jc) z1
        refine bodyPost_ret (results_cell_row rfl _ _ (w.heap.size + 1) 26 _ (0, 0) _ rfl z2 Try.underlying26 rfl size26) rfl ?_
        refine ⟨P, g, cap, qs', .slice ja jn jc, ?_, ?_, ?_⟩
        · rw [NN.out]; rfl
        · exact (AA.out.elsewhere26 _ R2.out nP).elsewhere26 _ z1 nP
        · exact (hbel.setCell (show w.heap.size ≤ w.heap.size + 1 by omega) _).setCell (show w.heap.size ≤ w.heap.size + 1 by omega) _
end Go.Proofs.Ytjnlfibcpkobaaa
