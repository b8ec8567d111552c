/- A state of the call's own behind a pointer. -/
import Derived.Test.YtjnlfibcpkobaaaF
import Derived.Laws.OwnMore
namespace Go.Proofs.Ytjnlfibcpkobaaa
open Go.RowKit Go.Sl Go.Sched

/-- A slice of ints whose block is one of ints, and one of A. -/
structure TyI (A : Nat → Prop) (w : World) (v : Value) (xs : List Int) : Prop where
  sl : SlI w v xs
  ty : ∀ ad n c, v = .slice (some ad) n c → (n ≤ c ∧ c ≤ maxLen) ∧ ∃ cur, w.heap[ad.block]? = some (.cells cur 3 (0, 0))
  ap : ∀ ad n c, v = .slice (some ad) n c → A ad.block
theorem TyI.below {A : Nat → Prop} {w w' : World} {v : Value} {xs : List Int} (h : TyI A w v xs) (hb : Below w.heap.size w w') : TyI A w' v xs :=
  ⟨h.1.below hb, fun ad n c he => by
    obtain ⟨hnc, cur, hc⟩ := h.2 ad n c he
    exact ⟨hnc, cur, by rw [hb.block _ (Array.getElem?_eq_some_iff.1 hc).1]; exact hc⟩, h.3⟩
theorem TyI.imp {A A' : Nat → Prop} {w : World} {v : Value} {xs : List Int} (h : TyI A w v xs) (k : ∀ g, g < w.heap.size → A g → A' g) : TyI A' w v xs :=
  ⟨h.1, h.2, fun ad n c he => by
    obtain ⟨-, cur, hc⟩ := h.2 ad n c he
    exact k _ (Array.getElem?_eq_some_iff.1 hc).1 (h.3 ad n c he)⟩
theorem TyI.of_owns {w : World} {base : Nat} {v : Value} {n : Nat} {xs : List Int} (h : w.ownsRow base 3 1 v n (xs.map (Value.int .i64))) : TyI (base ≤ ·) w v xs := by
  refine ⟨SlI.of_owns h, fun ad k c he => ?_, fun ad k c he => ?_⟩
  · rcases h.2 with ⟨rfl, _⟩ | ⟨g, cap, cur, rfl, _, hg, h1, h2, _⟩
    · cases he
    · cases he; exact ⟨⟨h1, h2⟩, cur, hg⟩
  · rcases h.2 with ⟨rfl, _⟩ | ⟨g, cap, cur, rfl, hb, hg, h1, h2, _⟩
    · cases he
    · cases he; exact hb
theorem SlV.setCell {w : World} {v : Value} {n sz : Nat} {cs : List Value} (h : SlV w v n sz cs) {a : Addr} (u : Value) (ha : ∀ ad k c, v = .slice (some ad) k c → ad.block ≠ a.block) : SlV (w.setCell a u) v n sz cs := by
  obtain ⟨hl, h | ⟨h0, b, o, cap, hv, hc⟩⟩ := h
  · exact ⟨hl, Or.inl h⟩
  · refine ⟨hl, Or.inr ⟨h0, b, o, cap, hv, fun i u' hi => ?_⟩⟩
    have hne := ha _ _ _ hv
    have hcc : (w.setCell a u).cell? ⟨b, o + i, none⟩ = w.cell? ⟨b, o + i, none⟩ := World.cell?_of_block (Below.heap_setCell w a u b hne)
    rw [hcc]
    exact hc i u' hi
theorem TyI.setCell {A : Nat → Prop} {w : World} {v : Value} {xs : List Int} (h : TyI A w v xs) {a : Addr} (u : Value) {cur : Array Value} {e : TypeId} (ha : w.heap[a.block]? = some (.cells cur e (0, 0))) (he : e ≠ 3) : TyI A (w.setCell a u) v xs := by
  have key : ∀ ad k c, v = .slice (some ad) k c → ad.block ≠ a.block := by
    intro ad k c hv hb
    obtain ⟨_, c2, h2⟩ := h.2 ad k c hv
    rw [hb, ha] at h2
    simp only [Option.some.injEq, Obj.cells.injEq] at h2
    exact he h2.2.1
  refine ⟨SlV.setCell h.1 u key, fun ad k c hv => ?_, h.3⟩
  obtain ⟨hnc, c2, h2⟩ := h.2 ad k c hv
  exact ⟨hnc, c2, by rw [Below.heap_setCell w a u ad.block (key ad k c hv)]; exact h2⟩

/-- The state behind pointer P: its workers in block g. -/
structure OwnSt (base P g cap : Nat) (qs : List Value) (injV : Value) (s : St) (w : World) : Prop where
  bP : base ≤ P
  box : w.heap[P]? = some (.cells #[.slice (some ⟨g, 0, none⟩) s.ws.length cap, injV] 26 (0, 0))
  row : w.ownsRow base 42 4 (.slice (some ⟨g, 0, none⟩) s.ws.length cap) s.ws.length (wcells qs s.ws)
  lq : qs.length = s.ws.length
  inj : TyI (base ≤ ·) w injV s.inj
  qu : ∀ i, i < s.ws.length → TyI (base ≤ ·) w (qs.getD i undef) (s.ws.getD i wk0).q

theorem OwnSt.block {base P g cap : Nat} {qs : List Value} {injV : Value} {s : St} {w : World} (h : OwnSt base P g cap qs injV s w) : base ≤ g ∧ ∃ cur, w.heap[g]? = some (.cells cur 42 (0, 0)) := by
  rcases h.row.2 with ⟨he, _⟩ | ⟨g', cap', cur, he, hb, hg, _⟩
  · cases he
  · cases he; exact ⟨hb, cur, hg⟩
theorem OwnSt.below {base P g cap : Nat} {qs : List Value} {injV : Value} {s : St} {w w' : World} (h : OwnSt base P g cap qs injV s w) (hb : Below w.heap.size w w') : OwnSt base P g cap qs injV s w' := by
  have hP := (Array.getElem?_eq_some_iff.1 h.box).1
  refine ⟨h.bP, by rw [hb.block _ hP]; exact h.box, ?_, h.lq, h.inj.below hb, fun i hi => (h.qu i hi).below hb⟩
  refine ⟨h.row.1, ?_⟩
  rcases h.row.2 with ⟨he, _⟩ | ⟨g', cap', cur, he, hbg, hg, hr⟩
  · cases he
  · exact Or.inr ⟨g', cap', cur, he, hbg, by rw [hb.block _ (Array.getElem?_eq_some_iff.1 hg).1]; exact hg, hr⟩
theorem OwnSt.stV {base P g cap : Nat} {qs : List Value} {injV : Value} {s : St} {w : World} (h : OwnSt base P g cap qs injV s w) : StV w (.slice (some ⟨g, 0, none⟩) s.ws.length cap) injV qs s :=
  ⟨⟨h.lq, SlV.of_owns h.row⟩, h.inj.1, fun i hi => (h.qu i hi).1⟩

/-- What lies outside the state's two blocks stays. -/
structure Frm (base P g : Nat) (w w' : World) : Prop where
  below : Below base w w'
  far : ∀ k, k < w.heap.size → k ≠ P → k ≠ g → w'.heap[k]? = w.heap[k]?
theorem Frm.trans {base P g : Nat} {a b c : World} (h : Frm base P g a b) (k : Frm base P g b c) : Frm base P g a c :=
  ⟨h.below.trans k.below, fun i hi h1 h2 => (k.far i (Nat.lt_of_lt_of_le hi h.below.size) h1 h2).trans (h.far i hi h1 h2)⟩
theorem _root_.Go.RowKit.Below.frm {base P g : Nat} {w w' : World} (h : Below w.heap.size w w') (hb : base ≤ w.heap.size) : Frm base P g w w' := ⟨h.mono hb, fun i hi _ _ => h.block i hi⟩
theorem Frm.set {base P g : Nat} (w : World) {b o : Nat} (hb : base ≤ b) (h : b = P ∨ b = g) (u : Value) : Frm base P g w (w.setCell ⟨b, o, none⟩ u) :=
  ⟨(Below.refl _ _).setCell hb _, fun i _ h1 h2 => Below.heap_setCell w ⟨b, o, none⟩ u i (by rintro rfl; rcases h with h | h <;> contradiction)⟩

/-- What a worker becomes. -/
def upd (s : St) (i : Nat) (f : Wk → Wk) : St := ⟨s.ws.set i (f (s.ws.getD i wk0)), s.inj⟩
theorem upd_len (s : St) (i : Nat) (f : Wk → Wk) : (upd s i f).ws.length = s.ws.length := by simp [upd]

theorem wcells_setPh : ∀ (qs : List Value) (ws : List Wk) (i : Nat), qs.length = ws.length → i < ws.length → ∀ (x : Int),
    wcells qs (ws.set i { ws.getD i wk0 with ph := x }) = (wcells qs ws).set (i * 4 + 1) (.int .i64 x)
  | [], [], i, _, hi, _ => by simp at hi
  | q :: qs, k0 :: ws, 0, _, _, x => by simp [wcells]
  | q :: qs, k0 :: ws, i + 1, hl, hi, x => by
    have := wcells_setPh qs ws i (by simpa using hl) (by simpa using hi) x
    have e1 : (i + 1) * 4 + 1 = (i * 4 + 1) + 4 := by omega
    simp only [List.getD_cons_succ, wcells, List.set_cons_succ, e1]
    rw [this]
theorem wcells_setTk : ∀ (qs : List Value) (ws : List Wk) (i : Nat), qs.length = ws.length → i < ws.length → ∀ (x : Int),
    wcells qs (ws.set i { ws.getD i wk0 with tk := x }) = (wcells qs ws).set (i * 4 + 2) (.int .i64 x)
  | [], [], i, _, hi, _ => by simp at hi
  | q :: qs, k0 :: ws, 0, _, _, x => by simp [wcells]
  | q :: qs, k0 :: ws, i + 1, hl, hi, x => by
    have := wcells_setTk qs ws i (by simpa using hl) (by simpa using hi) x
    have e1 : (i + 1) * 4 + 2 = (i * 4 + 2) + 4 := by omega
    simp only [List.getD_cons_succ, wcells, List.set_cons_succ, e1]
    rw [this]
theorem wcells_setLk : ∀ (qs : List Value) (ws : List Wk) (i : Nat), qs.length = ws.length → i < ws.length → ∀ (x : Int),
    wcells qs (ws.set i { ws.getD i wk0 with lk := x }) = (wcells qs ws).set (i * 4 + 3) (.int .i64 x)
  | [], [], i, _, hi, _ => by simp at hi
  | q :: qs, k0 :: ws, 0, _, _, x => by simp [wcells]
  | q :: qs, k0 :: ws, i + 1, hl, hi, x => by
    have := wcells_setLk qs ws i (by simpa using hl) (by simpa using hi) x
    have e1 : (i + 1) * 4 + 3 = (i * 4 + 3) + 4 := by omega
    simp only [List.getD_cons_succ, wcells, List.set_cons_succ, e1]
    rw [this]
theorem wcells_setQ : ∀ (qs : List Value) (ws : List Wk) (i : Nat), qs.length = ws.length → i < ws.length → ∀ (qv : Value) (q : List Int),
    wcells (qs.set i qv) (ws.set i { ws.getD i wk0 with q := q }) = (wcells qs ws).set (i * 4) qv
  | [], [], i, _, hi, _, _ => by simp at hi
  | q :: qs, k0 :: ws, 0, _, _, qv, x => by simp [wcells]
  | q :: qs, k0 :: ws, i + 1, hl, hi, qv, x => by
    have := wcells_setQ qs ws i (by simpa using hl) (by simpa using hi) qv x
    have e1 : (i + 1) * 4 = (i * 4) + 4 := by omega
    simp only [List.getD_cons_succ, wcells, List.set_cons_succ, e1]
    rw [this]
theorem set_same {α : Type} (l : List α) (i : Nat) (x : α) (h : l[i]? = some x) : l.set i x = l := by
  obtain ⟨hi, rfl⟩ := List.getElem?_eq_some_iff.1 h
  simp

theorem OwnSt.cells {base P g cap : Nat} {qs : List Value} {injV : Value} {s : St} {w : World} (h : OwnSt base P g cap qs injV s w) (i : Nat) (hi : i < s.ws.length) :
    w.cell? ⟨g, i * 4, none⟩ = some (qs.getD i undef) ∧ w.cell? ⟨g, i * 4 + 1, none⟩ = some (.int .i64 (s.ws.getD i wk0).ph) ∧ w.cell? ⟨g, i * 4 + 2, none⟩ = some (.int .i64 (s.ws.getD i wk0).tk) ∧ w.cell? ⟨g, i * 4 + 3, none⟩ = some (.int .i64 (s.ws.getD i wk0).lk) := by
  obtain ⟨h1, h2, h3, h4⟩ := wcells_at qs s.ws h.lq i hi
  have hc : ∀ j u, (wcells qs s.ws)[j]? = some u → w.cell? ⟨g, j, none⟩ = some u := by
    intro j u hu
    have hlt := (List.getElem?_eq_some_iff.1 hu).1
    rw [h.row.1] at hlt
    have := h.row.cellAt j hlt
    rw [this, hu]
  exact ⟨hc _ _ h1, hc _ _ h2, hc _ _ h3, hc _ _ h4⟩
theorem OwnSt.free {base P g cap : Nat} {qs : List Value} {injV : Value} {s : St} {w : World} (h : OwnSt base P g cap qs injV s w) (j : Nat) : w.frozen? ⟨g, j, none⟩ = false := h.row.frozenAt j
theorem OwnSt.boxed {base P g cap : Nat} {qs : List Value} {injV : Value} {s : St} {w : World} (h : OwnSt base P g cap qs injV s w) :
    w.cell? ⟨P, 0, none⟩ = some (.slice (some ⟨g, 0, none⟩) s.ws.length cap) ∧ w.cell? ⟨P, 1, none⟩ = some injV ∧ ∀ j, w.frozen? ⟨P, j, none⟩ = false := by
  refine ⟨?_, ?_, fun j => ?_⟩
  · simp [World.cell?, h.box]
  · simp [World.cell?, h.box]
  · simp [World.frozen?, h.box]
theorem OwnSt.ne {base P g cap : Nat} {qs : List Value} {injV : Value} {s : St} {w : World} (h : OwnSt base P g cap qs injV s w) : P ≠ g := by
  obtain ⟨_, cur, hg⟩ := h.block
  intro e
  subst e
  have := h.box
  rw [hg] at this
  simp at this

/-- One cell of a worker is written: the general law. -/
theorem OwnSt.write {base P g cap : Nat} {qs qs' : List Value} {injV : Value} {s s' : St} {w : World} (h : OwnSt base P g cap qs injV s w) (j : Nat) (u : Value)
    (hl : s'.ws.length = s.ws.length) (hq : qs'.length = qs.length) (hi : s'.inj = s.inj) (hc : wcells qs' s'.ws = (wcells qs s.ws).set j u)
    (hqu : ∀ i, i < s.ws.length → TyI (base ≤ ·) w (qs'.getD i undef) (s'.ws.getD i wk0).q) : OwnSt base P g cap qs' injV s' (w.setCell ⟨g, j, none⟩ u) ∧ Frm base P g w (w.setCell ⟨g, j, none⟩ u) := by
  obtain ⟨hbg, cur, hg⟩ := h.block
  have hne := h.ne
  refine ⟨⟨h.bP, ?_, ?_, by rw [hl, hq]; exact h.lq, ?_, fun i hi => ?_⟩, Frm.set w hbg (Or.inr rfl) _⟩
  · rw [Below.heap_setCell w _ u P hne, hl]; exact h.box
  · rw [hl, hc]; exact (h.row.stored j u).1
  · rw [hi]; exact h.inj.setCell u hg (by decide)
  · exact (hqu i (by omega)).setCell u hg (by decide)

theorem getD_set {α : Type} (l : List α) (i j : Nat) (x d : α) : (l.set i x).getD j d = if j = i ∧ i < l.length then x else l.getD j d := by
  simp only [List.getD, List.getElem?_set]
  by_cases h : i = j
  · subst h
    by_cases hi : i < l.length
    · simp [hi]
    · simp [hi]
  · have h' : ¬ j = i := fun e => h e.symm
    simp [h, h']

theorem OwnSt.setPh {base P g cap : Nat} {qs : List Value} {injV : Value} {s : St} {w : World} (h : OwnSt base P g cap qs injV s w) (i : Nat) (hi : i < s.ws.length) (x : Int) :
    OwnSt base P g cap qs injV (upd s i fun k => { k with ph := x }) (w.setCell ⟨g, i * 4 + 1, none⟩ (.int .i64 x)) ∧ Frm base P g w (w.setCell ⟨g, i * 4 + 1, none⟩ (.int .i64 x)) := by
  refine h.write _ _ (upd_len _ _ _) rfl rfl (wcells_setPh qs s.ws i h.lq hi x) ?_
  intro m hm
  have : ((upd s i fun k => { k with ph := x }).ws.getD m wk0).q = (s.ws.getD m wk0).q := by
    simp only [upd, getD_set]
    split
    · rename_i hh; rw [hh.1]
    · rfl
  rw [this]
  exact h.qu m hm
theorem OwnSt.setTk {base P g cap : Nat} {qs : List Value} {injV : Value} {s : St} {w : World} (h : OwnSt base P g cap qs injV s w) (i : Nat) (hi : i < s.ws.length) (x : Int) :
    OwnSt base P g cap qs injV (upd s i fun k => { k with tk := x }) (w.setCell ⟨g, i * 4 + 2, none⟩ (.int .i64 x)) ∧ Frm base P g w (w.setCell ⟨g, i * 4 + 2, none⟩ (.int .i64 x)) := by
  refine h.write _ _ (upd_len _ _ _) rfl rfl (wcells_setTk qs s.ws i h.lq hi x) ?_
  intro m hm
  have : ((upd s i fun k => { k with tk := x }).ws.getD m wk0).q = (s.ws.getD m wk0).q := by
    simp only [upd, getD_set]
    split
    · rename_i hh; rw [hh.1]
    · rfl
  rw [this]
  exact h.qu m hm
theorem OwnSt.setLk {base P g cap : Nat} {qs : List Value} {injV : Value} {s : St} {w : World} (h : OwnSt base P g cap qs injV s w) (i : Nat) (hi : i < s.ws.length) (x : Int) :
    OwnSt base P g cap qs injV (upd s i fun k => { k with lk := x }) (w.setCell ⟨g, i * 4 + 3, none⟩ (.int .i64 x)) ∧ Frm base P g w (w.setCell ⟨g, i * 4 + 3, none⟩ (.int .i64 x)) := by
  refine h.write _ _ (upd_len _ _ _) rfl rfl (wcells_setLk qs s.ws i h.lq hi x) ?_
  intro m hm
  have : ((upd s i fun k => { k with lk := x }).ws.getD m wk0).q = (s.ws.getD m wk0).q := by
    simp only [upd, getD_set]
    split
    · rename_i hh; rw [hh.1]
    · rfl
  rw [this]
  exact h.qu m hm
theorem OwnSt.setQ {base P g cap : Nat} {qs : List Value} {injV : Value} {s : St} {w : World} (h : OwnSt base P g cap qs injV s w) (i : Nat) (hi : i < s.ws.length) (qv : Value) (q : List Int) (hq : TyI (base ≤ ·) w qv q) :
    OwnSt base P g cap (qs.set i qv) injV (upd s i fun k => { k with q := q }) (w.setCell ⟨g, i * 4, none⟩ qv) ∧ Frm base P g w (w.setCell ⟨g, i * 4, none⟩ qv) := by
  refine h.write _ _ (upd_len _ _ _) (by simp) rfl (wcells_setQ qs s.ws i h.lq hi qv q) ?_
  intro m hm
  simp only [upd, getD_set, h.lq, hi, and_true]
  by_cases e : m = i
  · subst e; simpa using hq
  · simpa [e] using h.qu m hm
theorem OwnSt.setInj {base P g cap : Nat} {qs : List Value} {injV : Value} {s : St} {w : World} (h : OwnSt base P g cap qs injV s w) (qv : Value) (q : List Int) (hq : TyI (base ≤ ·) w qv q) :
    OwnSt base P g cap qs qv { s with inj := q } (w.setCell ⟨P, 1, none⟩ qv) ∧ Frm base P g w (w.setCell ⟨P, 1, none⟩ qv) := by
  obtain ⟨hbg, cur, hg⟩ := h.block
  refine ⟨⟨h.bP, ?_, ?_, h.lq, hq.setCell qv h.box (by decide), fun i hi => (h.qu i hi).setCell qv h.box (by decide)⟩, Frm.set w h.bP (Or.inl rfl) _⟩
  · have := heap_setCell_same w P 1 _ 26 qv h.box
    rw [this]
    simp
  · refine ownsRow_setCell_other h.row ?_ _
    simp only [Value.ownBlock, ne_eq, Option.some.injEq]
    exact fun e => h.ne e.symm
end Go.Proofs.Ytjnlfibcpkobaaa
