/- Play as plain data; what its walk needs. -/
import Derived.Test.YtjnlfibcpkobaaaY
import Derived.Test.YtjnlfibcpkobaaaPl
import Derived.Test.YtjnlfibcpkobaaaPb
namespace Go.Proofs.Ytjnlfibcpkobaaa
open Go.RowKit Go.Sl Go.Sched

/-- Which worker a number of the script means. -/
def who (s : St) (x : Int) : Nat := ((x.tmod s.ws.length + s.ws.length).tmod s.ws.length).toNat
/-- What Play does. -/
def playS : St → List (Int × Int) → St × List Ev
  | s, [] => (s, [])
  | s, (x, c) :: l => if restS s then (s, []) else
      ((playS (stepS s (who s x) c).1 l).1, (if (stepS s (who s x) c).2.kind = 0 then [] else [(stepS s (who s x) c).2]) ++ (playS (stepS s (who s x) c).1 l).2)
theorem playS_rest (s : St) (l : List (Int × Int)) (h : restS s = true) : playS s l = (s, []) := by
  cases l with
  | nil => rfl
  | cons p l => unfold playS; rw [if_pos h]

def prC (p : Int × Int) : List Value := [.int .i64 p.1, .int .i64 p.2]
theorem flat2 : ∀ (l : List (Int × Int)) (k : Nat), k < l.length → (l.flatMap prC)[k * 2]? = some (.int .i64 (l.getD k (0, 0)).1) ∧ (l.flatMap prC)[k * 2 + 1]? = some (.int .i64 (l.getD k (0, 0)).2)
  | [], k, h => by simp at h
  | e :: l, 0, _ => by simp [prC]
  | e :: l, k + 1, h => by
    have := flat2 l k (by simpa using h)
    rw [show (k + 1) * 2 = k * 2 + 2 by omega]
    simpa [prC] using this
theorem flat2_one (l : List (Int × Int)) : ∀ u ∈ l.flatMap prC, u.oneCell' = true := by
  intro u hu
  rw [List.mem_flatMap] at hu
  obtain ⟨e, _, hu⟩ := hu
  simp only [prC, List.mem_cons, List.not_mem_nil, or_false] at hu
  rcases hu with rfl | rfl <;> rfl
/-- A script. -/
def SlP (w : World) (v : Value) (l : List (Int × Int)) : Prop := SlV w v l.length 2 (l.flatMap prC)
theorem SlP.below {w w' : World} {v : Value} {l : List (Int × Int)} (h : SlP w v l) (hb : Below w.heap.size w w') : SlP w' v l := SlV.below h hb
theorem SlP.at {w : World} {v : Value} {l : List (Int × Int)} (h : SlP w v l) (h0 : 0 < l.length) : ∃ b o c, v = .slice (some ⟨b, o, none⟩) l.length c ∧ ∀ k, k < l.length →
    w.cell? ⟨b, o + k * 2, none⟩ = some (.int .i64 (l.getD k (0, 0)).1) ∧ w.cell? ⟨b, o + k * 2 + 1, none⟩ = some (.int .i64 (l.getD k (0, 0)).2) := by
  rcases h.2 with ⟨h1, _⟩ | ⟨_, b, o, c, rfl, hc⟩
  · omega
  · refine ⟨b, o, c, rfl, fun k hk => ?_⟩
    obtain ⟨h1, h2⟩ := flat2 l k hk
    exact ⟨hc _ _ h1, by rw [Nat.add_assoc]; exact hc _ _ h2⟩

/-- The arithmetic of a script's worker. -/
theorem who_facts (s : St) (x : Int) (h0 : 0 < s.ws.length) : ∃ a b : Int, x.tmod s.ws.length = a ∧ -(s.ws.length : Int) < a ∧ a < s.ws.length ∧ (a + s.ws.length).tmod s.ws.length = b ∧ b = (who s x : Int) ∧ who s x < s.ws.length := by
  have hp : (0 : Int) < (s.ws.length : Int) := by omega
  have b1 := Int.tmod_lt_of_pos x hp
  have b2 : -(s.ws.length : Int) < x.tmod s.ws.length := by
    have := Int.lt_tmod_of_pos x hp
    exact this
  have b3 : 0 ≤ (x.tmod s.ws.length + s.ws.length).tmod s.ws.length := Int.tmod_nonneg _ (by omega)
  have b4 := Int.tmod_lt_of_pos (x.tmod s.ws.length + s.ws.length) hp
  refine ⟨_, _, rfl, b2, b1, rfl, ?_, ?_⟩
  · unfold who; omega
  · unfold who; omega

theorem owns_apart {w : World} {B R sz : Nat} {e : TypeId} {v : Value} {n : Nat} {xs : List Value} {cur : Array Value} {t : TypeId} (h : w.ownsRow B e sz v n xs) (hR : w.heap[R]? = some (.cells cur t (0, 0))) (ht : t ≠ e) : v.ownBlock ≠ some R := by
  intro h2
  rcases h.2 with ⟨rfl, _⟩ | ⟨g', cap', cur', rfl, _, hg', _⟩
  · cases h2
  · cases h2
    rw [hR] at hg'
    simp only [Option.some.injEq, Obj.cells.injEq] at hg'
    exact ht hg'.2.1
/-- A row of another type stays through a step. -/
theorem owns_frm {w w' : World} {base P g B sz : Nat} {e : TypeId} {v : Value} {n : Nat} {xs : List Value} (h : w.ownsRow B e sz v n xs) (hf : Frm base P g w w') {c1 c2 : Array Value} (hP : w.heap[P]? = some (.cells c1 26 (0, 0))) (hg : w.heap[g]? = some (.cells c2 42 (0, 0)))
    (h26 : e ≠ 26) (h42 : e ≠ 42) : w'.ownsRow B e sz v n xs := by
  have n1 := owns_apart h hP (Ne.symm h26)
  have n2 := owns_apart h hg (Ne.symm h42)
  refine ⟨h.1, ?_⟩
  rcases h.2 with hn | ⟨b, cap, cur, rfl, hbg, hb, hr⟩
  · exact Or.inl hn
  · refine Or.inr ⟨b, cap, cur, rfl, hbg, ?_, hr⟩
    rw [hf.far b (Array.getElem?_eq_some_iff.1 hb).1 (fun e => n1 (by rw [e]; rfl)) (fun e => n2 (by rw [e]; rfl))]
    exact hb

theorem TyI.grown38 {A : Nat → Prop} {w w' : World} {u v : Value} {xs : List Int} {B sz n : Nat} {ys : List Value} (h : TyI A w u xs) (hv : w.ownsRow B 38 sz v n ys) (hg : w.grownBy w' v.ownBlock) : TyI A w' u xs := by
  have key : ∀ ad k c, u = .slice (some ad) k c → w'.heap[ad.block]? = w.heap[ad.block]? := by
    intro ad k c he
    obtain ⟨_, cur, hc⟩ := h.2 ad k c he
    exact hg.block _ (Array.getElem?_eq_some_iff.1 hc).1 (fun e => owns_apart hv hc (by decide) e.symm)
  refine ⟨⟨h.1.1, ?_⟩, fun ad k c he => ?_, h.3⟩
  · rcases h.1.2 with hn | ⟨h0, b, o, c, rfl, hc⟩
    · exact Or.inl hn
    · refine Or.inr ⟨h0, b, o, c, rfl, fun i y hi => ?_⟩
      have : w'.cell? ⟨b, o + i, none⟩ = w.cell? ⟨b, o + i, none⟩ := World.cell?_of_block (key ⟨b, o, none⟩ _ _ rfl)
      rw [this]
      exact hc i y hi
  · obtain ⟨hnc, cur, hc⟩ := h.2 ad k c he
    exact ⟨hnc, cur, by rw [key ad k c he]; exact hc⟩
theorem OwnSt.grown38 {base P g cap : Nat} {qs : List Value} {injV v : Value} {s : St} {w w' : World} {B sz n : Nat} {ys : List Value} (h : OwnSt base P g cap qs injV s w) (hv : w.ownsRow B 38 sz v n ys) (hg : w.grownBy w' v.ownBlock) : OwnSt base P g cap qs injV s w' := by
  obtain ⟨_, cur, hgc⟩ := h.block
  refine ⟨h.bP, ?_, ?_, h.lq, h.inj.grown38 hv hg, fun i hi => (h.qu i hi).grown38 hv hg⟩
  · rw [hg.block _ (Array.getElem?_eq_some_iff.1 h.box).1 (fun e => owns_apart hv h.box (by decide) e.symm)]
    exact h.box
  · exact h.row.kept hg (Or.inr (fun e => owns_apart hv hgc (by decide) (e.symm.trans (by simp [Value.ownBlock]))))

theorem ok_small {s : St} (h : Ok s) : small s := by
  have h1 := h.few
  have h2 := h.n64
  exact ⟨by omega, by omega⟩
theorem cells4_new (w : World) (n : Nat) (hn : w.heap.size = n) (a b c d : Value) (t : TypeId) : ∀ j u, [a, b, c, d][j]? = some u → (w.alloc (.cells #[a, b, c, d] t)).cell? ((⟨n, 0, none⟩ : Addr).add j) = some u := by
  subst hn
  intro j u hj
  have h := heap_alloc_new w (.cells #[a, b, c, d] t)
  have e : ((⟨w.heap.size, 0, none⟩ : Addr).add j) = ⟨w.heap.size, j, none⟩ := by unfold Addr.add; split <;> simp_all
  rw [e]
  rw [cell_of_row _ _ j _ t (0, 0) h]
  simpa using hj
theorem playS_step {s : St} {l : List (Int × Int)} {p : Int × Int} (h : restS s = false) : playS s (p :: l) = ((playS (stepS s (who s p.1) p.2).1 l).1, (if (stepS s (who s p.1) p.2).2.kind = 0 then [] else [(stepS s (who s p.1) p.2).2]) ++ (playS (stepS s (who s p.1) p.2).1 l).2) := by
  obtain ⟨x, c⟩ := p
  conv => lhs; unfold playS
  rw [if_neg (by rw [h]; decide)]
end Go.Proofs.Ytjnlfibcpkobaaa
