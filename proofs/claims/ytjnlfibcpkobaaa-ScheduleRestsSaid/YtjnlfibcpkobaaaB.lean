/- Slices of workers; slices.IndexFunc and ContainsFunc over them, with whatever function. -/
import Derived.Test.YtjnlfibcpkobaaaA
namespace Go.Proofs.Ytjnlfibcpkobaaa
open Go.RowKit Go.Sl Go.Sched

def wk0 : Wk := ⟨[], 0, 0, 0⟩
/-- The cells of a row of workers: queues' values, and the rest. -/
def wcells : List Value → List Wk → List Value
  | qv :: qs, k :: ws => qv :: .int .i64 k.ph :: .int .i64 k.tk :: .int .i64 k.lk :: wcells qs ws
  | _, _ => []
theorem wcells_length : ∀ (qs : List Value) (ws : List Wk), qs.length = ws.length → (wcells qs ws).length = ws.length * 4
  | [], [], _ => rfl
  | _ :: qs, _ :: ws, h => by
    simp only [wcells, List.length_cons]
    have := wcells_length qs ws (by simpa using h)
    omega
theorem wcells_at : ∀ (qs : List Value) (ws : List Wk), qs.length = ws.length → ∀ i, i < ws.length →
    (wcells qs ws)[i * 4]? = some (qs.getD i undef) ∧ (wcells qs ws)[i * 4 + 1]? = some (.int .i64 (ws.getD i wk0).ph) ∧
    (wcells qs ws)[i * 4 + 2]? = some (.int .i64 (ws.getD i wk0).tk) ∧ (wcells qs ws)[i * 4 + 3]? = some (.int .i64 (ws.getD i wk0).lk)
  | [], [], _, i, hi => by simp at hi
  | q :: qs, k :: ws, h, i, hi => by
    cases i with
    | zero => simp [wcells]
    | succ i =>
      have := wcells_at qs ws (by simpa using h) i (by simpa using hi)
      rw [show (i + 1) * 4 = i * 4 + 4 by omega]
      simpa [wcells] using this

/-- A slice of workers. -/
def RWs (w : World) (v : Value) (qs : List Value) (ws : List Wk) : Prop := qs.length = ws.length ∧ SlV w v ws.length 4 (wcells qs ws)
theorem RWs.below {w w' : World} {v : Value} {qs : List Value} {ws : List Wk} (h : RWs w v qs ws) (hb : Below w.heap.size w w') : RWs w' v qs ws := ⟨h.1, h.2.below hb⟩
theorem RWs.cases {w : World} {v : Value} {qs : List Value} {ws : List Wk} (h : RWs w v qs ws) : (ws = [] ∧ ∃ a cap, v = .slice a 0 cap) ∨
    (0 < ws.length ∧ ∃ b o cap, v = .slice (some ⟨b, o, none⟩) ws.length cap ∧ ∀ i, i < ws.length →
      w.cell? ⟨b, o + i * 4, none⟩ = some (qs.getD i undef) ∧ w.cell? ⟨b, o + i * 4 + 1, none⟩ = some (.int .i64 (ws.getD i wk0).ph) ∧
      w.cell? ⟨b, o + i * 4 + 2, none⟩ = some (.int .i64 (ws.getD i wk0).tk) ∧ w.cell? ⟨b, o + i * 4 + 3, none⟩ = some (.int .i64 (ws.getD i wk0).lk)) := by
  obtain ⟨hl, _, ⟨h0, rfl | ⟨a, c, rfl⟩⟩ | ⟨h0, b, o, c, rfl, hc⟩⟩ := h
  · exact Or.inl ⟨List.eq_nil_of_length_eq_zero h0, none, 0, rfl⟩
  · exact Or.inl ⟨List.eq_nil_of_length_eq_zero h0, some a, c, rfl⟩
  · refine Or.inr ⟨h0, b, o, c, rfl, fun i hi => ?_⟩
    obtain ⟨h1, h2, h3, h4⟩ := wcells_at qs ws hl i hi
    exact ⟨hc _ _ h1, hc _ _ h2, hc _ _ h3, hc _ _ h4⟩
theorem RWs.form {w : World} {v : Value} {qs : List Value} {ws : List Wk} (h : RWs w v qs ws) : ∃ a cap, v = .slice a ws.length cap := h.2.form

/-- What a function value answers of a worker's value, in whatever later world. -/
def Answers (w0 : World) (f : FuncId) (caps : Array Value) (p : Wk → Bool) : Prop :=
  ∀ (qv : Value) (k : Wk) (w : World), Below w0.heap.size w0 w → Calls Try.prog f (#[.agg #[qv, .int .i64 k.ph, .int .i64 k.tk, .int .i64 k.lk]] ++ caps) w fun e w' => e = .returned (.bool (p k)) ∧ Below w.heap.size w w'

set_option maxRecDepth 100000 in
set_option maxHeartbeats 1000000 in
theorem indexFunc_calls (v : Value) (qs : List Value) (ws : List Wk) (f : FuncId) (caps : Array Value) (p : Wk → Bool) (w : World) (h : RWs w v qs ws) (hb : ws.length ≤ 1000000) (hp : Answers w f caps p) (hcf : ∀ (args : Array Value) (w : World), (callFunc f args).run Try.prog w = .ok (.enter f args) w) :
    Calls Try.prog 58 #[v, .func (.func f) #[] caps] w fun e w' => (∃ r : Int, e = .returned (.int .i64 r) ∧ ((r = -1 ∧ ws.any p = false) ∨ (∃ k : Nat, r = k ∧ k < ws.length ∧ p (ws.getD k wk0) = true ∧ ∀ j, j < k → p (ws.getD j wk0) = false))) ∧ Below w.heap.size w w' := by
  rcases h.cases with ⟨rfl, a, c, rfl⟩ | ⟨h0, b, o, c, rfl, hc⟩
  · go_enter Try.func58, Try.ntmps58
    go_wp2
    refine wp_loop_rounds 1 ?_
    rw [rounds_succ]
    go_wp2
    go_ret
    exact ⟨⟨-1, rfl, Or.inl ⟨rfl, rfl⟩⟩, Below.refl _ _⟩
  · clear h
    generalize hn : ws.length = n at *
    have N := Lib.hid hn
    have HP := Lib.hid hp
    clear hn hp
    go_enter Try.func58, Try.ntmps58
    go_wp2
    go_loopw [8] (fun i wr => ∃ k : Nat, k ≤ n ∧ i = .int .i64 k ∧ Below w.heap.size w wr ∧ ∀ j, j < k → p (ws.getD j wk0) = false) (fun i _ => n - (intOf i).toNat)
    case atStart => exact ⟨0, Nat.zero_le _, rfl, Below.refl _ _, fun j hj => by omega⟩
    case round =>
      obtain ⟨k, hk, rfl, hbel, hne⟩ := hrel
      have A := Lib.hid hne
      clear hne
      by_cases hlt : k < n
      · obtain ⟨c0, c1, c2, c3⟩ := hc k hlt
        replace c0 := hbel.at_cell c0
        replace c1 := hbel.at_cell c1
        replace c2 := hbel.at_cell c2
        replace c3 := hbel.at_cell c3
        clear hc
        generalize hq : qs.getD k undef = qv at *
        generalize hkk : ws.getD k wk0 = kk at *
        have KK := Lib.hid hkk
        clear hq hkk
        cases hpk : p kk with
        | true =>
          go_wp2_with fail
          refine (HP.out qv kk wr hbel).mono ?_
          rintro e w1 ⟨rfl, hb1⟩
          replace hb1 := hbel.then hb1
          clear hbel c0 c1 c2 c3
          have PK := Lib.hid hpk
          go_wp2
          go_ret
          exact ⟨⟨(k : Int), rfl, Or.inr ⟨k, rfl, hlt, by rw [KK.out]; exact PK.out, A.out⟩⟩, hb1⟩
        | false =>
          go_wp2_with fail
          refine (HP.out qv kk wr hbel).mono ?_
          rintro e w1 ⟨rfl, hb1⟩
          replace hb1 := hbel.then hb1
          clear hbel c0 c1 c2 c3
          have PK := Lib.hid hpk
          go_wp2
          go_roundw
          case rel =>
            refine ⟨k + 1, by omega, by go_num, hb1, fun j hj => ?_⟩
            by_cases e : j = k
            · subst e; rw [KK.out]; exact PK.out
            · exact A.out j (by omega)
          case measure => simp [intOf]; omega
      · have hkn : k = n := by omega
        subst hkn
        clear hc
        go_wp2
        go_ret
        refine ⟨⟨-1, rfl, Or.inl ⟨rfl, ?_⟩⟩, hbel⟩
        rw [List.any_eq_false]
        intro x hx
        obtain ⟨j, hj, rfl⟩ := List.getElem_of_mem hx
        have := A.out j (by rw [N.out] at hj; exact hj)
        simpa [List.getD, hj] using this

set_option maxHeartbeats 400000 in
theorem containsFunc_calls (v : Value) (qs : List Value) (ws : List Wk) (f : FuncId) (caps : Array Value) (p : Wk → Bool) (w : World) (h : RWs w v qs ws) (hb : ws.length ≤ 1000000) (hp : Answers w f caps p) (hcf : ∀ (args : Array Value) (w : World), (callFunc f args).run Try.prog w = .ok (.enter f args) w) :
    Calls Try.prog 48 #[v, .func (.func f) #[] caps] w fun e w' => e = .returned (.bool (ws.any p)) ∧ Below w.heap.size w w' := by
  go_enter Try.func48, Try.ntmps48
  go_wp2_with fail
  refine (indexFunc_calls v qs ws f caps p w h hb hp hcf).mono ?_
  rintro e w1 ⟨⟨r, rfl, hr⟩, hb1⟩
  have hx : decide (0 ≤ r) = ws.any p := by
    rcases hr with ⟨rfl, hr⟩ | ⟨k, rfl, hk, hp, _⟩
    · rw [hr]; decide
    · rw [decide_eq_true (by omega)]
      symm
      rw [List.any_eq_true]
      exact ⟨_, List.getElem_mem hk, by simpa [List.getD, hk] using hp⟩
  have X := Lib.hid hx
  clear hx hr h hp hcf
  go_wp2
  go_ret
  exact ⟨ret_bool X.out, hb1⟩
end Go.Proofs.Ytjnlfibcpkobaaa
