/- What ticks do to many timers, as a sorted list. No program. -/
import Derived.Test.YtddajaikighjlaaPw
namespace Go.Wh
open Go.Mp

/-- A timer of the reference: as from when it was put. -/
structure Rt where
  t : Tm
  set : Int
deriving DecidableEq
/-- The wheel of a timer that was put as from a time, at another one. -/
def rpl : Nat → Int → Int → Int → Nat
  | 0, _, _, _ => 0
  | f + 1, when, frm, now => if whl (when - frm) = 0 then 0 else if now < when / pw (whl (when - frm)) * pw (whl (when - frm)) then whl (when - frm) else rpl f when (when / pw (whl (when - frm)) * pw (whl (when - frm))) now
theorem whl_small (d : Int) : ∀ k, k < 7 → d < pw k → 1 ≤ k → whl d < k := by
  refine seven ?_ ?_ ?_ ?_ ?_ ?_ ?_
  · omega
  · rw [pw1]; unfold whl; (repeat' split) <;> omega
  · rw [pw2]; unfold whl; (repeat' split) <;> omega
  · rw [pw3]; unfold whl; (repeat' split) <;> omega
  · rw [pw4]; unfold whl; (repeat' split) <;> omega
  · rw [pw5]; unfold whl; (repeat' split) <;> omega
  · rw [pw6]; unfold whl; (repeat' split) <;> omega
theorem whl_big (d : Int) : ∀ k, k < 7 → whl d = k → 1 ≤ k → pw k ≤ d := by
  refine seven ?_ ?_ ?_ ?_ ?_ ?_ ?_
  · omega
  · rw [pw1]; unfold whl; (repeat' split) <;> omega
  · rw [pw2]; unfold whl; (repeat' split) <;> omega
  · rw [pw3]; unfold whl; (repeat' split) <;> omega
  · rw [pw4]; unfold whl; (repeat' split) <;> omega
  · rw [pw5]; unfold whl; (repeat' split) <;> omega
  · rw [pw6]; unfold whl; (repeat' split) <;> omega
theorem div_mul_gt (x : Int) (k : Nat) : x < x / pw k * pw k + pw k := by
  have a := Int.mul_ediv_add_emod x (pw k)
  have c := Int.emod_lt_of_pos x (pw_pos k)
  rw [Int.mul_comm] at a
  omega
theorem div_mul_le (x : Int) (k : Nat) : x / pw k * pw k ≤ x := by
  have a := Int.mul_ediv_add_emod x (pw k)
  have c := Int.emod_nonneg x (Int.ne_of_gt (pw_pos k))
  rw [Int.mul_comm] at a
  omega
theorem rpl_put (f : Nat) (when now : Int) (h : whl (when - now) ≤ f) : rpl f when now now = whl (when - now) := by
  cases f with
  | zero => unfold rpl; omega
  | succ f =>
    unfold rpl
    split
    · omega
    · rename_i h0
      have hb := whl_big (when - now) _ (whl_lt _) rfl (by omega)
      have hg := div_mul_gt when (whl (when - now))
      rw [if_pos (by omega)]
theorem rpl_step : ∀ (f : Nat) (when frm now : Int), whl (when - frm) ≤ f → frm ≤ when → (rpl f when frm now = 0 → rpl f when frm (now + 1) = 0) ∧
    ∀ k, 1 ≤ k → rpl f when frm now = k → now < when / pw k * pw k ∧ (now + 1 < when / pw k * pw k → rpl f when frm (now + 1) = k) ∧ (now + 1 = when / pw k * pw k → rpl f when frm (now + 1) = whl (when - (now + 1)))
  | 0, when, frm, now, h, hf => ⟨fun _ => rfl, fun k hk e => by unfold rpl at e; omega⟩
  | f + 1, when, frm, now, h, hf => by
    unfold rpl
    by_cases h0 : whl (when - frm) = 0
    · rw [if_pos h0, if_pos h0]
      exact ⟨fun _ => rfl, fun k hk e => by omega⟩
    · rw [if_neg h0, if_neg h0]
      obtain ⟨k0, hk0⟩ : ∃ k0, whl (when - frm) = k0 := ⟨_, rfl⟩
      have hlt := whl_lt (when - frm)
      rw [hk0] at h h0 hlt ⊢
      have hle := div_mul_le when k0
      have hgt := div_mul_gt when k0
      have hsm := whl_small (when - when / pw k0 * pw k0) k0 hlt (by omega) (by omega)
      by_cases h1 : now < when / pw k0 * pw k0
      · rw [if_pos h1]
        refine ⟨fun e => absurd e h0, fun k hk e => ?_⟩
        subst e
        refine ⟨h1, fun h2 => by rw [if_pos h2], fun h2 => ?_⟩
        rw [if_neg (by omega), ← h2]
        rw [← h2] at hsm
        exact rpl_put f when (now + 1) (by omega)
      · rw [if_neg h1, if_neg (by omega)]
        exact rpl_step f when _ now (by omega) hle

/-- Put in its place. -/
def addR : List Rt → Rt → List Rt
  | [], e => [e]
  | u :: l, e => if u.t.when < e.t.when ∨ (u.t.when = e.t.when ∧ u.t.ord < e.t.ord) then u :: addR l e else e :: u :: l
theorem addR_perm (e : Rt) : ∀ l, (addR l e).Perm (e :: l)
  | [] => List.Perm.refl _
  | u :: l => by
    unfold addR
    split
    · exact ((addR_perm e l).cons u).trans (List.Perm.swap e u l)
    · exact List.Perm.refl _
structure Srt (L : List Rt) : Prop where
  sorted : L.Pairwise (fun a b => before a.t b.t = true)
  ids : (L.map (·.t.id)).Nodup
  ords : (L.map (·.t.ord)).Nodup
theorem before_of {a b : Tm} : before a b = true ↔ a.when < b.when ∨ (a.when = b.when ∧ a.ord ≤ b.ord) := by
  unfold before
  simp only [decide_eq_true_eq, beq_iff_eq, Bool.or_eq_true, Bool.and_eq_true]
theorem addR_sorted {e : Rt} : ∀ {l : List Rt}, l.Pairwise (fun a b => before a.t b.t = true) → (addR l e).Pairwise (fun a b => before a.t b.t = true)
  | [], _ => by simp [addR]
  | u :: l, h => by
    obtain ⟨h1, h2⟩ := List.pairwise_cons.1 h
    unfold addR
    split
    · rename_i hc
      refine List.pairwise_cons.2 ⟨fun x hx => ?_, addR_sorted h2⟩
      rcases List.mem_cons.1 ((addR_perm e l).mem_iff.1 hx) with rfl | hx
      · rw [before_of]; omega
      · exact h1 x hx
    · rename_i hc
      have hu : before e.t u.t = true := by rw [before_of]; omega
      refine List.pairwise_cons.2 ⟨fun x hx => ?_, h⟩
      rcases List.mem_cons.1 hx with rfl | hx
      · exact hu
      · exact before_trans hu (h1 x hx)
theorem Srt.add {L : List Rt} (h : Srt L) {e : Rt} (hi : e.t.id ∉ L.map (·.t.id)) (ho : e.t.ord ∉ L.map (·.t.ord)) : Srt (addR L e) := by
  refine ⟨addR_sorted h.sorted, ?_, ?_⟩
  · rw [((addR_perm e L).map _).nodup_iff, List.map_cons, List.nodup_cons]
    exact ⟨hi, h.ids⟩
  · rw [((addR_perm e L).map _).nodup_iff, List.map_cons, List.nodup_cons]
    exact ⟨ho, h.ords⟩
def rt1 (e : Rt) : Rt := ⟨{ e.t with when := e.t.when + e.t.iv }, e.t.when⟩
def goesOn (t : Tm) : Prop := 0 < t.iv ∧ t.when + t.iv ≤ 1099511627776
instance (t : Tm) : Decidable (goesOn t) := by unfold goesOn; exact inferInstance
def nextR (e : Rt) (L : List Rt) : List Rt := if goesOn e.t then addR L (rt1 e) else L
def runR : Nat → List Rt → List (Int × Int) → List Rt × List (Int × Int)
  | 0, L, out => (L, out)
  | _ + 1, [], out => ([], out)
  | n + 1, e :: L, out => runR n (nextR e L) (out ++ [(e.t.id, e.t.when)])
theorem runR_add : ∀ (m n : Nat) (L : List Rt) (out : List (Int × Int)), runR (m + n) L out = runR n (runR m L out).1 (runR m L out).2
  | 0, n, L, out => by rw [Nat.zero_add]; rfl
  | m + 1, 0, [], out => rfl
  | m + 1, n + 1, [], out => by rw [show m + 1 + (n + 1) = (m + (n + 1)) + 1 by omega]; rfl
  | m + 1, n, e :: L, out => by rw [show m + 1 + n = (m + n) + 1 by omega]; exact runR_add m n _ _
theorem Srt.tail {e : Rt} {L : List Rt} (h : Srt (e :: L)) : Srt L := ⟨(List.pairwise_cons.1 h.sorted).2, (List.nodup_cons.1 h.ids).2, (List.nodup_cons.1 h.ords).2⟩
theorem Srt.next {e : Rt} {L : List Rt} (h : Srt (e :: L)) : Srt (nextR e L) := by
  unfold nextR
  split
  · exact h.tail.add (List.nodup_cons.1 h.ids).1 (List.nodup_cons.1 h.ords).1
  · exact h.tail
theorem mem_next {e u : Rt} {L : List Rt} : u ∈ nextR e L ↔ u ∈ L ∨ (goesOn e.t ∧ u = rt1 e) := by
  unfold nextR
  split
  · rename_i hc
    rw [(addR_perm _ _).mem_iff, List.mem_cons]
    constructor
    · rintro (h | h)
      · exact Or.inr ⟨hc, h⟩
      · exact Or.inl h
    · rintro (h | ⟨-, h⟩)
      · exact Or.inr h
      · exact Or.inl h
  · rename_i hc
    constructor
    · exact Or.inl
    · rintro (h | ⟨h, -⟩)
      · exact h
      · exact absurd h hc
theorem addR_append {e : Rt} : ∀ {A B : List Rt}, (∀ u ∈ A, u.t.when < e.t.when) → addR (A ++ B) e = A ++ addR B e
  | [], _, _ => rfl
  | u :: A, B, h => by
    rw [List.cons_append, List.cons_append]
    conv => lhs; unfold addR
    rw [if_pos (Or.inl (h u (by simp))), addR_append fun x hx => h x (by simp [hx])]
/-- All that are due at one time fire. -/
theorem run_block {c : Int} : ∀ (A B : List Rt) (out : List (Int × Int)), Srt (A ++ B) → (∀ e ∈ A, e.t.when = c) → (∀ e ∈ B, c < e.t.when) →
    ∃ M, runR A.length (A ++ B) out = (M, out ++ A.map fun e => (e.t.id, e.t.when)) ∧ Srt M ∧ (∀ e ∈ M, c < e.t.when) ∧ ∀ u, u ∈ M ↔ u ∈ B ∨ ∃ e ∈ A, goesOn e.t ∧ u = rt1 e
  | [], B, out, h, _, hB => ⟨B, by simp [runR], h, hB, fun u => by simp⟩
  | e :: A, B, out, h, hA, hB => by
    have hw := hA e (by simp)
    have hn : nextR e (A ++ B) = A ++ nextR e B := by
      unfold nextR
      split
      · rename_i hc
        exact addR_append fun u hu => by
          have := hA u (by simp [hu])
          show u.t.when < e.t.when + e.t.iv
          have := hc.1
          omega
      · rfl
    have hs : Srt (A ++ nextR e B) := by rw [← hn]; exact Srt.next h
    obtain ⟨M, h1, h2, h3, h4⟩ := run_block A (nextR e B) (out ++ [(e.t.id, e.t.when)]) hs (fun u hu => hA u (by simp [hu])) (fun u hu => by
      rcases mem_next.1 hu with hu | ⟨hc, rfl⟩
      · exact hB u hu
      · show c < e.t.when + e.t.iv
        have := hc.1
        omega)
    refine ⟨M, ?_, h2, h3, fun u => ?_⟩
    · show runR A.length (nextR e (A ++ B)) _ = _
      rw [hn, h1]
      simp
    · rw [h4, mem_next]
      constructor
      · rintro ((h | ⟨hc, h⟩) | ⟨x, hx, h⟩)
        · exact Or.inl h
        · exact Or.inr ⟨e, by simp, hc, h⟩
        · exact Or.inr ⟨x, by simp [hx], h⟩
      · rintro (hu | ⟨x, hx, hc, hu⟩)
        · exact Or.inl (Or.inl hu)
        · rcases List.mem_cons.1 hx with rfl | hx
          · exact Or.inl (Or.inr ⟨hc, hu⟩)
          · exact Or.inr ⟨x, hx, hc, hu⟩
/-- A sorted list falls into those that are due and the others. -/
theorem split_due (c : Int) : ∀ (L : List Rt), Srt L → (∀ e ∈ L, c ≤ e.t.when) → ∃ A B, L = A ++ B ∧ (∀ e ∈ A, e.t.when = c) ∧ ∀ e ∈ B, c < e.t.when
  | [], _, _ => ⟨[], [], rfl, by simp, by simp⟩
  | e :: L, h, hc => by
    by_cases he : e.t.when = c
    · obtain ⟨A, B, rfl, hA, hB⟩ := split_due c L h.tail (fun u hu => hc u (by simp [hu]))
      refine ⟨e :: A, B, rfl, fun u hu => ?_, hB⟩
      rcases List.mem_cons.1 hu with rfl | hu
      · exact he
      · exact hA u hu
    · refine ⟨[], e :: L, rfl, by simp, fun u hu => ?_⟩
      have h1 := hc e (by simp)
      rcases List.mem_cons.1 hu with rfl | hu
      · omega
      · have := (List.pairwise_cons.1 h.sorted).1 u hu
        rw [before_of] at this
        omega
end Go.Wh
