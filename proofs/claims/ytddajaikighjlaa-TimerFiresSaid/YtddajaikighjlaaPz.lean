/- The reference's operations as plain data, and that the wheels do the same. No program. -/
import Derived.Test.YtddajaikighjlaaPy
import Derived.Test.YtddajaikighjlaaNx
namespace Go.Wh
open Go.Mp Go.Proofs.Ytddajaikighjlaa

theorem ticks_cpl : ∀ (n : Nat) (W : Wh) (L : List Rt) (out : List (Int × Int)), Cpl W L → W.now + (n : Int) ≤ 1099511627776 →
    ∃ m M, runR m L out = (M, (ticks n W out).2) ∧ Cpl (ticks n W out).1 M ∧ Steps m L (W.now + n)
  | 0, W, L, out, h, _ => ⟨0, L, rfl, h, trivial⟩
  | n + 1, W, L, out, h, hn => by
    obtain ⟨m1, M1, a1, a2, a3⟩ := tick_cpl h out (by omega)
    have e1 := (tick_ok h.ok out (by omega)).2
    obtain ⟨m2, M2, b1, b2, b3⟩ := ticks_cpl n (tickS W out).1 M1 (tickS W out).2 a2 (by rw [e1]; omega)
    refine ⟨m1 + m2, M2, ?_, b2, ?_⟩
    · rw [runR_add, a1]
      exact b1
    · refine Steps.add (out := out) (a3 _ (by omega)) ?_
      rw [a1]
      rw [e1] at b3
      rw [show W.now + ((n + 1 : Nat) : Int) = W.now + 1 + (n : Int) by omega]
      exact b3
theorem tick_ord {W : Wh} (h : Ok W) (out : List (Int × Int)) (hn : W.now + 1 ≤ 1099511627776) : (tickS W out).1.ord = W.ord := by
  have hb := h.inv.now
  have i1 : Inv { W with now := W.now + 1 } := now_inv h.inv _ (by omega)
  obtain ⟨W2, hW2⟩ : ∃ W2, W2 = (if (W.now + 1) % 64 = 0 then cascS { W with now := W.now + 1 } (topOf (W.now + 1)) else { W with now := W.now + 1 }) := ⟨_, rfl⟩
  have h2 : Inv W2 ∧ W2.ord = W.ord := by
    rw [hW2]
    split
    · obtain ⟨a1, -, -, a4⟩ := casc_inv (topOf (W.now + 1)) { W with now := W.now + 1 } (top_lt _) i1
      exact ⟨a1, a4⟩
    · exact ⟨i1, rfl⟩
  have e : tickS W out = fireS W2 out (dueS W2 (slotOf 0 W2.now)) := by rw [hW2]; rfl
  rw [e, fire_eq]
  have hs : slotOf 0 W2.now < 448 := by have := slot_lt 0 W2.now; omega
  exact (fired_inv (dueS W2 (slotOf 0 W2.now)) W2 h2.1 (fun t ht => due_mem h2.1 hs ht) (due_ids h2.1 hs)).2.2.2.2.trans h2.2
theorem ticks_ord : ∀ (n : Nat) (W : Wh) (out : List (Int × Int)), Ok W → W.now + (n : Int) ≤ 1099511627776 → (ticks n W out).1.ord = W.ord
  | 0, _, _, _, _ => rfl
  | n + 1, W, out, h, hn => by
    have e1 := tick_ok h out (by omega)
    exact (ticks_ord n (tickS W out).1 (tickS W out).2 e1.1 (by rw [e1.2]; omega)).trans (tick_ord h out (by omega))
def cntR (u : Int) (L : List Rt) : Int := (L.map fun e => cnt u e.t).sum
theorem sum_perm : ∀ {l l' : List Int}, l.Perm l' → l.sum = l'.sum := fun h => by
  induction h with
  | nil => rfl
  | cons x _ ih => simp [ih]
  | swap x y l => simp only [List.sum_cons]; omega
  | trans _ _ ih1 ih2 => rw [ih1, ih2]
theorem cnt_step {u : Int} {e : Rt} (h : e.t.when ≤ u) (hu : u ≤ 1099511627776) (hi : 0 ≤ e.t.iv) : cnt u e.t = 1 + (if goesOn e.t then cnt u (rt1 e).t else 0) := by
  unfold cnt rt1 goesOn
  simp only
  rw [if_neg (by omega)]
  by_cases h0 : e.t.iv = 0
  · rw [if_pos h0, if_neg (by omega)]
    rfl
  · rw [if_neg h0]
    by_cases h1 : u < e.t.when + e.t.iv
    · have : (u - e.t.when) / e.t.iv = 0 := Int.ediv_eq_zero_of_lt (by omega) (by omega)
      rw [this]
      simp [h1]
    · rw [if_pos (by omega), if_neg h1, if_neg h0]
      have : (u - e.t.when) = (u - (e.t.when + e.t.iv)) + e.t.iv * 1 := by omega
      rw [this, Int.add_mul_ediv_left _ _ h0]
      omega
theorem cntR_next {u : Int} {e : Rt} {L : List Rt} (h : e.t.when ≤ u) (hu : u ≤ 1099511627776) (hi : 0 ≤ e.t.iv) : cntR u (e :: L) = 1 + cntR u (nextR e L) := by
  show cnt u e.t + cntR u L = _
  rw [cnt_step h hu hi]
  unfold nextR
  split
  · rw [show cntR u (addR L (rt1 e)) = cntR u (rt1 e :: L) from sum_perm ((addR_perm (rt1 e) L).map _)]
    show _ = 1 + (cnt u (rt1 e).t + cntR u L)
    omega
  · omega
theorem iv_next {e : Rt} {L : List Rt} (hi : ∀ x ∈ e :: L, 0 ≤ x.t.iv) : ∀ x ∈ nextR e L, 0 ≤ x.t.iv := by
  intro x hx
  rcases mem_next.1 hx with hx | ⟨-, rfl⟩
  · exact hi x (by simp [hx])
  · exact hi e (by simp)
theorem steps_cnt {u : Int} (hu : u ≤ 1099511627776) : ∀ (n : Nat) (L : List Rt) (out : List (Int × Int)), Steps n L u → (∀ e ∈ L, 0 ≤ e.t.iv) → cntR u L = n + cntR u (runR n L out).1
  | 0, L, out, _, _ => by simp [runR]
  | n + 1, [], out, h, _ => h.elim
  | n + 1, e :: L, out, ⟨h1, h2⟩, hi => by
    rw [cntR_next h1 hu (hi e (by simp)), steps_cnt hu n (nextR e L) (out ++ [(e.t.id, e.t.when)]) h2 (iv_next hi)]
    show _ = _ + cntR u (runR n (nextR e L) (out ++ [(e.t.id, e.t.when)])).1
    push_cast
    omega
theorem cntR_none {u : Int} : ∀ (L : List Rt), (∀ e ∈ L, u < e.t.when) → cntR u L = 0
  | [], _ => rfl
  | e :: L, h => by
    show cnt u e.t + cntR u L = 0
    rw [cntR_none L fun x hx => h x (by simp [hx])]
    unfold cnt
    rw [if_pos (h e (by simp))]
    rfl
theorem Cpl.perm {W : Wh} {L : List Rt} (h : Cpl W L) : (W.tm.map Prod.snd).Perm (L.map (·.t)) := by
  have hk := h.ok.inv.keys
  refine (List.perm_ext_iff_of_nodup ?_ ?_).2 fun t => ?_
  · have h2 : ((W.tm.map Prod.snd).map Tm.ord).Nodup := by rw [List.map_map]; exact h.ok.inv.ords
    exact List.Pairwise.of_map _ (fun _ _ hne e => hne (by rw [e])) h2
  · have h2 : ((L.map (·.t)).map Tm.id).Nodup := by rw [List.map_map]; exact h.srt.ids
    exact List.Pairwise.of_map _ (fun _ _ hne e => hne (by rw [e])) h2
  · constructor
    · intro ht
      obtain ⟨p, hp, rfl⟩ := List.mem_map.1 ht
      obtain ⟨e, he, e1⟩ := (h.mem p).1 hp
      rw [e1]
      exact List.mem_map.2 ⟨e, he, rfl⟩
    · intro ht
      obtain ⟨e, he, rfl⟩ := List.mem_map.1 ht
      exact List.mem_map.2 ⟨_, h.tm he, rfl⟩
theorem Cpl.len {W : Wh} {L : List Rt} (h : Cpl W L) : W.tm.length = L.length := by
  have := h.perm.length_eq
  simpa using this
theorem Cpl.timers {W : Wh} {L : List Rt} (h : Cpl W L) : timersS W = L.map (·.t) := by
  unfold timersS
  refine (srt_unique h.perm.symm ?_ ?_).symm
  · have := h.ok.inv.ords
    rw [List.map_map]
    exact this
  · rw [List.pairwise_map]
    exact h.srt.sorted
theorem Cpl.many {W : Wh} {L : List Rt} (h : Cpl W L) (u : Int) : manyS W u = cntR u L := by
  rw [many_cnts]
  have := sum_perm (h.perm.map (cnt u))
  unfold cnts cntR
  rw [List.map_map, List.map_map] at this
  exact this
theorem Cpl.iv {W : Wh} {L : List Rt} (h : Cpl W L) : ∀ e ∈ L, 0 ≤ e.t.iv := fun _ he => (h.ok.inv.tm _ (h.tm he)).2.2.2.1

def radvS (time : Int) (L : List Rt) (u : Int) : (List Rt × Int) × List (Int × Int) × Int :=
  if u < 0 ∨ 1099511627776 < u ∨ time + 1000000 < u then ((L, time), [], 3) else if u < time then ((L, time), [], 330) else if 5000 < cntR u L then ((L, time), [], 16)
  else (((runR (cntR u L).toNat L []).1, u), (runR (cntR u L).toNat L []).2, 0)
theorem adv_cpl {W : Wh} {L : List Rt} (h : Cpl W L) (u : Int) : (advS W u).2 = (radvS W.now L u).2 ∧ Cpl (advS W u).1 (radvS W.now L u).1.1 ∧ (advS W u).1.now = (radvS W.now L u).1.2 ∧ (advS W u).1.ord = W.ord := by
  unfold advS radvS
  rw [h.many]
  split
  · exact ⟨rfl, h, rfl, rfl⟩
  rename_i h1
  split
  · exact ⟨rfl, h, rfl, rfl⟩
  rename_i h2
  split
  · exact ⟨rfl, h, rfl, rfl⟩
  · obtain ⟨m, M, a1, a2, a3⟩ := ticks_cpl (u - W.now).toNat W L [] h (by omega)
    have hn := (ticks_ok (u - W.now).toNat W [] h.ok (by omega)).2
    have e1 : W.now + ((u - W.now).toNat : Int) = u := by omega
    rw [e1] at a3 hn
    have hc := steps_cnt (by omega) m L [] a3 h.iv
    rw [a1] at hc
    rw [cntR_none M fun e he => by have := a2.later he; rw [hn] at this; exact this] at hc
    have hm : (cntR u L).toNat = m := by omega
    simp only
    rw [hm, a1]
    exact ⟨rfl, a2, hn, ticks_ord _ _ _ h.ok (by omega)⟩
end Go.Wh
