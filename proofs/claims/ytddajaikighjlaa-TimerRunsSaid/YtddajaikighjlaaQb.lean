/- No place bears a number below 0. No program. -/
import Derived.Test.YtddajaikighjlaaQa
namespace Go.Wh
open Go.Mp Go.Proofs.Ytddajaikighjlaa

def NP (W : Wh) : Prop := (∀ p ∈ W.tm, 0 ≤ p.1) ∧ ∀ p ∈ W.pl, 0 ≤ p.1
theorem np_put {W : Wh} (hi : Inv W) (h : NP W) {t : Tm} (ht : 0 ≤ t.id) : NP (putS W t) := by
  refine ⟨fun p hp => ?_, fun p hp => ?_⟩
  · rcases (put_mem hi.keys _ _ p).1 hp with rfl | ⟨hp, -⟩
    · exact ht
    · exact h.1 p hp
  · rcases (put_mem hi.pkeys _ _ p).1 hp with rfl | ⟨hp, -⟩
    · exact ht
    · exact h.2 p hp
theorem np_take {W : Wh} (h : NP W) (id : Int) : NP (takeS W id).1 :=
  ⟨fun p hp => h.1 p ((del_sub W.tm id).subset hp), fun p hp => h.2 p ((del_sub W.pl id).subset hp)⟩
theorem np_anew : ∀ (l : List Tm) (W : Wh), Inv W → NP W → (∀ t ∈ l, (t.id, t) ∈ W.tm) → NP (anew W l)
  | [], _, _, h, _ => h
  | t :: l, W, hi, h, hl => by
    have ht := hl t (by simp)
    obtain ⟨a1, -, a3⟩ := again_same hi ht
    exact np_anew l _ a1 (np_put (take_inv hi t.id) (np_take h t.id) (h.1 _ ht)) fun u hu => a3 _ (hl u (by simp [hu]))
theorem np_casc : ∀ (k : Nat) (W : Wh), k < 7 → Inv W → NP W → NP (cascS W k)
  | 0, _, _, _, h => h
  | k + 1, W, hk, hi, h => by
    have hn : (k + 1) * 64 + slotOf (k + 1) W.now < 448 := by have := slot_lt (k + 1) W.now; omega
    obtain ⟨a1, -⟩ := anew_inv (dueS W ((k + 1) * 64 + slotOf (k + 1) W.now)) W hi (fun t ht => due_mem hi hn ht)
    exact np_casc k _ (by omega) a1 (np_anew _ W hi h (fun t ht => due_mem hi hn ht))
theorem np_fired1 {W : Wh} (hi : Inv W) (h : NP W) {t : Tm} (ht : (t.id, t) ∈ W.tm) : NP (fired1 W t) := by
  unfold fired1
  split
  · exact np_put (take_inv hi t.id) (np_take h t.id) (h.1 _ ht)
  · exact np_take h t.id
theorem np_fired : ∀ (l : List Tm) (W : Wh), Inv W → NP W → (∀ t ∈ l, (t.id, t) ∈ W.tm) → (l.map (·.id)).Nodup → NP (firedS W l)
  | [], _, _, h, _, _ => h
  | t :: l, W, hi, h, hl, hn => by
    rw [List.map_cons, List.nodup_cons] at hn
    have hne : ∀ u ∈ l, u.id ≠ t.id := fun u hu e => hn.1 (e ▸ List.mem_map.2 ⟨u, hu, rfl⟩)
    obtain ⟨a1, -, a3, -⟩ := fired1_inv hi (hl t (by simp))
    exact np_fired l _ a1 (np_fired1 hi h (hl t (by simp))) (fun u hu => a3 _ (hl u (by simp [hu])) (hne u hu)) hn.2
theorem np_tick {W : Wh} (h : Ok W) (hp : NP W) (out : List (Int × Int)) (hn : W.now + 1 ≤ 1099511627776) : NP (tickS W out).1 := by
  have hb := h.inv.now
  have i1 : Inv { W with now := W.now + 1 } := now_inv h.inv _ (by omega)
  obtain ⟨W2, hW2⟩ : ∃ W2, W2 = (if (W.now + 1) % 64 = 0 then cascS { W with now := W.now + 1 } (topOf (W.now + 1)) else { W with now := W.now + 1 }) := ⟨_, rfl⟩
  have h2 : Inv W2 ∧ NP W2 := by
    rw [hW2]
    split
    · exact ⟨(casc_inv (topOf (W.now + 1)) { W with now := W.now + 1 } (top_lt _) i1).1, np_casc _ _ (top_lt _) i1 hp⟩
    · exact ⟨i1, hp⟩
  have e : tickS W out = fireS W2 out (dueS W2 (slotOf 0 W2.now)) := by rw [hW2]; rfl
  rw [e, fire_eq]
  have hs : slotOf 0 W2.now < 448 := by have := slot_lt 0 W2.now; omega
  exact np_fired _ W2 h2.1 h2.2 (fun t ht => due_mem h2.1 hs ht) (due_ids h2.1 hs)
theorem np_ticks : ∀ (n : Nat) (W : Wh) (out : List (Int × Int)), Ok W → NP W → W.now + (n : Int) ≤ 1099511627776 → NP (ticks n W out).1
  | 0, _, _, _, h, _ => h
  | n + 1, W, out, h, hp, hn => by
    have e1 := tick_ok h out (by omega)
    exact np_ticks n (tickS W out).1 (tickS W out).2 e1.1 (np_tick h hp out (by omega)) (by rw [e1.2]; omega)
theorem np_adv {W : Wh} (h : Ok W) (hp : NP W) (u : Int) : NP (advS W u).1 := by
  unfold advS
  split
  · exact hp
  · split
    · exact hp
    · split
      · exact hp
      · exact np_ticks _ _ _ h hp (by omega)
theorem np_set {W : Wh} (h : Ok W) (hp : NP W) (id when iv : Int) : NP (setS W id when iv).1 := by
  unfold setS
  split
  · exact hp
  · rename_i h1
    split
    · exact hp
    · split
      · exact hp
      · split
        · exact hp
        · split
          · exact hp
          · exact np_put h.inv hp (by simp only; omega)
theorem np_cancel {W : Wh} (hp : NP W) (id : Int) : NP (cancelS W id).1 := by
  unfold cancelS
  split
  · exact np_take hp id
  · exact hp
theorem np_new (n : Int) : NP (newS n) := ⟨fun p hp => absurd (show p ∈ ([] : List (Int × Tm)) from hp) (by simp), fun p hp => absurd (show p ∈ ([] : List (Int × (Int × Int))) from hp) (by simp)⟩
theorem np_slot {W : Wh} (hp : NP W) : slotS W (-1) = (0, 0, 5) := by
  have : (-1 : Int) ∉ W.pl.map Prod.fst := fun hm => by
    obtain ⟨p, h1, h2⟩ := List.mem_map.1 hm
    have := hp.2 p h1
    omega
  unfold slotS
  rw [get_not this]
  rfl
end Go.Wh
