/- Wheels as plain data: right wheels stay right. No program. -/
import Derived.Test.YtddajaikighjlaaIw
namespace Go.Wh
open Go.Mp

def OB (W : Wh) : Prop := 0 ≤ W.ord ∧ ∀ p ∈ W.tm, p.2.ord < W.ord
structure Ok (W : Wh) : Prop where
  inv : Inv W
  ob : OB W
  len : W.tm.length ≤ 1000
theorem ob_take {W : Wh} (h : OB W) (id : Int) : OB (takeS W id).1 := ⟨h.1, fun p hp => h.2 p ((del_sub W.tm id).subset hp)⟩
theorem ob_put {W : Wh} (h : OB W) (hk : (W.tm.map Prod.fst).Nodup) {t : Tm} (ht : t.ord < W.ord) : OB (putS W t) := ⟨h.1, fun p hp => by
  rcases (put_mem hk _ _ p).1 hp with rfl | ⟨hp, -⟩
  · exact ht
  · exact h.2 p hp⟩
theorem ob_anew : ∀ (l : List Tm) (W : Wh), Inv W → OB W → (∀ t ∈ l, (t.id, t) ∈ W.tm) → OB (anew W l)
  | [], _, _, h, _ => h
  | t :: l, W, hi, h, hl => by
    have ht := hl t (by simp)
    obtain ⟨a1, -, a3⟩ := again_same hi ht
    exact ob_anew l _ a1 (ob_put (ob_take h t.id) (take_inv hi t.id).keys (h.2 _ ht)) (fun u hu => a3 _ (hl u (by simp [hu])))
theorem ob_casc : ∀ (k : Nat) (W : Wh), k < 7 → Inv W → OB W → OB (cascS W k)
  | 0, _, _, _, h => h
  | k + 1, W, hk, hi, h => by
    have hn : (k + 1) * 64 + slotOf (k + 1) W.now < 448 := by have := slot_lt (k + 1) W.now; omega
    obtain ⟨a1, -⟩ := anew_inv (dueS W ((k + 1) * 64 + slotOf (k + 1) W.now)) W hi (fun t ht => due_mem hi hn ht)
    exact ob_casc k _ (by omega) a1 (ob_anew _ W hi h (fun t ht => due_mem hi hn ht))
theorem ob_fired1 {W : Wh} (hi : Inv W) (h : OB W) {t : Tm} (ht : (t.id, t) ∈ W.tm) : OB (fired1 W t) := by
  unfold fired1
  split
  · exact ob_put (ob_take h t.id) (take_inv hi t.id).keys (h.2 _ ht)
  · exact ob_take h t.id
theorem ob_fired : ∀ (l : List Tm) (W : Wh), Inv W → OB W → (∀ t ∈ l, (t.id, t) ∈ W.tm) → (l.map (·.id)).Nodup → OB (firedS W l)
  | [], _, _, h, _, _ => h
  | t :: l, W, hi, h, hl, hn => by
    rw [List.map_cons, List.nodup_cons] at hn
    have hne : ∀ u ∈ l, u.id ≠ t.id := fun u hu e => hn.1 (e ▸ List.mem_map.2 ⟨u, hu, rfl⟩)
    obtain ⟨a1, -, a3, -⟩ := fired1_inv hi (hl t (by simp))
    exact ob_fired l _ a1 (ob_fired1 hi h (hl t (by simp))) (fun u hu => a3 _ (hl u (by simp [hu])) (hne u hu)) hn.2
theorem tick_ok {W : Wh} (h : Ok W) (out : List (Int × Int)) (hn : W.now + 1 ≤ 1099511627776) : Ok (tickS W out).1 ∧ (tickS W out).1.now = W.now + 1 := by
  have hb := h.inv.now
  have h1 : Ok { W with now := W.now + 1 } := ⟨now_inv h.inv _ (by omega), h.ob, h.len⟩
  have h2 : ∀ W2, W2 = (if (W.now + 1) % 64 = 0 then cascS { W with now := W.now + 1 } (topOf (W.now + 1)) else { W with now := W.now + 1 }) → Ok W2 ∧ W2.now = W.now + 1 := by
    rintro W2 rfl
    have ht : topOf (W.now + 1) < 7 := by unfold topOf; (repeat' split) <;> omega
    split
    · obtain ⟨a1, a2, a3, -⟩ := casc_inv (topOf (W.now + 1)) { W with now := W.now + 1 } ht h1.inv
      exact ⟨⟨a1, ob_casc _ _ ht h1.inv h1.ob, by rw [a2]; exact h1.len⟩, a3⟩
    · exact ⟨h1, rfl⟩
  obtain ⟨W2, hW2⟩ : ∃ W2, W2 = (if (W.now + 1) % 64 = 0 then cascS { W with now := W.now + 1 } (topOf (W.now + 1)) else { W with now := W.now + 1 }) := ⟨_, rfl⟩
  obtain ⟨b1, b2⟩ := h2 W2 hW2
  have e : tickS W out = fireS W2 out (dueS W2 (slotOf 0 W2.now)) := by rw [hW2]; rfl
  rw [e, fire_eq]
  have hs : slotOf 0 W2.now < 448 := by have := slot_lt 0 W2.now; omega
  obtain ⟨c1, c2, -, c4, -⟩ := fired_inv (dueS W2 (slotOf 0 W2.now)) W2 b1.inv (fun t ht => due_mem b1.inv hs ht) (due_ids b1.inv hs)
  exact ⟨⟨c1, ob_fired _ _ b1.inv b1.ob (fun t ht => due_mem b1.inv hs ht) (due_ids b1.inv hs), Nat.le_trans c2 b1.len⟩, c4.trans b2⟩
theorem ticks_ok : ∀ (n : Nat) (W : Wh) (out : List (Int × Int)), Ok W → W.now + (n : Int) ≤ 1099511627776 → Ok (ticks n W out).1 ∧ (ticks n W out).1.now = W.now + (n : Int)
  | 0, W, _, h, _ => ⟨h, by simp [ticks]⟩
  | n + 1, W, out, h, hn => by
    obtain ⟨a1, a2⟩ := tick_ok h out (by omega)
    obtain ⟨b1, b2⟩ := ticks_ok n (tickS W out).1 (tickS W out).2 a1 (by rw [a2]; omega)
    exact ⟨b1, by show (ticks n (tickS W out).1 (tickS W out).2).1.now = _; rw [b2, a2]; push_cast; omega⟩
theorem adv_ok {W : Wh} (h : Ok W) (u : Int) : Ok (advS W u).1 := by
  have hb := h.inv.now
  unfold advS
  split
  · exact h
  · split
    · exact h
    · split
      · exact h
      · exact (ticks_ok (u - W.now).toNat W [] h (by omega)).1
theorem set_ok {W : Wh} (h : Ok W) (id when iv : Int) : Ok (setS W id when iv).1 := by
  have hb := h.inv.now
  unfold setS
  split
  · exact h
  · split
    · exact h
    · split
      · exact h
      · split
        · exact h
        · split
          · exact h
          · rename_i h1 h2 h3 h4 h5
            have hid : id ∉ W.tm.map Prod.fst := fun hm => h3 ((get_iff h.inv.keys).2 hm)
            have hp := put_inv h.inv (t := ⟨id, when, iv, W.ord⟩) (by simp only; omega) hid (fun p hp => by have := h.ob.2 p hp; simp only; omega)
            have e : (putS W ⟨id, when, iv, W.ord⟩).tm = W.tm ++ [(id, ⟨id, when, iv, W.ord⟩)] := put_fresh _ hid
            refine ⟨ord_inv hp _, ⟨by have := h.ob.1; simp only; omega, fun p hp2 => ?_⟩, ?_⟩
            · have hp3 : p ∈ (putS W ⟨id, when, iv, W.ord⟩).tm := hp2
              rw [e] at hp3
              rcases List.mem_append.1 hp3 with hp3 | hp3
              · have := h.ob.2 p hp3
                show p.2.ord < W.ord + 1
                omega
              · rw [List.mem_singleton] at hp3
                subst hp3
                show W.ord < W.ord + 1
                omega
            · show (putS W ⟨id, when, iv, W.ord⟩).tm.length ≤ 1000
              rw [e, List.length_append]
              have := h.len
              simp only [List.length_cons, List.length_nil]
              omega
theorem cancel_ok {W : Wh} (h : Ok W) (id : Int) : Ok (cancelS W id).1 := by
  unfold cancelS
  split
  · exact ⟨take_inv h.inv id, ob_take h.ob id, Nat.le_trans (del_len_le _ _) h.len⟩
  · exact h
theorem new_ok (n : Int) (h : 0 ≤ n ∧ n ≤ 1099511627776) : Ok (newS n) := ⟨new_inv n h, ⟨Int.le_refl 0, fun p hp => absurd (show p ∈ ([] : List (Int × Tm)) from hp) (by simp)⟩, Nat.zero_le _⟩
end Go.Wh
