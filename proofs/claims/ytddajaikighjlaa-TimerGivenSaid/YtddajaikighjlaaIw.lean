/- Wheels as plain data: what stays true through cascades and fires. No program. -/
import Derived.Test.YtddajaikighjlaaIv
namespace Go.Wh
open Go.Mp

theorem del_len {α : Type} {L : List (Int × α)} {x : Int} (h : x ∈ L.map Prod.fst) : (delA L x).length + 1 = L.length := by
  unfold delA
  cases hi : L.findIdx? fun p => p.1 == x with
  | none => exact absurd h (idx_nil hi)
  | some j =>
    obtain ⟨hj, -⟩ := idx_some hi
    simp only
    rw [List.length_eraseIdx, if_pos hj]
    omega
theorem del_len_le {α : Type} (L : List (Int × α)) (x : Int) : (delA L x).length ≤ L.length := (del_sub L x).length_le
theorem nodup_len : ∀ (l l' : List Int), l.Nodup → (∀ x ∈ l, x ∈ l') → l.length ≤ l'.length
  | [], _, _, _ => Nat.zero_le _
  | a :: l, l', hn, hs => by
    rw [List.nodup_cons] at hn
    have ha := hs a (by simp)
    have := nodup_len l (l'.erase a) hn.2 (fun x hx => by
      have hne : x ≠ a := fun e => hn.1 (by rw [← e]; exact hx)
      exact (List.mem_erase_of_ne hne).2 (hs x (by simp [hx])))
    rw [List.length_erase_of_mem ha] at this
    have hp : 0 < l'.length := List.length_pos_of_mem ha
    simp only [List.length_cons]
    omega
theorem slot_len {W : Wh} (h : Inv W) {n : Nat} (hn : n < 448) : (W.sl.getD n []).length ≤ W.tm.length := by
  have h1 := h.skeys n hn
  have h2 : ∀ x ∈ (W.sl.getD n []).map Prod.fst, x ∈ W.tm.map Prod.fst := by
    intro x hx
    obtain ⟨q, hq, rfl⟩ := List.mem_map.1 hx
    exact (h.sl n hn q hq).1
  have := nodup_len _ _ h1 h2
  simpa using this
theorem at_len {W : Wh} (n : Nat) : (atS W n).length = (W.sl.getD n []).length := by simp [atS]
theorem due_mem {W : Wh} (h : Inv W) {n : Nat} (hn : n < 448) {t : Tm} (ht : t ∈ dueS W n) : (t.id, t) ∈ W.tm := at_mem h hn ((srt_perm _).mem_iff.1 ht)
theorem due_ids {W : Wh} (h : Inv W) {n : Nat} (hn : n < 448) : ((dueS W n).map (·.id)).Nodup := by
  have h1 : ((atS W n).map (·.id)).Nodup := by rw [at_ids h hn]; exact h.skeys n hn
  exact ((srt_perm _).map _).nodup_iff.2 h1

/-- A timer is put in anew, as it was or later. -/
theorem again {W : Wh} (h : Inv W) {t u : Tm} (ht : (t.id, t) ∈ W.tm) (hid : u.id = t.id) (ho : u.ord = t.ord) (hu : 0 ≤ u.when ∧ u.when ≤ 1099511627776 ∧ 0 ≤ u.iv ∧ u.iv ≤ 1099511627776) :
    Inv (putS (takeS W t.id).1 u) ∧ (putS (takeS W t.id).1 u).tm.length = W.tm.length ∧ ∀ p ∈ W.tm, p.1 ≠ t.id → p ∈ (putS (takeS W t.id).1 u).tm := by
  have hg := take_gone h t.id
  have hI := take_inv h t.id
  have hm : ∀ p ∈ (takeS W t.id).1.tm, p ∈ W.tm ∧ p.1 ≠ t.id := fun p hp => (del_mem h.keys t.id p).1 hp
  have h3 : ∀ p ∈ (takeS W t.id).1.tm, p.2.ord ≠ u.ord := by
    intro p hp e
    obtain ⟨h1, h2⟩ := hm p hp
    rw [ho] at e
    have := ord_inj h h1 ht e
    exact h2 (by rw [this])
  have hfr : u.id ∉ (takeS W t.id).1.tm.map Prod.fst := by rw [hid]; exact hg
  refine ⟨put_inv hI hu hfr h3, ?_, fun p hp hne => ?_⟩
  · show (putA (takeS W t.id).1.tm u.id u).length = _
    rw [put_fresh u hfr]
    have := del_len (List.mem_map.2 ⟨_, ht, rfl⟩ : t.id ∈ W.tm.map Prod.fst)
    rw [List.length_append]
    exact this
  · show p ∈ putA (takeS W t.id).1.tm u.id u
    rw [put_fresh u hfr]
    exact List.mem_append_left _ ((del_mem h.keys t.id p).2 ⟨hp, hne⟩)
theorem again_same {W : Wh} (h : Inv W) {t : Tm} (ht : (t.id, t) ∈ W.tm) : Inv (putS (takeS W t.id).1 t) ∧ (putS (takeS W t.id).1 t).tm.length = W.tm.length ∧ ∀ p ∈ W.tm, p ∈ (putS (takeS W t.id).1 t).tm := by
  have hb := h.tm _ ht
  obtain ⟨h1, h2, h3⟩ := again h ht rfl rfl ⟨hb.2.1, hb.2.2.1, hb.2.2.2.1, hb.2.2.2.2⟩
  refine ⟨h1, h2, fun p hp => ?_⟩
  by_cases e : p.1 = t.id
  · have : p = (t.id, t) := by
      obtain ⟨p1, p2⟩ := p
      simp only at e
      subst e
      rw [key_inj h.keys hp ht]
    rw [this]
    have hi := take_inv h t.id
    exact (put_mem hi.keys _ _ _).2 (Or.inl rfl)
  · exact h3 p hp e
theorem anew_append : ∀ (l l' : List Tm) (W : Wh), anew W (l ++ l') = anew (anew W l) l'
  | [], _, _ => rfl
  | _ :: l, l', _ => anew_append l l' _
theorem anew_one (W : Wh) (l : List Tm) (t : Tm) : anew W (l ++ [t]) = putS (takeS (anew W l) t.id).1 t := by rw [anew_append]; rfl
theorem anew_inv : ∀ (l : List Tm) (W : Wh), Inv W → (∀ t ∈ l, (t.id, t) ∈ W.tm) → Inv (anew W l) ∧ (anew W l).tm.length = W.tm.length ∧ (∀ p ∈ W.tm, p ∈ (anew W l).tm) ∧ (anew W l).now = W.now ∧ (anew W l).ord = W.ord
  | [], W, h, _ => ⟨h, rfl, fun _ h => h, rfl, rfl⟩
  | t :: l, W, h, hl => by
    obtain ⟨a1, a2, a3⟩ := again_same h (hl t (by simp))
    obtain ⟨b1, b2, b3, b4, b5⟩ := anew_inv l (putS (takeS W t.id).1 t) a1 (fun u hu => a3 _ (hl u (by simp [hu])))
    exact ⟨b1, b2.trans a2, fun p hp => b3 p (a3 p hp), b4, b5⟩
theorem casc_inv : ∀ (k : Nat) (W : Wh), k < 7 → Inv W → Inv (cascS W k) ∧ (cascS W k).tm.length = W.tm.length ∧ (cascS W k).now = W.now ∧ (cascS W k).ord = W.ord
  | 0, W, _, h => ⟨h, rfl, rfl, rfl⟩
  | k + 1, W, hk, h => by
    have hn : (k + 1) * 64 + slotOf (k + 1) W.now < 448 := by have := slot_lt (k + 1) W.now; omega
    obtain ⟨a1, a2, -, a4, a5⟩ := anew_inv (dueS W ((k + 1) * 64 + slotOf (k + 1) W.now)) W h (fun t ht => due_mem h hn ht)
    obtain ⟨b1, b2, b3, b4⟩ := casc_inv k (anew W (dueS W ((k + 1) * 64 + slotOf (k + 1) W.now))) (by omega) a1
    exact ⟨b1, b2.trans a2, b3.trans a4, b4.trans a5⟩
/-- What becomes of a timer that fires. -/
def fired1 (W : Wh) (t : Tm) : Wh := if 0 < t.iv ∧ t.when + t.iv ≤ 1099511627776 then putS (takeS W t.id).1 { t with when := t.when + t.iv } else (takeS W t.id).1
def firedS (W : Wh) : List Tm → Wh
  | [] => W
  | t :: l => firedS (fired1 W t) l
theorem fire_eq : ∀ (l : List Tm) (W : Wh) (out : List (Int × Int)), fireS W out l = (firedS W l, out ++ l.map fun t => (t.id, t.when))
  | [], W, out => by simp [fireS, firedS]
  | t :: l, W, out => by
    have : fireS W out (t :: l) = fireS (fired1 W t) (out ++ [(t.id, t.when)]) l := rfl
    rw [this, fire_eq l]
    simp [firedS]
theorem fired_append : ∀ (l l' : List Tm) (W : Wh), firedS W (l ++ l') = firedS (firedS W l) l'
  | [], _, _ => rfl
  | _ :: l, l', _ => fired_append l l' _
theorem fired_one (W : Wh) (l : List Tm) (t : Tm) : firedS W (l ++ [t]) = fired1 (firedS W l) t := by rw [fired_append]; rfl
theorem fired1_inv {W : Wh} (h : Inv W) {t : Tm} (ht : (t.id, t) ∈ W.tm) : Inv (fired1 W t) ∧ (fired1 W t).tm.length ≤ W.tm.length ∧ (∀ p ∈ W.tm, p.1 ≠ t.id → p ∈ (fired1 W t).tm) ∧ (fired1 W t).now = W.now ∧ (fired1 W t).ord = W.ord := by
  have hb := h.tm _ ht
  simp only at hb
  unfold fired1
  split
  · rename_i hc
    obtain ⟨h1, h2, h3⟩ := again h (u := { t with when := t.when + t.iv }) ht rfl rfl ⟨by simp only; omega, hc.2, hb.2.2.2.1, hb.2.2.2.2⟩
    exact ⟨h1, Nat.le_of_eq h2, h3, rfl, rfl⟩
  · exact ⟨take_inv h t.id, del_len_le _ _, fun p hp hne => (del_mem h.keys t.id p).2 ⟨hp, hne⟩, rfl, rfl⟩
theorem fired_inv : ∀ (l : List Tm) (W : Wh), Inv W → (∀ t ∈ l, (t.id, t) ∈ W.tm) → (l.map (·.id)).Nodup → Inv (firedS W l) ∧ (firedS W l).tm.length ≤ W.tm.length ∧ (∀ p ∈ W.tm, (∀ t ∈ l, p.1 ≠ t.id) → p ∈ (firedS W l).tm) ∧ (firedS W l).now = W.now ∧ (firedS W l).ord = W.ord
  | [], W, h, _, _ => ⟨h, Nat.le_refl _, fun _ h _ => h, rfl, rfl⟩
  | t :: l, W, h, hl, hn => by
    rw [List.map_cons, List.nodup_cons] at hn
    have hne : ∀ u ∈ l, u.id ≠ t.id := fun u hu e => hn.1 (e ▸ List.mem_map.2 ⟨u, hu, rfl⟩)
    obtain ⟨a1, a2, a3, a4, a5⟩ := fired1_inv h (hl t (by simp))
    obtain ⟨b1, b2, b3, b4, b5⟩ := fired_inv l (fired1 W t) a1 (fun u hu => a3 _ (hl u (by simp [hu])) (hne u hu)) hn.2
    exact ⟨b1, Nat.le_trans b2 a2, fun p hp hq => b3 p (a3 p hp (hq t (by simp))) (fun u hu => hq u (by simp [hu])), b4.trans a4, b5.trans a5⟩
/-- Of a list's part that has fired, the next one is still there. -/
theorem fired_next {W : Wh} (h : Inv W) {l pre : List Tm} {t : Tm} (hl : ∀ t ∈ l, (t.id, t) ∈ W.tm) (hn : (l.map (·.id)).Nodup) (hp : (pre ++ [t]) <+: l) : Inv (firedS W pre) ∧ (t.id, t) ∈ (firedS W pre).tm ∧ (firedS W pre).tm.length ≤ W.tm.length ∧ (firedS W pre).now = W.now ∧ (firedS W pre).ord = W.ord := by
  obtain ⟨s, rfl⟩ := hp
  rw [List.map_append, List.map_append] at hn
  have hn1 := (List.nodup_append.1 hn).1
  have hn2 := List.nodup_append.1 hn1
  obtain ⟨a1, a2, a3, a4, a5⟩ := fired_inv pre W h (fun u hu => hl u (by simp [hu])) hn2.1
  exact ⟨a1, a3 _ (hl t (by simp)) (fun u hu e => hn2.2.2 u.id (List.mem_map.2 ⟨u, hu, rfl⟩) t.id (by simp) e.symm), a2, a4, a5⟩
theorem anew_next {W : Wh} (h : Inv W) {l pre : List Tm} {t : Tm} (hl : ∀ t ∈ l, (t.id, t) ∈ W.tm) (hp : (pre ++ [t]) <+: l) : Inv (anew W pre) ∧ (t.id, t) ∈ (anew W pre).tm ∧ (anew W pre).now = W.now := by
  obtain ⟨s, rfl⟩ := hp
  obtain ⟨a1, a2, a3, a4, a5⟩ := anew_inv pre W h (fun u hu => hl u (by simp [hu]))
  exact ⟨a1, a3 _ (hl t (by simp)), a4⟩
end Go.Wh
