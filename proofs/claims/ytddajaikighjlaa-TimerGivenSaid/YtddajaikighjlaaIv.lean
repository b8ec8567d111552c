/- Wheels as plain data: what stays true. No program. -/
import Derived.Test.YtddajaikighjlaaSo
namespace Go.Wh

theorem idx_some {α : Type} {L : List (Int × α)} {x : Int} {j : Nat} (h : (L.findIdx? fun p => p.1 == x) = some j) : ∃ hj : j < L.length, L[j].1 = x := by
  rw [List.findIdx?_eq_some_iff_getElem] at h
  obtain ⟨hj, he, -⟩ := h
  exact ⟨hj, by simpa using he⟩
theorem idx_nil {α : Type} {L : List (Int × α)} {x : Int} (h : (L.findIdx? fun p => p.1 == x) = none) : x ∉ L.map Prod.fst := by
  rw [List.findIdx?_eq_none_iff] at h
  intro hm
  obtain ⟨p, hp, rfl⟩ := List.mem_map.1 hm
  simpa using h p hp
theorem get_in {α : Type} {L : List (Int × α)} {x : Int} {z : α} (h : (getA L x z).2 = true) : (x, (getA L x z).1) ∈ L := by
  unfold getA at *
  cases hi : L.findIdx? fun p => p.1 == x with
  | none => rw [hi] at h; cases h
  | some j =>
    obtain ⟨hj, hx⟩ := idx_some hi
    simp only [List.getD, List.getElem?_eq_getElem hj, Option.getD_some]
    rw [← hx]
    exact List.getElem_mem hj
theorem get_not {α : Type} {L : List (Int × α)} {x : Int} {z : α} (h : x ∉ L.map Prod.fst) : getA L x z = (z, false) := by
  unfold getA
  cases hi : L.findIdx? fun p => p.1 == x with
  | none => rfl
  | some j =>
    obtain ⟨hj, hx⟩ := idx_some hi
    exact absurd (List.mem_map.2 ⟨L[j], List.getElem_mem hj, hx⟩) h
theorem key_inj {α : Type} {L : List (Int × α)} (hn : (L.map Prod.fst).Nodup) {x : Int} {u v : α} (h1 : (x, u) ∈ L) (h2 : (x, v) ∈ L) : u = v := by
  obtain ⟨i, hi, e1⟩ := List.getElem_of_mem h1
  obtain ⟨j, hj, e2⟩ := List.getElem_of_mem h2
  have := (List.getElem_inj (h₀ := by simpa using hi) (h₁ := by simpa using hj) hn).1 (show (L.map Prod.fst)[i]'(by simpa using hi) = (L.map Prod.fst)[j]'(by simpa using hj) by simp [e1, e2])
  subst this
  rw [e1] at e2
  simpa using e2
theorem get_of {α : Type} {L : List (Int × α)} (hn : (L.map Prod.fst).Nodup) {x : Int} {v z : α} (h : (x, v) ∈ L) : getA L x z = (v, true) := by
  have h2 : (getA L x z).2 = true := by
    unfold getA
    cases hi : L.findIdx? fun p => p.1 == x with
    | none => exact absurd (List.mem_map.2 ⟨_, h, rfl⟩) (idx_nil hi)
    | some j => rfl
  have := key_inj hn (get_in h2) h
  rw [← this, ← h2]
theorem get_iff {α : Type} {L : List (Int × α)} (hn : (L.map Prod.fst).Nodup) {x : Int} {z : α} : (getA L x z).2 = true ↔ x ∈ L.map Prod.fst := by
  constructor
  · intro h; exact List.mem_map.2 ⟨_, get_in h, rfl⟩
  · intro h
    obtain ⟨p, hp, rfl⟩ := List.mem_map.1 h
    rw [get_of hn (show (p.1, p.2) ∈ L from hp)]
theorem put_fresh {α : Type} {L : List (Int × α)} {x : Int} (v : α) (h : x ∉ L.map Prod.fst) : putA L x v = L ++ [(x, v)] := by
  unfold putA
  cases hi : L.findIdx? fun p => p.1 == x with
  | none => rfl
  | some j =>
    obtain ⟨hj, hx⟩ := idx_some hi
    exact absurd (List.mem_map.2 ⟨L[j], List.getElem_mem hj, hx⟩) h
theorem put_keys {α : Type} {L : List (Int × α)} (hn : (L.map Prod.fst).Nodup) (x : Int) (v : α) : ((putA L x v).map Prod.fst).Nodup := by
  unfold putA
  cases hi : L.findIdx? fun p => p.1 == x with
  | none =>
    simp only [List.map_append, List.map_cons, List.map_nil]
    exact List.nodup_append.2 ⟨hn, by simp, fun a ha b hb => by
      simp only [List.mem_singleton] at hb
      rintro rfl
      exact idx_nil hi (hb ▸ ha)⟩
  | some j =>
    obtain ⟨hj, hx⟩ := idx_some hi
    have : (L.set j (x, v)).map Prod.fst = L.map Prod.fst := by
      apply List.ext_getElem?
      intro i
      simp only [List.getElem?_map, List.getElem?_set]
      by_cases e : j = i
      · subst e; simp [hj, hx]
      · simp [e]
    simpa [this] using hn
theorem put_mem {α : Type} {L : List (Int × α)} (hn : (L.map Prod.fst).Nodup) (x : Int) (v : α) (p : Int × α) : p ∈ putA L x v ↔ p = (x, v) ∨ (p ∈ L ∧ p.1 ≠ x) := by
  unfold putA
  cases hi : L.findIdx? fun p => p.1 == x with
  | none =>
    have hx := idx_nil hi
    simp only [List.mem_append, List.mem_singleton]
    constructor
    · rintro (h | rfl)
      · exact Or.inr ⟨h, fun e => hx (e ▸ List.mem_map.2 ⟨p, h, rfl⟩)⟩
      · exact Or.inl rfl
    · rintro (rfl | ⟨h, -⟩)
      · exact Or.inr rfl
      · exact Or.inl h
  | some j =>
    obtain ⟨hj, hx⟩ := idx_some hi
    simp only
    constructor
    · intro h
      obtain ⟨i, hi', e⟩ := List.getElem_of_mem h
      rw [List.getElem_set] at e
      by_cases hij : j = i
      · rw [if_pos hij] at e; exact Or.inl e.symm
      · rw [if_neg hij] at e
        have hil : i < L.length := by simpa using hi'
        refine Or.inr ⟨e ▸ List.getElem_mem hil, fun e2 => hij ?_⟩
        have : (L.map Prod.fst)[j]'(by simpa using hj) = (L.map Prod.fst)[i]'(by simpa using hil) := by simp [hx, e, e2]
        exact (List.getElem_inj (h₀ := by simpa using hj) (h₁ := by simpa using hil) hn).1 this
    · rintro (rfl | ⟨h, hne⟩)
      · exact List.mem_iff_getElem.2 ⟨j, by simpa using hj, by simp⟩
      · obtain ⟨i, hil, e⟩ := List.getElem_of_mem h
        refine List.mem_iff_getElem.2 ⟨i, by simpa using hil, ?_⟩
        rw [List.getElem_set, if_neg (fun hij => hne (by subst hij; rw [← e, hx]))]
        exact e
theorem del_sub {α : Type} (L : List (Int × α)) (x : Int) : (delA L x).Sublist L := by
  unfold delA
  cases L.findIdx? fun p => p.1 == x with
  | none => exact List.Sublist.refl _
  | some j => exact List.eraseIdx_sublist _ _
theorem del_mem {α : Type} {L : List (Int × α)} (hn : (L.map Prod.fst).Nodup) (x : Int) (p : Int × α) : p ∈ delA L x ↔ p ∈ L ∧ p.1 ≠ x := by
  unfold delA
  cases hi : L.findIdx? fun p => p.1 == x with
  | none =>
    have hx := idx_nil hi
    exact ⟨fun h => ⟨h, fun e => hx (e ▸ List.mem_map.2 ⟨p, h, rfl⟩)⟩, fun h => h.1⟩
  | some j =>
    obtain ⟨hj, hx⟩ := idx_some hi
    simp only
    rw [List.mem_eraseIdx_iff_getElem]
    constructor
    · rintro ⟨i, hil, hne, e⟩
      refine ⟨e ▸ List.getElem_mem hil, fun e2 => hne ?_⟩
      have : (L.map Prod.fst)[i]'(by simpa using hil) = (L.map Prod.fst)[j]'(by simpa using hj) := by simp [hx, e, e2]
      exact (List.getElem_inj (h₀ := by simpa using hil) (h₁ := by simpa using hj) hn).1 this
    · rintro ⟨h, hne⟩
      obtain ⟨i, hil, e⟩ := List.getElem_of_mem h
      exact ⟨i, hil, fun hij => hne (by subst hij; rw [← e, hx]), e⟩
theorem del_keys {α : Type} {L : List (Int × α)} (hn : (L.map Prod.fst).Nodup) (x : Int) : ((delA L x).map Prod.fst).Nodup := ((del_sub L x).map _).nodup hn
theorem del_gone {α : Type} {L : List (Int × α)} (hn : (L.map Prod.fst).Nodup) (x : Int) : x ∉ (delA L x).map Prod.fst := by
  intro h
  obtain ⟨p, hp, e⟩ := List.mem_map.1 h
  exact ((del_mem hn x p).1 hp).2 e

/-- What stays true of wheels. -/
structure Inv (W : Wh) : Prop where
  len : W.sl.length = 448
  now : 0 ≤ W.now ∧ W.now ≤ 1099511627776
  tm : ∀ p ∈ W.tm, p.2.id = p.1 ∧ 0 ≤ p.2.when ∧ p.2.when ≤ 1099511627776 ∧ 0 ≤ p.2.iv ∧ p.2.iv ≤ 1099511627776
  keys : (W.tm.map Prod.fst).Nodup
  ords : (W.tm.map fun p => p.2.ord).Nodup
  pkeys : (W.pl.map Prod.fst).Nodup
  pl : ∀ p ∈ W.pl, ∃ k s : Nat, k < 7 ∧ s < 64 ∧ p.2 = ((k : Int), (s : Int))
  skeys : ∀ n, n < 448 → ((W.sl.getD n []).map Prod.fst).Nodup
  sl : ∀ n, n < 448 → ∀ q ∈ W.sl.getD n [], q.1 ∈ W.tm.map Prod.fst ∧ (q.1, (((n / 64 : Nat) : Int), ((n % 64 : Nat) : Int))) ∈ W.pl

theorem new_inv (n : Int) (h : 0 ≤ n ∧ n ≤ 1099511627776) : Inv (newS n) := by
  have hg : ∀ m, ((newS n).sl.getD m []) = [] := fun m => by
    show (List.replicate 448 ([] : List (Int × Bool))).getD m [] = []
    rw [List.getD, List.getElem?_replicate]
    split <;> rfl
  refine ⟨List.length_replicate, h, ?_, List.nodup_nil, List.nodup_nil, List.nodup_nil, ?_, fun m _ => by rw [hg]; exact List.nodup_nil, ?_⟩
  · intro p hp; exact absurd (show p ∈ ([] : List (Int × Tm)) from hp) (by simp)
  · intro p hp; exact absurd (show p ∈ ([] : List (Int × (Int × Int))) from hp) (by simp)
  · intro m _ q hq; rw [hg] at hq; exact absurd hq (by simp)
/-- A place is one of the wheels' slots, if only by default. -/
theorem Inv.place {W : Wh} (h : Inv W) (id : Int) : ∃ k s : Nat, k < 7 ∧ s < 64 ∧ (getA W.pl id (0, 0)).1 = ((k : Int), (s : Int)) := by
  by_cases hi : id ∈ W.pl.map Prod.fst
  · exact h.pl _ (get_in ((get_iff h.pkeys (z := (0, 0))).2 hi))
  · rw [get_not hi]
    exact ⟨0, 0, by omega, by omega, rfl⟩
theorem getD_set {α : Type} (l : List (List α)) (i n : Nat) (v : List α) (hi : i < l.length) : (l.set i v).getD n [] = if n = i then v else l.getD n [] := by
  by_cases e : n = i
  · subst e; simp [List.getD, hi]
  · rw [if_neg e]; simp [List.getD, List.getElem?_set_ne (Ne.symm e)]
theorem take_tm (W : Wh) (id : Int) : (takeS W id).1.tm = delA W.tm id := rfl
theorem take_now (W : Wh) (id : Int) : (takeS W id).1.now = W.now := rfl
theorem take_ord (W : Wh) (id : Int) : (takeS W id).1.ord = W.ord := rfl
theorem take_inv {W : Wh} (h : Inv W) (id : Int) : Inv (takeS W id).1 := by
  obtain ⟨k, s, hk, hs, hp⟩ := h.place id
  have hn : ((getA W.pl id (0, 0)).1.1 * 64 + (getA W.pl id (0, 0)).1.2).toNat = k * 64 + s := by rw [hp]; simp only; omega
  obtain ⟨n, hne⟩ : ∃ n, k * 64 + s = n := ⟨_, rfl⟩
  have hn4 : n < 448 := by omega
  have e : (takeS W id).1 = { W with sl := W.sl.set n (delA (W.sl.getD n []) id), tm := delA W.tm id, pl := delA W.pl id } := by
    unfold takeS
    simp only
    rw [hn, hne]
  rw [e]
  have hg : ∀ m, (W.sl.set n (delA (W.sl.getD n []) id)).getD m [] = if m = n then delA (W.sl.getD n []) id else W.sl.getD m [] := fun m => getD_set _ _ _ _ (by rw [h.len]; exact hn4)
  have hsub : ∀ m, m < 448 → ∀ q ∈ (W.sl.set n (delA (W.sl.getD n []) id)).getD m [], q ∈ W.sl.getD m [] ∧ q.1 ≠ id := by
    intro m hm q hq
    rw [hg] at hq
    by_cases hmn : m = n
    · rw [if_pos hmn] at hq
      subst hmn
      exact (del_mem (h.skeys m hm) id q).1 hq
    · rw [if_neg hmn] at hq
      refine ⟨hq, fun e2 => hmn ?_⟩
      have h1 := (h.sl m hm q hq).2
      rw [e2] at h1
      have h2 := get_of h.pkeys (z := (0, 0)) h1
      rw [h2] at hp
      simp only [Prod.mk.injEq] at hp
      omega
  refine ⟨by simpa using h.len, h.now, fun p hp2 => h.tm p ((del_sub _ _).subset hp2), del_keys h.keys id, ((del_sub W.tm id).map _).nodup h.ords, del_keys h.pkeys id, fun p hp2 => h.pl p ((del_sub _ _).subset hp2), fun m hm => ?_, fun m hm q hq => ?_⟩
  · show (((W.sl.set n (delA (W.sl.getD n []) id)).getD m []).map Prod.fst).Nodup
    rw [hg]
    split
    · exact del_keys (h.skeys n hn4) id
    · exact h.skeys m hm
  · obtain ⟨h1, h2⟩ := hsub m hm q hq
    obtain ⟨h3, h4⟩ := h.sl m hm q h1
    refine ⟨?_, (del_mem h.pkeys id _).2 ⟨h4, h2⟩⟩
    obtain ⟨p, hp2, e2⟩ := List.mem_map.1 h3
    exact List.mem_map.2 ⟨p, (del_mem h.keys id p).2 ⟨hp2, by rw [e2]; exact h2⟩, e2⟩
theorem take_gone {W : Wh} (h : Inv W) (id : Int) : id ∉ (takeS W id).1.tm.map Prod.fst := del_gone h.keys id
theorem whl_lt (d : Int) : whl d < 7 := by unfold whl; (repeat' split) <;> omega
theorem slot_lt (k : Nat) (x : Int) : slotOf k x < 64 := by unfold slotOf; omega
/-- A new timer. -/
theorem put_inv {W : Wh} (h : Inv W) {t : Tm} (h1 : 0 ≤ t.when ∧ t.when ≤ 1099511627776 ∧ 0 ≤ t.iv ∧ t.iv ≤ 1099511627776) (h2 : t.id ∉ W.tm.map Prod.fst) (h3 : ∀ p ∈ W.tm, p.2.ord ≠ t.ord) : Inv (putS W t) := by
  obtain ⟨k, hk⟩ : ∃ k, whl (t.when - W.now) = k := ⟨_, rfl⟩
  obtain ⟨s, hs⟩ : ∃ s, slotOf k t.when = s := ⟨_, rfl⟩
  have hk7 : k < 7 := hk ▸ whl_lt _
  have hs64 : s < 64 := hs ▸ slot_lt _ _
  obtain ⟨n, hn⟩ : ∃ n, k * 64 + s = n := ⟨_, rfl⟩
  have hn4 : n < 448 := by omega
  have e : putS W t = { W with sl := W.sl.set n (putA (W.sl.getD n []) t.id true), tm := putA W.tm t.id t, pl := putA W.pl t.id ((k : Int), (s : Int)) } := by
    unfold putS
    simp only
    rw [hk, hs, hn]
  rw [e]
  have hg : ∀ m, (W.sl.set n (putA (W.sl.getD n []) t.id true)).getD m [] = if m = n then putA (W.sl.getD n []) t.id true else W.sl.getD m [] := fun m => getD_set _ _ _ _ (by rw [h.len]; exact hn4)
  refine ⟨by simpa using h.len, h.now, fun p hp => ?_, put_keys h.keys _ _, ?_, put_keys h.pkeys _ _, fun p hp => ?_, fun m hm => ?_, fun m hm q hq => ?_⟩
  · rcases (put_mem h.keys _ _ p).1 hp with rfl | ⟨hp, -⟩
    · exact ⟨rfl, h1⟩
    · exact h.tm p hp
  · show ((putA W.tm t.id t).map fun p => p.2.ord).Nodup
    rw [put_fresh t h2, List.map_append]
    exact List.nodup_append.2 ⟨h.ords, by simp, fun a ha b hb => by
      simp only [List.map_cons, List.map_nil, List.mem_singleton] at hb
      obtain ⟨p, hp, rfl⟩ := List.mem_map.1 ha
      rw [hb]
      exact h3 p hp⟩
  · rcases (put_mem h.pkeys _ _ p).1 hp with rfl | ⟨hp, -⟩
    · exact ⟨k, s, hk7, hs64, rfl⟩
    · exact h.pl p hp
  · show (((W.sl.set n (putA (W.sl.getD n []) t.id true)).getD m []).map Prod.fst).Nodup
    rw [hg]
    split
    · exact put_keys (h.skeys n hn4) _ _
    · exact h.skeys m hm
  · have hold : ∀ q ∈ W.sl.getD m [], q.1 ∈ (putA W.tm t.id t).map Prod.fst ∧ (q.1, (((m / 64 : Nat) : Int), ((m % 64 : Nat) : Int))) ∈ putA W.pl t.id ((k : Int), (s : Int)) := by
      intro q hq
      obtain ⟨a1, a2⟩ := h.sl m hm q hq
      have hne : q.1 ≠ t.id := fun e2 => h2 (e2 ▸ a1)
      refine ⟨?_, (put_mem h.pkeys _ _ _).2 (Or.inr ⟨a2, hne⟩)⟩
      rw [put_fresh t h2, List.map_append]
      exact List.mem_append_left _ a1
    have hq' : q ∈ (W.sl.set n (putA (W.sl.getD n []) t.id true)).getD m [] := hq
    rw [hg] at hq'
    by_cases hmn : m = n
    · rw [if_pos hmn] at hq'
      rcases (put_mem (h.skeys n hn4) _ _ q).1 hq' with rfl | ⟨hq2, -⟩
      · refine ⟨List.mem_map.2 ⟨(t.id, t), (put_mem h.keys _ _ _).2 (Or.inl rfl), rfl⟩, (put_mem h.pkeys _ _ _).2 (Or.inl ?_)⟩
        have : m / 64 = k ∧ m % 64 = s := by omega
        rw [this.1, this.2]
      · exact hold q (hmn ▸ hq2)
    · rw [if_neg hmn] at hq'
      exact hold q hq'
theorem now_inv {W : Wh} (h : Inv W) (n : Int) (hn : 0 ≤ n ∧ n ≤ 1099511627776) : Inv { W with now := n } := ⟨h.len, hn, h.tm, h.keys, h.ords, h.pkeys, h.pl, h.skeys, h.sl⟩
theorem ord_inv {W : Wh} (h : Inv W) (n : Int) : Inv { W with ord := n } := ⟨h.len, h.now, h.tm, h.keys, h.ords, h.pkeys, h.pl, h.skeys, h.sl⟩
/-- The timers of a slot, as they lie. -/
def atS (W : Wh) (n : Nat) : List Tm := (W.sl.getD n []).map fun p => (getA W.tm p.1 tm0).1
theorem at_mem {W : Wh} (h : Inv W) {n : Nat} (hn : n < 448) {t : Tm} (ht : t ∈ atS W n) : (t.id, t) ∈ W.tm := by
  obtain ⟨q, hq, rfl⟩ := List.mem_map.1 ht
  have h1 := get_in ((get_iff h.keys (z := tm0)).2 (h.sl n hn q hq).1)
  have := (h.tm _ h1).1
  simp only at this
  rw [this]
  exact h1
theorem at_ids {W : Wh} (h : Inv W) {n : Nat} (hn : n < 448) : (atS W n).map (·.id) = (W.sl.getD n []).map Prod.fst := by
  unfold atS
  rw [List.map_map]
  apply List.map_congr_left
  intro q hq
  have h1 := get_in ((get_iff h.keys (z := tm0)).2 (h.sl n hn q hq).1)
  exact (h.tm _ h1).1
theorem ord_inj {W : Wh} (h : Inv W) {p q : Int × Tm} (hp : p ∈ W.tm) (hq : q ∈ W.tm) (e : p.2.ord = q.2.ord) : p = q := by
  obtain ⟨i, hi, rfl⟩ := List.getElem_of_mem hp
  obtain ⟨j, hj, rfl⟩ := List.getElem_of_mem hq
  have := (List.getElem_inj (h₀ := by simpa using hi) (h₁ := by simpa using hj) h.ords).1 (show (W.tm.map fun p => p.2.ord)[i]'(by simpa using hi) = (W.tm.map fun p => p.2.ord)[j]'(by simpa using hj) by simpa using e)
  subst this
  rfl
theorem at_ords {W : Wh} (h : Inv W) {n : Nat} (hn : n < 448) : ((atS W n).map (·.ord)).Nodup := by
  have h1 : ((atS W n).map (·.id)).Nodup := by rw [at_ids h hn]; exact h.skeys n hn
  unfold List.Nodup at *
  rw [List.pairwise_map] at *
  refine h1.imp_of_mem fun ha hb hne e => hne ?_
  have := ord_inj h (at_mem h hn ha) (at_mem h hn hb) e
  exact congrArg Prod.fst this
theorem due_srt (W : Wh) (n : Nat) : dueS W n = srt (atS W n) := rfl
end Go.Wh
