/- The reference's Set, Cancel, Slot, Next as plain data; the wheels do the same. No program. -/
import Derived.Test.YtddajaikighjlaaPz
namespace Go.Wh
open Go.Mp Go.Proofs.Ytddajaikighjlaa

def rsetS (time ord : Int) (L : List Rt) (id when iv : Int) : (List Rt × Int) × Int :=
  if id < 0 ∨ iv < 0 then ((L, ord), 1) else if 1099511627776 < when ∨ 1099511627776 < iv then ((L, ord), 3) else if (L.any fun e => e.t.id == id) = true then ((L, ord), 6)
  else if L.length = 1000 then ((L, ord), 8) else if when ≤ time then ((L, ord), 330) else ((addR L ⟨⟨id, when, iv, ord⟩, time⟩, ord + 1), 0)
def rcancelS (L : List Rt) (id : Int) : List Rt × Bool := match L.findIdx? fun e => e.t.id == id with
  | some i => (L.eraseIdx i, true)
  | none => (L, false)
def rslotS (L : List Rt) (time id : Int) : Int × Int × Int := match L.find? fun e => e.t.id == id with
  | some e => ((rpl 6 e.t.when e.set time : Int), (slotOf (rpl 6 e.t.when e.set time) e.t.when : Int), 0)
  | none => (0, 0, 5)
def rnextS (L : List Rt) : Int × Bool := match L with
  | [] => (0, false)
  | e :: _ => (e.t.when, true)
theorem Cpl.has {W : Wh} {L : List Rt} (h : Cpl W L) (id : Int) : (getA W.tm id tm0).2 = (L.any fun e => e.t.id == id) := by
  rw [Bool.eq_iff_iff, get_iff h.ok.inv.keys, List.any_eq_true]
  constructor
  · intro hm
    obtain ⟨p, hp, rfl⟩ := List.mem_map.1 hm
    obtain ⟨e, he, rfl⟩ := (h.mem p).1 hp
    exact ⟨e, he, by simp⟩
  · rintro ⟨e, he, e1⟩
    have e2 : e.t.id = id := by simpa using e1
    exact List.mem_map.2 ⟨_, h.tm he, e2⟩
theorem set_cpl {W : Wh} {L : List Rt} (h : Cpl W L) (id when iv : Int) : (setS W id when iv).2 = (rsetS W.now W.ord L id when iv).2 ∧ Cpl (setS W id when iv).1 (rsetS W.now W.ord L id when iv).1.1 ∧
    (setS W id when iv).1.ord = (rsetS W.now W.ord L id when iv).1.2 ∧ (setS W id when iv).1.now = W.now := by
  have hok := set_ok h.ok id when iv
  unfold setS at hok ⊢
  unfold rsetS
  rw [h.has, h.len] at hok ⊢
  by_cases c1 : id < 0 ∨ iv < 0
  · rw [if_pos c1, if_pos c1]; exact ⟨rfl, h, rfl, rfl⟩
  rw [if_neg c1] at hok
  rw [if_neg c1, if_neg c1]
  by_cases c2 : 1099511627776 < when ∨ 1099511627776 < iv
  · rw [if_pos c2, if_pos c2]; exact ⟨rfl, h, rfl, rfl⟩
  rw [if_neg c2] at hok
  rw [if_neg c2, if_neg c2]
  by_cases c3 : (L.any fun e => e.t.id == id) = true
  · rw [if_pos c3, if_pos c3]; exact ⟨rfl, h, rfl, rfl⟩
  rw [if_neg c3] at hok
  rw [if_neg c3, if_neg c3]
  by_cases c4 : L.length = 1000
  · rw [if_pos c4, if_pos c4]; exact ⟨rfl, h, rfl, rfl⟩
  rw [if_neg c4] at hok
  rw [if_neg c4, if_neg c4]
  by_cases c5 : when ≤ W.now
  · rw [if_pos c5, if_pos c5]; exact ⟨rfl, h, rfl, rfl⟩
  rw [if_neg c5] at hok
  rw [if_neg c5, if_neg c5]
  obtain ⟨t, ht⟩ : ∃ t : Tm, t = ⟨id, when, iv, W.ord⟩ := ⟨_, rfl⟩
  rw [← ht] at hok ⊢
  have hi := h.ok.inv
  have hfr : ∀ e ∈ L, e.t.id ≠ id := fun e he e1 => c3 (List.any_eq_true.2 ⟨e, he, by simpa using e1⟩)
  have hid : t.id = id := by rw [ht]
  have hwh : t.when = when := by rw [ht]
  have hor : t.ord = W.ord := by rw [ht]
  have hb := hi.now
  have hmem : ∀ p, p ∈ (putS W t).tm ↔ ∃ e ∈ addR L ⟨t, W.now⟩, p = (e.t.id, e.t) := by
    intro p
    show p ∈ putA W.tm t.id t ↔ _
    rw [put_mem hi.keys, h.mem]
    constructor
    · rintro (rfl | ⟨⟨e, he, rfl⟩, -⟩)
      · exact ⟨⟨t, W.now⟩, (addR_perm _ _).mem_iff.2 (by simp), rfl⟩
      · exact ⟨e, (addR_perm _ _).mem_iff.2 (by simp [he]), rfl⟩
    · rintro ⟨e, he, rfl⟩
      rcases List.mem_cons.1 ((addR_perm _ _).mem_iff.1 he) with rfl | he
      · exact Or.inl rfl
      · exact Or.inr ⟨⟨e, he, rfl⟩, by rw [hid]; exact hfr e he⟩
  refine ⟨rfl, ⟨hok, ?_, hmem, ?_, fun e he => ?_⟩, rfl, rfl⟩
  · refine h.srt.add (fun hm => ?_) (fun hm => ?_)
    · obtain ⟨e, he, e1⟩ := List.mem_map.1 hm
      exact hfr e he (e1.trans hid)
    · obtain ⟨e, he, e1⟩ := List.mem_map.1 hm
      have := h.ok.ob.2 _ (h.tm he)
      simp only at e1 this
      omega
  · intro p hp
    rcases (put_mem hi.keys _ _ p).1 hp with rfl | ⟨hp, hne⟩
    · refine ⟨_, whl_lt _, plc_new hi t, locG_of (loc_whl' W.now t.when hb.1 (by omega) (by omega)) (by show t.when ≠ W.now; omega), ⟨t, W.now⟩, (addR_perm _ _).mem_iff.2 (by simp), rfl, ?_⟩
      exact (rpl_put 6 t.when W.now (by have := whl_lt (t.when - W.now); omega)).symm
    · obtain ⟨k, hk, hpl, hl, e, he, e1, e2⟩ := h.full p hp
      exact ⟨k, hk, plc_put hi t hk (slot_lt _ _) hne hpl, hl, e, (addR_perm _ _).mem_iff.2 (by simp [he]), e1, e2⟩
  · rcases List.mem_cons.1 ((addR_perm _ _).mem_iff.1 he) with rfl | he
    · exact ⟨hb.1, Int.le_refl _⟩
    · exact h.sets e he
theorem mem_erase {L : List Rt} {i : Nat} {id : Int} (hi : (L.findIdx? fun e => e.t.id == id) = some i) (hn : (L.map (·.t.id)).Nodup) (u : Rt) : u ∈ L.eraseIdx i ↔ u ∈ L ∧ u.t.id ≠ id := by
  obtain ⟨hlt, h1, -⟩ := List.findIdx?_eq_some_iff_getElem.1 hi
  have h2 : L[i].t.id = id := by simpa using h1
  rw [List.mem_eraseIdx_iff_getElem]
  constructor
  · rintro ⟨j, hj, hne, rfl⟩
    refine ⟨List.getElem_mem hj, fun e => hne ?_⟩
    exact (List.getElem_inj (h₀ := by simpa using hj) (h₁ := by simpa using hlt) hn).1 (show (L.map (·.t.id))[j]'(by simpa using hj) = (L.map (·.t.id))[i]'(by simpa using hlt) by simpa [h2] using e)
  · rintro ⟨hu, hne⟩
    obtain ⟨j, hj, rfl⟩ := List.getElem_of_mem hu
    exact ⟨j, hj, fun e => hne (by subst e; exact h2), rfl⟩
theorem cancel_cpl {W : Wh} {L : List Rt} (h : Cpl W L) (id : Int) : (cancelS W id).2 = (rcancelS L id).2 ∧ Cpl (cancelS W id).1 (rcancelS L id).1 ∧ (cancelS W id).1.ord = W.ord ∧ (cancelS W id).1.now = W.now := by
  have hok := cancel_ok h.ok id
  unfold cancelS at hok ⊢
  unfold rcancelS
  rw [h.has] at hok ⊢
  cases hf : L.findIdx? fun e => e.t.id == id with
  | none =>
    have : (L.any fun e => e.t.id == id) = false := by
      rw [List.any_eq_false]
      intro e he
      have := List.findIdx?_eq_none_iff.1 hf e he
      simp [this]
    rw [this]
    exact ⟨rfl, h, rfl, rfl⟩
  | some i =>
    have hi := h.ok.inv
    have : (L.any fun e => e.t.id == id) = true := by
      obtain ⟨hlt, h1, -⟩ := List.findIdx?_eq_some_iff_getElem.1 hf
      exact List.any_eq_true.2 ⟨_, List.getElem_mem hlt, h1⟩
    rw [if_pos this] at hok
    rw [if_pos this]
    have hm := mem_erase hf h.srt.ids
    refine ⟨rfl, ⟨hok, ⟨h.srt.sorted.sublist (List.eraseIdx_sublist _ _), ((List.eraseIdx_sublist _ _).map _).nodup h.srt.ids, ((List.eraseIdx_sublist _ _).map _).nodup h.srt.ords⟩, fun p => ?_, ?_, fun e he => h.sets e ((hm e).1 he).1⟩, rfl, rfl⟩
    · show p ∈ delA W.tm id ↔ _
      rw [del_mem hi.keys, h.mem]
      constructor
      · rintro ⟨⟨e, he, rfl⟩, hne⟩
        exact ⟨e, (hm e).2 ⟨he, hne⟩, rfl⟩
      · rintro ⟨e, he, rfl⟩
        obtain ⟨h1, h2⟩ := (hm e).1 he
        exact ⟨⟨e, h1, rfl⟩, h2⟩
    · refine full_take hi h.full fun p hp hne k hc => ?_
      obtain ⟨hl, e, he, e1, e2⟩ := hc
      refine ⟨hl, e, (hm e).2 ⟨he, ?_⟩, e1, e2⟩
      have := pair_of hi hp
      rw [e1]
      rw [this] at hne
      exact hne
theorem same_id {L : List Rt} (hn : (L.map (·.t.id)).Nodup) {a b : Rt} (ha : a ∈ L) (hb : b ∈ L) (e : a.t.id = b.t.id) : a = b := by
  obtain ⟨i, hi, rfl⟩ := List.getElem_of_mem ha
  obtain ⟨j, hj, rfl⟩ := List.getElem_of_mem hb
  have := (List.getElem_inj (h₀ := by simpa using hi) (h₁ := by simpa using hj) hn).1 (show (L.map (·.t.id))[i]'(by simpa using hi) = (L.map (·.t.id))[j]'(by simpa using hj) by simpa using e)
  subst this
  rfl
theorem new_cpl (n : Int) (h : 0 ≤ n ∧ n ≤ 1099511627776) : Cpl (newS n) [] :=
  ⟨new_ok n h, ⟨List.Pairwise.nil, List.nodup_nil, List.nodup_nil⟩, fun p => by
    constructor
    · intro hp; exact absurd (show p ∈ ([] : List (Int × Tm)) from hp) (by simp)
    · rintro ⟨e, he, -⟩; simp at he, fun p hp => absurd (show p ∈ ([] : List (Int × Tm)) from hp) (by simp), fun e he => by simp at he⟩
theorem Cpl.next {W : Wh} {L : List Rt} (h : Cpl W L) : nextS W = rnextS L := by
  unfold nextS rnextS
  rw [h.timers]
  cases L <;> rfl
theorem Cpl.slot {W : Wh} {L : List Rt} (h : Cpl W L) {e : Rt} (he : e ∈ L) : slotS W e.t.id = rslotS L W.now e.t.id := by
  obtain ⟨k, hk, hpl, hl, e', he', e1, e2⟩ := h.full _ (h.tm he)
  have hf : L.find? (fun x => x.t.id == e.t.id) = some e := by
    obtain ⟨x, hx⟩ : ∃ x, L.find? (fun x => x.t.id == e.t.id) = some x := by
      cases hc : L.find? (fun x => x.t.id == e.t.id) with
      | none => exact absurd (List.find?_eq_none.1 hc e he) (by simp)
      | some x => exact ⟨x, rfl⟩
    have h1 := List.mem_of_find?_eq_some hx
    have h2 := List.find?_some hx
    rw [hx, same_id h.srt.ids h1 he (by simpa using h2)]
  have ee : e' = e := same_id h.srt.ids he' he (by rw [e1])
  subst ee
  unfold slotS rslotS
  rw [hf, get_of h.ok.inv.pkeys hpl.1]
  simp only [if_true]
  rw [← e2]
end Go.Wh
