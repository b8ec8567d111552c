/- Many timers: where each lies, and what putting, taking and cascading do. No program. -/
import Derived.Test.YtddajaikighjlaaIy
namespace Go.Wh
open Go.Mp

/-- The timer id lies in slot s of wheel k. -/
def Plc (W : Wh) (id : Int) (k s : Nat) : Prop := (id, ((k : Int), (s : Int))) ∈ W.pl ∧ id ∈ (W.sl.getD (k * 64 + s) []).map Prod.fst
/-- Each timer lies in a slot as its time says, and C. -/
def Full (W : Wh) (C : Nat → Tm → Prop) : Prop := ∀ p ∈ W.tm, ∃ k, k < 7 ∧ Plc W p.1 k (slotOf k p.2.when) ∧ C k p.2

theorem put_sl {W : Wh} (h : Inv W) (t : Tm) (m : Nat) : (putS W t).sl.getD m [] = if m = whl (t.when - W.now) * 64 + slotOf (whl (t.when - W.now)) t.when then putA (W.sl.getD m []) t.id true else W.sl.getD m [] := by
  unfold putS
  simp only
  rw [getD_set _ _ _ _ (by rw [h.len]; have := whl_lt (t.when - W.now); have := slot_lt (whl (t.when - W.now)) t.when; omega)]
  by_cases e : m = whl (t.when - W.now) * 64 + slotOf (whl (t.when - W.now)) t.when
  · rw [if_pos e, if_pos e, ← e]
  · rw [if_neg e, if_neg e]
theorem plc_put {W : Wh} (h : Inv W) (t : Tm) {id : Int} {k s : Nat} (hk : k < 7) (hs : s < 64) (hne : id ≠ t.id) (hp : Plc W id k s) : Plc (putS W t) id k s := by
  refine ⟨(put_mem h.pkeys _ _ _).2 (Or.inr ⟨hp.1, hne⟩), ?_⟩
  rw [put_sl h]
  split
  · obtain ⟨q, hq, rfl⟩ := List.mem_map.1 hp.2
    exact List.mem_map.2 ⟨q, (put_mem (h.skeys _ (by omega)) _ _ q).2 (Or.inr ⟨hq, hne⟩), rfl⟩
  · exact hp.2
theorem plc_new {W : Wh} (h : Inv W) (t : Tm) : Plc (putS W t) t.id (whl (t.when - W.now)) (slotOf (whl (t.when - W.now)) t.when) := by
  refine ⟨(put_mem h.pkeys _ _ _).2 (Or.inl rfl), ?_⟩
  have h1 := whl_lt (t.when - W.now)
  have h2 := slot_lt (whl (t.when - W.now)) t.when
  rw [put_sl h, if_pos rfl]
  exact List.mem_map.2 ⟨(t.id, true), (put_mem (h.skeys _ (by omega)) _ _ _).2 (Or.inl rfl), rfl⟩
theorem plc_take {W : Wh} (h : Inv W) {id0 id : Int} {k s : Nat} (hk : k < 7) (hs : s < 64) (hne : id ≠ id0) (hp : Plc W id k s) : Plc (takeS W id0).1 id k s := by
  refine ⟨(del_mem h.pkeys _ _).2 ⟨hp.1, hne⟩, ?_⟩
  obtain ⟨k0, s0, hk0, hs0, hp0⟩ := h.place id0
  show id ∈ ((W.sl.set ((getA W.pl id0 (0, 0)).1.1 * 64 + (getA W.pl id0 (0, 0)).1.2).toNat (delA (W.sl.getD ((getA W.pl id0 (0, 0)).1.1 * 64 + (getA W.pl id0 (0, 0)).1.2).toNat []) id0)).getD (k * 64 + s) []).map Prod.fst
  rw [hp0]
  have e : (((k0 : Int) * 64 + (s0 : Int)).toNat) = k0 * 64 + s0 := by omega
  simp only [e]
  rw [getD_set _ _ _ _ (by rw [h.len]; omega)]
  split
  · rename_i e2
    obtain ⟨q, hq, rfl⟩ := List.mem_map.1 hp.2
    rw [e2] at hq
    exact List.mem_map.2 ⟨q, (del_mem (h.skeys _ (by omega)) _ q).2 ⟨hq, hne⟩, rfl⟩
  · exact hp.2
theorem tm_again {W : Wh} (h : Inv W) {t u : Tm} (hid : u.id = t.id) (p : Int × Tm) : p ∈ (putS (takeS W t.id).1 u).tm ↔ p = (u.id, u) ∨ (p ∈ W.tm ∧ p.1 ≠ t.id) := by
  show p ∈ putA (delA W.tm t.id) u.id u ↔ _
  rw [put_mem (del_keys h.keys _), del_mem h.keys, hid]
  constructor
  · rintro (h1 | ⟨⟨h1, h2⟩, -⟩)
    · exact Or.inl h1
    · exact Or.inr ⟨h1, h2⟩
  · rintro (h1 | ⟨h1, h2⟩)
    · exact Or.inl h1
    · exact Or.inr ⟨⟨h1, h2⟩, h2⟩
theorem full_again {W : Wh} (h : Inv W) {C D : Nat → Tm → Prop} (hF : Full W C) {t u : Tm} (hid : u.id = t.id) (hD : ∀ p ∈ W.tm, p.1 ≠ t.id → ∀ k, C k p.2 → D k p.2) (hu : D (whl (u.when - W.now)) u) : Full (putS (takeS W t.id).1 u) D := by
  intro p hp
  have hT := take_inv h t.id
  rcases (tm_again h hid p).1 hp with rfl | ⟨hp, hne⟩
  · exact ⟨_, whl_lt _, plc_new hT u, hu⟩
  · obtain ⟨k, hk, hpl, hc⟩ := hF p hp
    exact ⟨k, hk, plc_put hT u hk (slot_lt _ _) (by rw [hid]; exact hne) (plc_take h hk (slot_lt _ _) hne hpl), hD p hp hne k hc⟩
theorem full_take {W : Wh} (h : Inv W) {C D : Nat → Tm → Prop} (hF : Full W C) {id : Int} (hD : ∀ p ∈ W.tm, p.1 ≠ id → ∀ k, C k p.2 → D k p.2) : Full (takeS W id).1 D := by
  intro p hp
  obtain ⟨hp, hne⟩ := (del_mem h.keys _ _).1 hp
  obtain ⟨k, hk, hpl, hc⟩ := hF p hp
  exact ⟨k, hk, plc_take h hk (slot_lt _ _) hne hpl, hD p hp hne k hc⟩
theorem Full.imp {W : Wh} {C D : Nat → Tm → Prop} (hF : Full W C) (hD : ∀ p ∈ W.tm, ∀ k, k < 7 → Plc W p.1 k (slotOf k p.2.when) → C k p.2 → D k p.2) : Full W D := by
  intro p hp
  obtain ⟨k, hk, hpl, hc⟩ := hF p hp
  exact ⟨k, hk, hpl, hD p hp k hk hpl hc⟩
theorem pair_of {W : Wh} (h : Inv W) {p : Int × Tm} (hp : p ∈ W.tm) : p = (p.2.id, p.2) := by
  obtain ⟨a, b⟩ := p
  have := (h.tm _ hp).1
  simp only at this
  rw [this]
theorem anew_tm : ∀ (l : List Tm) (W : Wh), Inv W → (∀ t ∈ l, (t.id, t) ∈ W.tm) → ∀ p, p ∈ (anew W l).tm ↔ p ∈ W.tm
  | [], W, _, _, p => Iff.rfl
  | t :: l, W, h, hl, p => by
    obtain ⟨a1, a2, a3⟩ := again_same h (hl t (by simp))
    refine (anew_tm l _ a1 (fun u hu => a3 _ (hl u (by simp [hu]))) p).trans ((tm_again h rfl p).trans ?_)
    constructor
    · rintro (rfl | ⟨h1, -⟩)
      · exact hl t (by simp)
      · exact h1
    · intro hp
      by_cases e : p.1 = t.id
      · left
        obtain ⟨p1, p2⟩ := p
        simp only at e
        subst e
        rw [key_inj h.keys hp (hl t (by simp))]
      · exact Or.inr ⟨hp, e⟩
theorem anew_full {C : Nat → Tm → Prop} : ∀ (l done : List Tm) (W : Wh), Inv W → (∀ t ∈ l, (t.id, t) ∈ W.tm) →
    Full W (fun k t => (t ∈ done ∧ k = whl (t.when - W.now)) ∨ (t ∉ done ∧ C k t)) → Full (anew W l) (fun k t => ((t ∈ done ∨ t ∈ l) ∧ k = whl (t.when - W.now)) ∨ (¬ (t ∈ done ∨ t ∈ l) ∧ C k t))
  | [], done, W, _, _, hF => hF.imp fun p _ k _ _ hc => by simpa using hc
  | t :: l, done, W, h, hl, hF => by
    obtain ⟨a1, a2, a3⟩ := again_same h (hl t (by simp))
    have h1 : Full (putS (takeS W t.id).1 t) (fun k u => (u ∈ t :: done ∧ k = whl (u.when - W.now)) ∨ (u ∉ t :: done ∧ C k u)) := by
      refine full_again h hF rfl (fun p hp hne k hc => ?_) (Or.inl ⟨by simp, rfl⟩)
      have hne2 : p.2 ≠ t := fun e => hne (by rw [pair_of h hp, e])
      rcases hc with ⟨c1, c2⟩ | ⟨c1, c2⟩
      · exact Or.inl ⟨List.mem_cons_of_mem _ c1, c2⟩
      · exact Or.inr ⟨by simp [hne2, c1], c2⟩
    have h2 := anew_full l (t :: done) (putS (takeS W t.id).1 t) a1 (fun u hu => a3 _ (hl u (by simp [hu]))) h1
    refine Full.imp (show Full (anew W (t :: l)) _ from h2) fun p _ k _ _ hc => ?_
    have e : (p.2 ∈ t :: done ∨ p.2 ∈ l) ↔ (p.2 ∈ done ∨ p.2 ∈ t :: l) := by
      rw [List.mem_cons, List.mem_cons]
      constructor
      · rintro ((x | x) | x)
        · exact Or.inr (Or.inl x)
        · exact Or.inl x
        · exact Or.inr (Or.inr x)
      · rintro (x | x | x)
        · exact Or.inl (Or.inr x)
        · exact Or.inl (Or.inl x)
        · exact Or.inr x
    rw [e] at hc
    exact hc

/-! ### Where a timer may lie -/
def LocG (now : Int) (k : Nat) (when : Int) : Prop := (k = 0 ∧ now < when ∧ when < now + 64) ∨ (1 ≤ k ∧ now / pw k < when / pw k ∧ when / pw k ≤ now / pw k + 64)
def LocC (now : Int) (k : Nat) (when : Int) : Prop := (k = 0 ∧ now ≤ when ∧ when < now + 64) ∨ (1 ≤ k ∧ now / pw k < when / pw k ∧ when / pw k ≤ now / pw k + 64 ∧ (now % pw k = 0 → when / pw k ≤ now / pw k + 63))
def Late (now : Int) (k : Nat) (when : Int) : Prop := 1 ≤ k ∧ now % pw k = 0 ∧ when / pw k = now / pw k
theorem seven {P : Nat → Prop} (h0 : P 0) (h1 : P 1) (h2 : P 2) (h3 : P 3) (h4 : P 4) (h5 : P 5) (h6 : P 6) : ∀ k, k < 7 → P k
  | 0, _ => h0 | 1, _ => h1 | 2, _ => h2 | 3, _ => h3 | 4, _ => h4 | 5, _ => h5 | 6, _ => h6
theorem pw0 : pw 0 = 1 := rfl
theorem pw1 : pw 1 = 64 := rfl
theorem pw2 : pw 2 = 4096 := rfl
theorem pw3 : pw 3 = 262144 := rfl
theorem pw4 : pw 4 = 16777216 := rfl
theorem pw5 : pw 5 = 1073741824 := rfl
theorem pw6 : pw 6 = 68719476736 := rfl
theorem loc_whl' (now when : Int) (h0 : 0 ≤ now) (h : now ≤ when) (hm : when ≤ 1099511627776) : LocC now (whl (when - now)) when := by
  unfold whl
  split
  · left; omega
  right
  split
  · rw [pw1]; omega
  split
  · rw [pw2]; omega
  split
  · rw [pw3]; omega
  split
  · rw [pw4]; omega
  split
  · rw [pw5]; omega
  · rw [pw6]; omega
theorem locG_of {now when : Int} {k : Nat} (h : LocC now k when) (hne : when ≠ now) : LocG now k when := by
  rcases h with ⟨rfl, h1, h2⟩ | ⟨h1, h2, h3, -⟩
  · left; omega
  · exact Or.inr ⟨h1, h2, h3⟩
theorem top_ge (now : Int) : ∀ k, k < 7 → now % pw k = 0 → k ≤ topOf now := by
  refine seven ?_ ?_ ?_ ?_ ?_ ?_ ?_
  · omega
  · rw [pw1]; unfold topOf; intro h; (repeat' split) <;> omega
  · rw [pw2]; unfold topOf; intro h; (repeat' split) <;> omega
  · rw [pw3]; unfold topOf; intro h; (repeat' split) <;> omega
  · rw [pw4]; unfold topOf; intro h; (repeat' split) <;> omega
  · rw [pw5]; unfold topOf; intro h; (repeat' split) <;> omega
  · rw [pw6]; unfold topOf; intro h; (repeat' split) <;> omega
theorem top_lt (now : Int) : topOf now < 7 := by unfold topOf; (repeat' split) <;> omega
theorem top_div (now : Int) : ∀ k, k < 7 → k ≤ topOf now → now % pw k = 0 := by
  refine seven ?_ ?_ ?_ ?_ ?_ ?_ ?_
  · rw [pw0]; omega
  · rw [pw1]; unfold topOf; (repeat' split) <;> omega
  · rw [pw2]; unfold topOf; (repeat' split) <;> omega
  · rw [pw3]; unfold topOf; (repeat' split) <;> omega
  · rw [pw4]; unfold topOf; (repeat' split) <;> omega
  · rw [pw5]; unfold topOf; (repeat' split) <;> omega
  · rw [pw6]; unfold topOf; (repeat' split) <;> omega
/-- The next time: a timer stays, or its slot's time has come. -/
theorem loc_next (now when : Int) : ∀ k, k < 7 → LocG now k when → LocC (now + 1) k when ∨ Late (now + 1) k when := by
  refine seven ?_ ?_ ?_ ?_ ?_ ?_ ?_
  · rintro (h | ⟨h, -⟩)
    · left; left; omega
    · omega
  · rintro (h | ⟨h, h1, h2⟩)
    · omega
    · rw [pw1] at h1 h2; unfold LocC Late; rw [pw1]; omega
  · rintro (h | ⟨h, h1, h2⟩)
    · omega
    · rw [pw2] at h1 h2; unfold LocC Late; rw [pw2]; omega
  · rintro (h | ⟨h, h1, h2⟩)
    · omega
    · rw [pw3] at h1 h2; unfold LocC Late; rw [pw3]; omega
  · rintro (h | ⟨h, h1, h2⟩)
    · omega
    · rw [pw4] at h1 h2; unfold LocC Late; rw [pw4]; omega
  · rintro (h | ⟨h, h1, h2⟩)
    · omega
    · rw [pw5] at h1 h2; unfold LocC Late; rw [pw5]; omega
  · rintro (h | ⟨h, h1, h2⟩)
    · omega
    · rw [pw6] at h1 h2; unfold LocC Late; rw [pw6]; omega
theorem pw_pos : ∀ k, 0 < pw k
  | 0 => by decide
  | k + 1 => by show 0 < pw k * 64; have := pw_pos k; omega
theorem late_ge {now when : Int} {k : Nat} (h : Late now k when) : now ≤ when := by
  obtain ⟨-, h1, h2⟩ := h
  have a := Int.mul_ediv_add_emod now (pw k)
  have b := Int.mul_ediv_add_emod when (pw k)
  have c := Int.emod_nonneg when (Int.ne_of_gt (pw_pos k))
  rw [h2] at b
  omega
theorem mem_due {W : Wh} (h : Inv W) {n : Nat} {id : Int} {t : Tm} (ht : (id, t) ∈ W.tm) (hs : id ∈ (W.sl.getD n []).map Prod.fst) : t ∈ dueS W n := by
  rw [due_srt]
  refine (srt_perm _).mem_iff.2 ?_
  obtain ⟨q, hq, rfl⟩ := List.mem_map.1 hs
  exact List.mem_map.2 ⟨q, hq, by rw [get_of h.keys ht]⟩
theorem due_in {W : Wh} (h : Inv W) {n : Nat} (hn : n < 448) {t : Tm} (ht : t ∈ dueS W n) : t.id ∈ (W.sl.getD n []).map Prod.fst := by
  have h1 : t ∈ atS W n := (srt_perm _).mem_iff.1 ht
  rw [← at_ids h hn]
  exact List.mem_map.2 ⟨t, h1, rfl⟩
/-- Of a slot's timers the place is known. -/
theorem due_place {W : Wh} (h : Inv W) {k0 s0 : Nat} (hk0 : k0 < 7) (hs0 : s0 < 64) {t : Tm} (ht : t ∈ dueS W (k0 * 64 + s0)) {k : Nat} (hp : Plc W t.id k (slotOf k t.when)) : k = k0 ∧ slotOf k t.when = s0 := by
  obtain ⟨q, hq, e⟩ := List.mem_map.1 (due_in h (by omega) ht)
  have h1 := (h.sl _ (by omega) q hq).2
  rw [e] at h1
  have h2 := key_inj h.pkeys hp.1 h1
  simp only [Prod.mk.injEq] at h2
  omega

/-- The state of a cascade: wheels above j are done. -/
def CasC (G : Nat → Tm → Prop) (now : Int) (j : Nat) (k : Nat) (t : Tm) : Prop := (LocC now k t.when ∧ G k t) ∨ (k ≤ j ∧ Late now k t.when ∧ G (whl (t.when - now)) t)
theorem slot_eq {k : Nat} {a b : Int} (h : slotOf k a = slotOf k b) : a / pw k % 64 = b / pw k % 64 := by
  unfold slotOf at h
  have h1 := Int.emod_nonneg (a / pw k) (show (64 : Int) ≠ 0 by decide)
  have h2 := Int.emod_nonneg (b / pw k) (show (64 : Int) ≠ 0 by decide)
  omega
theorem casc_full {G : Nat → Tm → Prop} : ∀ (j : Nat) (W : Wh), j < 7 → Inv W → (∀ i, i ≤ j → W.now % pw i = 0) → Full W (CasC G W.now j) →
    Full (cascS W j) (CasC G W.now 0) ∧ ∀ p, p ∈ (cascS W j).tm ↔ p ∈ W.tm
  | 0, W, _, _, _, hF => ⟨hF, fun _ => Iff.rfl⟩
  | j + 1, W, hj, h, hd, hF => by
    have hs := slot_lt (j + 1) W.now
    have hn : (j + 1) * 64 + slotOf (j + 1) W.now < 448 := by omega
    have hl : ∀ t ∈ dueS W ((j + 1) * 64 + slotOf (j + 1) W.now), (t.id, t) ∈ W.tm := fun t ht => due_mem h hn ht
    obtain ⟨a1, a2, -, a4, a5⟩ := anew_inv _ W h hl
    have h1 := anew_full (C := fun k t => CasC G W.now (j + 1) k t ∧ (k = j + 1 → Late W.now k t.when → t ∈ dueS W ((j + 1) * 64 + slotOf (j + 1) W.now))) (dueS W ((j + 1) * 64 + slotOf (j + 1) W.now)) [] W h hl (hF.imp fun p hp k _ hpl hc => Or.inr ⟨by simp, hc, fun e hL => by
      subst e
      refine mem_due h hp ?_
      have e2 : slotOf (j + 1) W.now = slotOf (j + 1) p.2.when := by unfold slotOf; rw [hL.2.2]
      rw [e2]
      exact hpl.2⟩)
    have hdue : ∀ t ∈ dueS W ((j + 1) * 64 + slotOf (j + 1) W.now), Late W.now (j + 1) t.when ∧ G (whl (t.when - W.now)) t := by
      intro t ht
      obtain ⟨k, hk, hp, hc⟩ := hF _ (hl t ht)
      obtain ⟨rfl, e⟩ := due_place h hj hs ht hp
      have e2 := slot_eq e
      rcases hc with ⟨hc, -⟩ | ⟨-, hc, hg⟩
      · rcases hc with ⟨h0, -⟩ | ⟨-, h2, h3, h4⟩
        · omega
        · have := h4 (hd _ (Nat.le_refl _))
          simp only at h2 this
          omega
      · exact ⟨hc, hg⟩
    have htm := anew_tm _ W h hl
    have h2 : Full (anew W (dueS W ((j + 1) * 64 + slotOf (j + 1) W.now))) (CasC G W.now j) := by
      intro p hp
      have hp0 := (htm p).1 hp
      obtain ⟨k, hk, hpl, hc⟩ := h1 p hp
      refine ⟨k, hk, hpl, ?_⟩
      simp only [List.not_mem_nil, false_or] at hc
      rcases hc with ⟨c1, c2⟩ | ⟨c1, c2⟩
      · obtain ⟨d1, d2⟩ := hdue _ c1
        refine Or.inl ⟨?_, by rw [c2]; exact d2⟩
        rw [c2]
        have hb := h.tm _ hp0
        exact loc_whl' _ _ h.now.1 (late_ge d1) hb.2.2.1
      · obtain ⟨c2, cx⟩ := c2
        rcases c2 with c2 | ⟨c3, c4, c5⟩
        · exact Or.inl c2
        · by_cases e : k = j + 1
          · exact absurd (cx e c4) c1
          · exact Or.inr ⟨by omega, c4, c5⟩
    obtain ⟨b1, b2⟩ := casc_full j (anew W (dueS W ((j + 1) * 64 + slotOf (j + 1) W.now))) (by omega) a1 (fun i hi => by rw [a4]; exact hd i (by omega)) (by rw [a4]; exact h2)
    rw [a4] at b1
    exact ⟨b1, fun p => (b2 p).trans (htm p)⟩
end Go.Wh
