/- Wheels with many timers are sorted lists: ticks, Advance. No program. -/
import Derived.Test.YtddajaikighjlaaPx
import Derived.Test.YtddajaikighjlaaMy
namespace Go.Wh
open Go.Mp

theorem fired1_tm {W : Wh} (h : Inv W) {t : Tm} (p : Int × Tm) : p ∈ (fired1 W t).tm ↔ (p ∈ W.tm ∧ p.1 ≠ t.id) ∨ (goesOn t ∧ p = (t.id, { t with when := t.when + t.iv })) := by
  unfold fired1
  split
  · rename_i hc
    refine (tm_again h (t := t) (u := { t with when := t.when + t.iv }) rfl p).trans ?_
    constructor
    · rintro (hp | hp)
      · exact Or.inr ⟨hc, hp⟩
      · exact Or.inl hp
    · rintro (hp | ⟨-, hp⟩)
      · exact Or.inr hp
      · exact Or.inl hp
  · rename_i hc
    show p ∈ delA W.tm t.id ↔ _
    rw [del_mem h.keys]
    constructor
    · exact Or.inl
    · rintro (hp | ⟨hp, -⟩)
      · exact hp
      · exact absurd hp hc
theorem fired_tm : ∀ (l : List Tm) (W : Wh), Inv W → (∀ t ∈ l, (t.id, t) ∈ W.tm) → (l.map (·.id)).Nodup → ∀ p, p ∈ (firedS W l).tm ↔ (p ∈ W.tm ∧ ∀ t ∈ l, p.1 ≠ t.id) ∨ ∃ t ∈ l, goesOn t ∧ p = (t.id, { t with when := t.when + t.iv })
  | [], W, _, _, _, p => by simp [firedS]
  | t :: l, W, h, hl, hn, p => by
    rw [List.map_cons, List.nodup_cons] at hn
    have hne : ∀ u ∈ l, u.id ≠ t.id := fun u hu e => hn.1 (e ▸ List.mem_map.2 ⟨u, hu, rfl⟩)
    obtain ⟨a1, -, a3, -⟩ := fired1_inv h (hl t (by simp))
    refine (fired_tm l (fired1 W t) a1 (fun u hu => a3 _ (hl u (by simp [hu])) (hne u hu)) hn.2 p).trans ?_
    rw [fired1_tm h]
    constructor
    · rintro (⟨⟨h1, h2⟩ | ⟨h1, h2⟩, h3⟩ | ⟨u, hu, h1, h2⟩)
      · exact Or.inl ⟨h1, fun u hu => by
          rcases List.mem_cons.1 hu with rfl | hu
          · exact h2
          · exact h3 u hu⟩
      · exact Or.inr ⟨t, by simp, h1, h2⟩
      · exact Or.inr ⟨u, by simp [hu], h1, h2⟩
    · rintro (⟨h1, h2⟩ | ⟨u, hu, h1, h2⟩)
      · exact Or.inl ⟨Or.inl ⟨h1, h2 t (by simp)⟩, fun u hu => h2 u (by simp [hu])⟩
      · rcases List.mem_cons.1 hu with rfl | hu
        · refine Or.inl ⟨Or.inr ⟨h1, h2⟩, fun x hx => ?_⟩
          rw [h2]
          exact fun e => hne x hx e.symm
        · exact Or.inr ⟨u, hu, h1, h2⟩
theorem fired_full {D : Nat → Tm → Prop} : ∀ (l : List Tm) (W : Wh), Inv W → (∀ t ∈ l, (t.id, t) ∈ W.tm) → (l.map (·.id)).Nodup →
    (∀ t ∈ l, goesOn t → D (whl (t.when + t.iv - W.now)) { t with when := t.when + t.iv }) → Full W (fun k t => t ∈ l ∨ D k t) → Full (firedS W l) D
  | [], W, _, _, _, _, hF => hF.imp fun p _ k _ _ hc => by simpa using hc
  | t :: l, W, h, hl, hn, hD, hF => by
    rw [List.map_cons, List.nodup_cons] at hn
    have hne : ∀ u ∈ l, u.id ≠ t.id := fun u hu e => hn.1 (e ▸ List.mem_map.2 ⟨u, hu, rfl⟩)
    have ht := hl t (by simp)
    obtain ⟨a1, -, a3, a4, -⟩ := fired1_inv h ht
    refine fired_full l (fired1 W t) a1 (fun u hu => a3 _ (hl u (by simp [hu])) (hne u hu)) hn.2 (fun u hu hg => by rw [a4]; exact hD u (by simp [hu]) hg) ?_
    have hold : ∀ p ∈ W.tm, p.1 ≠ t.id → ∀ k, (p.2 ∈ t :: l ∨ D k p.2) → (p.2 ∈ l ∨ D k p.2) := by
      intro p hp hpn k hc
      rcases hc with hc | hc
      · rcases List.mem_cons.1 hc with e | hc
        · exact absurd (by rw [pair_of h hp, e]) hpn
        · exact Or.inl hc
      · exact Or.inr hc
    unfold fired1
    split
    · rename_i hc
      exact full_again h hF (u := { t with when := t.when + t.iv }) rfl hold (Or.inr (hD t (by simp) hc))
    · exact full_take h hF hold

/-- The reference's list says what the wheels hold. -/
structure Cpl (W : Wh) (L : List Rt) : Prop where
  ok : Ok W
  srt : Srt L
  mem : ∀ p, p ∈ W.tm ↔ ∃ e ∈ L, p = (e.t.id, e.t)
  full : Full W (fun k t => LocG W.now k t.when ∧ ∃ e ∈ L, e.t = t ∧ k = rpl 6 t.when e.set W.now)
  sets : ∀ e ∈ L, 0 ≤ e.set ∧ e.set ≤ W.now
theorem locG_gt {now when : Int} {k : Nat} (h : LocG now k when) : now < when := by
  rcases h with ⟨-, h, -⟩ | ⟨-, h, -⟩
  · exact h
  · refine Int.not_le.1 fun h2 => ?_
    have := Int.ediv_le_ediv (pw_pos k) h2
    omega
theorem Cpl.later {W : Wh} {L : List Rt} (h : Cpl W L) {e : Rt} (he : e ∈ L) : W.now < e.t.when := by
  obtain ⟨k, -, -, hc, -⟩ := h.full (e.t.id, e.t) ((h.mem _).2 ⟨e, he, rfl⟩)
  exact locG_gt hc
theorem Cpl.tm {W : Wh} {L : List Rt} (h : Cpl W L) {e : Rt} (he : e ∈ L) : (e.t.id, e.t) ∈ W.tm := (h.mem _).2 ⟨e, he, rfl⟩
/-- So many times a list's head may fire, up to a time. -/
def Steps : Nat → List Rt → Int → Prop
  | 0, _, _ => True
  | _ + 1, [], _ => False
  | n + 1, e :: L, u => e.t.when ≤ u ∧ Steps n (nextR e L) u
theorem Steps.add : ∀ {m n : Nat} {L : List Rt} {u : Int} {out : List (Int × Int)}, Steps m L u → Steps n (runR m L out).1 u → Steps (m + n) L u
  | 0, n, L, u, out, _, h => by rw [Nat.zero_add]; exact h
  | m + 1, n, [], u, out, h, _ => h.elim
  | m + 1, n, e :: L, u, out, ⟨h1, h2⟩, h3 => by
    rw [show m + 1 + n = (m + n) + 1 by omega]
    exact ⟨h1, Steps.add h2 h3⟩
theorem steps_block {c u : Int} (hu : c ≤ u) : ∀ (A B : List Rt), (∀ e ∈ A, e.t.when = c) → Steps A.length (A ++ B) u
  | [], B, _ => trivial
  | e :: A, B, hA => by
    have hw := hA e (by simp)
    have hn : nextR e (A ++ B) = A ++ nextR e B := by
      unfold nextR
      split
      · rename_i hc
        exact addR_append fun x hx => by
          have := hA x (by simp [hx])
          show x.t.when < e.t.when + e.t.iv
          have := hc.1
          omega
      · rfl
    refine ⟨by omega, ?_⟩
    show Steps A.length (nextR e (A ++ B)) u
    rw [hn]
    exact steps_block hu A _ fun x hx => hA x (by simp [hx])
theorem of_div_lt {c x : Int} {k : Nat} (h : c / pw k < x) : c < x * pw k := (Int.ediv_lt_iff_lt_mul (pw_pos k)).1 h

set_option maxHeartbeats 1000000 in
theorem tick_cpl {W : Wh} {L : List Rt} (h : Cpl W L) (out : List (Int × Int)) (hn : W.now + 1 ≤ 1099511627776) :
    ∃ n M, runR n L out = (M, (tickS W out).2) ∧ Cpl (tickS W out).1 M ∧ (∀ u, W.now + 1 ≤ u → Steps n L u) := by
  obtain ⟨c, hc⟩ : ∃ c, W.now + 1 = c := ⟨_, rfl⟩
  have hok := tick_ok h.ok out hn
  rw [hc] at hn hok
  have hb := h.ok.inv.now
  have i1 : Inv { W with now := c } := now_inv h.ok.inv c (by omega)
  obtain ⟨G, hG⟩ : ∃ G : Nat → Tm → Prop, G = fun k t => ∃ e ∈ L, e.t = t ∧ k = rpl 6 t.when e.set c := ⟨_, rfl⟩
  have F1 : Full { W with now := c } (CasC G c (topOf c)) := by
    intro p hp
    obtain ⟨k, hk, hpl, hl, e, he, e1, e2⟩ := h.full p hp
    refine ⟨k, hk, hpl, ?_⟩
    have hset := h.sets e he
    have hgt := locG_gt hl
    have rs := rpl_step 6 p.2.when e.set W.now (by have := whl_lt (p.2.when - e.set); omega) (by omega)
    rw [hc] at rs
    have hnx := loc_next W.now p.2.when k hk hl
    rw [hc] at hnx
    rcases hnx with hx | hx
    · refine Or.inl ⟨hx, ?_⟩
      rw [hG]
      refine ⟨e, he, e1, ?_⟩
      rcases Nat.eq_zero_or_pos k with k0 | k1
      · rw [k0] at e2 ⊢
        exact (rs.1 e2.symm).symm
      · refine ((rs.2 k k1 e2.symm).2.1 ?_).symm
        rcases hx with ⟨h0, -⟩ | ⟨-, h2, -⟩
        · omega
        · exact of_div_lt h2
    · refine Or.inr ⟨top_ge c k hk hx.2.1, hx, ?_⟩
      rw [hG]
      refine ⟨e, he, e1, ((rs.2 k hx.1 e2.symm).2.2 ?_).symm⟩
      have a := Int.mul_ediv_add_emod c (pw k)
      rw [Int.mul_comm] at a
      rw [hx.2.2]
      have := hx.2.1
      omega
  obtain ⟨F2, T2⟩ := casc_full (topOf c) { W with now := c } (top_lt c) i1 (fun i hi => top_div c i (by have := top_lt c; omega) hi) F1
  obtain ⟨I2, -, N2, O2⟩ := casc_inv (topOf c) { W with now := c } (top_lt c) i1
  obtain ⟨W2, hW2⟩ : ∃ W2, cascS { W with now := c } (topOf c) = W2 := ⟨_, rfl⟩
  have et : tickS W out = fireS W2 out (dueS W2 (slotOf 0 W2.now)) := by
    have : W2 = if c % 64 = 0 then cascS { W with now := c } (topOf c) else { W with now := c } := by
      rw [← hW2]
      split
      · rfl
      · rename_i h6
        have : topOf c = 0 := by unfold topOf; rw [if_pos h6]
        rw [this]
        rfl
    rw [this, ← hc]
    rfl
  rw [hW2] at F2 T2 I2 N2 O2
  simp only at F2 T2 N2 O2
  rw [N2] at et
  have hs := slot_lt 0 c
  have hs2 : slotOf 0 c < 448 := by omega
  have hl : ∀ t ∈ dueS W2 (slotOf 0 c), (t.id, t) ∈ W2.tm := fun t ht => due_mem I2 hs2 ht
  have hids := due_ids I2 hs2
  have hmem : ∀ t, t ∈ dueS W2 (slotOf 0 c) ↔ (t.id, t) ∈ W2.tm ∧ t.when = c := by
    intro t
    constructor
    · intro ht
      refine ⟨hl t ht, ?_⟩
      obtain ⟨k, hk, hpl, hcc⟩ := F2 _ (hl t ht)
      have ht' : t ∈ dueS W2 (0 * 64 + slotOf 0 c) := by rw [Nat.zero_mul, Nat.zero_add]; exact ht
      obtain ⟨rfl, e⟩ := due_place I2 (by omega) hs ht' hpl
      have e2 := slot_eq e
      rw [pw0, Int.ediv_one, Int.ediv_one] at e2
      rcases hcc with ⟨⟨-, h1, h2⟩ | ⟨h1, -⟩, -⟩ | ⟨h0, ⟨h1, -⟩, -⟩
      · simp only at h1 h2; omega
      · omega
      · omega
    · rintro ⟨ht, hw⟩
      obtain ⟨k, hk, hpl, hcc⟩ := F2 _ ht
      simp only at hpl hcc
      rw [hw] at hpl
      have hk0 : k = 0 := by
        rcases hcc with ⟨⟨h0, -⟩ | ⟨-, h1, -⟩, -⟩ | ⟨h0, ⟨h1, -⟩, -⟩
        · exact h0
        · rw [hw] at h1; omega
        · omega
      subst hk0
      have := hpl.2
      rw [Nat.zero_mul, Nat.zero_add] at this
      exact mem_due I2 ht this
  obtain ⟨A, B, hAB, hA, hB⟩ := split_due c L h.srt (fun e he => by have := h.later he; omega)
  have hA2 : dueS W2 (slotOf 0 c) = A.map (·.t) := by
    have hidA : ((A.map (·.t)).map (·.id)).Nodup := by
      have := h.srt.ids
      rw [hAB, List.map_append] at this
      rw [List.map_map]
      exact (List.nodup_append.1 this).1
    refine sorted_unique _ _ ((List.perm_ext_iff_of_nodup (List.Pairwise.of_map _ (fun _ _ hne e => hne (by rw [e])) hids) (List.Pairwise.of_map _ (fun _ _ hne e => hne (by rw [e])) hidA)).2 fun t => ?_) ?_ (srt_sorted _) ?_
    · rw [hmem, T2, h.mem]
      constructor
      · rintro ⟨⟨e, he, e1⟩, hw⟩
        have e2 : t = e.t := congrArg Prod.snd e1
        subst e2
        rw [hAB] at he
        rcases List.mem_append.1 he with he | he
        · exact List.mem_map.2 ⟨e, he, rfl⟩
        · have := hB e he; omega
      · intro ht
        obtain ⟨e, he, rfl⟩ := List.mem_map.1 ht
        exact ⟨⟨e, by rw [hAB]; exact List.mem_append_left _ he, rfl⟩, hA e he⟩
    · rw [due_srt, ((srt_perm _).map _).nodup_iff]
      exact at_ords I2 hs2
    · have := h.srt.sorted
      rw [hAB] at this
      rw [List.pairwise_map]
      exact (List.pairwise_append.1 this).1
  obtain ⟨M, r1, r2, r3, r4⟩ := run_block A B out (by rw [← hAB]; exact h.srt) hA hB
  have et2 : tickS W out = (firedS W2 (dueS W2 (slotOf 0 c)), out ++ (dueS W2 (slotOf 0 c)).map fun t => (t.id, t.when)) := by rw [et, fire_eq]
  refine ⟨A.length, M, ?_, ?_, fun u hu => ?_⟩
  · rw [hAB, r1, et2, hA2, List.map_map]
    rfl
  · have htm : ∀ p, p ∈ (tickS W out).1.tm ↔ ∃ e ∈ M, p = (e.t.id, e.t) := by
      intro p
      rw [et2]
      simp only
      rw [fired_tm _ W2 I2 hl hids, T2, h.mem, hA2]
      constructor
      · rintro (⟨⟨e, he, rfl⟩, h2⟩ | ⟨t, ht, hg, rfl⟩)
        · rw [hAB] at he
          rcases List.mem_append.1 he with he | he
          · exact absurd rfl (h2 e.t (List.mem_map.2 ⟨e, he, rfl⟩))
          · exact ⟨e, (r4 e).2 (Or.inl he), rfl⟩
        · obtain ⟨e, he, rfl⟩ := List.mem_map.1 ht
          exact ⟨rt1 e, (r4 _).2 (Or.inr ⟨e, he, hg, rfl⟩), rfl⟩
      · rintro ⟨u, hu, rfl⟩
        rcases (r4 u).1 hu with hu | ⟨e, he, hg, rfl⟩
        · refine Or.inl ⟨⟨u, by rw [hAB]; exact List.mem_append_right _ hu, rfl⟩, fun t ht e2 => ?_⟩
          obtain ⟨e, he, rfl⟩ := List.mem_map.1 ht
          have := h.srt.ids
          rw [hAB, List.map_append] at this
          exact (List.nodup_append.1 this).2.2 _ (List.mem_map.2 ⟨e, he, rfl⟩) _ (List.mem_map.2 ⟨u, hu, rfl⟩) e2.symm
        · exact Or.inr ⟨e.t, List.mem_map.2 ⟨e, he, rfl⟩, hg, rfl⟩
    refine ⟨hok.1, r2, htm, ?_, fun e he => ?_⟩
    · rw [hok.2]
      have hfull : Full (firedS W2 (dueS W2 (slotOf 0 c))) (fun k t => LocG c k t.when ∧ ∃ e ∈ M, e.t = t ∧ k = rpl 6 t.when e.set c) := by
        refine fired_full _ W2 I2 hl hids (fun t ht hg => ?_) (F2.imp fun p hp k hk hpl hcc => ?_)
        · have hw := ((hmem t).1 ht).2
          rw [hA2] at ht
          obtain ⟨e, he, rfl⟩ := List.mem_map.1 ht
          rw [N2]
          have hm := hg.2
          have hp := hg.1
          refine ⟨locG_of (loc_whl' c (e.t.when + e.t.iv) (by omega) (by omega) hm) (by show e.t.when + e.t.iv ≠ c; omega), rt1 e, (r4 _).2 (Or.inr ⟨e, he, hg, rfl⟩), rfl, ?_⟩
          show _ = rpl 6 (e.t.when + e.t.iv) e.t.when c
          rw [hw]
          exact (rpl_put 6 (c + e.t.iv) c (by have := whl_lt (c + e.t.iv - c); omega)).symm
        · by_cases hd : p.2 ∈ dueS W2 (slotOf 0 c)
          · exact Or.inl hd
          · right
            have hne : p.2.when ≠ c := fun e => hd ((hmem p.2).2 ⟨by rw [← pair_of I2 hp]; exact hp, e⟩)
            rcases hcc with ⟨h1, h2⟩ | ⟨h0, ⟨h1, -⟩, -⟩
            · refine ⟨locG_of h1 hne, ?_⟩
              rw [hG] at h2
              obtain ⟨e, he, e1, e2⟩ := h2
              refine ⟨e, (r4 e).2 (Or.inl ?_), e1, e2⟩
              rw [hAB] at he
              rcases List.mem_append.1 he with he | he
              · exact absurd ((congrArg Tm.when e1).symm.trans (hA e he)) hne
              · exact he
            · omega
      rw [et2]
      exact hfull
    · rw [hok.2]
      rcases (r4 e).1 he with he | ⟨x, hx, -, rfl⟩
      · have := h.sets e (by rw [hAB]; exact List.mem_append_right _ he)
        omega
      · show 0 ≤ x.t.when ∧ x.t.when ≤ c
        have := hA x hx
        omega
  · rw [hAB]
    exact steps_block (by omega) A B hA
end Go.Wh
