/- Wheels with one timer: it fires at each of its times. No program. -/
import Derived.Test.YtddajaikighjlaaIy
namespace Go.Wh
open Go.Mp

def emptyS (now ord : Int) : Wh := ⟨now, ord, List.replicate 448 [], [], []⟩
def oneS (now ord : Int) (k : Nat) (t : Tm) : Wh := ⟨now, ord, (List.replicate 448 []).set (k * 64 + slotOf k t.when) [(t.id, true)], [(t.id, t)], [(t.id, ((k : Int), (slotOf k t.when : Int)))]⟩
theorem rep_get (n : Nat) : (List.replicate 448 ([] : List (Int × Bool))).getD n [] = [] := by
  by_cases h : n < 448
  · simp [List.getD, h, -List.reduceReplicate]
  · simp [List.getD, h, -List.reduceReplicate]
theorem put_one (now ord : Int) (t : Tm) : putS (emptyS now ord) t = oneS now ord (whl (t.when - now)) t := by
  unfold putS oneS emptyS
  simp only [rep_get]
  rfl
theorem idx_one (k : Nat) (t : Tm) : (((k : Int) * 64 + (slotOf k t.when : Int)).toNat) = k * 64 + slotOf k t.when := by omega
theorem take_one (now ord : Int) (k : Nat) (t : Tm) (hk : k < 7) : takeS (oneS now ord k t) t.id = (emptyS now ord, t) := by
  have hs := slot_lt k t.when
  have hn : k * 64 + slotOf k t.when < 448 := by omega
  have e1 : getA [(t.id, t)] t.id tm0 = (t, true) := by simp [getA]
  have e2 : getA [(t.id, ((k : Int), (slotOf k t.when : Int)))] t.id (0, 0) = (((k : Int), (slotOf k t.when : Int)), true) := by simp [getA]
  unfold takeS oneS emptyS
  simp only [e1, e2, idx_one]
  have e3 : ((List.replicate 448 ([] : List (Int × Bool))).set (k * 64 + slotOf k t.when) [(t.id, true)]).getD (k * 64 + slotOf k t.when) [] = [(t.id, true)] := by
    simp [List.getD, hn, -List.reduceReplicate]
  rw [e3, List.set_set]
  have e4 : delA [(t.id, true)] t.id = [] := by simp [delA]
  have e5 : delA [(t.id, t)] t.id = [] := by simp [delA]
  have e6 : delA [(t.id, ((k : Int), (slotOf k t.when : Int)))] t.id = [] := by simp [delA]
  rw [e4, e5, e6, List.set_replicate_self]
theorem due_one (now ord : Int) (k : Nat) (t : Tm) (hk : k < 7) (n : Nat) : dueS (oneS now ord k t) n = if n = k * 64 + slotOf k t.when then [t] else [] := by
  have hs := slot_lt k t.when
  have hn : k * 64 + slotOf k t.when < 448 := by omega
  unfold dueS oneS
  by_cases h : n = k * 64 + slotOf k t.when
  · subst h
    rw [if_pos rfl]
    have e3 : ((List.replicate 448 ([] : List (Int × Bool))).set (k * 64 + slotOf k t.when) [(t.id, true)]).getD (k * 64 + slotOf k t.when) [] = [(t.id, true)] := by
      simp [List.getD, hn, -List.reduceReplicate]
    simp only [e3, List.map_cons, List.map_nil, srt, ins]
    simp [getA]
  · rw [if_neg h]
    have e3 : ((List.replicate 448 ([] : List (Int × Bool))).set (k * 64 + slotOf k t.when) [(t.id, true)]).getD n [] = [] := by
      have := rep_get n
      simp only [List.getD] at this ⊢
      rw [List.getElem?_set_ne (fun e => h e.symm)]
      exact this
    simp only [e3, List.map_nil, srt]
/-- Where one timer lies (times below 4096). -/
def Loc (now : Int) (k : Nat) (when : Int) : Prop := (k = 0 ∧ now < when ∧ when < now + 64) ∨ (k = 1 ∧ now / 64 < when / 64)
theorem slot1 (x : Int) (h0 : 0 ≤ x) (h1 : x < 4096) : slotOf 1 x = (x / 64).toNat := by
  unfold slotOf pw pw
  omega
theorem slot0' (x : Int) : slotOf 0 x = (x % 64).toNat := by unfold slotOf pw; rw [Int.ediv_one]
theorem loc_whl (now iv : Int) (h : 1 ≤ iv) (h2 : iv < 4096) : Loc now (whl iv) (now + iv) := by
  unfold whl
  by_cases h3 : iv < 64
  · rw [if_pos h3]
    exact Or.inl ⟨rfl, by omega, by omega⟩
  · rw [if_neg h3, if_pos h2]
    exact Or.inr ⟨rfl, by omega⟩
/-- Behind the cascade: on the slot of now, or where it was. -/
theorem fire_one (now ord : Int) (k : Nat) (t : Tm) (out : List (Int × Int)) (h0 : 0 ≤ now) (hw : t.when ≤ now + 256) (hn : now < 3500) (hi : 1 ≤ t.iv) (hi2 : t.iv ≤ 256) (hl : (k = 0 ∧ now ≤ t.when ∧ t.when < now + 64) ∨ (k = 1 ∧ now / 64 < t.when / 64)) :
    fireS (oneS now ord k t) out (dueS (oneS now ord k t) (slotOf 0 now)) = if t.when = now then (oneS now ord (whl t.iv) { t with when := t.when + t.iv }, out ++ [(t.id, t.when)]) else (oneS now ord k t, out) := by
  have hk : k < 7 := by rcases hl with ⟨rfl, _⟩ | ⟨rfl, _⟩ <;> decide
  rw [due_one _ _ _ _ hk]
  have hs : slotOf 0 now = k * 64 + slotOf k t.when ↔ t.when = now := by
    rcases hl with ⟨rfl, h1, h2⟩ | ⟨rfl, h1⟩
    · rw [slot0', slot0']
      omega
    · rw [slot0', slot1 _ (by omega) (by omega)]
      omega
  by_cases he : t.when = now
  · rw [if_pos (hs.2 he), if_pos he]
    unfold fireS fireS
    simp only [take_one _ _ _ _ hk]
    rw [if_pos ⟨by omega, by omega⟩, put_one]
    simp only
    rw [show t.when + t.iv - now = t.iv by omega]
  · rw [if_neg (fun e => he (hs.1 e)), if_neg he]
    rfl
theorem tick_one (now ord : Int) (k : Nat) (t : Tm) (out : List (Int × Int)) (h0 : 0 ≤ now) (hw : t.when ≤ now + 256) (hn : now < 3400) (hi : 1 ≤ t.iv) (hi2 : t.iv ≤ 256) (hl : Loc now k t.when) :
    ∃ k', Loc (now + 1) k' (if t.when = now + 1 then t.when + t.iv else t.when) ∧ tickS (oneS now ord k t) out = if t.when = now + 1 then (oneS (now + 1) ord k' { t with when := t.when + t.iv }, out ++ [(t.id, t.when)]) else (oneS (now + 1) ord k' t, out) := by
  have hk : k < 7 := by rcases hl with ⟨rfl, _⟩ | ⟨rfl, _⟩ <;> decide
  have e1 : ({ oneS now ord k t with now := (oneS now ord k t).now + 1 } : Wh) = oneS (now + 1) ord k t := rfl
  have key : ∃ k2, ((k2 = 0 ∧ now + 1 ≤ t.when ∧ t.when < now + 1 + 64) ∨ (k2 = 1 ∧ (now + 1) / 64 < t.when / 64)) ∧
      (if (now + 1) % 64 = 0 then cascS (oneS (now + 1) ord k t) (topOf (now + 1)) else oneS (now + 1) ord k t) = oneS (now + 1) ord k2 t := by
    by_cases hm : (now + 1) % 64 = 0
    · rw [if_pos hm]
      have ht : topOf (now + 1) = 1 := by
        unfold topOf
        rw [if_neg (by omega), if_pos (by omega)]
      rw [ht]
      have ec : cascS (oneS (now + 1) ord k t) 1 = anew (oneS (now + 1) ord k t) (dueS (oneS (now + 1) ord k t) (1 * 64 + slotOf 1 (now + 1))) := rfl
      rw [ec, due_one _ _ _ _ hk]
      have hs1 := slot1 (now + 1) (by omega) (by omega)
      rcases hl with ⟨rfl, h1, h2⟩ | ⟨rfl, h1⟩
      · rw [if_neg (by have := slot_lt 0 t.when; omega)]
        exact ⟨0, Or.inl ⟨rfl, by omega, by omega⟩, rfl⟩
      · have hs2 := slot1 t.when (by omega) (by omega)
        by_cases he : t.when / 64 = (now + 1) / 64
        · rw [if_pos (by rw [hs1, hs2, he])]
          refine ⟨0, Or.inl ⟨rfl, by omega, by omega⟩, ?_⟩
          have ea : anew (oneS (now + 1) ord 1 t) [t] = putS (takeS (oneS (now + 1) ord 1 t) t.id).1 t := rfl
          rw [ea, take_one _ _ _ _ hk, put_one]
          have hz : whl (t.when - (now + 1)) = 0 := by
            unfold whl
            rw [if_pos (by omega)]
          rw [hz]
        · rw [if_neg (by rw [hs1, hs2]; omega)]
          exact ⟨1, Or.inr ⟨rfl, by omega⟩, rfl⟩
    · rw [if_neg hm]
      rcases hl with ⟨rfl, h1, h2⟩ | ⟨rfl, h1⟩
      · exact ⟨0, Or.inl ⟨rfl, by omega, by omega⟩, rfl⟩
      · exact ⟨1, Or.inr ⟨rfl, by omega⟩, rfl⟩
  obtain ⟨k2, hl2, ek⟩ := key
  have et : tickS (oneS now ord k t) out = fireS (oneS (now + 1) ord k2 t) out (dueS (oneS (now + 1) ord k2 t) (slotOf 0 (now + 1))) := by
    rw [← ek]
    by_cases hm : (now + 1) % 64 = 0
    · have : tickS (oneS now ord k t) out = fireS (if (now + 1) % 64 = 0 then cascS (oneS (now + 1) ord k t) (topOf (now + 1)) else oneS (now + 1) ord k t) out (dueS (if (now + 1) % 64 = 0 then cascS (oneS (now + 1) ord k t) (topOf (now + 1)) else oneS (now + 1) ord k t) (slotOf 0 (if (now + 1) % 64 = 0 then cascS (oneS (now + 1) ord k t) (topOf (now + 1)) else oneS (now + 1) ord k t).now)) := rfl
      rw [this, ek]
      rfl
    · have : tickS (oneS now ord k t) out = fireS (if (now + 1) % 64 = 0 then cascS (oneS (now + 1) ord k t) (topOf (now + 1)) else oneS (now + 1) ord k t) out (dueS (if (now + 1) % 64 = 0 then cascS (oneS (now + 1) ord k t) (topOf (now + 1)) else oneS (now + 1) ord k t) (slotOf 0 (if (now + 1) % 64 = 0 then cascS (oneS (now + 1) ord k t) (topOf (now + 1)) else oneS (now + 1) ord k t).now)) := rfl
      rw [this, ek]
      rfl
  rw [et, fire_one (now + 1) ord k2 t out (by omega) (by omega) (by omega) hi hi2 hl2]
  by_cases he : t.when = now + 1
  · refine ⟨whl t.iv, ?_, ?_⟩
    · rw [if_pos he, he]
      exact loc_whl _ _ hi (by omega)
    · rw [if_pos he, if_pos he]
  · refine ⟨k2, ?_, ?_⟩
    · rw [if_neg he]
      rcases hl2 with ⟨rfl, h1, h2⟩ | ⟨rfl, h1⟩
      · exact Or.inl ⟨rfl, by omega, by omega⟩
      · exact Or.inr ⟨rfl, h1⟩
    · rw [if_neg he, if_neg he]
def times (id at_ iv : Int) (m : Nat) : List (Int × Int) := (List.range m).map fun (i : Nat) => (id, at_ + (i : Int) * iv)
theorem times_succ (id at_ iv : Int) (m : Nat) : times id at_ iv (m + 1) = (id, at_) :: times id (at_ + iv) iv m := by
  unfold times
  rw [List.range_succ_eq_map, List.map_cons, List.map_map]
  congr 1
  · simp
  · refine List.map_congr_left fun i _ => ?_
    simp only [Function.comp_apply, Prod.mk.injEq, true_and]
    push_cast
    rw [Int.add_mul]
    omega
theorem ticks_one : ∀ (n : Nat) (now ord : Int) (k : Nat) (t : Tm) (out : List (Int × Int)), 0 ≤ now → t.when ≤ now + 256 → now + (n : Int) < 3400 → 1 ≤ t.iv → t.iv ≤ 256 → Loc now k t.when → now < t.when →
    ∃ (m : Nat) (k' : Nat), ticks n (oneS now ord k t) out = (oneS (now + (n : Int)) ord k' { t with when := t.when + (m : Int) * t.iv }, out ++ times t.id t.when t.iv m) ∧ now + (n : Int) < t.when + (m : Int) * t.iv ∧ t.when + (m : Int) * t.iv ≤ now + (n : Int) + 256 ∧ Loc (now + (n : Int)) k' (t.when + (m : Int) * t.iv)
  | 0, now, ord, k, t, out, h0, hw, hn, hi, hi2, hl, hlt => by
    refine ⟨0, k, ?_, by simpa using hlt, by simpa using hw, by simpa using hl⟩
    simp [ticks, times]
  | n + 1, now, ord, k, t, out, h0, hw, hn, hi, hi2, hl, hlt => by
    obtain ⟨k1, hl1, e1⟩ := tick_one now ord k t out h0 hw (by omega) hi hi2 hl
    have e : ticks (n + 1) (oneS now ord k t) out = ticks n (tickS (oneS now ord k t) out).1 (tickS (oneS now ord k t) out).2 := rfl
    by_cases he : t.when = now + 1
    · rw [if_pos he] at hl1 e1
      obtain ⟨m, k', h1, h2, h3, h4⟩ := ticks_one n (now + 1) ord k1 { t with when := t.when + t.iv } (out ++ [(t.id, t.when)]) (by omega) (by simp only; omega) (by omega) hi hi2 hl1 (by simp only; omega)
      simp only at h1 h2 h3 h4
      have ea : t.when + t.iv + (m : Int) * t.iv = t.when + ((m + 1 : Nat) : Int) * t.iv := by push_cast; rw [Int.add_mul]; omega
      have eb : now + 1 + (n : Int) = now + ((n + 1 : Nat) : Int) := by push_cast; omega
      rw [ea, eb] at h1
      rw [ea, eb] at h2 h3 h4
      refine ⟨m + 1, k', ?_, h2, h3, h4⟩
      rw [e, e1, h1, times_succ, List.append_assoc]
      rfl
    · rw [if_neg he] at hl1 e1
      obtain ⟨m, k', h1, h2, h3, h4⟩ := ticks_one n (now + 1) ord k1 t out (by omega) (by omega) (by omega) hi hi2 hl1 (by omega)
      have eb : now + 1 + (n : Int) = now + ((n + 1 : Nat) : Int) := by push_cast; omega
      rw [eb] at h1
      rw [eb] at h2 h3 h4
      refine ⟨m, k', ?_, h2, h3, h4⟩
      rw [e, e1, h1]
theorem adv_one (now ord : Int) (k : Nat) (t : Tm) (to_ : Int) (h0 : 0 ≤ now) (hw : t.when ≤ now + 256) (hto : now ≤ to_) (hn : to_ < 3400) (hi : 1 ≤ t.iv) (hi2 : t.iv ≤ 256) (hl : Loc now k t.when) (hlt : now < t.when) :
    ∃ (m : Nat) (k' : Nat), advS (oneS now ord k t) to_ = (oneS to_ ord k' { t with when := t.when + (m : Int) * t.iv }, times t.id t.when t.iv m, 0) ∧ to_ < t.when + (m : Int) * t.iv ∧ t.when + (m : Int) * t.iv ≤ to_ + 256 ∧ Loc to_ k' (t.when + (m : Int) * t.iv) := by
  obtain ⟨n, hn2⟩ : ∃ n : Nat, to_ = now + (n : Int) := ⟨(to_ - now).toNat, by omega⟩
  obtain ⟨m, k', h1, h2, h3, h4⟩ := ticks_one n now ord k t [] h0 hw (by omega) hi hi2 hl hlt
  rw [← hn2] at h1 h2 h3 h4
  refine ⟨m, k', ?_, h2, h3, h4⟩
  have hmany : ¬ 5000 < manyS (oneS now ord k t) to_ := by
    have hd : t.when ≤ to_ → (to_ - t.when) / t.iv ≤ to_ - t.when := fun h => Int.ediv_le_self _ (by omega)
    show ¬ 5000 < ([(t.id, t)].map fun p : Int × Tm => if to_ < p.2.when then 0 else if p.2.iv = 0 then 1 else 1 + (to_ - p.2.when) / p.2.iv).sum
    simp only [List.map_cons, List.map_nil, List.sum_cons, List.sum_nil, Int.add_zero]
    split
    · omega
    · split
      · omega
      · have := hd (by omega)
        omega
  unfold advS
  have hnow : (oneS now ord k t).now = now := rfl
  rw [hnow, if_neg (by omega), if_neg (by omega), if_neg hmany, show (to_ - now).toNat = n by omega, h1]
  simp
theorem set_one (at_ iv : Int) (h1 : 1 ≤ at_) (h2 : at_ ≤ 256) (h3 : 1 ≤ iv) (h4 : iv ≤ 256) : setS (newS 0) 3 at_ iv = (oneS 0 1 (whl at_) ⟨3, at_, iv, 0⟩, 0) := by
  unfold setS
  rw [show (newS 0).tm = [] from rfl, show (newS 0).now = 0 from rfl, show (newS 0).ord = 0 from rfl]
  rw [if_neg (by omega), if_neg (by omega), if_neg (show ¬ (getA ([] : List (Int × Tm)) 3 tm0).2 = true by simp [getA]), if_neg (show ¬ ([] : List (Int × Tm)).length = 1000 by simp), if_neg (show ¬ at_ ≤ 0 by omega)]
  have : putS (newS 0) ⟨3, at_, iv, 0⟩ = oneS 0 0 (whl (at_ - 0)) ⟨3, at_, iv, 0⟩ := put_one 0 0 ⟨3, at_, iv, 0⟩
  rw [Int.sub_zero] at this
  show (({ putS (newS 0) ⟨3, at_, iv, 0⟩ with ord := 1 } : Wh), (0 : Int)) = _
  rw [this]
  rfl
end Go.Wh
