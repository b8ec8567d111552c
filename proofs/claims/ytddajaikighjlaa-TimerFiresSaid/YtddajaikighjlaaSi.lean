/- TimerFires' plain law: timers without intervals. No program. -/
import Derived.Test.YtddajaikighjlaaQa
import Derived.Test.YtddajaikighjlaaSg
namespace Go.Wh
open Go.Mp Go.Proofs.Ytddajaikighjlaa

/-- A timer that was set at the time 5. -/
def mkR (s : Int × Int) : Rt := ⟨⟨s.1, s.2, 0, s.1⟩, 5⟩
/-- The wheels hold what is wanted. -/
def Wants (W : Wh) (l : List (Int × Int)) : Prop := W.now = 5 ∧ ∃ L, Cpl W L ∧ L.Perm (l.map mkR)
theorem wants_new : Wants (newS 5) [] := ⟨rfl, [], new_cpl 5 (by decide), List.Perm.nil⟩
theorem wants_set {W : Wh} {l : List (Int × Int)} (h : Wants W l) (ho : W.ord = (l.length : Int)) (hid : ∀ s ∈ l, s.1 < (l.length : Int)) (hl : l.length < 1000) (a : Int) (ha : 6 ≤ a ∧ a ≤ 1099511627776) :
    (setS W (l.length : Int) a 0).2 = 0 ∧ Wants (setS W (l.length : Int) a 0).1 (l ++ [((l.length : Int), a)]) ∧ (setS W (l.length : Int) a 0).1.ord = ((l.length + 1 : Nat) : Int) := by
  obtain ⟨hn, L, hc, hp⟩ := h
  obtain ⟨h1, h2, h3, h4⟩ := set_cpl hc (l.length : Int) a 0
  have hlen : L.length = l.length := by rw [hp.length_eq, List.length_map]
  have hany : ¬ (L.any fun e => e.t.id == (l.length : Int)) = true := by
    rw [List.any_eq_true]
    rintro ⟨e, he, e1⟩
    obtain ⟨s, hs, rfl⟩ := List.mem_map.1 (hp.mem_iff.1 he)
    have := hid s hs
    have e2 : s.1 = (l.length : Int) := by simpa [mkR] using e1
    omega
  have hr : rsetS W.now W.ord L (l.length : Int) a 0 = ((addR L (mkR ((l.length : Int), a)), W.ord + 1), 0) := by
    unfold rsetS
    rw [if_neg (by omega), if_neg (by omega), if_neg hany, if_neg (by omega), if_neg (by omega), hn, ho]
    rfl
  rw [hr] at h1 h2 h3
  refine ⟨h1, ⟨h4.trans hn, _, h2, ?_⟩, ?_⟩
  · refine (addR_perm _ _).trans ?_
    rw [List.map_append]
    exact ((hp.cons _).trans (List.perm_append_comm (l₁ := [mkR ((l.length : Int), a)]) (l₂ := l.map mkR)))
  · rw [h3, ho]
    push_cast
    rfl
theorem wants_cancel {W : Wh} {l : List (Int × Int)} (h : Wants W l) (id : Int) : (cancelS W id).2 = (l.any fun s => s.1 == id) ∧ Wants (cancelS W id).1 (l.filter fun s => !(s.1 == id)) := by
  obtain ⟨hn, L, hc, hp⟩ := h
  obtain ⟨h1, h2, h3, h4⟩ := cancel_cpl hc id
  have hnd : L.Nodup := List.Pairwise.of_map (fun e : Rt => e.t.id) (fun _ _ hne e => hne (by rw [e])) hc.srt.ids
  have hany : (L.any fun e => e.t.id == id) = (l.any fun s => s.1 == id) := by
    rw [Bool.eq_iff_iff, List.any_eq_true, List.any_eq_true]
    constructor
    · rintro ⟨e, he, e1⟩
      obtain ⟨s, hs, rfl⟩ := List.mem_map.1 (hp.mem_iff.1 he)
      exact ⟨s, hs, e1⟩
    · rintro ⟨s, hs, e1⟩
      exact ⟨mkR s, hp.mem_iff.2 (List.mem_map.2 ⟨s, hs, rfl⟩), e1⟩
  have hmem : ∀ u, u ∈ (rcancelS L id).1 ↔ u ∈ L ∧ u.t.id ≠ id := by
    intro u
    unfold rcancelS
    cases hf : L.findIdx? fun e => e.t.id == id with
    | none =>
      have := List.findIdx?_eq_none_iff.1 hf
      exact ⟨fun hu => ⟨hu, by simpa using this u hu⟩, fun hu => hu.1⟩
    | some i => exact mem_erase hf hc.srt.ids u
  have h2b : (rcancelS L id).2 = (L.any fun e => e.t.id == id) := by
    rw [← hc.has]
    rw [← h1]
    unfold cancelS
    split
    · rename_i h; rw [h]
    · rename_i h; simpa using h
  refine ⟨by rw [h1, h2b, hany], h4.trans hn, _, h2, ?_⟩
  have hnd2 : (rcancelS L id).1.Nodup := List.Pairwise.of_map (fun e : Rt => e.t.id) (fun _ _ hne e => hne (by rw [e])) h2.srt.ids
  have hnd3 : (l.map mkR).Nodup := hp.nodup_iff.1 hnd
  refine (List.perm_ext_iff_of_nodup hnd2 ?_).2 fun u => ?_
  · exact ((List.filter_sublist).map mkR).nodup hnd3
  · rw [hmem, hp.mem_iff]
    constructor
    · rintro ⟨hu, hne⟩
      obtain ⟨s, hs, rfl⟩ := List.mem_map.1 hu
      exact List.mem_map.2 ⟨s, List.mem_filter.2 ⟨hs, by simpa [mkR] using hne⟩, rfl⟩
    · intro hu
      obtain ⟨s, hs, rfl⟩ := List.mem_map.1 hu
      obtain ⟨hs1, hs2⟩ := List.mem_filter.1 hs
      exact ⟨List.mem_map.2 ⟨s, hs1, rfl⟩, by simpa [mkR] using hs2⟩
/-- Sorted, what is wanted is the reference's list. -/
theorem wants_sorted {W : Wh} {l : List (Int × Int)} (h : Wants W l) (hP : ∀ x ∈ l, PA x) (ho : l.Pairwise fun x y => x.1 < y.1) : Cpl W ((stS l).map mkR) := by
  obtain ⟨hn, L, hc, hp⟩ := h
  obtain ⟨h1, h2⟩ := stS_sorted hP ho
  have hp2 : L.Perm ((stS l).map mkR) := hp.trans ((h1.map mkR).symm)
  have ht : L.map (·.t) = ((stS l).map mkR).map (·.t) := by
    refine sorted_unique _ _ (hp2.map _) ?_ (by rw [List.pairwise_map]; exact hc.srt.sorted) ?_
    · rw [List.map_map]; exact hc.srt.ords
    · rw [List.pairwise_map, List.pairwise_map]
      refine h2.imp fun {x y} hxy => ?_
      rw [before_of]
      unfold ltB at hxy
      simp only [Bool.or_eq_false_iff, Bool.and_eq_false_imp, decide_eq_false_iff_not, beq_iff_eq] at hxy
      show x.2 < y.2 ∨ (x.2 = y.2 ∧ x.1 ≤ y.1)
      have h3 := hxy.1
      by_cases e : x.2 = y.2
      · have := hxy.2 e.symm
        omega
      · omega
  have hL : L = (stS l).map mkR := by
    have e1 : ∀ (A : List Rt), (∀ e ∈ A, e.set = 5) → A = (A.map (·.t)).map fun t => (⟨t, 5⟩ : Rt) := by
      intro A hA
      rw [List.map_map]
      refine (List.map_id A).symm.trans (List.map_congr_left fun e he => ?_)
      have := hA e he
      obtain ⟨t, s⟩ := e
      simp only at this
      subst this
      rfl
    rw [e1 L (fun e he => by obtain ⟨s, -, rfl⟩ := List.mem_map.1 (hp2.mem_iff.1 he); rfl), ht]
    exact (e1 _ (fun e he => by obtain ⟨s, -, rfl⟩ := List.mem_map.1 he; rfl)).symm
  rw [← hL]
  exact hc

def upTo (e : Int) (s : Int × Int) : Bool := decide (s.2 ≤ e)
theorem run_zero : ∀ (A B : List (Int × Int)) (out : List (Int × Int)), runR A.length ((A ++ B).map mkR) out = (B.map mkR, out ++ A)
  | [], B, out => by simp [runR]
  | s :: A, B, out => by
    show runR A.length (nextR (mkR s) ((A ++ B).map mkR)) (out ++ [(s.1, s.2)]) = _
    have : nextR (mkR s) ((A ++ B).map mkR) = (A ++ B).map mkR := by
      unfold nextR
      rw [if_neg (fun h => absurd h.1 (show ¬ (0 : Int) < 0 by omega))]
    rw [this, run_zero A B]
    simp
theorem cnt_zero (u : Int) (s : Int × Int) : cnt u (mkR s).t = if upTo u s then 1 else 0 := by
  unfold cnt mkR upTo
  simp only
  by_cases h : s.2 ≤ u
  · rw [if_neg (by omega), if_pos trivial, if_pos (by simpa using h)]
  · rw [if_pos (by omega), if_neg (by simpa using h)]
theorem cntR_app (u : Int) (A B : List Rt) : cntR u (A ++ B) = cntR u A + cntR u B := by
  unfold cntR
  rw [List.map_append, List.sum_append]
theorem cntR_all (u : Int) : ∀ (A : List (Int × Int)), (∀ s ∈ A, upTo u s = true) → cntR u (A.map mkR) = A.length
  | [], _ => rfl
  | s :: A, h => by
    show cnt u (mkR s).t + cntR u (A.map mkR) = _
    rw [cnt_zero, h s (by simp), if_pos rfl, cntR_all u A fun x hx => h x (by simp [hx])]
    push_cast
    simp only [List.length_cons]
    omega
theorem mem_take {p : Int × Int → Bool} : ∀ {S : List (Int × Int)} {s : Int × Int}, s ∈ S.takeWhile p → p s = true
  | [], s, h => by simp at h
  | x :: S, s, h => by
    rw [List.takeWhile_cons] at h
    split at h
    · rcases List.mem_cons.1 h with rfl | h
      · assumption
      · exact mem_take h
    · simp at h
theorem drop_all {u : Int} : ∀ {S : List (Int × Int)}, S.Pairwise (fun x y => x.2 ≤ y.2) → ∀ s ∈ S.dropWhile (upTo u), u < s.2
  | [], _, s, h => by simp at h
  | x :: S, hS, s, h => by
    obtain ⟨h1, h2⟩ := List.pairwise_cons.1 hS
    rw [List.dropWhile_cons] at h
    split at h
    · exact drop_all h2 s h
    · rename_i hx
      have hx' : u < x.2 := by simpa [upTo] using hx
      rcases List.mem_cons.1 h with rfl | h
      · exact hx'
      · have := h1 s h
        omega
/-- A step of Advance. -/
theorem radv_zero {S : List (Int × Int)} (hS : S.Pairwise (fun x y => x.2 ≤ y.2)) (hl : S.length ≤ 5000) (t u : Int) (h0 : 0 ≤ u ∧ u ≤ 1099511627776) (h1 : t ≤ u ∧ u ≤ t + 1000000) :
    radvS t (S.map mkR) u = (((S.dropWhile (upTo u)).map mkR, u), S.takeWhile (upTo u), 0) := by
  have hsplit : S.takeWhile (upTo u) ++ S.dropWhile (upTo u) = S := List.takeWhile_append_dropWhile
  have hc : cntR u (S.map mkR) = (S.takeWhile (upTo u)).length := by
    have e : S.map mkR = (S.takeWhile (upTo u)).map mkR ++ (S.dropWhile (upTo u)).map mkR := by rw [← List.map_append, hsplit]
    rw [e, cntR_app, cntR_all u _ fun s hs => mem_take hs, cntR_none _ fun e he => ?_]
    · omega
    · obtain ⟨s, hs, rfl⟩ := List.mem_map.1 he
      exact drop_all hS s hs
  have hlt : (S.takeWhile (upTo u)).length ≤ S.length := (List.takeWhile_sublist _).length_le
  unfold radvS
  rw [if_neg (by omega), if_neg (by omega), hc, if_neg (by omega), Int.toNat_natCast]
  have := run_zero (S.takeWhile (upTo u)) (S.dropWhile (upTo u)) []
  rw [hsplit] at this
  rw [this]
  rfl
theorem while_then {S : List (Int × Int)} {e f : Int} (h : e ≤ f) : S.takeWhile (upTo e) ++ (S.dropWhile (upTo e)).takeWhile (upTo f) = S.takeWhile (upTo f) ∧ (S.dropWhile (upTo e)).dropWhile (upTo f) = S.dropWhile (upTo f) := by
  induction S with
  | nil => simp
  | cons x S ih =>
    by_cases hx : upTo e x = true
    · have hf : upTo f x = true := by unfold upTo at *; simp at *; omega
      rw [List.takeWhile_cons_of_pos hx, List.dropWhile_cons_of_pos hx, List.takeWhile_cons_of_pos hf, List.dropWhile_cons_of_pos hf]
      exact ⟨by rw [List.cons_append, ih.1], ih.2⟩
    · rw [List.takeWhile_cons_of_neg hx, List.dropWhile_cons_of_neg hx]
      exact ⟨rfl, rfl⟩
end Go.Wh
