/- Custodians: Dispose 43. -/
import Derived.Test.YtddajaikighjlaaCa
namespace Go.Proofs.Ytddajaikighjlaa
open Go.RowKit Go.Sl Go.Mp Go.Wh

def nilV : Value := .slice none 0 0
def setD (d : Nat → Bool) (i : Nat) : Nat → Bool := fun k => if k = i then true else d k
theorem setD_self (d : Nat → Bool) (i : Nat) : setD d i i = true := by simp [setD]
theorem setD_ne (d : Nat → Bool) {i k : Nat} (h : k ≠ i) : setD d i k = d k := by simp [setD, h]
/-- The weight of those that are not disposed of. -/
def tot (f : Nat → Nat) (d : Nat → Bool) : Nat → Nat
  | 0 => 0
  | n + 1 => tot f d n + if d n then 0 else f n
theorem tot_same {f : Nat → Nat} {d d' : Nat → Bool} : ∀ {n : Nat}, (∀ k, k < n → d k = d' k) → tot f d n = tot f d' n
  | 0, _ => rfl
  | n + 1, h => by
    show tot f d n + _ = tot f d' n + _
    rw [tot_same (n := n) fun k hk => h k (by omega), h n (by omega)]
theorem tot_mono {f : Nat → Nat} {d d' : Nat → Bool} : ∀ {n : Nat}, (∀ k, d k = true → d' k = true) → tot f d' n ≤ tot f d n
  | 0, _ => Nat.le_refl _
  | n + 1, h => by
    have := tot_mono (f := f) (n := n) h
    show tot f d' n + _ ≤ tot f d n + _
    by_cases hd : d n = true
    · rw [h n hd, hd]; simpa using this
    · by_cases hd' : d' n = true
      · simp only [hd, hd', if_true]; omega
      · simp only [hd, hd']; omega
theorem tot_set {f : Nat → Nat} {d : Nat → Bool} {i : Nat} (hi : d i = false) : ∀ {n : Nat}, i < n → tot f (setD d i) n + f i = tot f d n
  | 0, h => by omega
  | n + 1, h => by
    show tot f (setD d i) n + _ + f i = tot f d n + _
    by_cases e : i = n
    · subst e
      rw [setD_self, hi]
      rw [tot_same (d := setD d i) (d' := d) fun k hk => setD_ne d (by omega)]
      simp
    · have := tot_set (f := f) hi (n := n) (by omega)
      rw [setD_ne d (k := n) (by omega)]
      omega

def stepS (f : (Nat → Bool) → Nat → (Nat → Bool) × List Int) (acc : (Nat → Bool) × List Int) (x : Part) : (Nat → Bool) × List Int :=
  match x.2 with
  | none => (acc.1, acc.2 ++ [x.1])
  | some kq => ((f acc.1 kq.1).1, acc.2 ++ (f acc.1 kq.1).2)
/-- What Dispose does: who is disposed of behind it, and whom it returns. -/
def disS (P : Nat → List Part) : Nat → (Nat → Bool) → Nat → (Nat → Bool) × List Int
  | 0, d, _ => (d, [])
  | n + 1, d, i => if d i then (d, []) else (P i).foldl (stepS (disS P n)) (setD d i, [])
theorem fold_up {f : (Nat → Bool) → Nat → (Nat → Bool) × List Int} (hf : ∀ d i k, d k = true → (f d i).1 k = true) : ∀ (l : List Part) (acc : (Nat → Bool) × List Int) (k : Nat), acc.1 k = true → (l.foldl (stepS f) acc).1 k = true
  | [], acc, k, h => h
  | x :: l, acc, k, h => by
    refine fold_up hf l _ k ?_
    unfold stepS
    split
    · exact h
    · exact hf _ _ _ h
theorem dis_up (P : Nat → List Part) : ∀ (n : Nat) (d : Nat → Bool) (i k : Nat), d k = true → (disS P n d i).1 k = true
  | 0, d, i, k, h => h
  | n + 1, d, i, k, h => by
    unfold disS
    split
    · exact h
    · refine fold_up (dis_up P n) _ _ _ ?_
      show setD d i k = true
      unfold setD
      split
      · rfl
      · exact h
theorem fold_len {P : Nat → List Part} {N : Nat} {f : (Nat → Bool) → Nat → (Nat → Bool) × List Int} (hf : ∀ d i, i < N → (f d i).2.length + tot (fun k => (P k).length) (f d i).1 N ≤ tot (fun k => (P k).length) d N) : ∀ (l : List Part) (acc : (Nat → Bool) × List Int), (∀ x ∈ l, ∀ k q, x.2 = some (k, q) → k < N) →
    (l.foldl (stepS f) acc).2.length + tot (fun k => (P k).length) (l.foldl (stepS f) acc).1 N ≤ acc.2.length + tot (fun k => (P k).length) acc.1 N + l.length
  | [], acc, _ => by simp
  | x :: l, acc, h => by
    have h1 := fold_len hf l (stepS f acc x) fun y hy => h y (by simp [hy])
    have h2 : (stepS f acc x).2.length + tot (fun k => (P k).length) (stepS f acc x).1 N ≤ acc.2.length + tot (fun k => (P k).length) acc.1 N + 1 := by
      unfold stepS
      split
      · simp only [List.length_append, List.length_cons, List.length_nil]
        omega
      · rename_i kq hk
        have := hf acc.1 kq.1 (h x (by simp) kq.1 kq.2 hk)
        simp only [List.length_append]
        omega
    simp only [List.foldl_cons, List.length_cons]
    omega
theorem dis_len {P : Nat → List Part} {N : Nat} (hP : ∀ i, i < N → ∀ x ∈ P i, ∀ k q, x.2 = some (k, q) → k < N) : ∀ (n : Nat) (d : Nat → Bool) (i : Nat), i < N → (disS P n d i).2.length + tot (fun k => (P k).length) (disS P n d i).1 N ≤ tot (fun k => (P k).length) d N
  | 0, d, i, _ => by simp [disS]
  | n + 1, d, i, hi => by
    unfold disS
    split
    · simp
    · rename_i hd
      have h1 := fold_len (P := P) (N := N) (f := disS P n) (fun d i hi => dis_len hP n d i hi) (P i) (setD d i, []) (hP i hi)
      have h2 := tot_set (f := fun k => (P k).length) (d := d) (i := i) (by simpa using hd) hi
      simp only [List.length_nil, Nat.zero_add] at h1
      omega

/-- N custodians lie in memory; d: who is disposed of. -/
structure DS (B N : Nat) (S C : Nat → Nat) (P : Nat → List Part) (V : Nat → Value) (d : Nat → Bool) (w : World) : Prop where
  open' : ∀ i, i < N → d i = false → Stk w (S i) (V i) false
  shut : ∀ i, i < N → d i = true → ∃ v, Stk w (S i) v true
  row : ∀ i, i < N → w.ownsRow B 168 2 (V i) (P i).length ((P i).flatMap encP2)
  part : ∀ i, i < N → ∀ x ∈ P i, ∀ k q, x.2 = some (k, q) → k < N ∧ CuB w q (C k) (S k)
  inj : ∀ i k, i < N → k < N → S i = S k → i = k
/-- From d to d', in memory. -/
structure Aft (N : Nat) (S : Nat → Nat) (d d' : Nat → Bool) (x : Nat → Value) (w w' : World) : Prop where
  kpt : Kpt (fun g => ∃ k, k < N ∧ g = S k ∧ d k = false ∧ d' k = true) w w'
  up : ∀ k, d k = true → d' k = true
  new : ∀ k, k < N → d k = false → d' k = true → Stk w' (S k) (x k) true
section
variable {B N : Nat} {S C : Nat → Nat} {P : Nat → List Part} {V x : Nat → Value} {d d' d2 : Nat → Bool} {w w' w2 : World}
theorem DS.stk (h : DS B N S C P V d w) {i : Nat} (hi : i < N) : ∃ v b, Stk w (S i) v b := by
  by_cases hd : d i = true
  · obtain ⟨v, hv⟩ := h.shut i hi hd
    exact ⟨v, true, hv⟩
  · exact ⟨_, _, h.open' i hi (by simpa using hd)⟩
theorem DS.lt (h : DS B N S C P V d w) {i : Nat} (hi : i < N) : S i < w.heap.size := by
  obtain ⟨v, b, hv⟩ := h.stk hi
  exact (Array.getElem?_eq_some_iff.1 hv).1
theorem DS.aft (h : DS B N S C P V d w) (a : Aft N S d d' x w w') : DS B N S C P V d' w' where
  open' i hi hd := by
    have hd0 : d i = false := by
      by_cases e : d i = true
      · rw [a.up i e] at hd; exact absurd hd (by decide)
      · simpa using e
    refine a.kpt.row (h.open' i hi hd0) ?_
    rintro ⟨k, hk, e, -, h2⟩
    rw [h.inj i k hi hk e] at hd
    rw [hd] at h2
    exact absurd h2 (by decide)
  shut i hi hd := by
    by_cases e : d i = true
    · obtain ⟨v, hv⟩ := h.shut i hi e
      refine ⟨v, a.kpt.row hv ?_⟩
      rintro ⟨k, hk, e2, h1, -⟩
      rw [h.inj i k hi hk e2, h1] at e
      exact absurd e (by decide)
    · exact ⟨_, a.new i hi (by simpa using e) hd⟩
  row i hi := a.kpt.own (h.row i hi) fun g hg => by
    rintro ⟨k, hk, rfl, -, -⟩
    obtain ⟨cs, hc, -⟩ := own_cells (h.row i hi) hg
    obtain ⟨v, b, hv⟩ := h.stk hk
    unfold Stk at hv
    rw [hv] at hc
    simp only [Option.some.injEq, Obj.cells.injEq] at hc
    exact absurd hc.2.1 (by decide)
  part i hi y hy k q hq := by
    obtain ⟨h1, h2⟩ := h.part i hi y hy k q hq
    refine ⟨h1, a.kpt.row h2 ?_⟩
    rintro ⟨j, hj, rfl, -, -⟩
    obtain ⟨v, b, hv⟩ := h.stk hj
    unfold Stk at hv
    unfold CuB at h2
    rw [hv] at h2
    simp only [Option.some.injEq, Obj.cells.injEq] at h2
    exact absurd h2.2.1 (by decide)
  inj := h.inj
theorem Aft.trans (h : DS B N S C P V d w) (a : Aft N S d d' x w w') (b : Aft N S d' d2 (fun _ => nilV) w' w2) (hx : ∀ k, k < N → d' k = false → x k = nilV) : Aft N S d d2 x w w2 where
  kpt := (a.kpt.mono fun g _ ⟨k, hk, e, h1, h2⟩ => ⟨k, hk, e, h1, b.up k h2⟩).trans (b.kpt.mono fun g _ ⟨k, hk, e, h1, h2⟩ => ⟨k, hk, e, by
    by_cases hd : d k = true
    · rw [a.up k hd] at h1; exact absurd h1 (by decide)
    · simpa using hd, h2⟩)
  up k hk := b.up k (a.up k hk)
  new k hk h1 h2 := by
    by_cases e : d' k = true
    · refine b.kpt.row (a.new k hk h1 e) ?_
      rintro ⟨j, hj, e2, h3, -⟩
      rw [h.inj k j hk hj e2, h3] at e
      exact absurd e (by decide)
    · rw [hx k hk (by simpa using e)]
      exact b.new k hk (by simpa using e) h2
theorem Aft.below (h : DS B N S C P V d w) (a : Aft N S d d' x w w') (hb : Below w.heap.size w' w2) : Aft N S d d' x w w2 where
  kpt := ⟨hb.os.trans a.kpt.os, hb.tape.trans a.kpt.tape, hb.output.trans a.kpt.output, Nat.le_trans a.kpt.size hb.size, fun g hg hf => (hb.block g hg).trans (a.kpt.block g hg hf)⟩
  up := a.up
  new k hk h1 h2 := (hb.block _ (h.lt hk)).trans (a.new k hk h1 h2)
theorem DS.below (h : DS B N S C P V d w) (hb : Below w.heap.size w w') : DS B N S C P V d w' :=
  ⟨fun i hi hd => (hb.block _ (h.lt hi)).trans (h.open' i hi hd), fun i hi hd => by
    obtain ⟨v, hv⟩ := h.shut i hi hd
    exact ⟨v, (hb.block _ (h.lt hi)).trans hv⟩, fun i hi => own_same (h.row i hi) fun g hg => hb.block g ((h.row i hi).lt g hg).2, fun i hi y hy k q hq => by
    obtain ⟨h1, h2⟩ := h.part i hi y hy k q hq
    exact ⟨h1, (hb.block _ (Array.getElem?_eq_some_iff.1 h2).1).trans h2⟩, h.inj⟩
end
theorem dis_done {P : Nat → List Part} {d : Nat → Bool} {i : Nat} (h : d i = true) : ∀ m, disS P m d i = (d, [])
  | 0 => rfl
  | m + 1 => by unfold disS; rw [if_pos h]
theorem part_at {w : World} {base : Nat} {v : Value} {l : List Part} (h : w.ownsRow base 168 2 v l.length (l.flatMap encP2)) {j : Nat} {x : Part} (hx : l[j]? = some x) : ∃ g cap, v = .slice (some ⟨g, 0, none⟩) l.length cap ∧ w.cell? ⟨g, j * 2, none⟩ = some (.int .i64 x.1) ∧ w.cell? ⟨g, j * 2 + 1, none⟩ = some (.pointer (x.2.map fun q => ⟨q.2, 0, none⟩)) := by
  have hlt := (List.getElem?_eq_some_iff.1 hx).1
  obtain ⟨g, cap, rfl, -, hc⟩ := own_form2 h (by omega)
  have hg : ∀ i, i < 2 → (l.flatMap encP2)[j * 2 + i]? = (encP2 x)[i]? := fun i hi => by
    rw [flat_get encP2 2 encP2_len (by omega), show (j * 2 + i) / 2 = j by omega, show (j * 2 + i) % 2 = i by omega, hx]
    rfl
  exact ⟨g, cap, rfl, hc (j * 2) _ (hg 0 (by omega)), hc (j * 2 + 1) _ (hg 1 (by omega))⟩
theorem cu_stk {w : World} {q c s s' : Nat} {v : Value} {b : Bool} (h : CuB w q c s) (hs : Stk w s' v b) : ¬ q = s' := by
  rintro rfl
  unfold CuB at h
  unfold Stk at hs
  rw [h] at hs
  simp only [Option.some.injEq, Obj.cells.injEq] at hs
  exact absurd hs.2.1 (by decide)
theorem cinfo3 : (Try.prog.info? 3).map (fun i => (i.zero, i.size, i.bytes)) = some (some (.int .i64 0), 1, 8) := by kernel_rfl
theorem one_ints (l : List Int) : ∀ u ∈ l.map (Value.int .i64), u.oneCell' = true := oneCell_ints l
theorem own_nil (w : World) (base : Nat) (e : TypeId) (sz : Nat) : w.ownsRow base e sz nilV 0 [] := ⟨by simp, Or.inl ⟨rfl, rfl⟩⟩
set_option maxRecDepth 100000 in
theorem dispose_done (q c s : Nat) (v : Value) (w : World) (h : CuB w q c s) (hs : Stk w s v true) : Calls Try.prog 43 #[.pointer (some ⟨q, 0, none⟩)] w fun e w' => e = .returned nilV ∧ w' = w := by
  have hi := is_calls q c s w h
  have h1 := h.c1
  obtain ⟨s0, s1, sf⟩ := row2 hs
  go_enter Try.func43, Try.ntmps43
  go_wp2_with (first | (go_at_call 68; refine hi.mono ?_; rintro e w1 ⟨rfl, rfl⟩) | fail)
  go_ret
  exact ⟨rfl, rfl⟩
set_option maxRecDepth 100000 in
set_option maxHeartbeats 4000000 in
theorem dispose_calls (B N : Nat) (S C : Nat → Nat) (P : Nat → List Part) (V : Nat → Value) : ∀ (m : Nat) (d : Nat → Bool) (w : World) (i q : Nat), tot (fun _ => 1) d N ≤ m → DS B N S C P V d w → i < N → CuB w q (C i) (S i) → tot (fun k => (P k).length) d N ≤ 1000000 →
    Calls Try.prog 43 #[.pointer (some ⟨q, 0, none⟩)] w fun e w' => ∃ v, e = .returned v ∧ w'.ownsRow w.heap.size 3 1 v (disS P m d i).2.length ((disS P m d i).2.map (Value.int .i64)) ∧ Aft N S d (disS P m d i).1 (fun _ => nilV) w w' := by
  have hdone : ∀ (m : Nat) (d : Nat → Bool) (w : World) (i q : Nat), DS B N S C P V d w → i < N → CuB w q (C i) (S i) → d i = true → Calls Try.prog 43 #[.pointer (some ⟨q, 0, none⟩)] w fun e w' => ∃ v, e = .returned v ∧ w'.ownsRow w.heap.size 3 1 v (disS P m d i).2.length ((disS P m d i).2.map (Value.int .i64)) ∧ Aft N S d (disS P m d i).1 (fun _ => nilV) w w' := by
    intro m d w i q hD hi hq hd
    obtain ⟨v, hv⟩ := hD.shut i hi hd
    refine (dispose_done q (C i) (S i) v w hq hv).mono ?_
    rintro e w' ⟨rfl, rfl⟩
    rw [dis_done hd]
    exact ⟨_, rfl, own_nil _ _ _ _, Kpt.refl _ _, fun _ h => h, fun k _ h1 h2 => by simp only [h1] at h2; exact absurd h2 (by decide)⟩
  intro m
  induction m with
  | zero =>
    intro d w i q hm hD hi hq hT
    refine hdone 0 d w i q hD hi hq ?_
    by_cases hd : d i = true
    · exact hd
    · have := tot_set (f := fun _ => 1) (d := d) (i := i) (by simpa using hd) hi
      omega
  | succ m ih =>
    intro d w i q hm hD hi hq hT
    by_cases hd : d i = true
    · exact hdone (m + 1) d w i q hD hi hq hd
    have hd : d i = false := by simpa using hd
    have hst := hD.open' i hi hd
    have hcu := hq.c1
    have hqs := cu_stk hq hst
    have hsq : ¬ S i = q := fun e => hqs e.symm
    obtain ⟨s0, s1, sf⟩ := row2 hst
    have his := is_calls q (C i) (S i) w hq
    have hm2 : ∀ d', (∀ k, setD d i k = true → d' k = true) → tot (fun _ => 1) d' N ≤ m := fun d' h => by
      have h1 := tot_set (f := fun _ => 1) (d := d) (i := i) hd hi
      have h2 := tot_mono (f := fun _ => 1) (n := N) h
      omega
    have hT2 : ∀ d', (∀ k, setD d i k = true → d' k = true) → tot (fun k => (P k).length) d' N ≤ 1000000 := fun d' h => by
      have h1 := tot_set (f := fun k => (P k).length) (d := d) (i := i) hd hi
      have h2 := tot_mono (f := fun k => (P k).length) (n := N) h
      omega
    obtain ⟨a, cap, hV⟩ := own_form (hD.row i hi)
    obtain ⟨n, hn⟩ : ∃ n, (P i).length = n := ⟨_, rfl⟩
    rw [hn] at hV
    rw [hV] at s0
    have HD := Lib.hid hD
    have HQ := Lib.hid hq
    have HST := Lib.hid hst
    have HN := Lib.hid hn
    have HVV := Lib.hid hV
    have HM2 := Lib.hid hm2
    have HT2 := Lib.hid hT2
    have HDI := Lib.hid hd
    have HI := Lib.hid hi
    have IH := Lib.hid ih
    have hA1 : Hid (Aft N S d (setD d i) (fun k => if k = i then V i else nilV) w (w.setCell ⟨S i, 1, none⟩ (.bool true))) := Lib.hid ⟨(Kpt.refl _ w).setCell _ _ fun _ => ⟨i, hi, rfl, hd, setD_self d i⟩, fun k hk => by
      unfold setD
      split
      · rfl
      · exact hk, fun k hk h1 h2 => by
      by_cases e : k = i
      · subst e
        rw [if_pos rfl]
        exact heap_setCell_same w (S k) 1 _ 166 (.bool true) hst
      · rw [setD_ne d e, h1] at h2
        exact absurd h2 (by decide)⟩
    have HT := Lib.hid hT
    have hn6 : n ≤ 1000000 := by
      have h1 := tot_set (f := fun k => (P k).length) (d := d) (i := i) hd hi
      simp only [hn] at h1
      omega
    clear hD hq hst hn hV hm2 hT2 hd hi hdone hT hm ih
    go_enter Try.func43, Try.ntmps43
    go_wp2_with (first | (go_at_call 68; refine his.mono ?_; rintro e w1 ⟨rfl, rfl⟩) | fail)
    clear his s0 s1 sf hcu
    obtain ⟨f, hf⟩ : ∃ f, stepS (disS P m) = f := ⟨_, rfl⟩
    have HF := Lib.hid hf
    have hup : Hid (∀ (l : List Part) (k : Nat), setD d i k = true → (l.foldl f (setD d i, [])).1 k = true) := Lib.hid (by
      rw [← hf]
      exact fun l k h => fold_up (dis_up P m) l _ k h)
    have hlen : Hid (∀ j, ((P i).take j |>.foldl f (setD d i, [])).2.length ≤ 2000000) := Lib.hid fun j => by
      rw [← hf]
      have h1 := fold_len (P := P) (N := N) (f := disS P m) (fun d i hi => dis_len (fun i hi x hx k q hq => (HD.out.part i hi x hx k q hq).1) m d i hi) ((P i).take j) (setD d i, []) (fun x hx k q hq => (HD.out.part i HI.out x (List.mem_of_mem_take hx) k q hq).1)
      have h2 := tot_set (f := fun k => (P k).length) (d := d) (i := i) HDI.out HI.out
      have h3 := HT.out
      simp only [List.length_nil, Nat.zero_add, List.length_take] at h1
      omega
    obtain ⟨A, hA⟩ : ∃ A : Nat → (Nat → Bool) × List Int, ∀ j, ((P i).take j).foldl f (setD d i, []) = A j := ⟨_, fun _ => rfl⟩
    have HA := Lib.hid hA
    have hA0 : Hid (A 0 = (setD d i, [])) := Lib.hid (by rw [← hA]; rfl)
    have hAn : Hid (A n = disS P (m + 1) d i) := Lib.hid (by
      rw [← hA, List.take_of_length_le (by rw [HN.out]; exact Nat.le_refl _), ← hf]
      show _ = if d i = true then _ else _
      rw [if_neg (by rw [HDI.out]; decide)])
    clear hf hA
    go_loopw [32, 3] (fun iv vo wr => ∃ j : Nat, j ≤ n ∧ iv = .int .i64 (j : Int) ∧ Hid (Aft N S d (A j).1 (fun k => if k = i then V i else nilV) w1 wr) ∧ Hid (wr.ownsRow w1.heap.size 3 1 vo (A j).2.length ((A j).2.map (Value.int .i64)))) (fun iv _ _ => n - (intOf iv).toNat)
    case atStart => exact ⟨0, Nat.zero_le _, rfl, Lib.hid (by rw [hA0.out]; exact hA1.out), Lib.hid (by rw [hA0.out]; exact own_nil _ _ _ _)⟩
    case round =>
      obtain ⟨j, hj, rfl, hAft, hO⟩ := hrel
      by_cases hlt : j < n
      · obtain ⟨⟨who, more⟩, hx⟩ : ∃ x, (P i)[j]? = some x := ⟨_, List.getElem?_eq_getElem (by have := HN.out; omega)⟩
        have hDS := HD.out.aft hAft.out
        obtain ⟨g, cap2, hv, y0, y1⟩ := part_at (hDS.row i HI.out) hx
        rw [HVV.out, HN.out] at hv
        simp only [Value.slice.injEq] at hv
        obtain ⟨rfl, -, rfl⟩ := hv
        have HDS := Lib.hid hDS
        have hlt' : (j : Int) < (n : Int) := by omega
        have hAs : Hid (A (j + 1) = f (A j) (who, more)) := Lib.hid (by
          rw [← HA.out, List.take_add_one, hx, List.foldl_append, HA.out]
          rfl)
        have hmem : (who, more) ∈ P i := List.mem_of_getElem? hx
        have hlj := hlen.out j
        rw [HA.out] at hlj
        have hlj1 := hlen.out (j + 1)
        rw [HA.out] at hlj1
        have hupj : Hid (∀ k, setD d i k = true → (A j).1 k = true) := Lib.hid fun k h => by
          rw [← HA.out]
          exact hup.out _ k h
        obtain ⟨b1, c1, rfl⟩ := own_form hO.out
        have HL := Lib.hid hlj
        have HL1 := Lib.hid hlj1
        clear hDS hx hlj hlj1
        obtain ⟨i0, hif, hz0, hz1, hz2⟩ := info_parts cinfo3
        obtain ⟨ln, hln⟩ : ∃ ln, (A j).2.length = ln := ⟨_, rfl⟩
        rw [hln]
        have HLN := Lib.hid hln
        clear hln
        rw [HLN.out] at hO
        have HMEM := Lib.hid hmem
        clear hmem
        cases more with
        | none =>
          have hAs2 : Hid (A (j + 1) = ((A j).1, (A j).2 ++ [who])) := Lib.hid (by rw [hAs.out, ← HF.out]; rfl)
          simp only [Option.map_none] at y0 y1
          obtain ⟨W7, hW7⟩ : ∃ W7, wr.alloc (.cells #[.int .i64 who, .pointer none] 168) = W7 := ⟨_, rfl⟩
          obtain ⟨W8, hW8⟩ : ∃ W8, W7.alloc (.cells #[.int .i64 who] 3) = W8 := ⟨_, rfl⟩
          have z7 : W7.heap.size = wr.heap.size + 1 := by rw [← hW7]; simp
          have g8 : W8.heap[wr.heap.size + 1]? = some (.cells #[.int .i64 who] 3 (0, 0)) := by rw [← hW8, ← z7]; exact heap_alloc_new _ _
          have hb7 : Below wr.heap.size wr W7 := by rw [← hW7]; exact (Below.refl _ _).alloc (Nat.le_refl _) _
          have hb8 : Below wr.heap.size wr W8 := by rw [← hW8]; exact hb7.alloc hb7.size _
          have HB8 := Lib.hid hb8
          have hown : W8.ownsRow w1.heap.size 3 1 (.slice b1 ln c1) ln ((A j).2.map (Value.int .i64)) := own_same hO.out fun g hg => hb8.block g (hO.out.lt g hg).2
          have hlit : SlV W8 (.slice (some ⟨wr.heap.size + 1, 0, none⟩) 1 1) 1 1 [.int .i64 who] := ⟨rfl, Or.inr ⟨by omega, _, 0, 1, rfl, fun i u hi => by
            rw [Nat.zero_add]
            exact cells_of_row g8 i u (by simpa using hi)⟩⟩
          have hbase : w1.heap.size ≤ W8.heap.size := Nat.le_trans hAft.out.kpt.size hb8.size
          have hl1 : ln + 1 ≤ 2000000 := by
            have := HL1.out
            rw [hAs2.out] at this
            simp only [List.length_append, List.length_cons, List.length_nil, HLN.out] at this
            exact this
          have HL2 := Lib.hid hl1
          have HOWN := Lib.hid hown
          have HLIT := Lib.hid hlit
          have HBASE := Lib.hid hbase
          have HW7 := Lib.hid hW7
          have HW8 := Lib.hid hW8
          clear g8 hb7 hb8 hown hlit hbase hl1 hW7 hW8 z7
          go_wp2_with (at_builtin; rw [HW7.out, HW8.out]; refine wpList_append_at rfl (.tmp 44) (.tmp 47) 58 rfl w1.heap.size 3 i0 (.int .i64 0) 1 8 Try.underlying58 hif hz0 hz1 hz2 rfl (by decide) (.slice b1 ln c1) ln ((A j).2.map (Value.int .i64)) rfl HOWN.out (.slice (some ⟨wr.heap.size + 1, 0, none⟩) 1 1) 1 [.int .i64 who] rfl HLIT.out (oneCell_ints [who]) ?d2 ?d3 HBASE.out ?_)
          case d2 => have := HL2.out; unfold maxLen; omega
          case d3 => have := HL2.out; omega
          intro v' w5 own5 hg5 _
          have hb5 : Below w1.heap.size wr w5 := (HB8.out.mono hAft.out.kpt.size).grown hg5 HBASE.out fun k hk => (HOWN.out.lt k hk).1
          have hA2 : Hid (Aft N S d (A (j + 1)).1 (fun k => if k = i then V i else nilV) w1 w5) := Lib.hid (by rw [hAs2.out]; exact hAft.out.below HD.out hb5)
          have hO2 : Hid (w5.ownsRow w1.heap.size 3 1 v' (A (j + 1)).2.length ((A (j + 1)).2.map (Value.int .i64))) := Lib.hid (by
            rw [hAs2.out]
            simp only [List.length_append, List.length_cons, List.length_nil, HLN.out, List.map_append, List.map_cons, List.map_nil]
            exact own5)
          clear own5 hg5 hb5
          go_wp2_with fail
          go_roundw
          case rel => exact ⟨j + 1, by omega, by go_num, hA2, hO2⟩
          case measure => simp [intOf]; omega
        | some kq =>
          obtain ⟨k, qk⟩ := kq
          have hAs2 : Hid (A (j + 1) = ((disS P m (A j).1 k).1, (A j).2 ++ (disS P m (A j).1 k).2)) := Lib.hid (by rw [hAs.out, ← HF.out]; rfl)
          simp only [Option.map_some] at y0 y1
          obtain ⟨W7, hW7⟩ : ∃ W7, wr.alloc (.cells #[.int .i64 who, .pointer (some ⟨qk, 0, none⟩)] 168) = W7 := ⟨_, rfl⟩
          have g7 : W7.heap[wr.heap.size]? = some (.cells #[.int .i64 who, .pointer (some ⟨qk, 0, none⟩)] 168 (0, 0)) := by rw [← hW7]; exact heap_alloc_new _ _
          have p1 : W7.cell? ⟨wr.heap.size, 1, none⟩ = some (.pointer (some ⟨qk, 0, none⟩)) := cell_of g7 1 _ rfl
          have hb7 : Below wr.heap.size wr W7 := by rw [← hW7]; exact (Below.refl _ _).alloc (Nat.le_refl _) _
          have HB7 := Lib.hid hb7
          have hD7 := HDS.out.below hb7
          obtain ⟨hk, hcu⟩ := hD7.part i HI.out _ HMEM.out k qk rfl
          have hcall := IH.out (A j).1 W7 k qk (HM2.out _ hupj.out) hD7 hk hcu (HT2.out _ hupj.out)
          obtain ⟨r, hr⟩ : ∃ r, disS P m (A j).1 k = r := ⟨_, rfl⟩
          rw [hr] at hcall hAs2
          have HR := Lib.hid hr
          have HD7 := Lib.hid hD7
          clear g7 hb7 hD7 hk hcu hr
          go_wp2_with fail
          refine hcall.mono ?_
          rintro e w8 ⟨v, rfl, hown8, haft8⟩
          have hown : w8.ownsRow w1.heap.size 3 1 (.slice b1 ln c1) ln ((A j).2.map (Value.int .i64)) := by
            refine haft8.kpt.own (own_same hO.out fun g hg => HB7.out.block g (hO.out.lt g hg).2) ?_
            rintro g hg ⟨k2, hk2, rfl, -, -⟩
            have h1 := (hO.out.lt _ hg).1
            have h2 := HD.out.lt hk2
            omega
          have hlit := SlV.of_owns hown8
          have h7 : w1.heap.size ≤ W7.heap.size := Nat.le_trans hAft.out.kpt.size HB7.out.size
          have hbase : w1.heap.size ≤ w8.heap.size := Nat.le_trans h7 haft8.kpt.size
          have hl1 : ln + r.2.length ≤ 2000000 := by
            have := HL1.out
            rw [hAs2.out] at this
            simp only [List.length_append, HLN.out] at this
            exact this
          have hA8 : Hid (Aft N S d r.1 (fun k => if k = i then V i else nilV) w1 w8) := Lib.hid ((hAft.out.below HD.out (HB7.out.mono hAft.out.kpt.size)).trans HD.out haft8 fun k2 _ h0 => by
            by_cases e : k2 = i
            · rw [e, hupj.out i (setD_self d i)] at h0
              exact absurd h0 (by decide)
            · rw [if_neg e])
          obtain ⟨vb, vc, rfl⟩ := own_form hown8
          have HL2 := Lib.hid hl1
          have HOWN := Lib.hid hown
          have HLIT := Lib.hid hlit
          have HBASE := Lib.hid hbase
          clear hcall hown8 haft8 hown hlit h7 hbase hl1
          go_wp2_with (at_builtin; refine wpList_append_at rfl (.tmp 39) (.tmp 42) 58 rfl w1.heap.size 3 i0 (.int .i64 0) 1 8 Try.underlying58 hif hz0 hz1 hz2 rfl (by decide) (.slice b1 ln c1) ln ((A j).2.map (Value.int .i64)) rfl HOWN.out (.slice vb r.2.length vc) r.2.length (r.2.map (Value.int .i64)) rfl HLIT.out (oneCell_ints _) ?d2 ?d3 HBASE.out ?_)
          case d2 => have := HL2.out; unfold maxLen; omega
          case d3 => have := HL2.out; omega
          intro v' w5 own5 hg5 _
          have hb5 : Below w1.heap.size w8 w5 := (Below.refl _ _).grown hg5 HBASE.out fun k hk => (HOWN.out.lt k hk).1
          have hA2 : Hid (Aft N S d (A (j + 1)).1 (fun k => if k = i then V i else nilV) w1 w5) := Lib.hid (by rw [hAs2.out]; exact hA8.out.below HD.out hb5)
          have hO2 : Hid (w5.ownsRow w1.heap.size 3 1 v' (A (j + 1)).2.length ((A (j + 1)).2.map (Value.int .i64))) := Lib.hid (by
            rw [hAs2.out]
            simp only [List.length_append, HLN.out, List.map_append]
            exact own5)
          clear own5 hg5 hb5 hW7
          go_wp2_with fail
          go_roundw
          case rel => exact ⟨j + 1, by omega, by go_num, hA2, hO2⟩
          case measure => simp [intOf]; omega
      · obtain rfl : n = j := by omega
        have hlt' : ¬ (n : Int) < (n : Int) := by omega
        have hdn : (A n).1 i = true := by
          rw [← HA.out]
          exact hup.out _ i (setD_self d i)
        have hsi := hAft.out.new i HI.out HDI.out hdn
        rw [if_pos rfl] at hsi
        have hq2 : CuB wr q (C i) (S i) := hAft.out.kpt.row HQ.out fun ⟨k, hk, e, _, _⟩ => by
          obtain ⟨v, b, hv⟩ := HD.out.stk hk
          exact cu_stk HQ.out hv e
        have hcu := hq2.c1
        obtain ⟨s0, s1, sf⟩ := row2 hsi
        have HSI := Lib.hid hsi
        have HDN := Lib.hid hdn
        clear hsi hdn hq2
        go_wp2_with fail
        go_ret
        rw [← hAn.out]
        refine ⟨_, rfl, ownsRow_setCell_other hO.out (fun e => ?_) _, hAft.out.kpt.setCell _ _ fun _ => ⟨i, HI.out, rfl, HDI.out, HDN.out⟩, hAft.out.up, fun k hk h1 h2 => ?_⟩
        · have h1 := (hO.out.lt _ e).1
          have h2 := HD.out.lt HI.out
          simp only at h1
          omega
        · by_cases e : k = i
          · subst e
            exact heap_setCell_same wr (S k) 0 _ 166 _ HSI.out
          · have := hAft.out.new k hk h1 h2
            rw [if_neg e] at this
            exact (heap_setCell_other wr ⟨S i, 0, none⟩ (S k) _ fun e2 => e (HD.out.inj k i hk HI.out e2)).trans this
end Go.Proofs.Ytddajaikighjlaa
