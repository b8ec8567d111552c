/- Custodians: a map of channels; has 71 with its closure 83. -/
import Derived.Test.YtddajaikighjlaaCc
namespace Go.Proofs.Ytddajaikighjlaa
open Go.RowKit Go.Sl Go.Mp Go.Wh

/-- Block r is a map that holds true at these channels. -/
def MapC (w : World) (r : Nat) (L : List Nat) : Prop :=
  ∃ es clock, w.heap[r]? = some (.map es clock) ∧ es.toList.map (fun e => (e.key, e.val)) = L.map fun c => (Value.chan (some c), Value.bool true)
theorem MapC.lt {w : World} {r : Nat} {L : List Nat} (h : MapC w r L) : r < w.heap.size := by
  obtain ⟨es, c, hb, -⟩ := h
  exact (Array.getElem?_eq_some_iff.1 hb).1
theorem MapC.same {w w' : World} {r : Nat} {L : List Nat} (h : MapC w r L) (hb : w'.heap[r]? = w.heap[r]?) : MapC w' r L := by
  obtain ⟨es, c, h1, h2⟩ := h
  exact ⟨es, c, hb.trans h1, h2⟩
theorem MapC.below {w w' : World} {r : Nat} {L : List Nat} (h : MapC w r L) (hb : Below w.heap.size w w') : MapC w' r L := h.same (hb.block r h.lt)
theorem MapC.made (w : World) : MapC (w.alloc (.map #[] 0)) w.heap.size [] := ⟨#[], 0, heap_alloc_new _ _, by simp⟩
theorem MapC.ne {w : World} {r g : Nat} {L : List Nat} (h : MapC w r L) {cs : Array Value} {t : TypeId} {f : Nat × Nat} (hg : w.heap[g]? = some (.cells cs t f)) : ¬ g = r := by
  rintro rfl
  obtain ⟨es, c, h1, -⟩ := h
  rw [h1] at hg
  cases hg
theorem findAsk_chan (w : World) (c : Nat) : ∀ (es : List MapEntry) (L : List Nat) (i : Nat), es.map (fun e => (e.key, e.val)) = L.map (fun c => (Value.chan (some c), Value.bool true)) →
    (Instr.findAsking 99 (.chan (some c)) es i).run Try.prog w = .ok (if c ∈ L then some (i + L.idxOf c, .bool true) else none) w
  | [], [], i, _ => by simp [Instr.findAsking]
  | e :: es, x :: L, i, h => by
    simp only [List.map_cons, List.cons.injEq, Prod.mk.injEq] at h
    obtain ⟨⟨h1, h2⟩, h3⟩ := h
    unfold Instr.findAsking
    simp only [Sem.run_bind, h1, eq_chan w c x, Result.andThen]
    by_cases hc : c = x
    · subst hc
      simp [h2]
    · have hb : (c == x) = false := by simpa using hc
      simp only [hb, Bool.false_eq_true, if_false]
      rw [findAsk_chan w c es L (i + 1) h3]
      by_cases hm : c ∈ L
      · simp [hm, hc, List.idxOf_cons, show (x == c) = false by simpa using fun e => hc e.symm]
        omega
      · simp [hm, hc]
  | [], x :: L, i, h => by simp at h
  | e :: es, [], i, h => by simp at h
theorem findKey_chan (w : World) (c : Nat) {es : Array MapEntry} {L : List Nat} (h : es.toList.map (fun e => (e.key, e.val)) = L.map (fun c => (Value.chan (some c), Value.bool true))) :
    (Instr.findKey 99 (.chan (some c)) es.toList).run Try.prog w = .ok (if c ∈ L then some (L.idxOf c, .bool true) else none) w := by
  have ha := findAsk_chan w c es.toList L 0 h
  rw [Nat.zero_add] at ha
  unfold Instr.findKey
  simp only [Sem.run_bind, run_underlying Try.underlying99, Result.andThen]
  cases he : es.toList with
  | nil =>
    rw [he] at h ha
    cases L with
    | nil => simp [Instr.findNow]
    | cons x L => simp at h
  | cons e es' =>
    rw [he] at h ha
    cases L with
    | nil => simp at h
    | cons x L =>
      have hn : Instr.findNow (.chan ChanDir.both 240) (.chan (some c)) (e :: es') 0 = none := by
        unfold Instr.findNow
        simp [Instr.sameNow]
      rw [hn]
      exact ha
theorem checkKey_chan (w : World) (b : Bool) (c : Nat) : (Instr.checkKey b 10000 99 (.chan (some c))).run Try.prog w = .ok () w := by
  unfold Instr.checkKey
  simp only [Sem.run_bind, run_underlying Try.underlying99, Result.andThen]
  rfl
theorem look_chan {w : World} {r : Nat} {L : List Nat} (h : MapC w r L) (c : Nat) : (Instr.lookup 175 (.map (some r)) (.chan (some c)) false).run Try.prog w = .ok (.bool (decide (c ∈ L))) w := by
  obtain ⟨es, k, hb, hl⟩ := h
  have hg : (getObj r).run Try.prog w = .ok (.map es k) w := by simp [getObj, Sem.run, hb]
  unfold Instr.lookup
  simp only [Sem.run_bind, run_underlying Try.underlying175, Result.andThen, hg, Sem.run_pure, checkKey_chan, findKey_chan w c hl]
  by_cases hc : c ∈ L
  · simp [hc]
  · simp only [hc, if_false, Sem.run_bind, Try.zeroValue4, Result.andThen, Sem.run_pure, decide_false]
    rfl
theorem put_chan {w : World} {r : Nat} {L : List Nat} (h : MapC w r L) {c : Nat} (hc : c ∉ L) :
    ∃ w', (Instr.mapUpdate 175 (.map (some r)) (.chan (some c)) (.bool true)).run Try.prog w = .ok () w' ∧ MapC w' r (L ++ [c]) ∧ w.grownBy w' (some r) := by
  have hlt := h.lt
  obtain ⟨es, k, hb, hl⟩ := h
  unfold Instr.mapUpdate
  simp only [Sem.run_bind, run_underlying Try.underlying175, Result.andThen, run_getObj_pairs hb, checkKey_chan, findKey_chan w c hl, hc, if_false, run_setObj_pairs hb]
  exact ⟨_, rfl, ⟨_, _, setBlock_at hlt _, by simp [hl]⟩, setBlock_grown _ _ _⟩

/-- What has does: its answer, and the channels seen behind it. -/
def stepH (f : List Nat → Nat → Bool × List Nat) (acc : Bool × List Nat) (x : Part) : Bool × List Nat :=
  if acc.1 then acc else match x.2 with
  | none => acc
  | some kq => f acc.2 kq.1
def hasS (P : Nat → List Part) (C : Nat → Nat) (t : Nat) : Nat → List Nat → Nat → Bool × List Nat
  | 0, s, i => (C i == C t, s)
  | n + 1, s, i => if C i == C t then (true, s) else if C i ∈ s then (false, s) else (P i).foldl (stepH (hasS P C t n)) (false, s ++ [C i])
theorem foldH_sub {f : List Nat → Nat → Bool × List Nat} (hf : ∀ s i c, c ∈ s → c ∈ (f s i).2) : ∀ (l : List Part) (acc : Bool × List Nat) (c : Nat), c ∈ acc.2 → c ∈ (l.foldl (stepH f) acc).2
  | [], _, _, h => h
  | x :: l, acc, c, h => by
    refine foldH_sub hf l _ c ?_
    unfold stepH
    split
    · exact h
    · split
      · exact h
      · exact hf _ _ _ h
theorem hasS_sub (P : Nat → List Part) (C : Nat → Nat) (t : Nat) : ∀ (n : Nat) (s : List Nat) (i c : Nat), c ∈ s → c ∈ (hasS P C t n s i).2
  | 0, _, _, _, h => h
  | n + 1, s, i, c, h => by
    unfold hasS
    split
    · exact h
    · split
      · exact h
      · exact foldH_sub (hasS_sub P C t n) _ _ _ (by simp [h])
theorem foldH_true {f : List Nat → Nat → Bool × List Nat} : ∀ (l : List Part) (acc : Bool × List Nat), acc.1 = true → l.foldl (stepH f) acc = acc
  | [], _, _ => rfl
  | x :: l, acc, h => by
    rw [List.foldl_cons, show stepH f acc x = acc by unfold stepH; rw [if_pos h]]
    exact foldH_true l acc h
theorem cf83 (args : Array Value) (w : World) : (callFunc 83 args).run Try.prog w = .ok (.enter 83 args) w := by kernel_rfl
/-- Which of N have been seen. -/
def seenD (C : Nat → Nat) (s : List Nat) : Nat → Bool := fun k => decide (C k ∈ s)
set_option maxRecDepth 100000 in
theorem f83_none (who : Int) (p1 p2 : Value) (w : World) : Calls Try.prog 83 #[.agg #[.int .i64 who, .pointer none], p1, p2] w fun e w' => e = .returned (.bool false) ∧ Below w.heap.size w w' := by
  have hb := Lib.hid ((Below.refl w.heap.size w).alloc (Nat.le_refl _) (.cells #[.int .i64 who, .pointer none] 168))
  go_enter Try.func83, Try.ntmps83
  go_wp2
  go_ret
  exact ⟨rfl, hb.out⟩
set_option maxRecDepth 100000 in
theorem f83_some (who : Int) (p b1 b2 : Nat) (u1 u2 : Value) (R : Bool → World → Prop) (w : World) (h1 : w.cell? ⟨b1, 0, none⟩ = some u1) (h2 : w.cell? ⟨b2, 0, none⟩ = some u2)
    (hc : ∀ w', Below w.heap.size w w' → Calls Try.prog 71 #[.pointer (some ⟨p, 0, none⟩), u1, u2] w' fun e w'' => ∃ b, e = .returned (.bool b) ∧ R b w'') :
    Calls Try.prog 83 #[.agg #[.int .i64 who, .pointer (some ⟨p, 0, none⟩)], .pointer (some ⟨b1, 0, none⟩), .pointer (some ⟨b2, 0, none⟩)] w fun e w' => ∃ b, e = .returned (.bool b) ∧ R b w' := by
  have hb := (Below.refl w.heap.size w).alloc (Nat.le_refl _) (.cells #[.int .i64 who, .pointer (some ⟨p, 0, none⟩)] 168)
  have k1 := hb.at_cell h1
  have k2 := hb.at_cell h2
  have l1 : ¬ b1 = w.heap.size := Nat.ne_of_lt (World.block_lt_of_cell? w _ h1)
  have l2 : ¬ b2 = w.heap.size := Nat.ne_of_lt (World.block_lt_of_cell? w _ h2)
  have hcc := hc _ hb
  have HCC := Lib.hid hcc
  clear hb hc hcc
  go_enter Try.func83, Try.ntmps83
  go_wp2_with fail
  refine HCC.out.mono ?_
  rintro e w1 ⟨b, rfl, hr⟩
  have HR := Lib.hid hr
  clear hr k1 k2 h1 h2 HCC
  go_wp2_with fail
  go_ret
  exact ⟨b, rfl, HR.out⟩

/-- N custodians lie in memory, also those that are disposed of. -/
structure GS (B N : Nat) (S C : Nat → Nat) (P : Nat → List Part) (V : Nat → Value) (d : Nat → Bool) (w : World) : Prop where
  stk : ∀ i, i < N → Stk w (S i) (V i) (d i)
  row : ∀ i, i < N → w.ownsRow B 168 2 (V i) (P i).length ((P i).flatMap encP2)
  part : ∀ i, i < N → ∀ x ∈ P i, ∀ k q, x.2 = some (k, q) → k < N ∧ CuB w q (C k) (S k)
  inj : ∀ i k, i < N → k < N → S i = S k → i = k
theorem GS.ds {B N : Nat} {S C : Nat → Nat} {P : Nat → List Part} {V : Nat → Value} {d : Nat → Bool} {w : World} (h : GS B N S C P V d w) : DS B N S C P V d w :=
  ⟨fun i hi hd => hd ▸ h.stk i hi, fun i hi hd => ⟨V i, hd ▸ h.stk i hi⟩, h.row, h.part, h.inj⟩
/-- Blocks of cells stay as they are. -/
def Kc (w w' : World) : Prop := ∀ (g : Nat) (cs : Array Value) (t : TypeId) (f : Nat × Nat), w.heap[g]? = some (.cells cs t f) → w'.heap[g]? = some (.cells cs t f)
theorem Kc.of_below {w w' : World} (h : Below w.heap.size w w') : Kc w w' := fun _ _ _ _ hg => (h.block _ (Array.getElem?_eq_some_iff.1 hg).1).trans hg
theorem Kc.trans {w w' w2 : World} (h : Kc w w') (k : Kc w' w2) : Kc w w2 := fun g cs t f hg => k g cs t f (h g cs t f hg)
theorem Kc.of_kpt {w w' : World} {r : Nat} {L : List Nat} (h : Kpt (fun g => g = r) w w') (hm : MapC w r L) : Kc w w' := fun _ _ _ _ hg => h.row hg (hm.ne hg)
theorem Kc.own {w w' : World} (h : Kc w w') {base size n : Nat} {e : TypeId} {v : Value} {xs : List Value} (ho : w.ownsRow base e size v n xs) : w'.ownsRow base e size v n xs :=
  own_same ho fun g hg => by
    obtain ⟨cs, hc, -⟩ := own_cells ho hg
    exact (h g _ _ _ hc).trans hc.symm
theorem GS.kc {B N : Nat} {S C : Nat → Nat} {P : Nat → List Part} {V : Nat → Value} {d : Nat → Bool} {w w' : World} (h : GS B N S C P V d w) (k : Kc w w') : GS B N S C P V d w' :=
  ⟨fun i hi => k _ _ _ _ (h.stk i hi), fun i hi => k.own (h.row i hi), fun i hi x hx j q hq => by
    obtain ⟨h1, h2⟩ := h.part i hi x hx j q hq
    exact ⟨h1, k _ _ _ _ h2⟩, h.inj⟩
set_option maxRecDepth 100000 in
set_option maxHeartbeats 4000000 in
theorem has_first (s : List Nat) (w : World) (q ci si qt ct st r : Nat) (hq : CuB w q ci si) (hqt : CuB w qt ct st) (hM : MapC w r s) (hor : ci = ct ∨ ci ∈ s) :
    Calls Try.prog 71 #[.pointer (some ⟨q, 0, none⟩), .pointer (some ⟨qt, 0, none⟩), .map (some r)] w fun e w' => e = .returned (.bool (ci == ct)) ∧ MapC w' r s ∧ Below w.heap.size w w' := by
  obtain ⟨W2, hW2⟩ : ∃ W2, (w.alloc (.cells #[.pointer (some ⟨qt, 0, none⟩)] 96)).alloc (.cells #[.map (some r)] 175) = W2 := ⟨_, rfl⟩
  have hb2 : Below w.heap.size w W2 := by rw [← hW2]; exact ((Below.refl _ _).alloc (Nat.le_refl _) _).alloc (by simp) _
  have g0 : W2.heap[w.heap.size]? = some (.cells #[.pointer (some ⟨qt, 0, none⟩)] 96 (0, 0)) := by
    rw [← hW2]
    exact (heap_alloc_old _ _ (by simp)).trans (heap_alloc_new _ _)
  have g1 : W2.heap[w.heap.size + 1]? = some (.cells #[.map (some r)] 175 (0, 0)) := by
    rw [← hW2]
    exact heap_alloc_new (w.alloc (.cells #[.pointer (some ⟨qt, 0, none⟩)] 96)) _ |> fun h => by simpa using h
  have hq2 := Kc.of_below hb2 _ _ _ _ hq
  have hqt2 := Kc.of_below hb2 _ _ _ _ hqt
  have hsame := csame_calls q ci si qt ct st W2 hq2 hqt2
  have c0 := cell_of g0 0 _ rfl
  have HM2 := Lib.hid (hM.below hb2)
  have HB2 := Lib.hid hb2
  have G0 := Lib.hid g0
  have G1 := Lib.hid g1
  have HQ2 := Lib.hid hq2
  have HQT2 := Lib.hid hqt2
  have HW2 := Lib.hid hW2
  obtain ⟨b, hb⟩ : ∃ b, (ci == ct) = b := ⟨_, rfl⟩
  rw [hb] at hsame
  have HBB := Lib.hid hb
  obtain ⟨bb, hbb⟩ : ∃ bb, decide (ci ∈ s) = bb := ⟨_, rfl⟩
  have HBS := Lib.hid hbb
  clear hM hb2 g0 g1 hq hqt hq2 hqt2 hW2 hb hbb
  go_enter Try.func71, Try.ntmps71
  go_wp2_with fail
  rw [HW2.out]
  refine hsame.mono ?_
  rintro e w3 ⟨rfl, hb3⟩
  have HB3 := Lib.hid hb3
  have HM3 := Lib.hid (HM2.out.below hb3)
  clear hb3 hsame c0
  cases b with
  | true =>
    go_wp2_with fail
    go_ret
    rw [HBB.out]
    exact ⟨rfl, HM3.out, HB2.out.then HB3.out⟩
  | false =>
    have hbt : bb = true := by
      rw [← HBS.out, decide_eq_true_iff]
      rcases hor with h | h
      · have := HBB.out
        rw [h, beq_self_eq_true] at this
        exact absurd this (by decide)
      · exact h
    subst hbt
    have hk3 := Kc.of_below HB3.out
    have x0 := cell_of (hk3 _ _ _ _ G1.out) 0 _ rfl
    have x1 := cell_of (hk3 _ _ _ _ HQ2.out) 0 _ rfl
    have hl : ∀ k, (Instr.lookup 175 (.map (some r)) (.chan (some ci)) false).run Try.prog (w3.drewN k) = .ok (.bool true) (w3.drewN k) := fun k => by
      rw [← HBS.out]
      exact look_chan (HM3.out.below (below_drewN _ _ _)) _
    clear hk3 hor
    go_upto_region 3 with (fail)
    go_quiet (fail)
    go_wp2_with fail
    go_ret
    rw [HBB.out]
    exact ⟨rfl, HM3.out.below (below_drewN _ _ _), (HB2.out.then HB3.out).then (below_drewN _ _ _)⟩
set_option maxRecDepth 100000 in
set_option maxHeartbeats 4000000 in
theorem has_calls (B N : Nat) (S C : Nat → Nat) (P : Nat → List Part) (V : Nat → Value) (d : Nat → Bool) (hlen : ∀ i, i < N → (P i).length ≤ 1000000) (t qt : Nat) : ∀ (n : Nat) (s : List Nat) (w : World) (i q r : Nat),
    tot (fun _ => 1) (seenD C s) N ≤ n → GS B N S C P V d w → i < N → CuB w q (C i) (S i) → CuB w qt (C t) (S t) → MapC w r s →
    Calls Try.prog 71 #[.pointer (some ⟨q, 0, none⟩), .pointer (some ⟨qt, 0, none⟩), .map (some r)] w fun e w' => e = .returned (.bool (hasS P C t n s i).1) ∧ MapC w' r (hasS P C t n s i).2 ∧ Kpt (fun g => g = r) w w' := by
  intro n
  induction n with
  | zero =>
    intro s w i q r hn hG hi hq hqt hM
    have hs : C i ∈ s := by
      by_cases h : C i ∈ s
      · exact h
      · have := tot_set (f := fun _ => 1) (d := seenD C s) (i := i) (by simpa [seenD] using h) hi
        omega
    refine (has_first s w q _ _ qt _ _ r hq hqt hM (Or.inr hs)).mono ?_
    rintro e w' ⟨rfl, h1, h2⟩
    exact ⟨rfl, h1, Kpt.of_below h2⟩
  | succ n ih =>
    intro s w i q r hn hG hi hq hqt hM
    by_cases hor : C i = C t ∨ C i ∈ s
    · refine (has_first s w q _ _ qt _ _ r hq hqt hM hor).mono ?_
      rintro e w' ⟨rfl, h1, h2⟩
      have e2 : hasS P C t (n + 1) s i = (C i == C t, s) := by
        unfold hasS
        by_cases h : C i = C t
        · rw [if_pos (by simpa using h), h, beq_self_eq_true]
        · rw [if_neg (by simpa using h), if_pos (hor.resolve_left h), show (C i == C t) = false by simpa using h]
      rw [e2]
      exact ⟨rfl, h1, Kpt.of_below h2⟩
    have hne1 : ¬ C i = C t := fun h => hor (Or.inl h)
    have hne2 : ¬ C i ∈ s := fun h => hor (Or.inr h)
    have HG2 := Lib.hid (fun (w' : World) (h : Below w.heap.size w w') => hG.kc (Kc.of_below h))
    have htot : Hid (∀ s', (∀ c ∈ s ++ [C i], c ∈ s') → tot (fun _ => 1) (seenD C s') N ≤ n) := Lib.hid fun s' hs' => by
      have h1 := tot_set (f := fun _ => 1) (d := seenD C s) (i := i) (by simpa [seenD] using hne2) hi
      have h2 := tot_mono (f := fun _ => 1) (d := setD (seenD C s) i) (d' := seenD C s') (n := N) fun k hk => by
        unfold setD at hk
        unfold seenD at hk ⊢
        rw [decide_eq_true_iff]
        split at hk
        · rename_i e
          exact hs' _ (by simp [e])
        · rw [decide_eq_true_iff] at hk
          exact hs' _ (by simp [hk])
      omega
    have HI := Lib.hid hi
    have IH := Lib.hid ih
    have HLEN := Lib.hid (hlen i hi)
    have HNE1 := Lib.hid hne1
    have HNE2 := Lib.hid hne2
    obtain ⟨ci, hci⟩ : ∃ ci, C i = ci := ⟨_, rfl⟩
    obtain ⟨si, hsi⟩ : ∃ si, S i = si := ⟨_, rfl⟩
    obtain ⟨ct, hct⟩ : ∃ ct, C t = ct := ⟨_, rfl⟩
    obtain ⟨st, hst⟩ : ∃ st, S t = st := ⟨_, rfl⟩
    rw [hci, hsi] at hq
    rw [hct, hst] at hqt
    have HCI := Lib.hid hci
    have HSI := Lib.hid hsi
    have HCT := Lib.hid hct
    have HSTT := Lib.hid hst
    clear hG hi ih hlen hne1 hne2 hor hn hci hsi hct hst
    obtain ⟨W2, hW2⟩ : ∃ W2, (w.alloc (.cells #[.pointer (some ⟨qt, 0, none⟩)] 96)).alloc (.cells #[.map (some r)] 175) = W2 := ⟨_, rfl⟩
    have hb2 : Below w.heap.size w W2 := by rw [← hW2]; exact ((Below.refl _ _).alloc (Nat.le_refl _) _).alloc (by simp) _
    have g0 : W2.heap[w.heap.size]? = some (.cells #[.pointer (some ⟨qt, 0, none⟩)] 96 (0, 0)) := by
      rw [← hW2]
      exact (heap_alloc_old _ _ (by simp)).trans (heap_alloc_new _ _)
    have g1 : W2.heap[w.heap.size + 1]? = some (.cells #[.map (some r)] 175 (0, 0)) := by
      rw [← hW2]
      exact heap_alloc_new (w.alloc (.cells #[.pointer (some ⟨qt, 0, none⟩)] 96)) _ |> fun h => by simpa using h
    have hq2 := Kc.of_below hb2 _ _ _ _ hq
    have hqt2 := Kc.of_below hb2 _ _ _ _ hqt
    have hsame := csame_calls q ci si qt ct st W2 hq2 hqt2
    have c0 := cell_of g0 0 _ rfl
    have HM2 := Lib.hid (hM.below hb2)
    have HB2 := Lib.hid hb2
    have G0 := Lib.hid g0
    have G1 := Lib.hid g1
    have HQ2 := Lib.hid hq2
    have HQT2 := Lib.hid hqt2
    have HW2 := Lib.hid hW2
    obtain ⟨b, hb⟩ : ∃ b, (ci == ct) = b := ⟨_, rfl⟩
    rw [hb] at hsame
    have HBB := Lib.hid hb
    obtain ⟨bb, hbb⟩ : ∃ bb, decide (ci ∈ s) = bb := ⟨_, rfl⟩
    have HBS := Lib.hid hbb
    clear hM hb2 g0 g1 hq hqt hq2 hqt2 hW2 hb hbb
    go_enter Try.func71, Try.ntmps71
    go_wp2_with fail
    rw [HW2.out]
    refine hsame.mono ?_
    rintro e w3 ⟨rfl, hb3⟩
    have HB3 := Lib.hid hb3
    have HM3 := Lib.hid (HM2.out.below hb3)
    clear hb3 hsame c0
    obtain rfl : b = false := by
      rw [← HBB.out, ← HCI.out, ← HCT.out]
      simpa using HNE1.out
    obtain rfl : bb = false := by
      rw [← HBS.out, ← HCI.out]
      simpa using HNE2.out
    have hk3 := Kc.of_below HB3.out
    have x0 := cell_of (hk3 _ _ _ _ G1.out) 0 _ rfl
    have x1 := cell_of (hk3 _ _ _ _ HQ2.out) 0 _ rfl
    have hl : ∀ k, (Instr.lookup 175 (.map (some r)) (.chan (some ci)) false).run Try.prog (w3.drewN k) = .ok (.bool false) (w3.drewN k) := fun k => by
      have := look_chan (HM3.out.below (below_drewN _ _ k)) ci
      rw [HBS.out] at this
      exact this
    clear hk3
    go_upto_region 3 with (fail)
    go_quiet (fail)
    go_upto_region 5 with (fail)
    generalize hw4 : w3.drewN _ = w4
    have HB4 := Lib.hid (show Below w3.heap.size w3 w4 by rw [← hw4]; exact below_drewN _ _ _)
    have hk4 := (Kc.of_below HB3.out).trans (Kc.of_below HB4.out)
    have HK4 := Lib.hid hk4
    have q0 := cell_of (hk4 _ _ _ _ G1.out) 0 _ rfl
    have q1 := cell_of (hk4 _ _ _ _ HQ2.out) 0 _ rfl
    have HM4 := Lib.hid (HM3.out.below HB4.out)
    obtain ⟨w5, hrun, hM5, hg5⟩ := put_chan (HM4.out.below (below_drewN _ _ 1)) (c := ci) (by rw [← HCI.out]; exact HNE2.out)
    have HKP := Lib.hid (show Kpt (fun g => g = r) w4 w5 from (Kpt.of_below (below_drewN _ _ 1)).grown hg5 fun k hk _ => by simpa using hk.symm)
    have hk5 := Kc.of_kpt HKP.out HM4.out
    have HK5 := Lib.hid hk5
    have q0' := cell_of (hk5 _ _ _ _ (hk4 _ _ _ _ G1.out)) 0 _ rfl
    have q1' := cell_of (hk5 _ _ _ _ (hk4 _ _ _ _ HQ2.out)) 0 _ rfl
    have HM5 := Lib.hid hM5
    have hrun' : (Instr.mapUpdate 175 (.map (some r)) (.chan (some ci)) (.bool true)).run Try.prog w4.drew = .ok () w5 := hrun
    clear hrun hw4 hl x0 x1 hk4 hk5 hg5 hM5
    go_region_held3 (fun w' => w'.cell? ⟨w.heap.size + 1, 0, none⟩ = some (.map (some r)) ∧ w'.cell? ⟨q, 0, none⟩ = some (.chan (some ci))) (go_keep) (fail)
    have hk25 := HK4.out.trans HK5.out
    have HK25 := Lib.hid hk25
    have hG5 := (HG2.out W2 HB2.out).kc hk25
    have HG5 := Lib.hid hG5
    have z1 := (show CuB w5 q ci si from hk25 _ _ _ _ HQ2.out).c1
    have hst5 := hG5.stk i HI.out
    rw [HSI.out] at hst5
    obtain ⟨s0, -, -⟩ := row2 hst5
    obtain ⟨f, hf⟩ : ∃ f, hasS P C t n = f := ⟨_, rfl⟩
    obtain ⟨A, hA⟩ : ∃ A : Nat → Bool × List Nat, ∀ j, ((P i).take j).foldl (stepH f) (false, s ++ [C i]) = A j := ⟨_, fun _ => rfl⟩
    have HF := Lib.hid hf
    have HA := Lib.hid hA
    have hA0 : A 0 = (false, s ++ [C i]) := by rw [← hA]; rfl
    have hsubA : Hid (∀ j c, c ∈ s ++ [C i] → c ∈ (A j).2) := Lib.hid fun j c hc => by
      rw [← hA, ← hf]
      exact foldH_sub (hasS_sub P C t n) _ _ _ hc
    have hcon := contains72_calls B (V i) (P i) 83 #[.pointer (some ⟨w.heap.size, 0, none⟩), .pointer (some ⟨w.heap.size + 1, 0, none⟩)]
      (fun j w' => ∃ sj, A j = (false, sj) ∧ MapC w' r sj ∧ Kpt (fun g => g = r) w5 w')
      (fun j w' => ∃ sj, A (j + 1) = (true, sj) ∧ MapC w' r sj ∧ Kpt (fun g => g = r) w5 w') w5
      ⟨_, hA0, by rw [HCI.out]; exact HM5.out, Kpt.refl _ _⟩ HLEN.out
      ⟨fun j w' ⟨sj, _, _, hk⟩ => (HG5.out.kc (Kc.of_kpt hk HM5.out)).row i HI.out, fun j x w' hx hI => by
        obtain ⟨sj, hj, hm, hk⟩ := hI
        have hkc := Kc.of_kpt hk HM5.out
        have hAs : A (j + 1) = stepH f (A j) x := by
          rw [← HA.out, List.take_add_one, hx, List.foldl_append, HA.out]
          rfl
        obtain ⟨who, more⟩ := x
        cases more with
        | none =>
          refine (f83_none who _ _ w').mono ?_
          rintro e w'' ⟨rfl, hb⟩
          refine ⟨false, rfl, Or.inr ⟨rfl, sj, ?_, hm.below hb, hk.then hb⟩⟩
          rw [hAs, hj]
          rfl
        | some kq =>
          obtain ⟨k, qk⟩ := kq
          have hG' := HG5.out.kc hkc
          obtain ⟨hkN, hcu⟩ := hG'.part i HI.out _ (List.mem_of_getElem? hx) k qk rfl
          refine f83_some who qk w.heap.size (w.heap.size + 1) (.pointer (some ⟨qt, 0, none⟩)) (.map (some r)) (fun b w'' => (b = true ∧ ∃ sj, A (j + 1) = (true, sj) ∧ MapC w'' r sj ∧ Kpt (fun g => g = r) w5 w'') ∨ (b = false ∧ ∃ sj, A (j + 1) = (false, sj) ∧ MapC w'' r sj ∧ Kpt (fun g => g = r) w5 w'')) w'
            (cell_of (hkc _ _ _ _ (HK25.out _ _ _ _ G0.out)) 0 _ rfl) (cell_of (hkc _ _ _ _ (HK25.out _ _ _ _ G1.out)) 0 _ rfl) fun w2 hb => ?_
          have hk2 := Kc.of_below hb
          refine (IH.out sj w2 k qk r (htot.out sj fun c hc => by have := hsubA.out j c hc; rw [hj] at this; exact this) (hG'.kc hk2) hkN (hk2 _ _ _ _ hcu) (hk2 _ _ _ _ (hkc _ _ _ _ (HK25.out _ _ _ _ (by rw [HCT.out, HSTT.out]; exact HQT2.out)))) (hm.below hb)).mono ?_
          rintro e w3 ⟨rfl, m3, k3⟩
          have e2 : A (j + 1) = hasS P C t n sj k := by
            rw [hAs, hj, HF.out]
            rfl
          refine ⟨_, rfl, ?_⟩
          rw [← e2] at m3 ⊢
          have hk3 := (hk.then hb).trans k3
          cases hb2 : (A (j + 1)).1 with
          | true => exact Or.inl ⟨rfl, _, Prod.ext hb2 rfl, m3, hk3⟩
          | false => exact Or.inr ⟨rfl, _, Prod.ext hb2 rfl, m3, hk3⟩⟩ cf83
    have hres : Hid (hasS P C t (n + 1) s i = A (P i).length) := Lib.hid (by
      rw [← hA, List.take_length, ← hf]
      show (if (C i == C t) = true then _ else if C i ∈ s then _ else _) = _
      rw [if_neg (by simpa using HNE1.out), if_neg HNE2.out])
    have hend : Hid (∀ j sj, j < (P i).length → A (j + 1) = (true, sj) → A (P i).length = (true, sj)) := Lib.hid fun j sj hj h => by
      have e1 : (P i).take (j + 1) ++ (P i).drop (j + 1) = P i := List.take_append_drop _ _
      rw [← hA, List.take_length, ← e1, List.foldl_append, hA, h]
      exact foldH_true _ _ rfl
    have HCON := Lib.hid hcon
    clear hk25 hG5 hst5 hf hA hA0 hcon hrun' q0 q1 q0' q1'
    go_wp2_with fail
    refine HCON.out.mono ?_
    rintro e w6 ⟨b, rfl, ⟨rfl, sj, h1, h2, h3⟩ | ⟨rfl, j, hj, sj, h1, h2, h3⟩⟩
    · have H1 := Lib.hid h1
      have H2 := Lib.hid h2
      have H3 := Lib.hid h3
      clear h1 h2 h3 HCON z1 s0
      go_wp2_with fail
      go_ret
      rw [hres.out, H1.out]
      exact ⟨rfl, H2.out, (Kpt.of_below ((HB2.out.then HB3.out).then HB4.out)).trans (HKP.out.trans H3.out)⟩
    · have H1 := Lib.hid (hend.out j sj hj h1)
      have H2 := Lib.hid h2
      have H3 := Lib.hid h3
      clear h1 h2 h3 HCON z1 s0
      go_wp2_with fail
      go_ret
      rw [hres.out, H1.out]
      exact ⟨rfl, H2.out, (Kpt.of_below ((HB2.out.then HB3.out).then HB4.out)).trans (HKP.out.trans H3.out)⟩
end Go.Proofs.Ytddajaikighjlaa
