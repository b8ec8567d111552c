/- The law TimerGiven: its walk. -/
import Derived.Test.YtddajaikighjlaaCg
import Derived.Deep.CutBlock
import Derived.Deep.DeepCutAuto
namespace Go.Proofs.Ytddajaikighjlaa
open Go.RowKit Go.Sl Go.Mp Go.Wh

/-- The array of five pointers, of which i are set. -/
def Arr (w : World) (X i : Nat) (Q : Nat → Nat) : Prop := ∃ cs, w.heap[X]? = some (.cells cs 132 (0, 0)) ∧ cs.size = 5 ∧ ∀ j, j < i → cs[j]? = some (.pointer (some ⟨Q j, 0, none⟩))
theorem Arr.at {w : World} {X i : Nat} {Q : Nat → Nat} (h : Arr w X i Q) {j : Nat} (hj : j < i) : w.cell? ⟨X, j, none⟩ = some (.pointer (some ⟨Q j, 0, none⟩)) := by
  obtain ⟨cs, h1, -, h3⟩ := h
  exact cells_of_row h1 j _ (h3 j hj)
theorem Arr.froz {w : World} {X i : Nat} {Q : Nat → Nat} (h : Arr w X i Q) (j : Nat) : w.frozen? ⟨X, j, none⟩ = false := by
  obtain ⟨cs, h1, -⟩ := h
  simp [World.frozen?, h1]
theorem Arr.ex {w : World} {X i : Nat} {Q : Nat → Nat} (h : Arr w X i Q) {j : Nat} (hj : j < 5) : ∃ u, w.cell? ⟨X, j, none⟩ = some u := by
  obtain ⟨cs, h1, h2, -⟩ := h
  exact ⟨_, cells_of_row h1 j _ (Array.getElem?_eq_getElem (by omega))⟩
theorem Arr.kc {w w' : World} {X i : Nat} {Q : Nat → Nat} (h : Arr w X i Q) (hb : Kc w w') : Arr w' X i Q := by
  obtain ⟨cs, h1, h2⟩ := h
  exact ⟨cs, hb _ _ _ _ h1, h2⟩
theorem Arr.set {w : World} {X i : Nat} {Q : Nat → Nat} (h : Arr w X i Q) (hi : i < 5) (p : Nat) : Arr (w.setCell ⟨X, i, none⟩ (.pointer (some ⟨p, 0, none⟩))) X (i + 1) (upd Q i p) := by
  obtain ⟨cs, h1, h2, h3⟩ := h
  refine ⟨_, heap_setCell_same w X i _ 132 _ h1, by simp [h2], fun j hj => ?_⟩
  by_cases e : j = i
  · subst e
    rw [upd_self]
    simp [h2, hi]
  · rw [upd_ne _ _ e]
    have := h3 j (by omega)
    simp [Ne.symm e, this]
/-- While they are made. -/
def Pch (Q : Nat → Nat) (i : Nat) : Nat → List Part := fun j => if j + 1 < i then [(0, some (j + 1, Q (j + 1)))] else []
/-- Blocks of cells stay, but stocks and rows of parts. -/
def Kq (w w' : World) : Prop := ∀ (g : Nat) (cs : Array Value) (t : TypeId) (f : Nat × Nat), w.heap[g]? = some (.cells cs t f) → t ≠ 166 → t ≠ 168 → w'.heap[g]? = some (.cells cs t f)
theorem Kq.arr {w w' : World} {X i : Nat} {Q : Nat → Nat} (k : Kq w w') (h : Arr w X i Q) : Arr w' X i Q := by
  obtain ⟨cs, h1, h2⟩ := h
  exact ⟨cs, k _ _ _ _ h1 (by decide) (by decide), h2⟩
theorem Kq.own3 {w w' : World} {base sz n : Nat} {v : Value} {xs : List Value} (k : Kq w w') (h : w.ownsRow base 3 sz v n xs) : w'.ownsRow base 3 sz v n xs :=
  own_same h fun g hg => by
    obtain ⟨cs, hc, -⟩ := own_cells h hg
    exact (k g _ _ _ hc (by decide) (by decide)).trans hc.symm
theorem Kq.of_kc {w w' : World} (k : Kc w w') : Kq w w' := fun g cs t f h _ _ => k g cs t f h
theorem Kq.of_grow {w0 w w' : World} {N i : Nat} {S C Q : Nat → Nat} {P : Nat → List Part} {V : Nat → Value} {d : Nat → Bool} (h : CS w0 N S C Q P V d w) (hi : i < N) (k : Kpt (fun g => g = S i ∨ (V i).ownBlock = some g) w w') : Kq w w' := fun g cs t f hg h1 h2 => k.row hg (by
  rintro (rfl | e)
  · have := h.gs.stk i hi
    unfold Stk at this
    rw [hg] at this
    simp only [Option.some.injEq, Obj.cells.injEq] at this
    exact h1 this.2.1
  · obtain ⟨cs2, hc, -⟩ := own_cells (h.gs.row i hi) e
    rw [hg] at hc
    simp only [Option.some.injEq, Obj.cells.injEq] at hc
    exact h2 hc.2.1)
theorem Kq.of_aft {w0 w w' : World} {N : Nat} {S C Q : Nat → Nat} {P : Nat → List Part} {V x : Nat → Value} {d d' : Nat → Bool} (h : CS w0 N S C Q P V d w) (a : Aft N S d d' x w w') : Kq w w' := fun g cs t f hg h1 _ => a.kpt.row hg (by
  rintro ⟨k, hk, rfl, -, -⟩
  have := h.gs.stk k hk
  unfold Stk at this
  rw [hg] at this
  simp only [Option.some.injEq, Obj.cells.injEq] at this
  exact h1 this.2.1)
/-- A row of numbers is written. -/
theorem CS.far {w0 w w' : World} {N : Nat} {S C Q : Nat → Nat} {P : Nat → List Part} {V : Nat → Value} {d : Nat → Bool} (h : CS w0 N S C Q P V d w) {n : Nat} {v : Value} {xs : List Value} (ho : w.ownsRow w0.heap.size 3 1 v n xs) (hg : w.grownBy w' v.ownBlock) : CS w0 N S C Q P V d w' := by
  cases hv : v.ownBlock with
  | none => exact h.below ⟨hg.os, hg.tape, hg.output, hg.size, fun g hgl => hg.block g hgl (by rw [hv]; simp)⟩
  | some g =>
    obtain ⟨cs, hc, hb⟩ := own_cells ho hv
    exact h.other hc (by decide) (by decide) (by decide) hb ((Kpt.refl _ _).grown hg fun k hk _ => by rw [hv] at hk; simpa using hk.symm)
theorem Arr.far {w w' : World} {X i : Nat} {Q : Nat → Nat} (h : Arr w X i Q) {base n : Nat} {v : Value} {xs : List Value} (ho : w.ownsRow base 3 1 v n xs) (hg : w.grownBy w' v.ownBlock) : Arr w' X i Q := by
  obtain ⟨cs, h1, h2⟩ := h
  refine ⟨cs, (hg.block X (Array.getElem?_eq_some_iff.1 h1).1 fun e => ?_).trans h1, h2⟩
  obtain ⟨cs2, hc, -⟩ := own_cells ho e.symm
  rw [h1] at hc
  simp only [Option.some.injEq, Obj.cells.injEq] at hc
  exact absurd hc.2.1 (by decide)
theorem tot_bound {f : Nat → Nat} {d : Nat → Bool} {b : Nat} : ∀ {N : Nat}, (∀ k, k < N → f k ≤ b) → tot f d N ≤ N * b
  | 0, _ => by simp [tot]
  | N + 1, h => by
    have h1 := tot_bound (f := f) (d := d) (b := b) (N := N) fun k hk => h k (by omega)
    have h2 := h N (by omega)
    show tot f d N + (if d N = true then 0 else f N) ≤ (N + 1) * b
    rw [Nat.add_mul, Nat.one_mul]
    split <;> omega
theorem gvn_len {Q : Nat → Nat} {P : Nat → List Part} {d : Nat → Bool} {out : List Int} {k : Nat} (h : Gvn Q P d out k) : out.length ≤ k := by
  obtain ⟨D, A, -, hp⟩ := h
  have := hp.length_eq
  simp only [List.length_append, List.length_map, List.length_range] at this
  omega
/-- Where TimerGiven's second loop stands. -/
structure Gst (w : World) (S C Q : Nat → Nat) (X k : Nat) (vo : Value) (out : List Int) (P : Nat → List Part) (V : Nat → Value) (d : Nat → Bool) (wr : World) : Prop where
  cs : CS w 5 S C Q P V d wr
  arr : Arr wr X 5 Q
  own : wr.ownsRow w.heap.size 3 1 vo out.length (out.map (Value.int .i64))
  gvn : Gvn Q P d out k
  len : ∀ j, j < 5 → (P j).length ≤ k + 1
theorem cellg_of {w : World} {v : Value} {l : List Int} {n : Nat} {q : IntKind} (h : SlV w v n 1 (l.map (Value.int q))) (hn : l.length = n) {k : Nat} {y : Int} (hy : l[k]? = some y) : ∃ g o c, v = .slice (some ⟨g, o, none⟩) n c ∧ w.cell? ⟨g, o + k, none⟩ = some (.int q y) := by
  have hk := (List.getElem?_eq_some_iff.1 hy).1
  rcases h.2 with ⟨h0, -⟩ | ⟨-, g, o, c, hv, hc⟩
  · omega
  · exact ⟨g, o, c, hv, hc k _ (by simp [hy])⟩
theorem tot_le (d : Nat → Bool) : ∀ N, tot (fun _ => 1) d N ≤ N
  | 0 => Nat.le_refl _
  | N + 1 => by
    have := tot_le d N
    show tot (fun _ => 1) d N + (if d N = true then 0 else 1) ≤ N + 1
    split <;> omega
theorem pch_next (Q : Nat → Nat) (i p : Nat) (hi : 0 < i) : upd (upd (Pch Q i) i []) (i - 1) ((upd (Pch Q i) i [] (i - 1)) ++ [(0, some (i, p))]) = Pch (upd Q i p) (i + 1) := by
  funext j
  by_cases e : j = i - 1
  · subst e
    rw [upd_self, upd_ne _ _ (by omega)]
    unfold Pch
    rw [if_neg (by omega), if_pos (by omega), show i - 1 + 1 = i by omega, upd_self]
    rfl
  · rw [upd_ne _ _ e]
    by_cases e2 : j = i
    · subst e2
      rw [upd_self]
      unfold Pch
      rw [if_neg (by omega)]
    · rw [upd_ne _ _ e2]
      unfold Pch
      by_cases h : j + 1 < i
      · rw [if_pos h, if_pos (by omega), upd_ne _ _ (by omega)]
      · rw [if_neg h, if_neg (by omega)]
theorem pch_one (Q : Nat → Nat) (p : Nat) : upd (Pch Q 0) 0 [] = Pch (upd Q 0 p) 1 := by
  funext j
  have e : Pch Q 0 j = [] := by unfold Pch; rw [if_neg (by omega)]
  have e2 : Pch (upd Q 0 p) 1 j = [] := by unfold Pch; rw [if_neg (by omega)]
  rw [e2]
  unfold upd
  rw [e]
  split <;> rfl
theorem upd_false (N : Nat) : upd (fun _ : Nat => false) N false = fun _ => false := by
  funext j
  unfold upd
  split <;> rfl
theorem under_zero {P : Nat → List Part} {C : Nat → Nat} {N i : Nat} (h1 : P i = []) (h2 : P (i - 1) = []) (hc : ¬ C i = C (i - 1)) : underC P C (fun _ => false) (N + 1) (i - 1) i = 0 := by
  unfold underC hasS
  rw [h1, h2]
  simp [hc]
set_option maxRecDepth 100000 in
set_option maxHeartbeats 16000000 in
theorem given_calls (v : Value) (l : List Int) (early : Int) (w : World) (h : SlV w v l.length 1 (l.map (Value.int .u8))) (hl : ∀ x ∈ l, 0 ≤ x ∧ x ≤ 255) (he : 0 ≤ early ∧ early ≤ 255) :
    Calls Try.prog 9 #[v, .int .u8 early] w fun e w' => e = .returned (.bool true) ∧ Below w.heap.size w w' := by
  obtain ⟨a0, c0, rfl⟩ := SlV.form h
  obtain ⟨n, hn⟩ : ∃ n, l.length = n := ⟨_, rfl⟩
  rw [hn] at h ⊢
  have HN := Lib.hid hn
  have H := Lib.hid h
  have HL := Lib.hid hl
  clear h hl hn
  go_enter Try.func9, Try.ntmps9
  by_cases hbig : (30 : Int) < (n : Int)
  · go_wp2_with fail
    refine (awake_calls _).mono ?_
    rintro e w3 ⟨rfl, hb3⟩
    go_wp2_with fail
    go_ret
    exact ⟨rfl, hb3⟩
  go_wp2_with fail
  obtain ⟨X, hX⟩ : ∃ X, w.heap.size = X := ⟨_, rfl⟩
  obtain ⟨w1, hw1⟩ : ∃ w1, w.alloc (.cells #[.pointer none, .pointer none, .pointer none, .pointer none, .pointer none] 132) = w1 := ⟨_, rfl⟩
  have hb1 : Below w.heap.size w w1 := by rw [← hw1]; exact (Below.refl _ _).alloc (Nat.le_refl _) _
  have ha1 : Arr w1 X 0 (fun _ => 0) := ⟨_, by rw [← hw1, ← hX]; exact heap_alloc_new _ _, rfl, fun j hj => by omega⟩
  have hcs0 : CS w 0 (fun _ => 0) (fun _ => 0) (fun _ => 0) (Pch (fun _ => 0) 0) (fun _ => nilV) (fun _ => false) w1 := ⟨hb1, ⟨fun _ h => by omega, fun _ h => by omega, fun _ h => by omega, fun _ _ h => by omega⟩, fun _ h => by omega, fun _ h => by omega, fun _ _ h => by omega, fun _ _ _ h => by omega, fun _ h => by omega⟩
  rw [hw1, hX]
  have HX := Lib.hid hX
  have A1 := Lib.hid ha1
  have CS0 := Lib.hid hcs0
  clear hw1 hX hb1 ha1 hcs0
  go_loopw [20] (fun iv wr => ∃ (i : Nat) (S C Q : Nat → Nat) (V : Nat → Value), i ≤ 5 ∧ iv = .int .i64 (i : Int) ∧ Hid (CS w i S C Q (Pch Q i) V (fun _ => false) wr) ∧ Hid (Arr wr X i Q)) (fun iv _ => 5 - (intOf iv).toNat)
  case atStart => exact ⟨0, _, _, _, _, Nat.zero_le _, rfl, CS0, A1⟩
  case round =>
    obtain ⟨i, S, C, Q, V, hi, rfl, hCS, hArr⟩ := hrel
    by_cases hlt : i < 5
    · have hlt' : (i : Int) < 5 := by omega
      have hmk := made_calls wr
      obtain ⟨q, hq⟩ : ∃ q, wr.heap.size + 2 = q := ⟨_, rfl⟩
      have HQQ := Lib.hid hq
      have HMK := Lib.hid hmk
      clear hmk hq
      go_wp2_with fail
      refine HMK.out.mono ?_
      rintro e w3 ⟨rfl, hc, hs, hb⟩
      have hA3 := hArr.out.kc (Kc.of_below hb)
      have hC3 := hCS.out.make hb hc hs
      rw [HQQ.out] at hC3 ⊢
      obtain ⟨S2, hS2⟩ : ∃ S2, upd S i (wr.heap.size + 1) = S2 := ⟨_, rfl⟩
      obtain ⟨C2, hC2⟩ : ∃ C2, upd C i wr.heap.size = C2 := ⟨_, rfl⟩
      rw [hS2, hC2, upd_false] at hC3
      have fz := hA3.froz i
      obtain ⟨u0, hu0⟩ := hA3.ex hlt
      have hA4 := hA3.set hlt q
      have hC4 : CS w (i + 1) S2 C2 (upd Q i q) (upd (Pch Q i) i []) (upd V i nilV) (fun _ => false) (w3.setCell ⟨X, i, none⟩ (.pointer (some ⟨q, 0, none⟩))) := by
        obtain ⟨cs, hx, -⟩ := hA3
        exact hC3.other hx (by decide) (by decide) (by decide) (by rw [HX.out]; exact Nat.le_refl _) ((Kpt.refl _ _).setCell _ _ fun _ => rfl)
      have HA4 := Lib.hid hA4
      have HC4 := Lib.hid hC4
      clear hc hs hb hA3 hC3 hS2 hC2 hA4 hC4 HMK
      go_upto_region 8 with (fail)
      generalize hw4 : w3.setCell _ _ = w4
      rw [hw4] at HA4 HC4
      clear hw4 fz hu0
      have ci := HA4.out.at (Nat.lt_succ_self i)
      rw [upd_self] at ci
      by_cases h0 : i = 0
      · subst h0
        have HQ1 := Lib.hid (pch_one Q q)
        clear hlt' HQQ
        go_quiet (fail)
        go_wp2_with fail
        go_roundw
        case rel => exact ⟨1, S2, C2, upd Q 0 q, upd V 0 nilV, by omega, by go_num, Lib.hid (by rw [← HQ1.out]; exact HC4.out.below (below_drewN _ _ _)), Lib.hid (HA4.out.kc (Kc.of_below (below_drewN _ _ _)))⟩
        case measure => simp [intOf]
      · obtain ⟨j, hj⟩ : ∃ j, i - 1 = j := ⟨_, rfl⟩
        have cj := HA4.out.at (show j < i + 1 by omega)
        have gsub : IntKind.i64.wrap ((i : Int) - 1) = (j : Int) := by
          rw [show (i : Int) - 1 = (j : Int) by omega]
          exact IntWalk.i64_in _ (by omega)
        have hpos : (0 : Int) < (i : Int) := by omega
        have hN : Hid (i + 1 ≤ 5) := Lib.hid (by omega)
        have hz : underC (upd (Pch Q i) i []) C2 (fun _ => false) (i + 2) j i = 0 := by
          rw [← hj]
          refine under_zero (N := i + 1) (upd_self _ _ _) ?_ fun e => ?_
          · rw [upd_ne _ _ (by omega)]
            unfold Pch
            rw [if_neg (by omega)]
          · have := HC4.out.cinj i (i - 1) (by omega) (by omega) e
            omega
        have hund := under_calls w.heap.size (i + 1) S2 C2 (upd (Pch Q i) i []) (upd V i nilV) (fun _ => false) (fun k hk => by
            unfold upd
            split
            · simp
            · unfold Pch
              split <;> simp) (i + 2) j i (upd Q i q j) q w4.drew (Nat.le_trans (tot_le _ _) (by omega)) (HC4.out.below (below_drewN _ w4 1)).bel.size (HC4.out.below (below_drewN _ w4 1)).gs (by omega) (by omega) ((HC4.out.below (below_drewN _ w4 1)).cu j (by omega)) (by
            have := (HC4.out.below (below_drewN _ w4 1)).cu i (by omega)
            rw [upd_self] at this
            exact this)
        rw [hz] at hund
        have HIJ := Lib.hid (show j < i + 1 by omega)
        have hpn : 0 < i := by omega
        have HU := Lib.hid hund
        have HJ := Lib.hid hj
        have hi0 : (0 : Int) ≤ (i : Int) := by omega
        have hj0 : (0 : Int) ≤ (j : Int) := by omega
        have hj5 : (j : Int) < 5 := by omega
        clear hund hj hz HQQ
        have hAX : Hid (∀ w5, Kpt (fun g => g = S2 j ∨ (upd V i nilV j).ownBlock = some g) w4.drew w5 → Arr w5 X (i + 1) (upd Q i q)) := Lib.hid fun w5 hk => by
          obtain ⟨cs, h1, h2⟩ := HA4.out
          refine ⟨cs, hk.row (show w4.drew.heap[X]? = _ from h1) ?_, h2⟩
          have hgs := (HC4.out.below (below_drewN _ w4 1)).gs
          rintro (e | e)
          · have := hgs.stk j HIJ.out
            unfold Stk at this
            rw [← e, show (w4.drewN 1).heap[X]? = _ from h1] at this
            simp only [Option.some.injEq, Obj.cells.injEq] at this
            exact absurd this.2.1 (by decide)
          · obtain ⟨cs2, hc2, -⟩ := own_cells (hgs.row j HIJ.out) e
            rw [show (w4.drewN 1).heap[X]? = _ from h1] at hc2
            simp only [Option.some.injEq, Obj.cells.injEq] at hc2
            exact absurd hc2.2.1 (by decide)
        go_region_held3 (fun w' => w'.cell? ⟨X, i, none⟩ = some (.pointer (some ⟨q, 0, none⟩)) ∧ w'.cell? ⟨X, j, none⟩ = some (.pointer (some ⟨upd Q i q j, 0, none⟩))) (go_keep) (first | (go_at_call 41; refine HU.out.mono ?_; rintro e w5 ⟨rfl, ⟨h, -⟩ | ⟨-, -, v', e1, e2, e3, e4⟩⟩; (exact absurd rfl h); have hA5 := hAX.out w5 e3; have z1 := hA5.at (Nat.lt_succ_self i); rw [upd_self] at z1; have z2 := hA5.at HIJ.out; have E1 := Lib.hid e1; have E2 := Lib.hid e2; have E3 := Lib.hid e3; have E4 := Lib.hid e4; have HA5 := Lib.hid hA5; clear e1 e2 e3 e4 hA5) | fail)
        have hp := pch_next Q i q (by omega)
        rw [HJ.out] at hp
        have hnew := (HC4.out.below (below_drewN _ w4 1)).grow HIJ.out (x := (0, some (i, q))) (fun k2 q2 hq2 => by
          simp only [Option.some.injEq, Prod.mk.injEq] at hq2
          obtain ⟨rfl, rfl⟩ := hq2
          have := (HC4.out.below (below_drewN _ w4 1)).cu i (by omega)
          rw [upd_self] at this
          exact ⟨by omega, this⟩) rfl E1.out E2.out E3.out E4.out
        rw [hp] at hnew
        have HNEW := Lib.hid hnew
        clear hnew hp z1 z2 cj ci gsub
        go_wp2_with fail
        go_roundw
        case rel => exact ⟨i + 1, S2, C2, upd Q i q, _, by omega, by go_num, HNEW, HA5⟩
        case measure => simp [intOf]; omega
    · obtain rfl : i = 5 := by omega
      have hlt' : ¬ ((5 : Nat) : Int) < 5 := by omega
      have G0 := Lib.hid (show Gst w S C Q X 0 nilV [] (Pch Q 5) V (fun _ => false) wr from ⟨hCS.out, hArr.out, own_nil _ _ _ _, gvn_zero (fun _ _ => rfl) fun j hj => by
        unfold Pch lnk
        by_cases h : j < 4
        · rw [if_pos (by omega), if_pos h]
        · rw [if_neg (by omega), if_neg h], fun j hj => by
        unfold Pch
        split <;> simp⟩)
      clear hCS hArr A1 CS0
      go_wp2_with fail
      go_loopw [48, 7] (fun iv vo wr => ∃ (k : Nat) (out : List Int) (P : Nat → List Part) (V : Nat → Value) (d : Nat → Bool), k ≤ n ∧ iv = .int .i64 (k : Int) ∧ Hid (Gst w S C Q X k vo out P V d wr)) (fun iv _ _ => n - (intOf iv).toNat)
      case atStart => exact ⟨0, [], _, _, _, Nat.zero_le _, rfl, G0⟩
      case round =>
        obtain ⟨k, out, P, V, d, hk, rfl, hG⟩ := hrel
        by_cases hltk : k < n
        · obtain ⟨x, hx⟩ : ∃ x, l[k]? = some x := ⟨_, List.getElem?_eq_getElem (by have := HN.out; omega)⟩
          obtain ⟨g, o, c, hf, hcc⟩ := cellg_of H.out (by rw [HN.out]) hx
          have hxb := HL.out x (List.mem_of_getElem? hx)
          simp only [Value.slice.injEq] at hf
          obtain ⟨rfl, -, rfl⟩ := hf
          replace hcc := hG.out.cs.bel.at_cell hcc
          have hlk : (k : Int) < (n : Int) := by omega
          obtain ⟨hf, hhf, hhb⟩ : ∃ hf : Nat, Int.tdiv (n : Int) 2 = (hf : Int) ∧ hf ≤ 15 := ⟨n / 2, by rw [Int.tdiv_eq_ediv_of_nonneg (by omega)]; omega, by omega⟩
          have ghf : IntKind.i64.wrap (hf : Int) = (hf : Int) := IntWalk.i64_in _ (by omega)
          obtain ⟨b1, c1, rfl⟩ := own_form hG.out.own
          have h3 : (k = hf ∧ (3 : Int) < (n : Int)) ∨ (k = hf ∧ ¬ (3 : Int) < (n : Int)) ∨ ¬ k = hf := by omega
          obtain ⟨r0, hr0, hr0b⟩ : ∃ r0 : Nat, Int.tmod early 4 = (r0 : Int) ∧ r0 < 4 := ⟨(Int.tmod early 4).toNat, by
            have h1 := Int.tmod_nonneg 4 he.1
            omega, by
            have h1 := Int.tmod_nonneg 4 he.1
            have h2 := Int.tmod_lt_of_pos early (show (0 : Int) < 4 by omega)
            omega⟩
          have gr0 : IntKind.u8.wrap (r0 : Int) = (r0 : Int) := IntWalk.u8_in _ (by omega)
          have gr1 : IntKind.u8.wrap (1 + (r0 : Int)) = ((1 + r0 : Nat) : Int) := by
            rw [show (1 : Int) + (r0 : Int) = ((1 + r0 : Nat) : Int) by omega]
            exact IntWalk.u8_in _ (by omega)
          have e43 := hG.out.arr.at (show 1 + r0 < 5 by omega)
          obtain ⟨rr, hrr⟩ : ∃ rr, 1 + r0 = rr := ⟨_, rfl⟩
          rw [hrr] at gr1 e43
          have hrr0 : (0 : Int) ≤ (rr : Int) := by omega
          have hrr5 : (rr : Int) < 5 := by omega
          have HRR := Lib.hid (show rr < 5 by omega)
          have hdisp := dispose_calls w.heap.size 5 S C P V 5 d wr rr (Q rr) (tot_le _ _) hG.out.cs.gs.ds HRR.out (hG.out.cs.cu rr HRR.out) (Nat.le_trans (tot_bound (b := k + 1) fun j hj => hG.out.len j hj) (by omega))
          have HDISP := Lib.hid hdisp
          have HX2 := Lib.hid hx
          have HXB := Lib.hid hxb
          clear hx hdisp hrr hr0b hxb
          obtain ⟨i0, hif, hz0, hz1, hz2⟩ := info_parts cinfo3
          have hlo := gvn_len hG.out.gvn
          obtain ⟨ln, hln⟩ : ∃ ln, out.length = ln := ⟨_, rfl⟩
          rw [hln] at hlo ⊢
          have HLN := Lib.hid hln
          have HLO := Lib.hid hlo
          clear hln hlo
          rcases h3 with ⟨rfl, hn3⟩ | ⟨rfl, hn3⟩ | hne
          all_goals
            go_upto_if 62 with (fail)
            go_cut [7] (fun vo wx => ∃ (out : List Int) (P : Nat → List Part) (V : Nat → Value) (d : Nat → Bool), Hid (Gst w S C Q X k vo out P V d wx))
            case first =>
              first
                | (go_wp2_with fail; go_meet; case rel => exact ⟨out, P, V, d, by rw [← HLN.out]; exact hG⟩)
                | (go_wp2_with fail
                   refine HDISP.out.mono ?_
                   rintro e w5 ⟨v, rfl, hown5, haft⟩
                   obtain ⟨r, hr⟩ : ∃ r, disS P 5 d rr = r := ⟨_, rfl⟩
                   have hgv := gvn_dispose (j := rr) hG.out.gvn HRR.out
                   rw [hr] at hown5 haft hgv
                   obtain ⟨va, vc, rfl⟩ := own_form hown5
                   have hkq := Kq.of_aft hG.out.cs haft
                   have hcs5 := hG.out.cs.disposed haft
                   have harr5 := hkq.arr hG.out.arr
                   have hown : w5.ownsRow w.heap.size 3 1 (.slice b1 ln c1) ln (out.map (Value.int .i64)) := by
                     have := hkq.own3 hG.out.own
                     rw [HLN.out] at this
                     exact this
                   have hl2 : ln + r.2.length ≤ k := by
                     have := gvn_len hgv.1
                     rw [List.length_append, HLN.out] at this
                     exact this
                   have hlit := SlV.of_owns hown5
                   have hbase := hcs5.bel.size
                   have HCS5 := Lib.hid hcs5
                   have HARR5 := Lib.hid harr5
                   have HOWN := Lib.hid hown
                   have HLIT := Lib.hid hlit
                   have HGV := Lib.hid hgv.1
                   have HBASE := Lib.hid hbase
                   have HL2 := Lib.hid hl2
                   have HUP := Lib.hid haft.up
                   clear hr hgv hown5 haft hkq hcs5 harr5 hown hlit hbase hl2 e43 gr0 gr1
                   go_wp2_with (at_builtin; refine wpList_append_at rfl (.tmp 63) (.tmp 69) 58 rfl w.heap.size 3 i0 (.int .i64 0) 1 8 Try.underlying58 hif hz0 hz1 hz2 rfl (by decide) (.slice b1 ln c1) ln (out.map (Value.int .i64)) rfl HOWN.out (.slice va r.2.length vc) r.2.length (r.2.map (Value.int .i64)) rfl HLIT.out (oneCell_ints _) ?d2 ?d3 HBASE.out ?_)
                   case d2 => have := HL2.out; unfold maxLen; omega
                   case d3 => have := HL2.out; omega
                   intro v' w6 own6 hg6 _
                   have G6 := Lib.hid (show Gst w S C Q X k v' (out ++ r.2) (fun i => if d i = false ∧ r.1 i = true then [] else P i) (fun i => if d i = false ∧ r.1 i = true then nilV else V i) r.1 w6 from
                     ⟨HCS5.out.far HOWN.out hg6, HARR5.out.far HOWN.out hg6, by rw [List.length_append, HLN.out, List.map_append]; exact own6, HGV.out, fun j hj => by
                       by_cases e : d j = false ∧ r.1 j = true
                       · simp [e]
                       · simp only [e, if_false]
                         exact hG.out.len j hj⟩)
                   clear own6 hg6
                   go_wp2_with fail
                   go_meet
                   case rel => exact ⟨_, _, _, _, G6⟩)
            case rest =>
              clear hhf ghf hhb hr0 gr0 gr1 e43 hrr0 hrr5 HDISP HLN HLO
              clear hG
              obtain ⟨out, P, V, d, hG2⟩ := hcut
              obtain ⟨b1, c1, rfl⟩ := own_form hG2.out.own
              obtain ⟨r1, hr1, hr1b⟩ : ∃ r1 : Nat, Int.tmod x 5 = (r1 : Int) ∧ r1 < 5 := ⟨(Int.tmod x 5).toNat, by
                have h1 := Int.tmod_nonneg 5 HXB.out.1
                omega, by
                have h1 := Int.tmod_nonneg 5 HXB.out.1
                have h2 := Int.tmod_lt_of_pos x (show (0 : Int) < 5 by omega)
                omega⟩
              have gr2 : IntKind.u8.wrap (r1 : Int) = (r1 : Int) := IntWalk.u8_in _ (by omega)
              have e75 := hG2.out.arr.at hr1b
              have hr10 : (0 : Int) ≤ (r1 : Int) := by omega
              have hr15 : (r1 : Int) < 5 := by omega
              have hlo := gvn_len hG2.out.gvn
              obtain ⟨ln, hln⟩ : ∃ ln, out.length = ln := ⟨_, rfl⟩
              rw [hln] at hlo ⊢
              have HLN := Lib.hid hln
              have HLO := Lib.hid hlo
              have HR1 := Lib.hid hr1b
              clear hln hlo hr1b
              by_cases hd : d r1 = true
              · have hgive := give_done (Q r1) (C r1) (S r1) (V r1) (k : Int) wc (hG2.out.cs.cu r1 HR1.out) (by
                  have := hG2.out.cs.gs.stk r1 HR1.out
                  rw [hd] at this
                  exact this)
                have HGIVE := Lib.hid hgive
                clear hgive hd
                go_wp2_with fail
                refine HGIVE.out.mono ?_
                rintro e w5 ⟨rfl, rfl⟩
                obtain ⟨W8, hW8⟩ : ∃ W8, w5.alloc (.cells #[.int .i64 (k : Int)] 3) = W8 := ⟨_, rfl⟩
                have g8 : W8.heap[w5.heap.size]? = some (.cells #[.int .i64 (k : Int)] 3 (0, 0)) := by rw [← hW8]; exact heap_alloc_new _ _
                have hb8 : Below w5.heap.size w5 W8 := by rw [← hW8]; exact (Below.refl _ _).alloc (Nat.le_refl _) _
                have hown : W8.ownsRow w.heap.size 3 1 (.slice b1 ln c1) ln (out.map (Value.int .i64)) := by
                  have := own_same hG2.out.own fun g hg => hb8.block g (hG2.out.own.lt g hg).2
                  rw [HLN.out] at this
                  exact this
                have hlit : SlV W8 (.slice (some ⟨w5.heap.size, 0, none⟩) 1 1) 1 1 [.int .i64 (k : Int)] := ⟨rfl, Or.inr ⟨by omega, _, 0, 1, rfl, fun i u hi => by
                  rw [Nat.zero_add]
                  exact cells_of_row g8 i u (by simpa using hi)⟩⟩
                have HW8 := Lib.hid hW8
                have HOWN := Lib.hid hown
                have HLIT := Lib.hid hlit
                have HBASE := Lib.hid (hG2.out.cs.below hb8).bel.size
                have HB8 := Lib.hid hb8
                clear hW8 g8 hb8 hown hlit e75 gr2 hr1 HGIVE
                go_wp2_with (at_builtin; rw [HW8.out]; refine wpList_append_at rfl (.tmp 83) (.tmp 85) 58 rfl w.heap.size 3 i0 (.int .i64 0) 1 8 Try.underlying58 hif hz0 hz1 hz2 rfl (by decide) (.slice b1 ln c1) ln (out.map (Value.int .i64)) rfl HOWN.out (.slice (some ⟨w5.heap.size, 0, none⟩) 1 1) 1 [.int .i64 (k : Int)] rfl HLIT.out (oneCell_ints [(k : Int)]) ?d2 ?d3 HBASE.out ?_)
                case d2 => have := HLO.out; unfold maxLen; omega
                case d3 => have := HLO.out; omega
                intro v' w6 own6 hg6 _
                have G6 := Lib.hid (show Gst w S C Q X (k + 1) v' (out ++ [(k : Int)]) P V d w6 from
                  ⟨(hG2.out.cs.below HB8.out).far HOWN.out hg6, (hG2.out.arr.kc (Kc.of_below HB8.out)).far HOWN.out hg6, by rw [List.length_append, HLN.out, List.map_append]; exact own6, gvn_done hG2.out.gvn, fun j hj => Nat.le_succ_of_le (hG2.out.len j hj)⟩)
                clear own6 hg6
                go_wp2_with fail
                go_roundw
                case rel => exact ⟨k + 1, _, _, _, _, by omega, by go_num, G6⟩
                case measure => simp [intOf]; omega
              · have hd0 : d r1 = false := by simpa using hd
                have hgive := give_open (Q r1) (C r1) (S r1) (V r1) w.heap.size (P r1) (k : Int) wc (hG2.out.cs.cu r1 HR1.out) (by
                  have := hG2.out.cs.gs.stk r1 HR1.out
                  rw [hd0] at this
                  exact this) (hG2.out.cs.gs.row r1 HR1.out) (by have := hG2.out.len r1 HR1.out; omega) hG2.out.cs.bel.size
                have HGIVE := Lib.hid hgive
                have HD0 := Lib.hid hd0
                clear hgive hd hd0
                go_wp2_with fail
                refine HGIVE.out.mono ?_
                rintro e w5 ⟨rfl, v', e1, e2, e3, e4⟩
                have hkq := Kq.of_grow hG2.out.cs HR1.out e3
                have G6 := Lib.hid (show Gst w S C Q X (k + 1) (.slice b1 ln c1) out (upd P r1 (P r1 ++ [((k : Int), none)])) (upd V r1 v') d w5 from
                  ⟨hG2.out.cs.grow HR1.out (fun _ _ h => by simp at h) HD0.out e1 e2 e3 e4, hkq.arr hG2.out.arr, by rw [← HLN.out]; exact hkq.own3 hG2.out.own, gvn_give hG2.out.gvn HR1.out HD0.out, fun j hj => by
                    by_cases e : j = r1
                    · subst e
                      rw [upd_self, List.length_append]
                      have := hG2.out.len j hj
                      simp only [List.length_cons, List.length_nil]
                      omega
                    · rw [upd_ne _ _ e]
                      exact Nat.le_succ_of_le (hG2.out.len j hj)⟩)
                clear e1 e2 e3 e4 hkq e75 gr2 hr1 HGIVE
                go_wp2_with fail
                go_roundw
                case rel => exact ⟨k + 1, _, _, _, _, by omega, by go_num, G6⟩
                case measure => simp [intOf]; omega
        · obtain rfl : n = k := by omega
          have hlk : ¬ (n : Int) < (n : Int) := by omega
          obtain ⟨b1, c1, rfl⟩ := own_form hG.out.own
          have e0 := hG.out.arr.at (show 0 < 5 by omega)
          have hdisp := dispose_calls w.heap.size 5 S C P V 5 d wr 0 (Q 0) (tot_le _ _) hG.out.cs.gs.ds (by omega) (hG.out.cs.cu 0 (by omega)) (Nat.le_trans (tot_bound (b := n + 1) fun j hj => hG.out.len j hj) (by omega))
          obtain ⟨i0, hif, hz0, hz1, hz2⟩ := info_parts cinfo3
          obtain ⟨ln, hln⟩ : ∃ ln, out.length = ln := ⟨_, rfl⟩
          rw [hln]
          have HLN := Lib.hid hln
          have HDISP := Lib.hid hdisp
          clear hln hdisp
          go_wp2_with fail
          refine HDISP.out.mono ?_
          rintro e w5 ⟨v, rfl, hown5, haft⟩
          obtain ⟨r, hr⟩ : ∃ r, disS P 5 d 0 = r := ⟨_, rfl⟩
          have hgv := gvn_dispose (j := 0) hG.out.gvn (by omega)
          rw [hr] at hown5 haft hgv
          obtain ⟨va, vc, rfl⟩ := own_form hown5
          have hkq := Kq.of_aft hG.out.cs haft
          have hcs5 := hG.out.cs.disposed haft
          have harr5 := hkq.arr hG.out.arr
          have hown : w5.ownsRow w.heap.size 3 1 (.slice b1 ln c1) ln (out.map (Value.int .i64)) := by
            have := hkq.own3 hG.out.own
            rw [HLN.out] at this
            exact this
          have hl2 : ln + r.2.length ≤ n := by
            have := gvn_len hgv.1
            rw [List.length_append, HLN.out] at this
            exact this
          have hlit := SlV.of_owns hown5
          have hbase := hcs5.bel.size
          have HCS5 := Lib.hid hcs5
          have HARR5 := Lib.hid harr5
          have HOWN := Lib.hid hown
          have HLIT := Lib.hid hlit
          have HGV := Lib.hid hgv.1
          have HD0 := Lib.hid (show r.1 0 = true by rw [hgv.2 0 (by omega)]; simp)
          have HBASE := Lib.hid hbase
          have HL2 := Lib.hid hl2
          clear hr hgv hown5 haft hkq hcs5 harr5 hown hlit hbase hl2 e0 HDISP G0
          go_wp2_with (at_builtin; refine wpList_append_at rfl (.tmp 88) (.tmp 91) 58 rfl w.heap.size 3 i0 (.int .i64 0) 1 8 Try.underlying58 hif hz0 hz1 hz2 rfl (by decide) (.slice b1 ln c1) ln (out.map (Value.int .i64)) rfl HOWN.out (.slice va r.2.length vc) r.2.length (r.2.map (Value.int .i64)) rfl HLIT.out (oneCell_ints _) ?d2 ?d3 HBASE.out ?_)
          case d2 => have := HL2.out; unfold maxLen; omega
          case d3 => have := HL2.out; omega
          intro v' w6 own6 hg6 _
          obtain ⟨hperm, hall⟩ := gvn_all HGV.out HD0.out
          obtain ⟨o2, ho2⟩ : ∃ o2, out ++ r.2 = o2 := ⟨_, rfl⟩
          have hlen2 : ln + r.2.length = n := by
            have := hperm.length_eq
            rw [List.length_append, HLN.out, List.length_map, List.length_range] at this
            exact this
          rw [← List.map_append, hlen2, ho2] at own6
          rw [ho2] at hperm
          have hol : o2.length = n := by rw [hperm.length_eq, List.length_map, List.length_range]
          obtain ⟨b2, c2, rfl⟩ := own_form own6
          have hcs6 := HCS5.out.far HOWN.out hg6
          have harr6 := HARR5.out.far HOWN.out hg6
          obtain ⟨V2, hV2⟩ : ∃ V2 : Nat → Value, (fun i => if d i = false ∧ r.1 i = true then nilV else V i) = V2 := ⟨_, rfl⟩
          obtain ⟨P2, hP2⟩ : ∃ P2 : Nat → List Part, (fun i => if d i = false ∧ r.1 i = true then [] else P i) = P2 := ⟨_, rfl⟩
          rw [hV2, hP2] at hcs6
          have hdd := dispose_done (Q 0) (C 0) (S 0) (V2 0) w6 (hcs6.cu 0 (by omega)) (by
            have := hcs6.gs.stk 0 (by omega)
            rw [hall 0 (by omega)] at this
            exact this)
          unfold nilV at hdd
          have e0 := harr6.at (show 0 < 5 by omega)
          have hsort := sort53_calls (.slice b2 n c2) o2 w.heap.size w6 (by rw [hol]; exact own6) (by omega) hcs6.bel.size
          rw [hol, sort_range hperm] at hsort
          have HSORT := Lib.hid hsort
          have HDD := Lib.hid hdd
          have HOWN6 := Lib.hid own6
          have HCS6 := Lib.hid hcs6
          have HARR6 := Lib.hid harr6
          have HALL := Lib.hid hall
          clear hG HGV HD0 HOWN HLIT HBASE HL2 HCS5 HARR5 own6 hg6 hperm hall ho2 hlen2 hol hcs6 harr6 hV2 hP2 hdd hsort
          go_wp2_with fail
          refine HDD.out.mono ?_
          rintro e w7 ⟨rfl, rfl⟩
          clear HDD e0
          go_wp2_with fail
          refine HSORT.out.mono ?_
          rintro e w8 ⟨rfl, own8, hg8, -⟩
          have hcs8 := HCS6.out.far HOWN6.out hg8
          have harr8 := HARR6.out.far HOWN6.out hg8
          have HOWN8 := Lib.hid own8
          have HCS8 := Lib.hid hcs8
          have HARR8 := Lib.hid harr8
          clear own8 hg8 hcs8 harr8 HSORT HOWN6 HCS6 HARR6
          go_wp2_with fail
          go_loopw [109] (fun iv wr2 => ∃ j : Nat, j ≤ n ∧ iv = .int .i64 (j : Int) ∧ Below w8.heap.size w8 wr2) (fun iv _ => n - (intOf iv).toNat)
          case atStart => exact ⟨0, Nat.zero_le _, rfl, Below.refl _ _⟩
          case round =>
            obtain ⟨j, hj, rfl, hb⟩ := hrel
            have HB := Lib.hid hb
            clear hb
            by_cases hjl : j < n
            · obtain ⟨g2, o3, c3, hf2, hc2⟩ := cellg_of (q := .i64) (SlV.of_owns HOWN8.out) (by simp) (k := j) (y := (j : Int)) (by simp [hjl])
              simp only [Value.slice.injEq] at hf2
              obtain ⟨rfl, -, rfl⟩ := hf2
              replace hc2 := HB.out.at_cell hc2
              have hjl' : (j : Int) < (n : Int) := by omega
              go_wp2_with fail
              go_roundw
              case rel => exact ⟨j + 1, by omega, by go_num, HB.out⟩
              case measure => simp [intOf]; omega
            · obtain rfl : n = j := by omega
              have hjl' : ¬ (n : Int) < (n : Int) := by omega
              have hcs9 := HCS8.out.below HB.out
              have e4 := (HARR8.out.kc (Kc.of_below HB.out)).at (show 4 < 5 by omega)
              have hgive := give_done (Q 4) (C 4) (S 4) (V2 4) 7 _ (hcs9.cu 4 (by omega)) (by
                have := hcs9.gs.stk 4 (by omega)
                rw [HALL.out 4 (by omega)] at this
                exact this)
              have HBEL := Lib.hid hcs9.bel
              have HGIVE := Lib.hid hgive
              clear hgive hcs9
              go_wp2_with fail
              refine HGIVE.out.mono ?_
              rintro e w9 ⟨rfl, rfl⟩
              clear e4 HGIVE
              go_wp2_with fail
              refine (awake_calls _).mono ?_
              rintro e w10 ⟨rfl, hb10⟩
              go_wp2_with fail
              go_ret
              exact ⟨rfl, HBEL.out.then hb10⟩
end Go.Proofs.Ytddajaikighjlaa
