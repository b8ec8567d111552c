/- The law TimerPromises: its walk. -/
import Derived.Test.YtddajaikighjlaaJr
import Derived.Test.YtddajaikighjlaaAw
import Derived.Deep.RegionHeld3
namespace Go.Proofs.Ytddajaikighjlaa
open Go.RowKit Go.Sl Go.Mp

theorem info60 : (Try.prog.info? 60).map (fun i => (i.zero, i.size, i.bytes)) = some (some (.agg #[.int .i64 0, .int .i64 0, .slice none 0 0]), 3, 40) := by kernel_rfl
theorem row_next {B : Nat} {w w' : World} (hb : Below B w w') {b : Nat} {o : Obj} (h : w.heap[b]? = some o) (hl : b < B) : w'.heap[b]? = some o := (hb.block b hl).trans h
theorem own_grown {W w5 : World} {base base2 k n : Nat} {v v2 : Value} {xs ys : List Value} (hown : W.ownsRow base 60 3 v k xs) (hg : W.grownBy w5 v.ownBlock) (h : W.ownsRow base2 3 1 v2 n ys) : w5.ownsRow base2 3 1 v2 n ys :=
  own_same h fun g hg2 => hg.block g (h.lt g hg2).2 fun e => by
    obtain ⟨c1, h1, -⟩ := own_cells h hg2
    obtain ⟨c2, h2, -⟩ := own_cells hown e.symm
    rw [h1] at h2
    simp only [Option.some.injEq, Obj.cells.injEq] at h2
    exact absurd h2.2.1 (by decide)
theorem own_below {w w' : World} {B base sz n : Nat} {t : TypeId} {v : Value} {xs : List Value} (h : w.ownsRow base t sz v n xs) (hb : Below B w w') (hB : w.heap.size ≤ B) : w'.ownsRow base t sz v n xs :=
  own_same h fun g hg => hb.block g (Nat.lt_of_lt_of_le (h.lt g hg).2 hB)
theorem await_len (p : Pr) (who : Int) : (awaitS p who).1.wt.length ≤ p.wt.length + 1 := by
  unfold awaitS pr0
  (repeat' split) <;> simp
theorem await_tlen (p : Pr) (who : Int) : (awaitS p who).2.1.length ≤ 1 := by
  unfold awaitS
  (repeat' split) <;> simp
theorem decide_len (p : Pr) (f : Bool) (x : Int) : (decideS p f x).1.wt.length ≤ p.wt.length := by
  unfold decideS pr0
  (repeat' split) <;> simp
theorem decide_tlen (p : Pr) (f : Bool) (x : Int) : (decideS p f x).2.1.length ≤ p.wt.length := by
  unfold decideS
  (repeat' split) <;> simp
theorem encA_snoc {ls : List (Pr × Value)} {p : Pr} {v : Value} : (ls ++ [(p, v)]).flatMap encA = ls.flatMap encA ++ [.int .i64 p.ph, .int .i64 p.val, v] := by
  rw [List.flatMap_append]
  simp [encA]

set_option maxRecDepth 100000 in
set_option maxHeartbeats 16000000 in
theorem promises_calls (v : Value) (l : List Pr) (who x : Int) (f : Bool) (w : World) (h : RowP w v l) : Calls Try.prog 6 #[v, .int .i64 who, .int .i64 x, .bool f] w fun e w' => e = .returned (.bool true) ∧ Below w.heap.size w w' := by
  obtain ⟨a, c, rfl, hc⟩ := h
  have HC := Lib.hid hc
  obtain ⟨n, hn2⟩ : ∃ n, l.length = n := ⟨_, rfl⟩
  rw [hn2]
  have HN := Lib.hid hn2
  have HV := Lib.hid (show RowP w (.slice a n c) l from ⟨a, c, by rw [hn2], hc⟩)
  clear hn2 hc
  by_cases hA : 20 < (n : Int)
  · go_enter Try.func6, Try.ntmps6
    go_wp2_with fail
    refine (awake_calls _).mono ?_
    rintro e w' ⟨rfl, hb⟩
    go_wp2_with fail
    go_ret
    exact ⟨rfl, hb⟩
  have hcf25 := cf25
  have hcf28 := cf28
  go_enter Try.func6, Try.ntmps6
  go_wp2_with fail
  go_loopw [37, 11] (fun i va wr => ∃ (kk : Nat) (ls : List (Pr × Value)), kk ≤ n ∧ i = .int .i64 (kk : Int) ∧ ls.map (·.1) = l.take kk ∧ wr.ownsRow w.heap.size 60 3 va kk (ls.flatMap encA) ∧ (∀ e ∈ ls, wr.ownsRow w.heap.size 3 1 e.2 e.1.wt.length (e.1.wt.map (Value.int .i64))) ∧ Below w.heap.size w wr) (fun i _ _ => n - (intOf i).toNat)
  case atStart => exact ⟨0, [], Nat.zero_le _, rfl, rfl, own_none _ _ _ _, (fun e he => by simp at he), Below.refl _ _⟩
  case round =>
    obtain ⟨kk, ls, hk, rfl, hls, hown, hsl, hbel⟩ := hrel
    obtain ⟨aa, ac, rfl⟩ := own_form hown
    have HLS := Lib.hid hls
    have HOW := Lib.hid hown
    have HSL := Lib.hid hsl
    have HB := Lib.hid hbel
    clear hls hown hsl
    by_cases hlt : kk < n
    · obtain ⟨p, hp⟩ : ∃ p, l[kk]? = some p := ⟨_, List.getElem?_eq_getElem (by have := HN.out; omega)⟩
      obtain ⟨g, o, sv, rfl, x0, x1, x2, hs⟩ := HC.out kk p hp
      have HP := Lib.hid hp
      replace x0 := hbel.at_cell x0
      replace x1 := hbel.at_cell x1
      replace x2 := hbel.at_cell x2
      have HS00 := Lib.hid hs
      replace hs := hs.below hbel
      have gl := World.block_lt_of_cell? wr _ x0
      have gn : ¬ g = wr.heap.size := Nat.ne_of_lt gl
      have hlt' : (kk : Int) < (n : Int) := by omega
      obtain ⟨ca, cc, rfl⟩ := hs.form
      obtain ⟨ph, val, wt⟩ := p
      have hs0 := HS00.out
      simp only at x0 x1 x2 hs hs0
      obtain ⟨m, hm⟩ : ∃ m, wt.length = m := ⟨_, rfl⟩
      have HM := Lib.hid hm
      rw [hm] at x2 hs hs0
      have HS0 := Lib.hid hs0
      obtain ⟨wA, hwA⟩ : ∃ wA, wr.alloc (.cells #[.int .i64 ph, .int .i64 val, .slice ca m cc] 75) = wA := ⟨_, rfl⟩
      have hbA : Below wr.heap.size wr wA := by rw [← hwA]; exact (Below.refl _ _).alloc (Nat.le_refl _) _
      have g13 : wA.heap[wr.heap.size]? = some (.cells #[.int .i64 ph, .int .i64 val, .slice ca m cc] 75 (0, 0)) := by rw [← hwA]; exact heap_alloc_new _ _
      have zA : wA.heap.size = wr.heap.size + 1 := by rw [← hwA]; simp
      obtain ⟨y0, y1, y2, -⟩ := row3 g13
      have HBA := Lib.hid hbA
      have G13 := Lib.hid g13
      have ZA := Lib.hid zA
      have HS := Lib.hid hs
      clear hp hbel hs hbA g13 zA hm hs0 HS00
      by_cases h30 : 30 < (m : Int)
      · go_wp2_with fail
        refine (awake_calls _).mono ?_
        rintro e w' ⟨rfl, hb⟩
        go_wp2_with fail
        go_ret
        exact ⟨rfl, (HB.out.then HBA.out).then hb⟩
      go_wp2_with fail
      have HCL := Lib.hid (fun (w2 : World) (hb : Below wA.heap.size wA w2) => (by have h := cloneI_calls (.slice ca m cc) wt w2 ((HS.out.below HBA.out).below hb) (by have := HM.out; omega); rw [HM.out] at h; exact h : Calls Try.prog 30 #[.slice ca m cc] w2 fun e w' => ∃ v', e = .returned v' ∧ w'.ownsRow w2.heap.size 3 1 v' m (wt.map (Value.int .i64)) ∧ Below w2.heap.size w2 w'))
      have HBD := Lib.hid (below_drew wA.heap.size wA)
      have HBE := Lib.hid (((Below.refl wA.heap.size wA).alloc (Nat.le_refl _) (.cells #[.int .i64 0, .int .i64 0, .slice none 0 0] 60)).trans (below_drew _ _))
      have nA1 : ¬ wA.heap.size = wr.heap.size := by have := ZA.out; omega
      have nA2 : ¬ wr.heap.size = wA.heap.size := by have := ZA.out; omega
      go_region_held3 (fun w' => w'.cell? ⟨wr.heap.size, 0, none⟩ = some (.int .i64 ph) ∧ w'.cell? ⟨wr.heap.size, 1, none⟩ = some (.int .i64 val) ∧ w'.cell? ⟨wr.heap.size, 2, none⟩ = some (.slice ca m cc)) (go_keep) (first
        | (go_at_call 30; refine (HCL.out _ HBD.out).mono ?_; rintro e w3 ⟨v', rfl, ho, hb3⟩; have hbb := HBD.out.trans (hb3.mono HBD.out.size); obtain ⟨av, cv, rfl⟩ := own_form ho; have z1 := row_next hbb G13.out (Nat.lt_of_lt_of_eq (Nat.lt_succ_self _) ZA.out.symm); obtain ⟨y0, y1, y2, -⟩ := row3 z1; have Z3 := Lib.hid z1; have q1 : wr.heap.size < w3.heap.size := World.block_lt_of_cell? w3 ⟨wr.heap.size, 0, none⟩ y0; have q2 : ¬ wr.heap.size = w3.heap.size := Nat.ne_of_lt q1; have q3 : ¬ w3.heap.size = wr.heap.size := Nat.ne_of_gt q1; have HA1 := Lib.hid (And.intro (own_le ho HBD.out.size) hbb); clear ho hb3 hbb z1)
        | (go_at_call 30; refine (HCL.out _ HBE.out).mono ?_; rintro e w3 ⟨v', rfl, ho, hb3⟩; have hbb := HBE.out.trans (hb3.mono HBE.out.size); have hs := (hb3.block wA.heap.size (by simp)).trans (heap_alloc_new wA (.cells #[.int .i64 0, .int .i64 0, .slice none 0 0] 60)); have HS2 := Lib.hid hs; obtain ⟨av, cv, rfl⟩ := own_form ho; obtain ⟨k0, k1, k2, kf⟩ := row3 hs; have z1 := row_next hbb G13.out (Nat.lt_of_lt_of_eq (Nat.lt_succ_self _) ZA.out.symm); obtain ⟨y0, y1, y2, -⟩ := row3 z1; have Z3 := Lib.hid z1; have q1 : wr.heap.size < w3.heap.size := World.block_lt_of_cell? w3 ⟨wr.heap.size, 0, none⟩ y0; have q2 : ¬ wr.heap.size = w3.heap.size := Nat.ne_of_lt q1; have q3 : ¬ w3.heap.size = wr.heap.size := Nat.ne_of_gt q1; have HA2 := Lib.hid (And.intro (own_le ho HBE.out.size) hbb); clear ho hb3 hbb z1 hs))
      · have hx := HA1.out
        obtain ⟨wB, hwB⟩ : ∃ wB, w3.alloc (.cells #[.int .i64 ph, .int .i64 val, .slice av m cv] 60) = wB := ⟨_, rfl⟩
        obtain ⟨b14, hb14⟩ : ∃ b14, w3.heap.size = b14 := ⟨_, rfl⟩
        have hbB : Below w3.heap.size w3 wB := by rw [← hwB]; exact (Below.refl _ _).alloc (Nat.le_refl _) _
        have RB13 := Lib.hid (row_nx hbB Z3.out)
        have RB14 := Lib.hid (show wB.heap[b14]? = some (.cells #[.int .i64 ph, .int .i64 val, .slice av m cv] 60 (0, 0)) by rw [← hwB, ← hb14]; exact heap_alloc_new _ _)
        have OB14 := Lib.hid (own_le (own_below hx.1 hbB (Nat.le_refl _)) (Nat.le_trans HB.out.size HBA.out.size))
        have HBAB := Lib.hid (hx.2.then hbB)
        have NB := Lib.hid (show wr.heap.size ≤ b14 by omega)
        rw [hwB, hb14]
        clear hwB hb14 hbB
        have BB := Lib.hid ((HB.out.then HBA.out).then HBAB.out)
        have OBA := Lib.hid (own_below (own_below HOW.out HBA.out (Nat.le_refl _)) HBAB.out (Nat.le_refl _))
        have OBL := Lib.hid (fun (e : Pr × Value) (he : e ∈ ls) => own_below (own_below (HSL.out e he) HBA.out (Nat.le_refl _)) HBAB.out (Nat.le_refl _))
        clear y0 y1 y2 q1 q2 q3 hx
        obtain ⟨r0, r1, r2, -⟩ := row3 RB14.out
        obtain ⟨W, hW⟩ : ∃ W, wB.alloc (.cells #[.int .i64 ph, .int .i64 val, .slice av m cv] 60) = W := ⟨_, rfl⟩
        have k0 : ∀ k, k < wB.heap.size → W.heap[k]? = wB.heap[k]? := fun k hk => by rw [← hW, heap_alloc_old _ _ hk]
        have zW : W.heap.size = wB.heap.size + 1 := by rw [← hW]; simp
        have hown1 : W.ownsRow w.heap.size 60 3 (.slice aa kk ac) kk (ls.flatMap encA) := own_same OBA.out fun g hg => k0 g (OBA.out.lt g hg).2
        have hcl := cells_three wB (.int .i64 ph) (.int .i64 val) (.slice av m cv) 60
        rw [hW] at hcl
        obtain ⟨i0, hif, hz0, hz1, hz2⟩ := info_parts info60
        have hbW : Below w.heap.size w W := by rw [← hW]; exact BB.out.alloc BB.out.size _
        have HBW := Lib.hid hbW
        have K0 := Lib.hid k0
        have ZW := Lib.hid zW
        clear hbW k0 zW
        go_wp2_with (at_builtin; refine wpList_append_own _ rfl (.tmp 54) (.tmp 56) 78 rfl w.heap.size 60 i0 (.agg #[.int .i64 0, .int .i64 0, .slice none 0 0]) 3 40 Try.underlying78 hif hz0 hz1 hz2 rfl (by decide) _ _ _ rfl hown1 ⟨wB.heap.size, 0, none⟩ 1 1 [.int .i64 ph, .int .i64 val, .slice av m cv] rfl rfl hcl ?d2 ?d3 ?d4 ?d5 ?_)
        case d2 =>
          intro u hu
          simp only [List.mem_cons, List.not_mem_nil, or_false] at hu
          rcases hu with rfl | rfl | rfl <;> rfl
        case d3 => unfold maxLen; omega
        case d4 => omega
        case d5 => exact HBW.out.size
        intro vx w5 hown2 hgrow _
        obtain ⟨aa2, ac2, rfl⟩ := own_form hown2
        have hb5 : Below w.heap.size w w5 := HBW.out.grown hgrow HBW.out.size fun k hk => (hown1.lt k hk).1
        have kw : ∀ k, wr.heap.size ≤ k → k < wB.heap.size → w5.heap[k]? = wB.heap[k]? := fun k h1 h2 => (hgrow.block k (by have := ZW.out; omega) (fun e => by have := (HOW.out.lt k e.symm).2; omega)).trans (K0.out k h2)
        have h13 := (kw wr.heap.size (Nat.le_refl _) (Array.getElem?_eq_some_iff.1 RB13.out).1).trans RB13.out
        have h14 := (kw b14 NB.out (Array.getElem?_eq_some_iff.1 RB14.out).1).trans RB14.out
        have R13 := Lib.hid h13
        have R14 := Lib.hid h14
        have O14 := Lib.hid (own_grown hown1 hgrow (own_same OB14.out fun g hg => K0.out g (OB14.out.lt g hg).2))
        have OL := Lib.hid (fun (e : Pr × Value) (he : e ∈ ls) => own_grown hown1 hgrow (own_same (OBL.out e he) fun g hg => K0.out g ((OBL.out e he).lt g hg).2))
        have O5 := Lib.hid hown2
        have B5 := Lib.hid hb5
        have B5r := Lib.hid (Below.refl w5.heap.size w5)
        clear hown1 hown2 hgrow hcl hif hz0 hz1 hz2 hb5 kw r0 r1 r2 hW h13 h14
        obtain ⟨⟨⟨pa, va, wa⟩, ta, ea⟩, hA⟩ : ∃ A, awaitS ⟨ph, val, wt⟩ who = A := ⟨_, rfl⟩
        obtain ⟨⟨⟨pd, vd, wd⟩, td, ed⟩, hD⟩ : ∃ A, decideS ⟨ph, val, wt⟩ f x = A := ⟨_, rfl⟩
        have HLA := Lib.hid hA
        have HLD := Lib.hid hD
        clear hA hD
        obtain ⟨r0, r1, r2, -⟩ := row3 (row_next B5r.out R14.out (Array.getElem?_eq_some_iff.1 R14.out).1)
        have hcall := await_calls ⟨ph, val, wt⟩ (.slice av m cv) who w5 (SlI.of_owns (own_below O14.out B5r.out (Nat.le_refl _)))
        rw [HLA.out] at hcall
        unfold prV at hcall
        simp only at hcall
        go_wp2_with fail
        refine hcall.mono ?_
        rintro e w6 ⟨v5, s5, rfl, ho, hs, hb⟩
        clear hcall
        obtain ⟨a5, c5, rfl⟩ := own_form ho
        obtain ⟨sa5, sc5, rfl⟩ := own_form hs
        have hi := SlI.of_owns ho
        have ht : SlT w6 _ ta := SlV.of_owns hs
        obtain ⟨w7, hw7⟩ : ∃ w7, w6.alloc (.cells #[.int .i64 pa, .int .i64 va, .slice a5 wa.length c5] 60) = w7 := ⟨_, rfl⟩
        have hbx : Below w6.heap.size w6 w7 := by rw [← hw7]; exact (Below.refl _ _).alloc (Nat.le_refl _) _
        have S5 := Lib.hid (hi.below hbx)
        have T5 := Lib.hid (SlV.below ht hbx)
        have Q5 := Lib.hid (show w7.heap[w6.heap.size]? = some (.cells #[.int .i64 pa, .int .i64 va, .slice a5 wa.length c5] 60 (0, 0)) by rw [← hw7]; exact heap_alloc_new _ _)
        have B5_7 := Lib.hid ((B5r.out.then hb).then hbx)
        have L5 := Lib.hid (hb.trans (hbx.mono hb.size))
        clear ho hs hb hi ht hbx r0 r1 r2
        obtain ⟨r0, r1, r2, -⟩ := row3 (row_next B5_7.out R13.out (Array.getElem?_eq_some_iff.1 R13.out).1)
        have hcall := rawait_calls ⟨ph, val, wt⟩ (.slice ca m cc) who w7 ((HS0.out.below B5.out).below B5_7.out)
        rw [HLA.out] at hcall
        unfold prV at hcall
        simp only at hcall
        go_wp2_with fail
        refine hcall.mono ?_
        rintro e w8 ⟨v7, s7, rfl, ho, hs, hb⟩
        clear hcall
        obtain ⟨a7, c7, rfl⟩ := SlI.form ho
        obtain ⟨sa7, sc7, rfl⟩ := SlV.form hs
        have hi := ho
        have ht : SlT w8 _ ta := hs
        obtain ⟨w9, hw9⟩ : ∃ w9, w8.alloc (.cells #[.int .i64 pa, .int .i64 va, .slice a7 wa.length c7] 75) = w9 := ⟨_, rfl⟩
        have hbx : Below w8.heap.size w8 w9 := by rw [← hw9]; exact (Below.refl _ _).alloc (Nat.le_refl _) _
        have S7 := Lib.hid (hi.below hbx)
        have T7 := Lib.hid (SlV.below ht hbx)
        have Q7 := Lib.hid (show w9.heap[w8.heap.size]? = some (.cells #[.int .i64 pa, .int .i64 va, .slice a7 wa.length c7] 75 (0, 0)) by rw [← hw9]; exact heap_alloc_new _ _)
        have B5_9 := Lib.hid ((B5_7.out.then hb).then hbx)
        have L7 := Lib.hid (hb.trans (hbx.mono hb.size))
        clear ho hs hb hi ht hbx r0 r1 r2
        obtain ⟨r0, r1, r2, -⟩ := row3 (row_next B5_9.out R14.out (Array.getElem?_eq_some_iff.1 R14.out).1)
        have hcall := decide_calls ⟨ph, val, wt⟩ (.slice av m cv) f x w9 (SlI.of_owns (own_below O14.out B5_9.out (Nat.le_refl _))) (by have := HM.out; simp only; omega)
        rw [HLD.out] at hcall
        unfold prV at hcall
        simp only at hcall
        go_wp2_with fail
        refine hcall.mono ?_
        rintro e w10 ⟨v9, s9, rfl, ho, hs, hb⟩
        clear hcall
        obtain ⟨a9, c9, rfl⟩ := own_form ho
        obtain ⟨sa9, sc9, rfl⟩ := own_form hs
        have hi := SlI.of_owns ho
        have ht : SlT w10 _ td := SlV.of_owns hs
        obtain ⟨w11, hw11⟩ : ∃ w11, w10.alloc (.cells #[.int .i64 pd, .int .i64 vd, .slice a9 wd.length c9] 60) = w11 := ⟨_, rfl⟩
        have hbx : Below w10.heap.size w10 w11 := by rw [← hw11]; exact (Below.refl _ _).alloc (Nat.le_refl _) _
        have S9 := Lib.hid (hi.below hbx)
        have T9 := Lib.hid (SlV.below ht hbx)
        have Q9 := Lib.hid (show w11.heap[w10.heap.size]? = some (.cells #[.int .i64 pd, .int .i64 vd, .slice a9 wd.length c9] 60 (0, 0)) by rw [← hw11]; exact heap_alloc_new _ _)
        have B5_11 := Lib.hid ((B5_9.out.then hb).then hbx)
        have L9 := Lib.hid (hb.trans (hbx.mono hb.size))
        clear ho hs hb hi ht hbx r0 r1 r2
        obtain ⟨r0, r1, r2, -⟩ := row3 (row_next B5_11.out R13.out (Array.getElem?_eq_some_iff.1 R13.out).1)
        have hcall := rdecide_calls ⟨ph, val, wt⟩ (.slice ca m cc) f x w11 ((HS0.out.below B5.out).below B5_11.out) (by have := HM.out; simp only; omega)
        rw [HLD.out] at hcall
        unfold prV at hcall
        simp only at hcall
        go_wp2_with fail
        refine hcall.mono ?_
        rintro e w12 ⟨v11, s11, rfl, ho, hs, hb⟩
        clear hcall
        obtain ⟨a11, c11, rfl⟩ := SlI.form ho
        obtain ⟨sa11, sc11, rfl⟩ := SlV.form hs
        have hi := ho
        have ht : SlT w12 _ td := hs
        obtain ⟨w13, hw13⟩ : ∃ w13, w12.alloc (.cells #[.int .i64 pd, .int .i64 vd, .slice a11 wd.length c11] 75) = w13 := ⟨_, rfl⟩
        have hbx : Below w12.heap.size w12 w13 := by rw [← hw13]; exact (Below.refl _ _).alloc (Nat.le_refl _) _
        have S11 := Lib.hid (hi.below hbx)
        have T11 := Lib.hid (SlV.below ht hbx)
        have Q11 := Lib.hid (show w13.heap[w12.heap.size]? = some (.cells #[.int .i64 pd, .int .i64 vd, .slice a11 wd.length c11] 75 (0, 0)) by rw [← hw13]; exact heap_alloc_new _ _)
        have B5_13 := Lib.hid ((B5_11.out.then hb).then hbx)
        have L11 := Lib.hid (hb.trans (hbx.mono hb.size))
        clear ho hs hb hi ht hbx r0 r1 r2
        have B11_13 := Lib.hid (L11.out)
        have B9_13 := Lib.hid (L9.out.then L11.out)
        have B7_13 := Lib.hid ((L7.out.then L9.out).then L11.out)
        have B13_13 := Lib.hid (Below.refl w13.heap.size w13)
        have P14 := Lib.hid (row_nx B5_13.out R14.out)
        have P13 := Lib.hid (row_nx B5_13.out R13.out)
        have P15 := Lib.hid (row_nx B7_13.out Q5.out)
        have P18 := Lib.hid (row_nx B9_13.out Q7.out)
        have P21 := Lib.hid (row_nx B11_13.out Q9.out)
        have P24 := Lib.hid (row_nx B13_13.out Q11.out)
        have S15 := Lib.hid (S5.out.below B7_13.out)
        have S18 := Lib.hid (S7.out.below B9_13.out)
        have S21 := Lib.hid (S9.out.below B11_13.out)
        have S24 := Lib.hid (S11.out.below B13_13.out)
        have T16 := Lib.hid (SlV.below T5.out B7_13.out)
        have T19 := Lib.hid (SlV.below T7.out B9_13.out)
        have T22 := Lib.hid (SlV.below T9.out B11_13.out)
        have T25 := Lib.hid (SlV.below T11.out B13_13.out)
        have S14 := Lib.hid (SlI.of_owns (own_below O14.out B5_13.out (Nat.le_refl _)))
        have S13 := Lib.hid ((HS0.out.below B5.out).below B5_13.out)
        have hla : wa.length ≤ 1000000 := by
          have := await_len ⟨ph, val, wt⟩ who
          rw [HLA.out] at this
          have h2 := HM.out
          simp only at this
          omega
        have hlta : ta.length ≤ 1000000000000 := by
          have := await_tlen ⟨ph, val, wt⟩ who
          rw [HLA.out] at this
          have h2 := HM.out
          simp only at this
          omega
        have hld : wd.length ≤ 1000000 := by
          have := decide_len ⟨ph, val, wt⟩ f x
          rw [HLD.out] at this
          have h2 := HM.out
          simp only at this
          omega
        have hltd : td.length ≤ 1000000000000 := by
          have := decide_tlen ⟨ph, val, wt⟩ f x
          rw [HLD.out] at this
          have h2 := HM.out
          simp only at this
          omega
        have HLa := Lib.hid hla
        have HLta := Lib.hid hlta
        have HLd := Lib.hid hld
        have HLtd := Lib.hid hltd
        clear hla hlta hld hltd
        have hcall := f28_calls ⟨pa, va, wa⟩ (.slice a5 wa.length c5) (.slice a7 wa.length c7) w13 (S15.out.below B13_13.out) (S18.out.below B13_13.out) HLa.out
        unfold prV at hcall
        simp only at hcall
        obtain ⟨r0, r1, r2, -⟩ := row3 (row_nx B13_13.out P15.out)
        obtain ⟨u0, u1, u2, -⟩ := row3 (row_nx B13_13.out P18.out)
        go_wp2_with fail
        refine hcall.mono ?_
        rintro e w14 ⟨rfl, hb⟩
        have B13_14 := Lib.hid (B13_13.out.then hb)
        clear hcall hb
        clear r0 r1 r2 u0 u1 u2
        have hcall := f25_calls (.slice sa5 ta.length sc5) (.slice sa7 ta.length sc7) ta w14 (SlV.below T16.out B13_14.out) (SlV.below T19.out B13_14.out) HLta.out
        go_wp2_with fail
        refine hcall.mono ?_
        rintro e w15 ⟨rfl, hb⟩
        have B13_15 := Lib.hid (B13_14.out.then hb)
        clear hcall hb
        have hcall := f28_calls ⟨pd, vd, wd⟩ (.slice a9 wd.length c9) (.slice a11 wd.length c11) w15 (S21.out.below B13_15.out) (S24.out.below B13_15.out) HLd.out
        unfold prV at hcall
        simp only at hcall
        obtain ⟨r0, r1, r2, -⟩ := row3 (row_nx B13_15.out P21.out)
        obtain ⟨u0, u1, u2, -⟩ := row3 (row_nx B13_15.out P24.out)
        go_wp2_with fail
        refine hcall.mono ?_
        rintro e w16 ⟨rfl, hb⟩
        have B13_16 := Lib.hid (B13_15.out.then hb)
        clear hcall hb
        clear r0 r1 r2 u0 u1 u2
        have hcall := f25_calls (.slice sa9 td.length sc9) (.slice sa11 td.length sc11) td w16 (SlV.below T22.out B13_16.out) (SlV.below T25.out B13_16.out) HLtd.out
        go_wp2_with fail
        refine hcall.mono ?_
        rintro e w17 ⟨rfl, hb⟩
        have B13_17 := Lib.hid (B13_16.out.then hb)
        clear hcall hb
        have hcall := f28_calls ⟨ph, val, wt⟩ (.slice av m cv) (.slice ca m cc) w17 (S14.out.below B13_17.out) (S13.out.below B13_17.out) (Lib.hid (show wt.length ≤ 1000000 by have := HM.out; omega)).out
        unfold prV at hcall
        simp only at hcall
        obtain ⟨r0, r1, r2, -⟩ := row3 (row_nx B13_17.out P14.out)
        obtain ⟨u0, u1, u2, -⟩ := row3 (row_nx B13_17.out P13.out)
        go_wp2_with fail
        refine hcall.mono ?_
        rintro e w18 ⟨rfl, hb⟩
        have B13_18 := Lib.hid (B13_17.out.then hb)
        clear hcall hb
        clear r0 r1 r2 u0 u1 u2
        go_wp2_with fail
        go_roundw
        case rel =>
          have b5 := B5_13.out.then B13_18.out
          refine ⟨kk + 1, ls ++ [(⟨ph, val, wt⟩, .slice av m cv)], by omega, by go_num, ?_, ?_, ?_, B5.out.then b5⟩
          · rw [List.map_append, HLS.out, List.take_add_one, HP.out]
            rfl
          · rw [encA_snoc]
            exact own_below O5.out b5 (Nat.le_refl _)
          · intro e he
            rw [List.mem_append, List.mem_singleton] at he
            rcases he with he | rfl
            · exact own_below (OL.out e he) b5 (Nat.le_refl _)
            · simp only
              rw [HM.out]
              exact own_below O14.out b5 (Nat.le_refl _)
        case measure => simp [intOf]; omega
      · have hx := HA2.out
        obtain ⟨wB, hwB⟩ : ∃ wB, ((w3.setCell ⟨wA.heap.size, 0, none⟩ (.int .i64 ph)).setCell ⟨wA.heap.size, 1, none⟩ (.int .i64 val)).setCell ⟨wA.heap.size, 2, none⟩ (.slice av m cv) = wB := ⟨_, rfl⟩
        obtain ⟨b14, hb14⟩ : ∃ b14, wA.heap.size = b14 := ⟨_, rfl⟩
        have hf := fill3 HS2.out (.int .i64 ph) (.int .i64 val) (.slice av m cv)
        rw [hwB] at hf
        have RB13 := Lib.hid ((hf.2.2 wr.heap.size nA2).trans Z3.out)
        have RB14 := Lib.hid (show wB.heap[b14]? = some (.cells #[.int .i64 ph, .int .i64 val, .slice av m cv] 60 (0, 0)) by rw [← hb14]; exact hf.1)
        have OB14 := Lib.hid (own_le (own_same hx.1 fun g hg => hf.2.2 g (own_ne hx.1 HS2.out (by decide) g hg)) (Nat.le_trans HB.out.size HBA.out.size))
        have HBAB := Lib.hid (show Below wA.heap.size wA wB by rw [← hwB]; exact below_fill3 hx.2 (Nat.le_refl wA.heap.size) _ _ _)
        have NB := Lib.hid (show wr.heap.size ≤ b14 by have := ZA.out; omega)
        rw [hwB, hb14]
        clear hwB hb14 hf k0 k1 k2 kf
        have BB := Lib.hid ((HB.out.then HBA.out).then HBAB.out)
        have OBA := Lib.hid (own_below (own_below HOW.out HBA.out (Nat.le_refl _)) HBAB.out (Nat.le_refl _))
        have OBL := Lib.hid (fun (e : Pr × Value) (he : e ∈ ls) => own_below (own_below (HSL.out e he) HBA.out (Nat.le_refl _)) HBAB.out (Nat.le_refl _))
        clear y0 y1 y2 q1 q2 q3 hx
        obtain ⟨r0, r1, r2, -⟩ := row3 RB14.out
        obtain ⟨W, hW⟩ : ∃ W, wB.alloc (.cells #[.int .i64 ph, .int .i64 val, .slice av m cv] 60) = W := ⟨_, rfl⟩
        have k0 : ∀ k, k < wB.heap.size → W.heap[k]? = wB.heap[k]? := fun k hk => by rw [← hW, heap_alloc_old _ _ hk]
        have zW : W.heap.size = wB.heap.size + 1 := by rw [← hW]; simp
        have hown1 : W.ownsRow w.heap.size 60 3 (.slice aa kk ac) kk (ls.flatMap encA) := own_same OBA.out fun g hg => k0 g (OBA.out.lt g hg).2
        have hcl := cells_three wB (.int .i64 ph) (.int .i64 val) (.slice av m cv) 60
        rw [hW] at hcl
        obtain ⟨i0, hif, hz0, hz1, hz2⟩ := info_parts info60
        have hbW : Below w.heap.size w W := by rw [← hW]; exact BB.out.alloc BB.out.size _
        have HBW := Lib.hid hbW
        have K0 := Lib.hid k0
        have ZW := Lib.hid zW
        clear hbW k0 zW
        go_wp2_with (at_builtin; refine wpList_append_own _ rfl (.tmp 54) (.tmp 56) 78 rfl w.heap.size 60 i0 (.agg #[.int .i64 0, .int .i64 0, .slice none 0 0]) 3 40 Try.underlying78 hif hz0 hz1 hz2 rfl (by decide) _ _ _ rfl hown1 ⟨wB.heap.size, 0, none⟩ 1 1 [.int .i64 ph, .int .i64 val, .slice av m cv] rfl rfl hcl ?d2 ?d3 ?d4 ?d5 ?_)
        case d2 =>
          intro u hu
          simp only [List.mem_cons, List.not_mem_nil, or_false] at hu
          rcases hu with rfl | rfl | rfl <;> rfl
        case d3 => unfold maxLen; omega
        case d4 => omega
        case d5 => exact HBW.out.size
        intro vx w5 hown2 hgrow _
        obtain ⟨aa2, ac2, rfl⟩ := own_form hown2
        have hb5 : Below w.heap.size w w5 := HBW.out.grown hgrow HBW.out.size fun k hk => (hown1.lt k hk).1
        have kw : ∀ k, wr.heap.size ≤ k → k < wB.heap.size → w5.heap[k]? = wB.heap[k]? := fun k h1 h2 => (hgrow.block k (by have := ZW.out; omega) (fun e => by have := (HOW.out.lt k e.symm).2; omega)).trans (K0.out k h2)
        have h13 := (kw wr.heap.size (Nat.le_refl _) (Array.getElem?_eq_some_iff.1 RB13.out).1).trans RB13.out
        have h14 := (kw b14 NB.out (Array.getElem?_eq_some_iff.1 RB14.out).1).trans RB14.out
        have R13 := Lib.hid h13
        have R14 := Lib.hid h14
        have O14 := Lib.hid (own_grown hown1 hgrow (own_same OB14.out fun g hg => K0.out g (OB14.out.lt g hg).2))
        have OL := Lib.hid (fun (e : Pr × Value) (he : e ∈ ls) => own_grown hown1 hgrow (own_same (OBL.out e he) fun g hg => K0.out g ((OBL.out e he).lt g hg).2))
        have O5 := Lib.hid hown2
        have B5 := Lib.hid hb5
        have B5r := Lib.hid (Below.refl w5.heap.size w5)
        clear hown1 hown2 hgrow hcl hif hz0 hz1 hz2 hb5 kw r0 r1 r2 hW h13 h14
        obtain ⟨⟨⟨pa, va, wa⟩, ta, ea⟩, hA⟩ : ∃ A, awaitS ⟨ph, val, wt⟩ who = A := ⟨_, rfl⟩
        obtain ⟨⟨⟨pd, vd, wd⟩, td, ed⟩, hD⟩ : ∃ A, decideS ⟨ph, val, wt⟩ f x = A := ⟨_, rfl⟩
        have HLA := Lib.hid hA
        have HLD := Lib.hid hD
        clear hA hD
        obtain ⟨r0, r1, r2, -⟩ := row3 (row_next B5r.out R14.out (Array.getElem?_eq_some_iff.1 R14.out).1)
        have hcall := await_calls ⟨ph, val, wt⟩ (.slice av m cv) who w5 (SlI.of_owns (own_below O14.out B5r.out (Nat.le_refl _)))
        rw [HLA.out] at hcall
        unfold prV at hcall
        simp only at hcall
        go_wp2_with fail
        refine hcall.mono ?_
        rintro e w6 ⟨v5, s5, rfl, ho, hs, hb⟩
        clear hcall
        obtain ⟨a5, c5, rfl⟩ := own_form ho
        obtain ⟨sa5, sc5, rfl⟩ := own_form hs
        have hi := SlI.of_owns ho
        have ht : SlT w6 _ ta := SlV.of_owns hs
        obtain ⟨w7, hw7⟩ : ∃ w7, w6.alloc (.cells #[.int .i64 pa, .int .i64 va, .slice a5 wa.length c5] 60) = w7 := ⟨_, rfl⟩
        have hbx : Below w6.heap.size w6 w7 := by rw [← hw7]; exact (Below.refl _ _).alloc (Nat.le_refl _) _
        have S5 := Lib.hid (hi.below hbx)
        have T5 := Lib.hid (SlV.below ht hbx)
        have Q5 := Lib.hid (show w7.heap[w6.heap.size]? = some (.cells #[.int .i64 pa, .int .i64 va, .slice a5 wa.length c5] 60 (0, 0)) by rw [← hw7]; exact heap_alloc_new _ _)
        have B5_7 := Lib.hid ((B5r.out.then hb).then hbx)
        have L5 := Lib.hid (hb.trans (hbx.mono hb.size))
        clear ho hs hb hi ht hbx r0 r1 r2
        obtain ⟨r0, r1, r2, -⟩ := row3 (row_next B5_7.out R13.out (Array.getElem?_eq_some_iff.1 R13.out).1)
        have hcall := rawait_calls ⟨ph, val, wt⟩ (.slice ca m cc) who w7 ((HS0.out.below B5.out).below B5_7.out)
        rw [HLA.out] at hcall
        unfold prV at hcall
        simp only at hcall
        go_wp2_with fail
        refine hcall.mono ?_
        rintro e w8 ⟨v7, s7, rfl, ho, hs, hb⟩
        clear hcall
        obtain ⟨a7, c7, rfl⟩ := SlI.form ho
        obtain ⟨sa7, sc7, rfl⟩ := SlV.form hs
        have hi := ho
        have ht : SlT w8 _ ta := hs
        obtain ⟨w9, hw9⟩ : ∃ w9, w8.alloc (.cells #[.int .i64 pa, .int .i64 va, .slice a7 wa.length c7] 75) = w9 := ⟨_, rfl⟩
        have hbx : Below w8.heap.size w8 w9 := by rw [← hw9]; exact (Below.refl _ _).alloc (Nat.le_refl _) _
        have S7 := Lib.hid (hi.below hbx)
        have T7 := Lib.hid (SlV.below ht hbx)
        have Q7 := Lib.hid (show w9.heap[w8.heap.size]? = some (.cells #[.int .i64 pa, .int .i64 va, .slice a7 wa.length c7] 75 (0, 0)) by rw [← hw9]; exact heap_alloc_new _ _)
        have B5_9 := Lib.hid ((B5_7.out.then hb).then hbx)
        have L7 := Lib.hid (hb.trans (hbx.mono hb.size))
        clear ho hs hb hi ht hbx r0 r1 r2
        obtain ⟨r0, r1, r2, -⟩ := row3 (row_next B5_9.out R14.out (Array.getElem?_eq_some_iff.1 R14.out).1)
        have hcall := decide_calls ⟨ph, val, wt⟩ (.slice av m cv) f x w9 (SlI.of_owns (own_below O14.out B5_9.out (Nat.le_refl _))) (by have := HM.out; simp only; omega)
        rw [HLD.out] at hcall
        unfold prV at hcall
        simp only at hcall
        go_wp2_with fail
        refine hcall.mono ?_
        rintro e w10 ⟨v9, s9, rfl, ho, hs, hb⟩
        clear hcall
        obtain ⟨a9, c9, rfl⟩ := own_form ho
        obtain ⟨sa9, sc9, rfl⟩ := own_form hs
        have hi := SlI.of_owns ho
        have ht : SlT w10 _ td := SlV.of_owns hs
        obtain ⟨w11, hw11⟩ : ∃ w11, w10.alloc (.cells #[.int .i64 pd, .int .i64 vd, .slice a9 wd.length c9] 60) = w11 := ⟨_, rfl⟩
        have hbx : Below w10.heap.size w10 w11 := by rw [← hw11]; exact (Below.refl _ _).alloc (Nat.le_refl _) _
        have S9 := Lib.hid (hi.below hbx)
        have T9 := Lib.hid (SlV.below ht hbx)
        have Q9 := Lib.hid (show w11.heap[w10.heap.size]? = some (.cells #[.int .i64 pd, .int .i64 vd, .slice a9 wd.length c9] 60 (0, 0)) by rw [← hw11]; exact heap_alloc_new _ _)
        have B5_11 := Lib.hid ((B5_9.out.then hb).then hbx)
        have L9 := Lib.hid (hb.trans (hbx.mono hb.size))
        clear ho hs hb hi ht hbx r0 r1 r2
        obtain ⟨r0, r1, r2, -⟩ := row3 (row_next B5_11.out R13.out (Array.getElem?_eq_some_iff.1 R13.out).1)
        have hcall := rdecide_calls ⟨ph, val, wt⟩ (.slice ca m cc) f x w11 ((HS0.out.below B5.out).below B5_11.out) (by have := HM.out; simp only; omega)
        rw [HLD.out] at hcall
        unfold prV at hcall
        simp only at hcall
        go_wp2_with fail
        refine hcall.mono ?_
        rintro e w12 ⟨v11, s11, rfl, ho, hs, hb⟩
        clear hcall
        obtain ⟨a11, c11, rfl⟩ := SlI.form ho
        obtain ⟨sa11, sc11, rfl⟩ := SlV.form hs
        have hi := ho
        have ht : SlT w12 _ td := hs
        obtain ⟨w13, hw13⟩ : ∃ w13, w12.alloc (.cells #[.int .i64 pd, .int .i64 vd, .slice a11 wd.length c11] 75) = w13 := ⟨_, rfl⟩
        have hbx : Below w12.heap.size w12 w13 := by rw [← hw13]; exact (Below.refl _ _).alloc (Nat.le_refl _) _
        have S11 := Lib.hid (hi.below hbx)
        have T11 := Lib.hid (SlV.below ht hbx)
        have Q11 := Lib.hid (show w13.heap[w12.heap.size]? = some (.cells #[.int .i64 pd, .int .i64 vd, .slice a11 wd.length c11] 75 (0, 0)) by rw [← hw13]; exact heap_alloc_new _ _)
        have B5_13 := Lib.hid ((B5_11.out.then hb).then hbx)
        have L11 := Lib.hid (hb.trans (hbx.mono hb.size))
        clear ho hs hb hi ht hbx r0 r1 r2
        have B11_13 := Lib.hid (L11.out)
        have B9_13 := Lib.hid (L9.out.then L11.out)
        have B7_13 := Lib.hid ((L7.out.then L9.out).then L11.out)
        have B13_13 := Lib.hid (Below.refl w13.heap.size w13)
        have P14 := Lib.hid (row_nx B5_13.out R14.out)
        have P13 := Lib.hid (row_nx B5_13.out R13.out)
        have P15 := Lib.hid (row_nx B7_13.out Q5.out)
        have P18 := Lib.hid (row_nx B9_13.out Q7.out)
        have P21 := Lib.hid (row_nx B11_13.out Q9.out)
        have P24 := Lib.hid (row_nx B13_13.out Q11.out)
        have S15 := Lib.hid (S5.out.below B7_13.out)
        have S18 := Lib.hid (S7.out.below B9_13.out)
        have S21 := Lib.hid (S9.out.below B11_13.out)
        have S24 := Lib.hid (S11.out.below B13_13.out)
        have T16 := Lib.hid (SlV.below T5.out B7_13.out)
        have T19 := Lib.hid (SlV.below T7.out B9_13.out)
        have T22 := Lib.hid (SlV.below T9.out B11_13.out)
        have T25 := Lib.hid (SlV.below T11.out B13_13.out)
        have S14 := Lib.hid (SlI.of_owns (own_below O14.out B5_13.out (Nat.le_refl _)))
        have S13 := Lib.hid ((HS0.out.below B5.out).below B5_13.out)
        have hla : wa.length ≤ 1000000 := by
          have := await_len ⟨ph, val, wt⟩ who
          rw [HLA.out] at this
          have h2 := HM.out
          simp only at this
          omega
        have hlta : ta.length ≤ 1000000000000 := by
          have := await_tlen ⟨ph, val, wt⟩ who
          rw [HLA.out] at this
          have h2 := HM.out
          simp only at this
          omega
        have hld : wd.length ≤ 1000000 := by
          have := decide_len ⟨ph, val, wt⟩ f x
          rw [HLD.out] at this
          have h2 := HM.out
          simp only at this
          omega
        have hltd : td.length ≤ 1000000000000 := by
          have := decide_tlen ⟨ph, val, wt⟩ f x
          rw [HLD.out] at this
          have h2 := HM.out
          simp only at this
          omega
        have HLa := Lib.hid hla
        have HLta := Lib.hid hlta
        have HLd := Lib.hid hld
        have HLtd := Lib.hid hltd
        clear hla hlta hld hltd
        have hcall := f28_calls ⟨pa, va, wa⟩ (.slice a5 wa.length c5) (.slice a7 wa.length c7) w13 (S15.out.below B13_13.out) (S18.out.below B13_13.out) HLa.out
        unfold prV at hcall
        simp only at hcall
        obtain ⟨r0, r1, r2, -⟩ := row3 (row_nx B13_13.out P15.out)
        obtain ⟨u0, u1, u2, -⟩ := row3 (row_nx B13_13.out P18.out)
        go_wp2_with fail
        refine hcall.mono ?_
        rintro e w14 ⟨rfl, hb⟩
        have B13_14 := Lib.hid (B13_13.out.then hb)
        clear hcall hb
        clear r0 r1 r2 u0 u1 u2
        have hcall := f25_calls (.slice sa5 ta.length sc5) (.slice sa7 ta.length sc7) ta w14 (SlV.below T16.out B13_14.out) (SlV.below T19.out B13_14.out) HLta.out
        go_wp2_with fail
        refine hcall.mono ?_
        rintro e w15 ⟨rfl, hb⟩
        have B13_15 := Lib.hid (B13_14.out.then hb)
        clear hcall hb
        have hcall := f28_calls ⟨pd, vd, wd⟩ (.slice a9 wd.length c9) (.slice a11 wd.length c11) w15 (S21.out.below B13_15.out) (S24.out.below B13_15.out) HLd.out
        unfold prV at hcall
        simp only at hcall
        obtain ⟨r0, r1, r2, -⟩ := row3 (row_nx B13_15.out P21.out)
        obtain ⟨u0, u1, u2, -⟩ := row3 (row_nx B13_15.out P24.out)
        go_wp2_with fail
        refine hcall.mono ?_
        rintro e w16 ⟨rfl, hb⟩
        have B13_16 := Lib.hid (B13_15.out.then hb)
        clear hcall hb
        clear r0 r1 r2 u0 u1 u2
        have hcall := f25_calls (.slice sa9 td.length sc9) (.slice sa11 td.length sc11) td w16 (SlV.below T22.out B13_16.out) (SlV.below T25.out B13_16.out) HLtd.out
        go_wp2_with fail
        refine hcall.mono ?_
        rintro e w17 ⟨rfl, hb⟩
        have B13_17 := Lib.hid (B13_16.out.then hb)
        clear hcall hb
        have hcall := f28_calls ⟨ph, val, wt⟩ (.slice av m cv) (.slice ca m cc) w17 (S14.out.below B13_17.out) (S13.out.below B13_17.out) (Lib.hid (show wt.length ≤ 1000000 by have := HM.out; omega)).out
        unfold prV at hcall
        simp only at hcall
        obtain ⟨r0, r1, r2, -⟩ := row3 (row_nx B13_17.out P14.out)
        obtain ⟨u0, u1, u2, -⟩ := row3 (row_nx B13_17.out P13.out)
        go_wp2_with fail
        refine hcall.mono ?_
        rintro e w18 ⟨rfl, hb⟩
        have B13_18 := Lib.hid (B13_17.out.then hb)
        clear hcall hb
        clear r0 r1 r2 u0 u1 u2
        go_wp2_with fail
        go_roundw
        case rel =>
          have b5 := B5_13.out.then B13_18.out
          refine ⟨kk + 1, ls ++ [(⟨ph, val, wt⟩, .slice av m cv)], by omega, by go_num, ?_, ?_, ?_, B5.out.then b5⟩
          · rw [List.map_append, HLS.out, List.take_add_one, HP.out]
            rfl
          · rw [encA_snoc]
            exact own_below O5.out b5 (Nat.le_refl _)
          · intro e he
            rw [List.mem_append, List.mem_singleton] at he
            rcases he with he | rfl
            · exact own_below (OL.out e he) b5 (Nat.le_refl _)
            · simp only
              rw [HM.out]
              exact own_below O14.out b5 (Nat.le_refl _)
        case measure => simp [intOf]; omega
    · have hke : kk = n := by omega
      subst hke
      have hlt' : ¬ (kk : Int) < (kk : Int) := by omega
      have hl : ls.map (·.1) = l := by
        have := HLS.out
        rw [List.take_of_length_le (by rw [HN.out]; exact Nat.le_refl _)] at this
        exact this
      have hlen : ls.length = kk := by
        have := congrArg List.length hl
        rw [List.length_map, HN.out] at this
        exact this
      have hrow : RowP wr (.slice aa kk ac) l := by
        rw [← hl]
        exact RowP.own (by rw [hlen]; exact HOW.out) fun e he => SlI.of_owns (HSL.out e he)
      have hcall := join_calls _ l wr hrow (by have := HN.out; omega)
      obtain ⟨⟨⟨pj, vj, wj⟩, ej⟩, hJ⟩ : ∃ J, joinS l = J := ⟨_, rfl⟩
      rw [hJ] at hcall
      have HJ := Lib.hid hJ
      unfold prV at hcall
      simp only at hcall
      clear hl hlen hrow hJ hbel
      go_wp2_with fail
      refine hcall.mono ?_
      rintro e w2 ⟨rfl, hb2⟩
      obtain ⟨w3, hw3⟩ : ∃ w3, w2.alloc (.cells #[.int .i64 pj, .int .i64 vj, .slice none 0 0] 60) = w3 := ⟨_, rfl⟩
      have hb3 : Below w2.heap.size w2 w3 := by rw [← hw3]; exact (Below.refl _ _).alloc (Nat.le_refl _) _
      have g27 : w3.heap[w2.heap.size]? = some (.cells #[.int .i64 pj, .int .i64 vj, .slice none 0 0] 60 (0, 0)) := by rw [← hw3]; exact heap_alloc_new _ _
      have HB3 := Lib.hid ((HB.out.then hb2).then hb3)
      have hcall2 := rjoin_calls (.slice a kk c) l w3 (HV.out.below HB3.out) (by have := HN.out; omega)
      rw [HJ.out] at hcall2
      unfold prV at hcall2
      simp only at hcall2
      have G27 := Lib.hid g27
      have HW3 := Lib.hid hw3
      clear hcall hb2 hb3 g27 hw3
      go_wp2_with fail
      rw [HW3.out]
      refine hcall2.mono ?_
      rintro e w4 ⟨rfl, hb4⟩
      obtain ⟨w5, hw5⟩ : ∃ w5, w4.alloc (.cells #[.int .i64 pj, .int .i64 vj, .slice none 0 0] 75) = w5 := ⟨_, rfl⟩
      have hb5 : Below w4.heap.size w4 w5 := by rw [← hw5]; exact (Below.refl _ _).alloc (Nat.le_refl _) _
      have g29 : w5.heap[w4.heap.size]? = some (.cells #[.int .i64 pj, .int .i64 vj, .slice none 0 0] 75 (0, 0)) := by rw [← hw5]; exact heap_alloc_new _ _
      have HB5 := Lib.hid ((HB3.out.then hb4).then hb5)
      have h27 := row_nx hb4 G27.out
      have q1 : w2.heap.size < w4.heap.size := (Array.getElem?_eq_some_iff.1 h27).1
      have q2 : ¬ w2.heap.size = w4.heap.size := Nat.ne_of_lt q1
      have q3 : ¬ w4.heap.size = w2.heap.size := Nat.ne_of_gt q1
      have hcall3 := f28_calls ⟨pj, vj, []⟩ (.slice none 0 0) (.slice none 0 0) w5 (SlI.nil _) (SlI.nil _) (by simp)
      unfold prV at hcall3
      simp only at hcall3
      obtain ⟨r0, r1, r2, -⟩ := row3 h27
      have HW5 := Lib.hid hw5
      clear hcall2 hb4 hb5 g29 h27 hw5
      go_wp2_with fail
      rw [HW5.out]
      refine hcall3.mono ?_
      rintro e w6 ⟨rfl, hb6⟩
      have HB6 := Lib.hid (HB5.out.then hb6)
      clear hcall3 hb6
      go_wp2_with fail
      refine (awake_calls _).mono ?_
      rintro e w7 ⟨rfl, hb7⟩
      go_wp2_with fail
      go_ret
      exact ⟨rfl, HB6.out.then hb7⟩
end Go.Proofs.Ytddajaikighjlaa
