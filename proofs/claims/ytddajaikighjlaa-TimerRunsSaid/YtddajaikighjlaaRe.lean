/- The reference's add 60. -/
import Derived.Test.YtddajaikighjlaaRd
namespace Go.Proofs.Ytddajaikighjlaa
open Go.RowKit Go.Sl Go.Mp Go.Wh

def rtV (e : Rt) : Value := .agg #[.int .i64 e.t.id, .int .i64 e.t.when, .int .i64 e.t.iv, .int .i64 e.t.ord, .int .i64 e.set]
abbrev less (u e : Rt) : Prop := u.t.when < e.t.when ∨ (u.t.when = e.t.when ∧ u.t.ord < e.t.ord)
theorem addR_split {e : Rt} : ∀ {L : List Rt} {k : Nat}, (∀ u ∈ L.take k, less u e) → (k = L.length ∨ ∃ u, L[k]? = some u ∧ ¬ less u e) → addR L e = L.take k ++ e :: L.drop k
  | [], k, _, _ => by simp [addR]
  | u :: L, 0, _, h => by
    rcases h with h | ⟨x, h1, h2⟩
    · simp at h
    · simp only [List.getElem?_cons_zero, Option.some.injEq] at h1
      subst h1
      unfold addR
      rw [if_neg h2]
      rfl
  | u :: L, k + 1, ha, h => by
    unfold addR
    rw [if_pos (ha u (by simp)), addR_split (L := L) (k := k) (fun x hx => ha x (by simp [hx])) (by
      rcases h with h | ⟨x, h1, h2⟩
      · left; simpa using h
      · right; exact ⟨x, by simpa using h1, h2⟩)]
    rfl
theorem info151 : (Try.prog.info? 151).map (fun i => (i.zero, i.size, i.bytes)) = some (some (.agg #[.int .i64 0, .int .i64 0, .int .i64 0, .int .i64 0, .int .i64 0]), 5, 40) := by kernel_rfl
theorem oneR (L : List Rt) : ∀ u ∈ L.flatMap encR, u.oneCell' = true := by
  intro u hu
  rw [List.mem_flatMap] at hu
  obtain ⟨e, _, hu⟩ := hu
  simp only [encR, List.mem_cons, List.not_mem_nil, or_false] at hu
  rcases hu with rfl | rfl | rfl | rfl | rfl <;> rfl
theorem cells_five (w : World) (a b c d e : Value) (t : TypeId) : ∀ (j : Nat) (u : Value), [a, b, c, d, e][j]? = some u → (w.alloc (.cells #[a, b, c, d, e] t)).cell? (Addr.add ⟨w.heap.size, 0, none⟩ j) = some u := by
  intro j u hj
  rw [Go.WideShapes.add_plain, Nat.zero_add]
  refine cells_of_row (heap_alloc_new w (.cells #[a, b, c, d, e] t)) j u ?_
  rw [← hj]
  simp
theorem own_belowR {w w' : World} {B base sz n : Nat} {t : TypeId} {v : Value} {xs : List Value} (h : w.ownsRow base t sz v n xs) (hb : Below B w w') (hB : w.heap.size ≤ B) : w'.ownsRow base t sz v n xs :=
  own_same h fun g hg => hb.block g (Nat.lt_of_lt_of_le (h.lt g hg).2 hB)

theorem row_next2 {B : Nat} {w w' : World} (hb : Below B w w') {b : Nat} {o : Obj} (h : w.heap[b]? = some o) (hl : b < B) : w'.heap[b]? = some o := (hb.block b hl).trans h
set_option maxRecDepth 100000 in
set_option maxHeartbeats 8000000 in
theorem add_calls (v : Value) (L : List Rt) (e : Rt) (w : World) (h : SlR w v L) (hn : L.length ≤ 1000000) : Calls Try.prog 60 #[v, rtV e] w fun ee w' => ∃ v', ee = .returned v' ∧ w'.ownsRow w.heap.size 151 5 v' (L.length + 1) ((addR L e).flatMap encR) ∧ Below w.heap.size w w' := by
  obtain ⟨a, c, rfl⟩ := h.form
  obtain ⟨n, hn2⟩ : ∃ n, L.length = n := ⟨_, rfl⟩
  rw [hn2] at hn h ⊢
  have HN := Lib.hid hn2
  have H := Lib.hid h
  have hcap := (h.cap).2
  unfold rtV
  obtain ⟨⟨⟨eid, ewh, eiv, eord⟩, eset⟩, he⟩ : ∃ e0, e = e0 := ⟨_, rfl⟩
  have HE := Lib.hid he
  rw [he]
  simp only
  obtain ⟨w1, hw1⟩ : ∃ w1, w.alloc (.cells #[.int .i64 eid, .int .i64 ewh, .int .i64 eiv, .int .i64 eord, .int .i64 eset] 151) = w1 := ⟨_, rfl⟩
  have hb1 : Below w.heap.size w w1 := by rw [← hw1]; exact (Below.refl w.heap.size w).alloc (Nat.le_refl _) _
  have g0 : w1.heap[w.heap.size]? = some (.cells #[.int .i64 eid, .int .i64 ewh, .int .i64 eiv, .int .i64 eord, .int .i64 eset] 151 (0, 0)) := by rw [← hw1]; exact heap_alloc_new _ _
  have B1 := Lib.hid hb1
  have G0 := Lib.hid g0
  have HCAP := Lib.hid hcap
  have hcap' : (n : Int) ≤ (c : Int) := by omega
  clear h hn2 hb1 g0 he hcap
  go_enter Try.func60, Try.ntmps60
  go_wp2_with fail
  clear hw1
  go_loopw [5] (fun i wr => ∃ k : Nat, k ≤ n ∧ i = .int .i64 (k : Int) ∧ (∀ u ∈ L.take k, less u e) ∧ Below w1.heap.size w1 wr) (fun i _ => n - (intOf i).toNat)
  case atStart => exact ⟨0, Nat.zero_le _, rfl, (fun _ hu => by simp at hu), Below.refl _ _⟩
  case round =>
    obtain ⟨k, hk, rfl, hles, hbel⟩ := hrel
    have HB := Lib.hid hbel
    have HLE := Lib.hid hles
    have hrow := row_n2 hbel G0.out
    have y0 := cells_of_row hrow 0 _ rfl
    have y1 := cells_of_row hrow 1 _ rfl
    have y2 := cells_of_row hrow 2 _ rfl
    have y3 := cells_of_row hrow 3 _ rfl
    have y4 := cells_of_row hrow 4 _ rfl
    have HROW := Lib.hid hrow
    clear hbel hles hrow
    by_cases hlt : k < n
    · obtain ⟨u, hu⟩ : ∃ u, L[k]? = some u := ⟨_, List.getElem?_eq_getElem (by have := HN.out; omega)⟩
      have h0 := H.out
      rw [← HN.out] at h0
      obtain ⟨g, o, cap, hf, x0, x1, x2, x3, x4⟩ := h0.at hu
      rw [HN.out] at hf
      simp only [Value.slice.injEq] at hf
      obtain ⟨rfl, -, rfl⟩ := hf
      have hbw := B1.out.then HB.out
      replace x0 := hbw.at_cell x0
      replace x1 := hbw.at_cell x1
      replace x3 := hbw.at_cell x3
      have gl := World.block_lt_of_cell? wr _ x0
      have hlt' : (k : Int) < (n : Int) := by omega
      have HU := Lib.hid hu
      have HGO := Lib.hid (fun h1 : less u e => (show ∀ x ∈ L.take (k + 1), less x e by
        intro x hx
        rw [List.take_add_one, HU.out] at hx
        simp only [Option.toList_some, List.mem_append, List.mem_singleton] at hx
        rcases hx with hx | rfl
        · exact HLE.out x hx
        · exact h1))
      have HST := Lib.hid (fun h1 : ¬ less u e => addR_split HLE.out (Or.inr ⟨u, HU.out, h1⟩))
      obtain ⟨⟨uid, uwh, uiv, uord⟩, uset⟩ := u
      have HLS := Lib.hid (show less ⟨⟨uid, uwh, uiv, uord⟩, uset⟩ e ↔ (uwh < ewh ∨ (uwh = ewh ∧ uord < eord)) by rw [HE.out])
      simp only at x0 x1 x2 x3 x4
      clear hu h0 hbw x0 x2 x4
      by_cases c1 : uwh < ewh
      · have hgo := Lib.hid (HGO.out (HLS.out.2 (Or.inl c1)))
        go_wp2_with fail
        go_quiet (fail)
        go_wp2_with fail
        go_roundw
        case rel => exact ⟨k + 1, by omega, by go_num, hgo.out, HB.out.trans (below_drewN _ _ _)⟩
        case measure => simp [intOf]; omega
      by_cases c2 : uwh = ewh
      · by_cases c3 : uord < eord
        · have hgo := Lib.hid (HGO.out (HLS.out.2 (Or.inr ⟨c2, c3⟩)))
          go_wp2_with fail
          go_quiet (fail)
          go_wp2_with fail
          go_roundw
          case rel => exact ⟨k + 1, by omega, by go_num, hgo.out, HB.out.trans (below_drewN _ _ _)⟩
          case measure => simp [intOf]; omega
        · have HFIN := Lib.hid (HST.out (fun hx => absurd (HLS.out.1 hx) (by omega)))
          clear HST HGO HLS HU
          obtain ⟨u1, hu1⟩ : ∃ u1, Value.slice (some (⟨g, o, none⟩ : Addr)) k c = u1 := ⟨_, rfl⟩
          obtain ⟨u3, hu3⟩ : ∃ u3, Value.slice (if c = k then (some (⟨g, o, none⟩ : Addr)) else (some (⟨g, o, none⟩ : Addr)).map fun x => x.add (k * 5)) (n - k) (c - k) = u3 := ⟨_, rfl⟩
          have hs1 : ∀ w, (Instr.sliceAt 38 (.slice (some (⟨g, o, none⟩ : Addr)) n c) none (some (.int .i64 (k : Int))) none).run Try.prog w = .ok u1 w := fun w => by rw [← hu1]; exact run_to w (some (⟨g, o, none⟩ : Addr)) n c k (Nat.le_trans hk HCAP.out)
          have hs3 : ∀ w, (Instr.sliceAt 38 (.slice (some (⟨g, o, none⟩ : Addr)) n c) (some (.int .i64 (k : Int))) none none).run Try.prog w = .ok u3 w := fun w => by rw [← hu3]; exact run_from w (some (⟨g, o, none⟩ : Addr)) n c k hk
          have HU1 := Lib.hid hu1
          have HU3 := Lib.hid hu3
          clear hu1 hu3
          go_wp2_with fail
          go_quiet (fail)
          obtain ⟨wz, hwz⟩ : ∃ wz, wr.drewN nq = wz := ⟨_, rfl⟩
          have hbz : Below w1.heap.size w1 wz := by rw [← hwz]; exact HB.out.trans (below_drewN _ _ _)
          have BZ := Lib.hid hbz
          have RZ := Lib.hid (row_n2 hbz G0.out)
          obtain ⟨wy, hwy⟩ : ∃ wy, wz.alloc (.cells #[] 151) = wy := ⟨_, rfl⟩
          have hby : Below wz.heap.size wz wy := by rw [← hwy]; exact (Below.refl _ _).alloc (Nat.le_refl _) _
          have hzy : wy.heap.size = wz.heap.size + 1 := by rw [← hwy]; simp
          have own0 : wy.ownsRow wz.heap.size 151 5 (.slice (some ⟨wz.heap.size, 0, none⟩) 0 0) 0 [] := by rw [← hwy]; exact owns_empty wz 151 5
          have BY := Lib.hid ((B1.out.then hbz).then hby)
          have su1 : SlV wy u1 k 5 ((L.take k).flatMap encR) := by rw [← HU1.out]; exact SlV.below (slR_to H.out hk) BY.out
          have ZY := Lib.hid hzy
          have BYZ := Lib.hid hby
          rw [hwz]
          obtain ⟨i0, hif, hz0, hz1, hz2⟩ := info_parts info151
          clear hwz hbz hby hzy
          go_wp2_with (at_builtin; refine wpList_append_sl rfl (.tmp 43) (.tmp 46) 38 rfl wz.heap.size 151 i0 (.agg #[.int .i64 0, .int .i64 0, .int .i64 0, .int .i64 0, .int .i64 0]) 5 40 Try.underlying38 hif hz0 hz1 hz2 rfl (by decide) _ _ _ rfl own0 _ k _ rfl su1 ?d1 ?d2 ?d3 ?d4 ?_)
          case d1 => exact oneR _
          case d2 => unfold maxLen; omega
          case d3 => omega
          case d4 => have := ZY.out; omega
          intro va w2 own1 hg1
          obtain ⟨va1, vc1, rfl⟩ := own_form own1
          have hb2 : Below wz.heap.size wz w2 := BYZ.out.grown hg1 BYZ.out.size (fun j hj => (own0.lt j hj).1)
          have hrow := row_next2 hb2 RZ.out (Array.getElem?_eq_some_iff.1 RZ.out).1
          have y0 := cells_of_row hrow 0 _ rfl
          have y1 := cells_of_row hrow 1 _ rfl
          have y2 := cells_of_row hrow 2 _ rfl
          have y3 := cells_of_row hrow 3 _ rfl
          have y4 := cells_of_row hrow 4 _ rfl
          obtain ⟨w3, hw3⟩ : ∃ w3, w2.alloc (.cells #[.int .i64 eid, .int .i64 ewh, .int .i64 eiv, .int .i64 eord, .int .i64 eset] 151) = w3 := ⟨_, rfl⟩
          have hb3 : Below w2.heap.size w2 w3 := by rw [← hw3]; exact (Below.refl _ _).alloc (Nat.le_refl _) _
          have own2 := own_belowR own1 hb3 (Nat.le_refl _)
          have hcl := cells_five w2 (.int .i64 eid) (.int .i64 ewh) (.int .i64 eiv) (.int .i64 eord) (.int .i64 eset) 151
          rw [hw3] at hcl
          have B3 := Lib.hid (hb2.trans (hb3.mono hb2.size))
          clear own0 own1 hg1 su1 hb2 hb3 hrow
          go_wp2_with (at_builtin; refine wpList_append_own _ rfl (.tmp 48) (.tmp 50) 38 rfl wz.heap.size 151 i0 (.agg #[.int .i64 0, .int .i64 0, .int .i64 0, .int .i64 0, .int .i64 0]) 5 40 Try.underlying38 hif hz0 hz1 hz2 rfl (by decide) _ _ _ rfl own2 ⟨w2.heap.size, 0, none⟩ 1 1 [.int .i64 eid, .int .i64 ewh, .int .i64 eiv, .int .i64 eord, .int .i64 eset] rfl rfl hcl ?e2 ?e3 ?e4 ?e5 ?_)
          case e2 =>
            intro x hx
            simp only [List.mem_cons, List.not_mem_nil, or_false] at hx
            rcases hx with rfl | rfl | rfl | rfl | rfl <;> rfl
          case e3 => unfold maxLen; omega
          case e4 => omega
          case e5 => exact B3.out.size
          intro vb w4 own3 hg2 _
          obtain ⟨vb1, wc1, rfl⟩ := own_form own3
          have hb4 : Below wz.heap.size wz w4 := B3.out.grown hg2 B3.out.size (fun j hj => (own2.lt j hj).1)
          have B4 := Lib.hid hb4
          have su3 : SlV w4 u3 (n - k) 5 ((L.drop k).flatMap encR) := by rw [← HU3.out]; exact SlV.below (slR_from H.out hk) ((B1.out.then BZ.out).then hb4)
          have O3 := Lib.hid own3
          clear own2 hg2 hcl y0 y1 y2 y3 y4 hb4 hw3
          go_wp2_with (at_builtin; refine wpList_append_sl rfl (.tmp 52) (.tmp 55) 38 rfl wz.heap.size 151 i0 (.agg #[.int .i64 0, .int .i64 0, .int .i64 0, .int .i64 0, .int .i64 0]) 5 40 Try.underlying38 hif hz0 hz1 hz2 rfl (by decide) _ _ _ rfl own3 _ (n - k) _ rfl su3 ?f1 ?f2 ?f3 ?f4 ?_)
          case f1 => exact oneR _
          case f2 => unfold maxLen; omega
          case f3 => omega
          case f4 => exact B4.out.size
          intro vc w5 own4 hg3
          have hb5 : Below wz.heap.size wz w5 := B4.out.grown hg3 B4.out.size (fun j hj => (O3.out.lt j hj).1)
          have B5 := Lib.hid hb5
          have O4 := Lib.hid own4
          clear own3 own4 hg3 hb5 su3
          go_wp2_with fail
          go_ret
          refine ⟨_, rfl, ?_, B1.out.trans ((BZ.out.then B5.out).mono B1.out.size)⟩
          rw [← HE.out, HFIN.out, HE.out, List.flatMap_append, List.flatMap_cons]
          have ho := O4.out
          rw [show k + 1 + (n - k) = n + 1 by omega] at ho
          refine own_le ?_ (Nat.le_trans B1.out.size BZ.out.size)
          simpa [encR] using ho
      · have HFIN := Lib.hid (HST.out (fun hx => absurd (HLS.out.1 hx) (by omega)))
        clear HST HGO HLS HU
        obtain ⟨u1, hu1⟩ : ∃ u1, Value.slice (some (⟨g, o, none⟩ : Addr)) k c = u1 := ⟨_, rfl⟩
        obtain ⟨u3, hu3⟩ : ∃ u3, Value.slice (if c = k then (some (⟨g, o, none⟩ : Addr)) else (some (⟨g, o, none⟩ : Addr)).map fun x => x.add (k * 5)) (n - k) (c - k) = u3 := ⟨_, rfl⟩
        have hs1 : ∀ w, (Instr.sliceAt 38 (.slice (some (⟨g, o, none⟩ : Addr)) n c) none (some (.int .i64 (k : Int))) none).run Try.prog w = .ok u1 w := fun w => by rw [← hu1]; exact run_to w (some (⟨g, o, none⟩ : Addr)) n c k (Nat.le_trans hk HCAP.out)
        have hs3 : ∀ w, (Instr.sliceAt 38 (.slice (some (⟨g, o, none⟩ : Addr)) n c) (some (.int .i64 (k : Int))) none none).run Try.prog w = .ok u3 w := fun w => by rw [← hu3]; exact run_from w (some (⟨g, o, none⟩ : Addr)) n c k hk
        have HU1 := Lib.hid hu1
        have HU3 := Lib.hid hu3
        clear hu1 hu3
        go_wp2_with fail
        go_quiet (fail)
        obtain ⟨wz, hwz⟩ : ∃ wz, wr.drewN nq = wz := ⟨_, rfl⟩
        have hbz : Below w1.heap.size w1 wz := by rw [← hwz]; exact HB.out.trans (below_drewN _ _ _)
        have BZ := Lib.hid hbz
        have RZ := Lib.hid (row_n2 hbz G0.out)
        obtain ⟨wy, hwy⟩ : ∃ wy, wz.alloc (.cells #[] 151) = wy := ⟨_, rfl⟩
        have hby : Below wz.heap.size wz wy := by rw [← hwy]; exact (Below.refl _ _).alloc (Nat.le_refl _) _
        have hzy : wy.heap.size = wz.heap.size + 1 := by rw [← hwy]; simp
        have own0 : wy.ownsRow wz.heap.size 151 5 (.slice (some ⟨wz.heap.size, 0, none⟩) 0 0) 0 [] := by rw [← hwy]; exact owns_empty wz 151 5
        have BY := Lib.hid ((B1.out.then hbz).then hby)
        have su1 : SlV wy u1 k 5 ((L.take k).flatMap encR) := by rw [← HU1.out]; exact SlV.below (slR_to H.out hk) BY.out
        have ZY := Lib.hid hzy
        have BYZ := Lib.hid hby
        rw [hwz]
        obtain ⟨i0, hif, hz0, hz1, hz2⟩ := info_parts info151
        clear hwz hbz hby hzy
        go_wp2_with (at_builtin; refine wpList_append_sl rfl (.tmp 43) (.tmp 46) 38 rfl wz.heap.size 151 i0 (.agg #[.int .i64 0, .int .i64 0, .int .i64 0, .int .i64 0, .int .i64 0]) 5 40 Try.underlying38 hif hz0 hz1 hz2 rfl (by decide) _ _ _ rfl own0 _ k _ rfl su1 ?d1 ?d2 ?d3 ?d4 ?_)
        case d1 => exact oneR _
        case d2 => unfold maxLen; omega
        case d3 => omega
        case d4 => have := ZY.out; omega
        intro va w2 own1 hg1
        obtain ⟨va1, vc1, rfl⟩ := own_form own1
        have hb2 : Below wz.heap.size wz w2 := BYZ.out.grown hg1 BYZ.out.size (fun j hj => (own0.lt j hj).1)
        have hrow := row_next2 hb2 RZ.out (Array.getElem?_eq_some_iff.1 RZ.out).1
        have y0 := cells_of_row hrow 0 _ rfl
        have y1 := cells_of_row hrow 1 _ rfl
        have y2 := cells_of_row hrow 2 _ rfl
        have y3 := cells_of_row hrow 3 _ rfl
        have y4 := cells_of_row hrow 4 _ rfl
        obtain ⟨w3, hw3⟩ : ∃ w3, w2.alloc (.cells #[.int .i64 eid, .int .i64 ewh, .int .i64 eiv, .int .i64 eord, .int .i64 eset] 151) = w3 := ⟨_, rfl⟩
        have hb3 : Below w2.heap.size w2 w3 := by rw [← hw3]; exact (Below.refl _ _).alloc (Nat.le_refl _) _
        have own2 := own_belowR own1 hb3 (Nat.le_refl _)
        have hcl := cells_five w2 (.int .i64 eid) (.int .i64 ewh) (.int .i64 eiv) (.int .i64 eord) (.int .i64 eset) 151
        rw [hw3] at hcl
        have B3 := Lib.hid (hb2.trans (hb3.mono hb2.size))
        clear own0 own1 hg1 su1 hb2 hb3 hrow
        go_wp2_with (at_builtin; refine wpList_append_own _ rfl (.tmp 48) (.tmp 50) 38 rfl wz.heap.size 151 i0 (.agg #[.int .i64 0, .int .i64 0, .int .i64 0, .int .i64 0, .int .i64 0]) 5 40 Try.underlying38 hif hz0 hz1 hz2 rfl (by decide) _ _ _ rfl own2 ⟨w2.heap.size, 0, none⟩ 1 1 [.int .i64 eid, .int .i64 ewh, .int .i64 eiv, .int .i64 eord, .int .i64 eset] rfl rfl hcl ?e2 ?e3 ?e4 ?e5 ?_)
        case e2 =>
          intro x hx
          simp only [List.mem_cons, List.not_mem_nil, or_false] at hx
          rcases hx with rfl | rfl | rfl | rfl | rfl <;> rfl
        case e3 => unfold maxLen; omega
        case e4 => omega
        case e5 => exact B3.out.size
        intro vb w4 own3 hg2 _
        obtain ⟨vb1, wc1, rfl⟩ := own_form own3
        have hb4 : Below wz.heap.size wz w4 := B3.out.grown hg2 B3.out.size (fun j hj => (own2.lt j hj).1)
        have B4 := Lib.hid hb4
        have su3 : SlV w4 u3 (n - k) 5 ((L.drop k).flatMap encR) := by rw [← HU3.out]; exact SlV.below (slR_from H.out hk) ((B1.out.then BZ.out).then hb4)
        have O3 := Lib.hid own3
        clear own2 hg2 hcl y0 y1 y2 y3 y4 hb4 hw3
        go_wp2_with (at_builtin; refine wpList_append_sl rfl (.tmp 52) (.tmp 55) 38 rfl wz.heap.size 151 i0 (.agg #[.int .i64 0, .int .i64 0, .int .i64 0, .int .i64 0, .int .i64 0]) 5 40 Try.underlying38 hif hz0 hz1 hz2 rfl (by decide) _ _ _ rfl own3 _ (n - k) _ rfl su3 ?f1 ?f2 ?f3 ?f4 ?_)
        case f1 => exact oneR _
        case f2 => unfold maxLen; omega
        case f3 => omega
        case f4 => exact B4.out.size
        intro vc w5 own4 hg3
        have hb5 : Below wz.heap.size wz w5 := B4.out.grown hg3 B4.out.size (fun j hj => (O3.out.lt j hj).1)
        have B5 := Lib.hid hb5
        have O4 := Lib.hid own4
        clear own3 own4 hg3 hb5 su3
        go_wp2_with fail
        go_ret
        refine ⟨_, rfl, ?_, B1.out.trans ((BZ.out.then B5.out).mono B1.out.size)⟩
        rw [← HE.out, HFIN.out, HE.out, List.flatMap_append, List.flatMap_cons]
        have ho := O4.out
        rw [show k + 1 + (n - k) = n + 1 by omega] at ho
        refine own_le ?_ (Nat.le_trans B1.out.size BZ.out.size)
        simpa [encR] using ho
    · have hke : k = n := by omega
      have hlt' : ¬ (k : Int) < (n : Int) := by omega
      have HFIN := Lib.hid (addR_split HLE.out (Or.inl (by rw [HN.out]; exact hke)))
      subst hke
      obtain ⟨u1, hu1⟩ : ∃ u1, Value.slice a k c = u1 := ⟨_, rfl⟩
      obtain ⟨u3, hu3⟩ : ∃ u3, Value.slice (if c = k then a else a.map fun x => x.add (k * 5)) (k - k) (c - k) = u3 := ⟨_, rfl⟩
      have hs1 : ∀ w, (Instr.sliceAt 38 (.slice a k c) none (some (.int .i64 (k : Int))) none).run Try.prog w = .ok u1 w := fun w => by rw [← hu1]; exact run_to w a k c k (Nat.le_trans hk HCAP.out)
      have hs3 : ∀ w, (Instr.sliceAt 38 (.slice a k c) (some (.int .i64 (k : Int))) none none).run Try.prog w = .ok u3 w := fun w => by rw [← hu3]; exact run_from w a k c k hk
      have HU1 := Lib.hid hu1
      have HU3 := Lib.hid hu3
      clear hu1 hu3
      go_wp2_with fail
      go_quiet (fail)
      obtain ⟨wz, hwz⟩ : ∃ wz, wr.drewN nq = wz := ⟨_, rfl⟩
      have hbz : Below w1.heap.size w1 wz := by rw [← hwz]; exact HB.out.trans (below_drewN _ _ _)
      have BZ := Lib.hid hbz
      have RZ := Lib.hid (row_n2 hbz G0.out)
      obtain ⟨wy, hwy⟩ : ∃ wy, wz.alloc (.cells #[] 151) = wy := ⟨_, rfl⟩
      have hby : Below wz.heap.size wz wy := by rw [← hwy]; exact (Below.refl _ _).alloc (Nat.le_refl _) _
      have hzy : wy.heap.size = wz.heap.size + 1 := by rw [← hwy]; simp
      have own0 : wy.ownsRow wz.heap.size 151 5 (.slice (some ⟨wz.heap.size, 0, none⟩) 0 0) 0 [] := by rw [← hwy]; exact owns_empty wz 151 5
      have BY := Lib.hid ((B1.out.then hbz).then hby)
      have su1 : SlV wy u1 k 5 ((L.take k).flatMap encR) := by rw [← HU1.out]; exact SlV.below (slR_to H.out hk) BY.out
      have ZY := Lib.hid hzy
      have BYZ := Lib.hid hby
      rw [hwz]
      obtain ⟨i0, hif, hz0, hz1, hz2⟩ := info_parts info151
      clear hwz hbz hby hzy
      go_wp2_with (at_builtin; refine wpList_append_sl rfl (.tmp 43) (.tmp 46) 38 rfl wz.heap.size 151 i0 (.agg #[.int .i64 0, .int .i64 0, .int .i64 0, .int .i64 0, .int .i64 0]) 5 40 Try.underlying38 hif hz0 hz1 hz2 rfl (by decide) _ _ _ rfl own0 _ k _ rfl su1 ?d1 ?d2 ?d3 ?d4 ?_)
      case d1 => exact oneR _
      case d2 => unfold maxLen; omega
      case d3 => omega
      case d4 => have := ZY.out; omega
      intro va w2 own1 hg1
      obtain ⟨va1, vc1, rfl⟩ := own_form own1
      have hb2 : Below wz.heap.size wz w2 := BYZ.out.grown hg1 BYZ.out.size (fun j hj => (own0.lt j hj).1)
      have hrow := row_next2 hb2 RZ.out (Array.getElem?_eq_some_iff.1 RZ.out).1
      have y0 := cells_of_row hrow 0 _ rfl
      have y1 := cells_of_row hrow 1 _ rfl
      have y2 := cells_of_row hrow 2 _ rfl
      have y3 := cells_of_row hrow 3 _ rfl
      have y4 := cells_of_row hrow 4 _ rfl
      obtain ⟨w3, hw3⟩ : ∃ w3, w2.alloc (.cells #[.int .i64 eid, .int .i64 ewh, .int .i64 eiv, .int .i64 eord, .int .i64 eset] 151) = w3 := ⟨_, rfl⟩
      have hb3 : Below w2.heap.size w2 w3 := by rw [← hw3]; exact (Below.refl _ _).alloc (Nat.le_refl _) _
      have own2 := own_belowR own1 hb3 (Nat.le_refl _)
      have hcl := cells_five w2 (.int .i64 eid) (.int .i64 ewh) (.int .i64 eiv) (.int .i64 eord) (.int .i64 eset) 151
      rw [hw3] at hcl
      have B3 := Lib.hid (hb2.trans (hb3.mono hb2.size))
      clear own0 own1 hg1 su1 hb2 hb3 hrow
      go_wp2_with (at_builtin; refine wpList_append_own _ rfl (.tmp 48) (.tmp 50) 38 rfl wz.heap.size 151 i0 (.agg #[.int .i64 0, .int .i64 0, .int .i64 0, .int .i64 0, .int .i64 0]) 5 40 Try.underlying38 hif hz0 hz1 hz2 rfl (by decide) _ _ _ rfl own2 ⟨w2.heap.size, 0, none⟩ 1 1 [.int .i64 eid, .int .i64 ewh, .int .i64 eiv, .int .i64 eord, .int .i64 eset] rfl rfl hcl ?e2 ?e3 ?e4 ?e5 ?_)
      case e2 =>
        intro x hx
        simp only [List.mem_cons, List.not_mem_nil, or_false] at hx
        rcases hx with rfl | rfl | rfl | rfl | rfl <;> rfl
      case e3 => unfold maxLen; omega
      case e4 => omega
      case e5 => exact B3.out.size
      intro vb w4 own3 hg2 _
      obtain ⟨vb1, wc1, rfl⟩ := own_form own3
      have hb4 : Below wz.heap.size wz w4 := B3.out.grown hg2 B3.out.size (fun j hj => (own2.lt j hj).1)
      have B4 := Lib.hid hb4
      have su3 : SlV w4 u3 (k - k) 5 ((L.drop k).flatMap encR) := by rw [← HU3.out]; exact SlV.below (slR_from H.out hk) ((B1.out.then BZ.out).then hb4)
      have O3 := Lib.hid own3
      clear own2 hg2 hcl y0 y1 y2 y3 y4 hb4 hw3
      go_wp2_with (at_builtin; refine wpList_append_sl rfl (.tmp 52) (.tmp 55) 38 rfl wz.heap.size 151 i0 (.agg #[.int .i64 0, .int .i64 0, .int .i64 0, .int .i64 0, .int .i64 0]) 5 40 Try.underlying38 hif hz0 hz1 hz2 rfl (by decide) _ _ _ rfl own3 _ (k - k) _ rfl su3 ?f1 ?f2 ?f3 ?f4 ?_)
      case f1 => exact oneR _
      case f2 => unfold maxLen; omega
      case f3 => omega
      case f4 => exact B4.out.size
      intro vc w5 own4 hg3
      have hb5 : Below wz.heap.size wz w5 := B4.out.grown hg3 B4.out.size (fun j hj => (O3.out.lt j hj).1)
      have B5 := Lib.hid hb5
      have O4 := Lib.hid own4
      clear own3 own4 hg3 hb5 su3
      go_wp2_with fail
      go_ret
      refine ⟨_, rfl, ?_, B1.out.trans ((BZ.out.then B5.out).mono B1.out.size)⟩
      rw [← HE.out, HFIN.out, HE.out, List.flatMap_append, List.flatMap_cons]
      have ho := O4.out
      refine own_le ?_ (Nat.le_trans B1.out.size BZ.out.size)
      simpa [encR] using ho
end Go.Proofs.Ytddajaikighjlaa
