/- The reference's Cancel 17. -/
import Derived.Test.YtddajaikighjlaaRg
import Derived.Deep.RegionHeld3
import Derived.Deep.RegionLaw
namespace Go.Proofs.Ytddajaikighjlaa
open Go.RowKit Go.Sl Go.Mp Go.Wh

theorem step_append_sl {P : Program} {ops : Array Oper} {o : Oper} {a : Act} {w : World} {K : Act → World → Prop} {Q : Exit → Act → World → Prop} {E : Prop}
    (hg : o.guard = none) (s x : Operand) (t : TypeId) (hop : o.op = Op.call { callee := Callee.builtin Builtin.append, args := #[s, x], argTypes := #[t, t] })
    (base : Nat) (e : TypeId) (i : TypeInfo) (z : Value) (size bytes : Nat) (ht : P.underlying t = some (.slice e)) (hi : P.info? e = some i) (hz : i.zero = some z)
    (hsize : i.size = size) (hby : i.bytes = bytes) (hzs : z.cells.size = size) (hsz : 0 < size) (v : Value) (n : Nat) (xs : List Value) (hs : a.eval s = v) (hown : w.ownsRow base e size v n xs)
    (u : Value) (m : Nat) (news : List Value) (hx : a.eval x = u) (hu : SlV w u m size news) (h1 : ∀ c ∈ news, c.oneCell' = true) (h63 : n + m ≤ maxLen) (hbytes : (n + m) * bytes ≤ 140737488355328) (hbase : base ≤ w.heap.size)
    (hK : ∀ v' w', w'.ownsRow base e size v' (n + m) (xs ++ news) → w.grownBy w' v.ownBlock → K (a.put o.dst v') w') :
    if Region.wanted o (yielded ops a.tmps) = true then Oper.wp P o a w K Q else E := by
  have hw : Region.wanted o (yielded ops a.tmps) = true := by simp [Region.wanted, hg]
  rw [if_pos hw]
  obtain ⟨v', w', hrun, r1, r2⟩ := run_append_sl (P := P) base t o.type e i z size bytes ht hi hz hsize hby hzs hsz v n xs hown u m news hu h1 h63 hbytes hbase
  unfold Oper.wp
  simp [execOp, hop, resolve, invoke, builtin, hs, hx, hrun, Result.andThen]
  exact hK v' w' r1 r2
theorem find_idx {L : List Rt} {k : Nat} {e : Rt} {id : Int} (hk : L[k]? = some e) (he : e.t.id = id) (hn : ∀ u ∈ L.take k, u.t.id ≠ id) : rcancelS L id = (L.take k ++ L.drop (k + 1), true) := by
  have hlt := (List.getElem?_eq_some_iff.1 hk).1
  have hf : (L.findIdx? fun e => e.t.id == id) = some k := by
    rw [List.findIdx?_eq_some_iff_getElem]
    refine ⟨hlt, ?_, fun j hj => ?_⟩
    · have h2 := (List.getElem?_eq_some_iff.1 hk).2
      simp [h2, he]
    · have := hn L[j] (List.mem_take_iff_getElem.2 ⟨j, by omega, rfl⟩)
      simpa using this
  unfold rcancelS
  rw [hf]
  simp only
  rw [List.eraseIdx_eq_take_drop_succ]
theorem idx_none {L : List Rt} {id : Int} (h : ∀ u ∈ L, u.t.id ≠ id) : rcancelS L id = (L, false) := by
  have hf : (L.findIdx? fun e => e.t.id == id) = none := by
    rw [List.findIdx?_eq_none_iff]
    intro e he
    simpa using h e he
  unfold rcancelS
  rw [hf]

set_option maxRecDepth 100000 in
set_option maxHeartbeats 8000000 in
theorem rcancel_calls (time : Int) (v : Value) (ord : Int) (L : List Rt) (id : Int) (w : World) (h : SlR w v L) (hn : L.length ≤ 1000) :
    Calls Try.prog 17 #[rwV time v ord, .int .i64 id] w fun e w' => ∃ v', e = .returned (.tuple #[rwV time v' ord, .bool (rcancelS L id).2]) ∧ SlR w' v' (rcancelS L id).1 ∧ Below w.heap.size w w' := by
  obtain ⟨a, c, rfl⟩ := h.form
  obtain ⟨n, hn2⟩ : ∃ n, L.length = n := ⟨_, rfl⟩
  rw [hn2] at hn h ⊢
  have HN := Lib.hid hn2
  have H := Lib.hid h
  have HCAP := Lib.hid h.cap.2
  obtain ⟨w1, hw1⟩ : ∃ w1, (w.alloc (.cells #[.int .i64 time, .slice a n c, .int .i64 ord] 40)).alloc (.cells #[.int .i64 0, .slice none 0 0, .int .i64 0] 40) = w1 := ⟨_, rfl⟩
  have hb1 : Below w.heap.size w w1 := by rw [← hw1]; exact ((Below.refl w.heap.size w).alloc (Nat.le_refl _) _).alloc (by simp) _
  have hz1 : w1.heap.size = w.heap.size + 2 := by rw [← hw1]; simp
  have g0 : w1.heap[w.heap.size]? = some (.cells #[.int .i64 time, .slice a n c, .int .i64 ord] 40 (0, 0)) := by
    rw [← hw1]
    exact (heap_alloc_old _ _ _ (by simp)).trans (heap_alloc_new _ _)
  have g1 : w1.heap[w.heap.size + 1]? = some (.cells #[.int .i64 0, .slice none 0 0, .int .i64 0] 40 (0, 0)) := by
    rw [← hw1]
    exact heap_alloc_new (w.alloc (.cells #[.int .i64 time, .slice a n c, .int .i64 ord] 40)) _ |> fun h => by simpa using h
  have B1 := Lib.hid hb1
  have Z1 := Lib.hid hz1
  have G0 := Lib.hid g0
  have G1 := Lib.hid g1
  unfold rwV
  clear hn2 hb1 hz1 g0 g1 h
  go_enter Try.func17, Try.ntmps17
  go_wp2_with fail
  clear hw1
  go_loopw [6] (fun i wr => ∃ k : Nat, k ≤ n ∧ i = .int .i64 (k : Int) ∧ (∀ u ∈ L.take k, u.t.id ≠ id) ∧ wr = w1) (fun i _ => n - (intOf i).toNat)
  case atStart => exact ⟨0, Nat.zero_le _, rfl, (fun _ hu => by simp at hu), rfl⟩
  case round =>
    obtain ⟨k, hk, rfl, hno, rfl⟩ := hrel
    have HNO := Lib.hid hno
    obtain ⟨x0, x1, x2, xf⟩ := row3 G0.out
    obtain ⟨z0, z1, z2, zf⟩ := row3 G1.out
    clear hno
    by_cases hlt : k < n
    · obtain ⟨u, hu⟩ : ∃ u, L[k]? = some u := ⟨_, List.getElem?_eq_getElem (by have := HN.out; omega)⟩
      have h0 := H.out
      rw [← HN.out] at h0
      obtain ⟨g, o, cap, hf, y0, -⟩ := h0.at hu
      rw [HN.out] at hf
      simp only [Value.slice.injEq] at hf
      obtain ⟨rfl, -, rfl⟩ := hf
      replace y0 := B1.out.at_cell y0
      have hlt' : (k : Int) < (n : Int) := by omega
      have HU := Lib.hid hu
      clear h0 hu
      by_cases hid : u.t.id = id
      · have HRS := Lib.hid (find_idx HU.out hid HNO.out)
        rw [hid] at y0
        clear hid
        obtain ⟨u1, hu1⟩ : ∃ u1, Value.slice (some (⟨g, o, none⟩ : Addr)) k c = u1 := ⟨_, rfl⟩
        obtain ⟨u3, hu3⟩ : ∃ u3, Value.slice (if c = k + 1 then (some (⟨g, o, none⟩ : Addr)) else (some (⟨g, o, none⟩ : Addr)).map fun x => x.add ((k + 1) * 5)) (n - (k + 1)) (c - (k + 1)) = u3 := ⟨_, rfl⟩
        have hs1 : ∀ w, (Instr.sliceAt 38 (.slice (some (⟨g, o, none⟩ : Addr)) n c) none (some (.int .i64 (k : Int))) none).run Try.prog w = .ok u1 w := fun w => by rw [← hu1]; exact run_to w _ n c k (Nat.le_trans hk HCAP.out)
        have hs3 : ∀ w, (Instr.sliceAt 38 (.slice (some (⟨g, o, none⟩ : Addr)) n c) (some (.int .i64 ((k : Int) + 1))) none none).run Try.prog w = .ok u3 w := fun w => by rw [← hu3]; exact run_from w _ n c (k + 1) hlt
        have su1 : SlV wr u1 k 5 ((L.take k).flatMap encR) := by rw [← hu1]; exact SlV.below (slR_to H.out hk) B1.out
        have su3 : SlV wr u3 (n - (k + 1)) 5 ((L.drop (k + 1)).flatMap encR) := by rw [← hu3]; exact SlV.below (slR_from H.out hlt) B1.out
        obtain ⟨i0, hif, hz0, hz1, hz2⟩ := info_parts info151
        have HIF := Lib.hid hif
        have HZ0 := Lib.hid hz0
        have HZ1 := Lib.hid hz1
        have HZ2 := Lib.hid hz2
        have SU1 := Lib.hid su1
        have SU3 := Lib.hid su3
        have hby : Below wr.heap.size wr ((wr.alloc (.cells #[] 151)).drew) := ((Below.refl wr.heap.size wr).alloc (Nat.le_refl _) _).drew
        have BY := Lib.hid hby
        have OWN0 := Lib.hid (show ((wr.alloc (.cells #[] 151)).drew).ownsRow wr.heap.size 151 5 (.slice (some ⟨wr.heap.size, 0, none⟩) 0 0) 0 [] from owns_empty wr 151 5)
        have nX1 : ¬ w.heap.size = wr.heap.size := by have := Z1.out; omega
        have nX2 : ¬ wr.heap.size = w.heap.size := by have := Z1.out; omega
        have nX3 : ¬ w.heap.size + 1 = w.heap.size := by omega
        have nX4 : ¬ w.heap.size = w.heap.size + 1 := by omega
        clear hu1 hu3 su1 su3 hif hz0 hz1 hz2 hby
        go_wp2_with fail
        have gk1 : IntKind.i64.wrap ((k : Int) + 1) = (k : Int) + 1 := IntWalk.i64_in _ (by omega)
        have ya1 := ((Below.refl wr.heap.size wr).alloc (Nat.le_refl _) (.cells #[] 151)).at_cell x1
        go_region_law (first
          | (refine step_append_sl rfl (.tmp 22) (.tmp 26) 38 rfl wr.heap.size 151 i0 (.agg #[.int .i64 0, .int .i64 0, .int .i64 0, .int .i64 0, .int .i64 0]) 5 40 Try.underlying38 HIF.out HZ0.out HZ1.out HZ2.out rfl (by decide) _ _ _ rfl OWN0.out _ k _ rfl (SU1.out.below BY.out) (oneR _) (by unfold maxLen; omega) (by omega) BY.out.size ?_; intro va w2 own1 hg1; rw [Nat.zero_add, List.nil_append] at own1; obtain ⟨va1, vc1, rfl⟩ := own_form own1; have hb2 := BY.out.grown hg1 BY.out.size (fun j hj => (OWN0.out.lt j hj).1); have hr := row_n2 hb2 G0.out; obtain ⟨p0, p1, p2, pf⟩ := row3 hr; have OWN1 := Lib.hid own1; have B2 := Lib.hid hb2; clear own1 hg1 hb2 hr)
          | (refine step_append_sl rfl (.tmp 27) (.tmp 32) 38 rfl wr.heap.size 151 i0 (.agg #[.int .i64 0, .int .i64 0, .int .i64 0, .int .i64 0, .int .i64 0]) 5 40 Try.underlying38 HIF.out HZ0.out HZ1.out HZ2.out rfl (by decide) _ _ _ rfl OWN1.out _ (n - (k + 1)) _ rfl (SU3.out.below B2.out) (oneR _) (by unfold maxLen; omega) (by omega) B2.out.size ?_; intro vb w3 own2 hg2; obtain ⟨vb1, vc2, rfl⟩ := own_form own2; have hb3 := B2.out.grown hg2 B2.out.size (fun j hj => (OWN1.out.lt j hj).1); have hr := row_n2 hb3 G0.out; obtain ⟨q0, q1, q2, qf⟩ := row3 hr; have OWN2 := Lib.hid own2; have B3 := Lib.hid hb3; have hr2 := row_n2 hb3 G1.out; obtain ⟨s0, s1, s2, sf⟩ := row3 hr2; have R4 := Lib.hid hr2; clear own2 hg2 hb3 hr hr2)
          | (go_simp; go_wp2_with fail))
        all_goals
          go_wp2_with fail
          obtain ⟨m, hm⟩ : ∃ m, k + (n - (k + 1)) = m := ⟨_, rfl⟩
          have k1 := (Below.heap_setCell w3 ⟨w.heap.size, 1, none⟩ (.slice vb1 (k + (n - (k + 1))) vc2) (w.heap.size + 1) nX3).trans R4.out
          have hf := fill3 k1 (.int .i64 time) (.slice vb1 (k + (n - (k + 1))) vc2) (.int .i64 ord)
          refine bodyPost_ret (results_cell2 rfl _ _ (w.heap.size + 1) 40 _ (0, 0) _ rfl hf.1 Try.underlying40 size40) rfl ?_
          rw [HRS.out]
          refine ⟨_, rfl, ?_, ?_⟩
          · have ho := OWN2.out
            rw [← List.flatMap_append] at ho
            refine SlR.of_owns (own_same ho fun g hg => ?_)
            have hge := (ho.lt g hg).1
            have hz := Z1.out
            rw [hf.2.2 g (by omega), Below.heap_setCell _ ⟨w.heap.size, 1, none⟩ _ g (by simp only; omega)]
          · exact below_fill3 ((B1.out.trans (B3.out.mono B1.out.size)).setCell (p := ⟨w.heap.size, 1, none⟩) (Nat.le_refl _) _) (by omega) _ _ _
      · obtain ⟨uid, hui⟩ : ∃ x, u.t.id = x := ⟨_, rfl⟩
        rw [hui] at y0 hid
        have HUI := Lib.hid hui
        clear hui
        go_wp2_with fail
        go_roundw
        case rel =>
          refine ⟨k + 1, by omega, by go_num, fun x hx => ?_, by first | trivial | rfl⟩
          rw [List.take_add_one, HU.out] at hx
          simp only [Option.toList_some, List.mem_append, List.mem_singleton] at hx
          rcases hx with hx | rfl
          · exact HNO.out x hx
          · rw [HUI.out]; exact hid
        case measure => simp [intOf]; omega
    · have hke : k = n := by omega
      subst hke
      have hlt' : ¬ (k : Int) < (k : Int) := by omega
      have hnn : ∀ u ∈ L, u.t.id ≠ id := by
        have := HNO.out
        rw [List.take_of_length_le (by rw [HN.out]; exact Nat.le_refl _)] at this
        exact this
      have HRS := Lib.hid (idx_none hnn)
      clear hnn
      go_wp2_with fail
      have hf := fill3 G1.out (.int .i64 time) (.slice a k c) (.int .i64 ord)
      refine bodyPost_ret (results_cell2 rfl _ _ (w.heap.size + 1) 40 _ (0, 0) _ rfl hf.1 Try.underlying40 size40) rfl ?_
      have hbb := below_fill3 B1.out (b := w.heap.size + 1) (by omega) (.int .i64 time) (.slice a k c) (.int .i64 ord)
      rw [HRS.out]
      exact ⟨_, rfl, H.out.below hbb, hbb⟩
end Go.Proofs.Ytddajaikighjlaa
