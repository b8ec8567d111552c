/- TimerFires' DeleteFunc 48. -/
import Derived.Test.YtddajaikighjlaaSa
import Derived.Test.YtddajaikighjlaaPb
import Derived.Maps.AppendAt
import Derived.Maps.Range
namespace Go.Proofs.Ytddajaikighjlaa
open Go.RowKit Go.Sl Go.Mp Go.Wh

theorem elem119 : Try.prog.elem 119 = 122 := by kernel_rfl
theorem und119 : Try.prog.underlying 119 = some (.slice (Try.prog.elem 119)) := by rw [elem119]; exact Try.underlying119
theorem run_to119 (w : World) (a : Option Addr) (n c k : Nat) (h : k ≤ c) : (Instr.sliceAt 119 (.slice a n c) none (some (.int .i64 (k : Int))) none).run Try.prog w = .ok (.slice a k c) w := by
  rw [run_sliceAt_slice (t := 119) (h := und119), run_slice_h (t := 119) (ht := und119) (h0 := by omega) (h2 := by omega), elem119]
  simp [go_sem, sliced, Addr.add]
theorem run_from119 (w : World) (g n c k : Nat) (h : k < n) (hc : n ≤ c) : (Instr.sliceAt 119 (.slice (some ⟨g, 0, none⟩) n c) (some (.int .i64 (k : Int))) none none).run Try.prog w = .ok (.slice (some ⟨g, k * 2, none⟩) (n - k) (c - k)) w := by
  rw [run_sliceAt_slice (t := 119) (h := und119), run_slice_l (t := 119) (ht := und119) (h0 := by omega) (h1 := by omega), elem119]
  have hne : ¬ c = k := by omega
  simp [go_sem, sliced, Go.WideShapes.add_plain, hne]
theorem info122 : (Try.prog.info? 122).map (fun i => (i.zero, i.size, i.bytes)) = some (some (.agg #[.int .i64 0, .int .i64 0]), 2, 16) := by kernel_rfl
theorem zero122 (w : World) : (zeroValue 122).run Try.prog w = .ok (.agg #[.int .i64 0, .int .i64 0]) w := Try.zeroValue122 w
theorem run_clear119 (w : World) (ty : TypeId) (g o m c : Nat) (cur : Array Value) (hg : w.heap[g]? = some (.cells cur 122 (0, 0))) (hm : 0 < m) (hl : o + m * 2 ≤ cur.size) :
    ∃ cur' : Array Value, (Builtin.clear_ #[119] ty #[.slice (some ⟨g, o, none⟩) m c]).run Try.prog w = .ok (.tuple #[]) (w.setRow g cur') ∧ cur'.size = cur.size ∧ cur'.toList.take o = cur.toList.take o := by
  have hz : (Builtin.zeroCells #[.int .i64 0, .int .i64 0] m).toList.length = m * 2 := by simp [Builtin.zeroCells]
  have h1 : ∀ v ∈ (Builtin.zeroCells #[.int .i64 0, .int .i64 0] m).toList, v.oneCell' = true := by
    intro v hv
    simp only [Builtin.zeroCells, Array.toList_map, List.mem_map] at hv
    obtain ⟨i, -, rfl⟩ := hv
    have : i % (#[Value.int IntKind.i64 0, Value.int IntKind.i64 0] : Array Value).size = 0 ∨ i % (#[Value.int IntKind.i64 0, Value.int IntKind.i64 0] : Array Value).size = 1 := by
      simp only [List.size_toArray, List.length_cons, List.length_nil]
      omega
    rcases this with e | e <;> rw [e] <;> rfl
  have hs := run_storeCells_at (P := Try.prog) g o 122 (Builtin.zeroCells #[.int .i64 0, .int .i64 0] m).toList 0 cur w hg (by rw [hz]; omega) h1
  rw [Nat.add_zero, hz] at hs
  refine ⟨(cur.toList.take o ++ (Builtin.zeroCells #[.int .i64 0, .int .i64 0] m).toList ++ cur.toList.drop (o + m * 2)).toArray, ?_, ?_, ?_⟩
  · unfold Builtin.clear_
    obtain ⟨m', rfl⟩ : ∃ m', m = m' + 1 := ⟨m - 1, by omega⟩
    simp [Result.andThen, Value.cells] at hs ⊢
    rw [hs]
  · simp [hz]
    omega
  · show List.take o ((cur.toList.take o ++ (Builtin.zeroCells #[.int .i64 0, .int .i64 0] m).toList ++ cur.toList.drop (o + m * 2)).toArray).toList = _
    rw [List.toList_toArray, List.append_assoc, List.take_append_of_le_length (by simp; omega), List.take_take, Nat.min_self]
theorem setRow_else (w : World) (g : Nat) (cs : Array Value) (k : Nat) (h : k ≠ g) : (w.setRow g cs).heap[k]? = w.heap[k]? := by
  simp [World.setRow, Array.getElem?_modify, Ne.symm h]
theorem filt_succ {L : List (Int × Int)} {p : Int × Int → Bool} {j : Nat} {x : Int × Int} (h : L[j]? = some x) : (L.take (j + 1)).filter (fun y => !p y) = (L.take j).filter (fun y => !p y) ++ if p x then [] else [x] := by
  rw [List.take_add_one, h, List.filter_append]
  cases hp : p x <;> simp [hp]
theorem filt_none {L : List (Int × Int)} {p : Int × Int → Bool} (h : ∀ y ∈ L, p y = false) : L.filter (fun y => !p y) = L := by
  rw [List.filter_eq_self]
  intro y hy
  simp [h y hy]

theorem take_two (l : List Value) (i : Nat) (a b : Value) (h : i + 1 < l.length) : ((l.set i a).set (i + 1) b).take (i + 2) = l.take i ++ [a, b] := by
  rw [show i + 2 = i + 1 + 1 from rfl, List.take_add_one, List.take_add_one, List.getElem?_set_self (by simpa using h), List.getElem?_set_ne (by omega), List.getElem?_set_self (by omega), List.take_set_of_le (by omega), List.take_set_of_le (by omega)]
  simp
theorem grown_set {w w' : World} {g : Nat} (h : w.grownBy w' (some g)) (j : Nat) (v : Value) : w.grownBy (w'.setCell ⟨g, j, none⟩ v) (some g) :=
  ⟨h.os, h.tape, h.output, by simpa using h.size, fun k hk hne => (Below.heap_setCell w' ⟨g, j, none⟩ v k (fun e => hne (by rw [e]))).trans (h.block k hk hne)⟩

set_option maxRecDepth 100000 in
set_option maxHeartbeats 4000000 in
theorem delete48_calls (v : Value) (base : Nat) (L : List (Int × Int)) (f : FuncId) (caps : Array Value) (p : Int × Int → Bool) (w : World) (h : w.ownsRow base 122 2 v L.length (L.flatMap encF)) (hn : L.length ≤ 1000000)
    (hp : ∀ (a b : Int) (wr : World), w.grownBy wr v.ownBlock → Calls Try.prog f (#[.agg #[.int .i64 a, .int .i64 b]] ++ caps) wr fun e w' => e = .returned (.bool (p (a, b))) ∧ Below wr.heap.size wr w') (hcf : ∀ (args : Array Value) (w : World), (callFunc f args).run Try.prog w = .ok (.enter f args) w) :
    Calls Try.prog 48 #[v, .func (.func f) #[] caps] w fun e w' => ∃ v', e = .returned v' ∧ w'.ownsRow base 122 2 v' (L.filter fun y => !p y).length ((L.filter fun y => !p y).flatMap encF) ∧ w.grownBy w' v.ownBlock ∧ (v'.ownBlock = v.ownBlock) := by
  have hidx := index76_calls v L f caps p w (SlV.of_owns h) hn (fun a b wr hb => hp a b wr ⟨hb.os, hb.tape, hb.output, hb.size, fun k hk _ => hb.block k hk⟩) hcf
  obtain ⟨a, c, rfl⟩ := own_form h
  obtain ⟨n, hn2⟩ : ∃ n, L.length = n := ⟨_, rfl⟩
  rw [hn2] at h hn hidx hp ⊢
  have HN := Lib.hid hn2
  have HO := Lib.hid h
  have HP := Lib.hid hp
  clear h hp hn2
  go_enter Try.func48, Try.ntmps48
  go_wp2_with fail
  refine hidx.mono ?_
  rintro e w1 ⟨⟨r, rfl, hr⟩, hb1⟩
  have hg1 : w.grownBy w1 (Value.slice a n c).ownBlock := ⟨hb1.os, hb1.tape, hb1.output, hb1.size, fun k hk _ => hb1.block k hk⟩
  have HB1 := Lib.hid hb1
  have HG1 := Lib.hid hg1
  clear hidx hb1 hg1
  rcases hr with ⟨rfl, hr⟩ | ⟨i0, x0, rfl, hi0, hx0, hlt0⟩
  · have HF := Lib.hid (filt_none hr)
    clear hr
    go_wp2_with fail
    go_ret
    refine ⟨_, rfl, ?_, HG1.out, rfl⟩
    rw [HF.out, HN.out]
    exact own_same HO.out fun g hg => HB1.out.block g (HO.out.lt g hg).2
  · have hi0n := (List.getElem?_eq_some_iff.1 hi0).1
    have hcs := HO.out
    rcases hcs.2 with ⟨-, h0⟩ | ⟨g, cap, cur, hv, hbase, hcur, hcap, hcm, hsz, htk⟩
    · have := HN.out; omega
    · simp only [Value.slice.injEq] at hv
      obtain ⟨rfl, -, rfl⟩ := hv
      have HI0 := Lib.hid hi0
      have HX0 := Lib.hid hx0
      have HLT := Lib.hid hlt0
      have HCM := Lib.hid hcm
      have hcells : ∀ t x, L[t]? = some x → cur[2 * t]? = some (.int .i64 x.1) ∧ cur[2 * t + 1]? = some (.int .i64 x.2) := by
        intro t x ht
        have htn := (List.getElem?_eq_some_iff.1 ht).1
        rw [HN.out] at htn
        have hg : ∀ q, q < 2 → cur[2 * t + q]? = (encF x)[q]? := fun q hq => by
          have e1 : (L.flatMap encF)[2 * t + q]? = (encF x)[q]? := by
            rw [flat_get encF 2 encF_len (by omega), show (2 * t + q) / 2 = t by omega, show (2 * t + q) % 2 = q by omega, ht]
            rfl
          rw [← e1, ← htk, List.getElem?_take_of_lt (by omega), Array.getElem?_toList]
        exact ⟨hg 0 (by omega), hg 1 (by omega)⟩
      have hF0 : (L.take (i0 + 1)).filter (fun y => !p y) = L.take i0 := by
        rw [filt_succ hi0, hx0, filt_none hlt0]
        simp
      have htk0 : cur.toList.take (2 * i0) = (L.take i0).flatMap encF := by
        have e1 : L.flatMap encF = (L.take i0).flatMap encF ++ (L.drop i0).flatMap encF := by rw [← List.flatMap_append, List.take_append_drop]
        have hl : ((L.take i0).flatMap encF).length = 2 * i0 := by rw [flat_len encF 2 encF_len, List.length_take, Nat.min_eq_left (by omega)]; omega
        have h2 : cur.toList.take (2 * i0) = (cur.toList.take (n * 2)).take (2 * i0) := by rw [List.take_take, Nat.min_eq_left (by have := HN.out; omega)]
        rw [h2, htk, e1, List.take_append_of_le_length (by omega), List.take_of_length_le (by omega)]
      have HF0 := Lib.hid hF0
      have HTK0 := Lib.hid htk0
      have HCELLS := Lib.hid hcells
      have HCUR := Lib.hid hcur
      have hglt := (Array.getElem?_eq_some_iff.1 hcur).1
      have HCUR1 := Lib.hid ((HB1.out.block g hglt).trans hcur)
      have HTKL := Lib.hid hF0
      have hi0z : ((i0 : Int) == -1) = false := by rw [beq_eq_false_iff_ne]; omega
      have hcapz : (n : Int) ≤ (c : Int) := by omega
      have hi0n' : i0 < n := by have := HN.out; omega
      have gi : IntKind.i64.wrap ((i0 : Int) + 1) = (i0 : Int) + 1 := IntWalk.i64_in _ (by omega)
      clear hcells hF0 htk0 hcur htk hcs hcm hx0 hlt0 hi0
      go_wp2_with fail
      go_loopw [5, 6] (fun vi vj wr => ∃ (i j : Nat) (arr : Array Value), vi = .int .i64 i ∧ vj = .int .i64 j ∧ i < j ∧ j ≤ n ∧ ((L.take j).filter fun y => !p y).length = i ∧ wr.heap[g]? = some (.cells arr 122 (0, 0)) ∧ arr.size = c * 2 ∧ arr.toList.take (2 * i) = ((L.take j).filter fun y => !p y).flatMap encF ∧ Hid (∀ t x, j ≤ t → L[t]? = some x → arr[2 * t]? = some (.int .i64 x.1) ∧ arr[2 * t + 1]? = some (.int .i64 x.2)) ∧ w.grownBy wr (some g)) (fun _ vj _ => n - (intOf vj).toNat)
      case atStart =>
        refine ⟨i0, i0 + 1, cur, rfl, by push_cast; rfl, by omega, by omega, ?_, HCUR1.out, hsz, ?_, Lib.hid fun t x _ ht => HCELLS.out t x ht, HG1.out⟩
        · rw [HF0.out, List.length_take]; have := HN.out; omega
        · rw [HF0.out, HTK0.out]
      case round =>
        obtain ⟨i, j, arr, rfl, rfl, hij, hj, hFl, hrow, hasz, hatk, hcs, hgr⟩ := hrel
        have HFL := Lib.hid hFl
        have HROW := Lib.hid hrow
        have HATK := Lib.hid hatk
        have HGR := Lib.hid hgr
        clear hFl hatk
        by_cases hlt : j < n
        · obtain ⟨⟨x, y⟩, hx⟩ : ∃ q, L[j]? = some q := ⟨_, List.getElem?_eq_getElem (by have := HN.out; omega)⟩
          obtain ⟨e0, e1⟩ := hcs.out j (x, y) (Nat.le_refl _) hx
          have y0 := cells_of_row hrow _ _ e0
          have y1 := cells_of_row hrow _ _ e1
          rw [Nat.mul_comm] at y0 y1
          have HX := Lib.hid hx
          have gl := (Array.getElem?_eq_some_iff.1 hrow).1
          have gn : ¬ g = wr.heap.size := Nat.ne_of_lt gl
          obtain ⟨W7, hW7⟩ : ∃ W7, wr.alloc (.cells #[.int .i64 x, .int .i64 y] 122) = W7 := ⟨_, rfl⟩
          have hb7 : Below wr.heap.size wr W7 := by rw [← hW7]; exact (Below.refl _ _).alloc (Nat.le_refl _) _
          have g7 : W7.heap[wr.heap.size]? = some (.cells #[.int .i64 x, .int .i64 y] 122 (0, 0)) := by rw [← hW7]; exact heap_alloc_new _ _
          have hg7 : w.grownBy W7 (some g) := hgr.trans ⟨hb7.os, hb7.tape, hb7.output, hb7.size, fun k hk _ => hb7.block k hk⟩
          have hcall := HP.out x y W7 hg7
          have a0 := cells_of_row g7 0 _ rfl
          have a1 := cells_of_row g7 1 _ rfl
          have G7 := Lib.hid g7
          have HG7 := Lib.hid hg7
          have HROW7 := Lib.hid ((hb7.block g gl).trans hrow)
          have hlt' : (j : Int) < (n : Int) := by omega
          have gj : IntKind.i64.wrap ((j : Int) + 1) = (j : Int) + 1 := IntWalk.i64_in _ (by omega)
          have gii : IntKind.i64.wrap ((i : Int) + 1) = (i : Int) + 1 := IntWalk.i64_in _ (by omega)
          clear e0 e1 hx hb7 g7 hg7 hgr hrow
          cases hpx : p (x, y) with
          | true =>
            have HPX := Lib.hid hpx
            rw [hpx] at hcall
            clear hpx
            go_wp2_with fail
            refine hcall.mono ?_
            rintro e w8 ⟨rfl, hb8⟩
            have HROW8 := Lib.hid ((hb8.block g (Array.getElem?_eq_some_iff.1 HROW7.out).1).trans HROW7.out)
            have HG8 := Lib.hid (HG7.out.trans ⟨hb8.os, hb8.tape, hb8.output, hb8.size, fun k hk _ => hb8.block k hk⟩)
            clear hcall hb8 hW7
            go_wp2_with fail
            go_roundw
            case rel =>
              have hfs := filt_succ (p := p) HX.out
              rw [HPX.out, if_pos rfl, List.append_nil] at hfs
              exact ⟨i, j + 1, arr, rfl, by push_cast; rfl, by omega, by omega, by rw [hfs]; exact HFL.out, HROW8.out, hasz, by rw [hfs]; exact HATK.out, Lib.hid fun t q ht hq => hcs.out t q (by omega) hq, HG8.out⟩
            case measure => simp [intOf]; omega
          | false =>
            have HPX := Lib.hid hpx
            rw [hpx] at hcall
            clear hpx
            go_wp2_with fail
            refine hcall.mono ?_
            rintro e w8 ⟨rfl, hb8⟩
            have hrow8 := (hb8.block g (Array.getElem?_eq_some_iff.1 HROW7.out).1).trans HROW7.out
            have HROW8 := Lib.hid hrow8
            have HG8 := Lib.hid (HG7.out.trans ⟨hb8.os, hb8.tape, hb8.output, hb8.size, fun k hk _ => hb8.block k hk⟩)
            have g78 := (hb8.block wr.heap.size (Array.getElem?_eq_some_iff.1 G7.out).1).trans G7.out
            have a0 := cells_of_row g78 0 _ rfl
            have a1 := cells_of_row g78 1 _ rfl
            obtain ⟨u0, hu0⟩ : ∃ u, arr[i * 2]? = some u := ⟨_, Array.getElem?_eq_getElem (by omega)⟩
            obtain ⟨u1, hu1⟩ : ∃ u, arr[i * 2 + 1]? = some u := ⟨_, Array.getElem?_eq_getElem (by omega)⟩
            have b0 := cells_of_row hrow8 _ _ hu0
            have b1 := cells_of_row hrow8 _ _ hu1
            have bf : ∀ q, w8.frozen? ⟨g, q, none⟩ = false := fun q => by simp [World.frozen?, hrow8]
            have hi' : (i : Int) < (n : Int) := by omega
            clear hcall hb8 hW7 hrow8 g78 hu0 hu1 y0 y1
            go_wp2_with fail
            have hfs := filt_succ (p := p) HX.out
            rw [HPX.out, if_neg (by simp)] at hfs
            have s1 := heap_setCell_same w8 g (i * 2) _ 122 (.int .i64 x) HROW8.out
            have s2 := heap_setCell_same _ g (i * 2 + 1) _ 122 (.int .i64 y) s1
            refine ⟨⟨i + 1, j + 1, _, by push_cast; rfl, by push_cast; rfl, by omega, by omega, by rw [hfs, List.length_append, HFL.out]; rfl, s2, by simp [hasz], ?_, Lib.hid fun t q ht hq => ?_, ?_⟩, by simp [intOf]; omega⟩
            · rw [hfs, List.flatMap_append, ← HATK.out]
              have := take_two arr.toList (i * 2) (.int .i64 x) (.int .i64 y) (by rw [Array.length_toList]; omega)
              rw [show 2 * (i + 1) = i * 2 + 2 by omega, show 2 * i = i * 2 by omega]
              simpa [encF] using this
            · obtain ⟨h1, h2⟩ := hcs.out t q (by omega) hq
              refine ⟨?_, ?_⟩
              · rw [Array.getElem?_setIfInBounds_ne (by omega), Array.getElem?_setIfInBounds_ne (by omega)]
                exact h1
              · rw [Array.getElem?_setIfInBounds_ne (by omega), Array.getElem?_setIfInBounds_ne (by omega)]
                exact h2
            · exact grown_set (grown_set HG8.out _ _) _ _
        · have hke : j = n := by omega
          subst hke
          have hlt' : ¬ (j : Int) < (j : Int) := by omega
          have hf1 := run_from119 wr g j c i hij hcap
          have hfa : ∀ w, (Instr.sliceAt 119 (.slice (some ⟨g, 0, none⟩) j c) (some (.int .i64 (i : Int))) none none).run Try.prog w = .ok (.slice (some ⟨g, i * 2, none⟩) (j - i) (c - i)) w := fun w => run_from119 w g j c i hij hcap
          have hfb : ∀ w, (Instr.sliceAt 119 (.slice (some ⟨g, 0, none⟩) j c) none (some (.int .i64 (i : Int))) none).run Try.prog w = .ok (.slice (some ⟨g, 0, none⟩) i c) w := fun w => run_to119 w _ j c i (by omega)
          obtain ⟨cur', hcl, hs1, hs2⟩ := run_clear119 wr 0 g (i * 2) (j - i) (c - i) arr hrow (by omega) (by rw [hasz]; omega)
          have HROWE := Lib.hid hrow
          have HS2 := Lib.hid hs2
          clear hs2 hrow
          go_wp2_with fail
          go_ret
          have hL : (L.take j).filter (fun y => !p y) = L.filter fun y => !p y := by rw [List.take_of_length_le (by rw [HN.out]; exact Nat.le_refl _)]
          have hFl := HFL.out
          have hatk := HATK.out
          rw [hL] at hFl hatk
          refine ⟨_, rfl, ?_, ?_, rfl⟩
          · rw [hFl]
            refine ⟨by rw [flat_len encF 2 encF_len, hFl], Or.inr ⟨g, c, cur', rfl, hbase, setRow_heap wr g arr cur' 122 (0, 0) HROWE.out, by omega, HCM.out, by rw [hs1, hasz], ?_⟩⟩
            rw [HS2.out, ← hatk, Nat.mul_comm]
          · exact HGR.out.trans ⟨rfl, rfl, rfl, by simp [World.setRow], fun k _ hne => setRow_else wr g cur' k (fun e => hne (by rw [e]))⟩
end Go.Proofs.Ytddajaikighjlaa
