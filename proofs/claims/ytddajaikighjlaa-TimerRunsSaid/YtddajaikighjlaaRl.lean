/- same 21 of the law TimerRuns. -/
import Derived.Test.YtddajaikighjlaaRj
import Derived.Test.YtddajaikighjlaaRk
import Derived.Test.YtddajaikighjlaaSf
namespace Go.Proofs.Ytddajaikighjlaa
open Go.RowKit Go.Sl Go.Mp Go.Wh

set_option maxRecDepth 100000 in
theorem neq129 (w : World) (a b c d : Int) : (binOp .neq 129 (.agg #[.int .i64 a, .int .i64 b, .int .i64 c, .int .i64 d]) (.agg #[.int .i64 a, .int .i64 b, .int .i64 c, .int .i64 d])).run Try.prog w = .ok (.bool false) w := by
  rw [run_neq_struct, run_equalIn_agg w 9999 129 _ _ (by simp only [Program.fieldsOf, Try.underlying129]) Try.stoodInHeld129]
  simp [Op.eqFields, Program.fieldsOf, Try.underlying129, part, run_equalIn_int w 9998 3 .i64 .i64 _ _ Try.underlying3, run_equalIn_int w 9998 2 .i64 .i64 _ _ Try.underlying2]
theorem timer_at {w : World} {base : Nat} {v : Value} {T : List Tm} (h : w.ownsRow base 129 4 v T.length (T.flatMap encT)) {k : Nat} {t : Tm} (hk : T[k]? = some t) : ∃ g cap, v = .slice (some ⟨g, 0, none⟩) T.length cap ∧ w.cell? ⟨g, k * 4, none⟩ = some (.int .i64 t.id) ∧ w.cell? ⟨g, k * 4 + 1, none⟩ = some (.int .i64 t.when) ∧
    w.cell? ⟨g, k * 4 + 2, none⟩ = some (.int .i64 t.iv) ∧ w.cell? ⟨g, k * 4 + 3, none⟩ = some (.int .i64 t.ord) := by
  have hlt := (List.getElem?_eq_some_iff.1 hk).1
  obtain ⟨g, cap, rfl, -, hc⟩ := own_form2 h (by omega)
  have hg : ∀ j, j < 4 → (T.flatMap encT)[k * 4 + j]? = (encT t)[j]? := fun j hj => by
    rw [flat_get encT 4 encT_len (by omega), show (k * 4 + j) / 4 = k by omega, show (k * 4 + j) % 4 = j by omega, hk]
    rfl
  exact ⟨g, cap, rfl, hc (k * 4) _ (hg 0 (by omega)), hc (k * 4 + 1) _ (hg 1 (by omega)), hc (k * 4 + 2) _ (hg 2 (by omega)), hc (k * 4 + 3) _ (hg 3 (by omega))⟩

set_option maxRecDepth 100000 in
set_option maxHeartbeats 8000000 in
theorem same_calls (R : Refs) (X : Nat) (W : Wh) (v : Value) (ord : Int) (L : List Rt) (w : World) (h : WhAt R w X W) (hc : Cpl W L) (hv : SlR w v L) :
    Calls Try.prog 21 #[.pointer (some ⟨X, 0, none⟩), rwV W.now v ord] w fun e w' => e = .returned (.bool true) ∧ Below w.heap.size w w' := by
  obtain ⟨a, c, rfl⟩ := hv.form
  obtain ⟨n, hn2⟩ : ∃ n, L.length = n := ⟨_, rfl⟩
  rw [hn2] at hv ⊢
  have HN := Lib.hid hn2
  have HV := Lib.hid hv
  have H := Lib.hid h
  have HC := Lib.hid hc
  have hlen : W.tm.length = n := hc.len.trans hn2
  have hnx := hc.next
  have hn1000 : n ≤ 1000 := by have := hc.ok.len; omega
  have hT := hc.timers
  have hTl : (L.map (·.t)).length = n := by simp [hn2]
  have hnow := fun (w2 : World) (hb : Below w.heap.size w w2) => now_calls R X W w2 (h.below hb)
  have htm := fun (w2 : World) (hb : Below w.heap.size w w2) => timers_calls R X W w2 (h.below hb) hc.ok.inv hc.ok.len
  have hnxt := fun (w2 : World) (hb : Below w.heap.size w w2) => next_calls R X W w2 (h.below hb) hc.ok.inv hc.ok.len
  have hsl := fun (id : Int) (w2 : World) (hb : Below w.heap.size w w2) => slot_calls R X W id w2 (h.below hb)
  have hrs := fun (id : Int) (w2 : World) (hb : Below w.heap.size w w2) => rslot_calls W.now (.slice a n c) ord L id w2 (hv.below hb) hc.ok.inv.now (fun e he => ⟨(hc.sets e he).1, (hc.sets e he).2, hc.later he, (hc.ok.inv.tm _ (hc.tm he)).2.2.1⟩) (by omega)
  have hrn := fun (w2 : World) (hb : Below w.heap.size w w2) => rnext_calls W.now (.slice a n c) ord L w2 (hv.below hb)
  have hslot := fun (e : Rt) (he : e ∈ L) => hc.slot he
  rw [hlen, hT] at htm
  obtain ⟨nx, hnx2⟩ : ∃ nx, rnextS L = nx := ⟨_, rfl⟩
  rw [hnx, hnx2] at hnxt
  rw [hnx2] at hrn
  obtain ⟨now, hnw⟩ : ∃ now, W.now = now := ⟨_, rfl⟩
  rw [hnw] at hnow hrs hrn hslot ⊢
  obtain ⟨nx1, nx2⟩ := nx
  simp only at hnxt hrn
  unfold rwV at hrs hrn ⊢
  have HNOW := Lib.hid hnow
  have HTM := Lib.hid htm
  have HNX := Lib.hid hnxt
  have HSL := Lib.hid hsl
  have HRS := Lib.hid hrs
  have HRN := Lib.hid hrn
  have HSLOT := Lib.hid hslot
  have HTL := Lib.hid hTl
  obtain ⟨w1, hw1⟩ : ∃ w1, w.alloc (.cells #[.int .i64 now, .slice a n c, .int .i64 ord] 40) = w1 := ⟨_, rfl⟩
  have hb1 : Below w.heap.size w w1 := by rw [← hw1]; exact (Below.refl w.heap.size w).alloc (Nat.le_refl _) _
  have hz1 : w1.heap.size = w.heap.size + 1 := by rw [← hw1]; simp
  have g0 : w1.heap[w.heap.size]? = some (.cells #[.int .i64 now, .slice a n c, .int .i64 ord] 40 (0, 0)) := by rw [← hw1]; exact heap_alloc_new _ _
  have B1 := Lib.hid hb1
  have Z1 := Lib.hid hz1
  have G0 := Lib.hid g0
  have hxl : X < w.heap.size := h.foot_lt (Or.inl rfl)
  obtain ⟨x0, x1, x2, xf⟩ := row3 g0
  clear hnow htm hnxt hsl hrs hrn hslot hTl hlen hnx hnx2 hT hn2 h hc hv hb1 hz1 g0 hnw
  have hneq := neq129
  go_enter Try.func21, Try.ntmps21
  go_wp2_with fail
  have BD := Lib.hid (B1.out.drew)
  go_region_held3 (fun w' => w'.cell? ⟨w.heap.size, 0, none⟩ = some (.int .i64 now) ∧ w'.cell? ⟨w.heap.size, 1, none⟩ = some (.slice a n c)) (go_keep) (first
    | (go_at_call 44; refine (HNOW.out _ BD.out).mono ?_; rintro e w2 ⟨rfl, rfl⟩)
    | (go_at_call 45; refine (HTM.out _ BD.out).mono ?_; rintro e w3 ⟨v3, rfl, ho, hb3⟩; obtain ⟨ta, tc, rfl⟩ := own_form ho; have hbb := BD.out.trans (hb3.mono BD.out.size); have hr3 := row_n2 hb3 G0.out; obtain ⟨p0, p1, p2, pf⟩ := row3 hr3; have HB3 := Lib.hid hbb; have HR3 := Lib.hid hr3; clear ho hb3 hbb hr3))
  clear hw1 x0 x1 x2 xf p0 p1 p2 pf
  go_wp2_with fail
  refine (HTM.out _ HB3.out).mono ?_
  rintro e w4 ⟨v4, rfl, ho, hb4⟩
  obtain ⟨ta2, tc2, rfl⟩ := own_form ho
  have HO := Lib.hid ho
  have HB4 := Lib.hid (HB3.out.trans (hb4.mono HB3.out.size))
  have HR4 := Lib.hid (row_n2 hb4 HR3.out)
  clear ho hb4
  go_wp2_with fail
  go_loopw [35] (fun i wr => ∃ k : Nat, k ≤ n ∧ i = .int .i64 (k : Int) ∧ Below w4.heap.size w4 wr) (fun i _ => n - (intOf i).toNat)
  case atStart => exact ⟨0, Nat.zero_le _, rfl, Below.refl _ _⟩
  case round =>
    obtain ⟨k, hk, rfl, hbel⟩ := hrel
    have HB := Lib.hid hbel
    have HBW := Lib.hid (HB4.out.trans (hbel.mono HB4.out.size))
    have HR5 := Lib.hid (row_n2 hbel HR4.out)
    obtain ⟨p0, p1, p2, -⟩ := row3 HR5.out
    clear hbel
    by_cases hlt : k < n
    · obtain ⟨e, he⟩ : ∃ e, L[k]? = some e := ⟨_, List.getElem?_eq_getElem (by have := HN.out; omega)⟩
      have hv0 := HV.out
      rw [← HN.out] at hv0
      obtain ⟨g, o, cap, hf, y0, y1, y2, y3, y4⟩ := hv0.at he
      rw [HN.out] at hf
      simp only [Value.slice.injEq] at hf
      obtain ⟨rfl, -, rfl⟩ := hf
      have ho := HO.out
      rw [← HTL.out] at ho
      obtain ⟨g2, cap2, hf2, t0, t1, t2, t3⟩ := timer_at ho (k := k) (t := e.t) (by rw [List.getElem?_map, he]; rfl)
      rw [HTL.out] at hf2
      simp only [Value.slice.injEq] at hf2
      obtain ⟨rfl, -, rfl⟩ := hf2
      replace y0 := HBW.out.at_cell y0
      replace y1 := HBW.out.at_cell y1
      replace y2 := HBW.out.at_cell y2
      replace y3 := HBW.out.at_cell y3
      replace y4 := HBW.out.at_cell y4
      replace t0 := HB.out.at_cell t0
      replace t1 := HB.out.at_cell t1
      replace t2 := HB.out.at_cell t2
      replace t3 := HB.out.at_cell t3
      have hsl := HSLOT.out e (List.mem_of_getElem? he)
      obtain ⟨rs, hrs2⟩ : ∃ rs, rslotS L now e.t.id = rs := ⟨_, rfl⟩
      rw [hrs2] at hsl
      have gl := World.block_lt_of_cell? wr _ y0
      have gl2 := World.block_lt_of_cell? wr _ t0
      have gn : ¬ g = wr.heap.size := Nat.ne_of_lt gl
      have gn1 : ¬ g = wr.heap.size + 1 := Nat.ne_of_lt (Nat.lt_succ_of_lt gl)
      have gn2 : ¬ g2 = wr.heap.size := Nat.ne_of_lt gl2
      have wl : w.heap.size < wr.heap.size := World.block_lt_of_cell? wr _ p0
      have wn1 : ¬ w.heap.size = wr.heap.size := Nat.ne_of_lt wl
      have wn2 : ¬ w.heap.size = wr.heap.size + 1 := Nat.ne_of_lt (Nat.lt_succ_of_lt wl)
      obtain ⟨⟨⟨id, wh, iv, eo⟩, set⟩, heq⟩ : ∃ e0, e = e0 := ⟨_, rfl⟩
      rw [heq] at y0 y1 y2 y3 y4 t0 t1 t2 t3 hsl hrs2
      simp only at y0 y1 y2 y3 y4 t0 t1 t2 t3 hsl hrs2
      obtain ⟨W6, hW6⟩ : ∃ W6, wr.alloc (.cells #[.int .i64 id, .int .i64 wh, .int .i64 iv, .int .i64 eo] 129) = W6 := ⟨_, rfl⟩
      have hb6 : Below wr.heap.size wr W6 := by rw [← hW6]; exact (Below.refl _ _).alloc (Nat.le_refl _) _
      have g6 : W6.heap[wr.heap.size]? = some (.cells #[.int .i64 id, .int .i64 wh, .int .i64 iv, .int .i64 eo] 129 (0, 0)) := by rw [← hW6]; exact heap_alloc_new _ _
      obtain ⟨W7, hW7⟩ : ∃ W7, W6.alloc (.cells #[.int .i64 id, .int .i64 wh, .int .i64 iv, .int .i64 eo, .int .i64 set] 151) = W7 := ⟨_, rfl⟩
      have hb7 : Below W6.heap.size W6 W7 := by rw [← hW7]; exact (Below.refl _ _).alloc (Nat.le_refl _) _
      have g7 : W7.heap[W6.heap.size]? = some (.cells #[.int .i64 id, .int .i64 wh, .int .i64 iv, .int .i64 eo, .int .i64 set] 151 (0, 0)) := by rw [← hW7]; exact heap_alloc_new _ _
      have g67 := row_n2 hb7 g6
      have a0 := cells_of_row g6 0 _ rfl
      have b0 := cells_of_row g67 0 _ rfl
      have s1 := hb6.at_cell p1
      have v0 := (hb6).at_cell y0
      have v1 := (hb6).at_cell y1
      have v2 := (hb6).at_cell y2
      have v3 := (hb6).at_cell y3
      have v4 := (hb6).at_cell y4
      have G6 := Lib.hid g67
      have G7 := Lib.hid g7
      have HB7 := Lib.hid (hb6.then hb7)
      have hcall := HSL.out id W7 (HBW.out.then (hb6.then hb7))
      rw [hsl] at hcall
      have HRS2 := Lib.hid hrs2
      have hlt' : (k : Int) < (n : Int) := by omega
      clear he heq hsl hv0 ho g6 g7 g67 hb6 hb7 hrs2
      have HR7 := Lib.hid (row_n2 HB7.out HR5.out)
      go_wp2_with fail
      refine hcall.mono ?_
      rintro e w8 ⟨rfl, hb8⟩
      have HB8 := Lib.hid ((HBW.out.then HB7.out).then hb8)
      have HBQ8 := Lib.hid (HB7.out.then hb8)
      have HR8 := Lib.hid (row_n2 hb8 HR7.out)
      have G68 := Lib.hid (row_n2 hb8 G6.out)
      have G78 := Lib.hid (row_n2 hb8 G7.out)
      obtain ⟨r0, r1, r2, -⟩ := row3 HR8.out
      have f0 := cells_of_row G78.out 0 _ rfl
      have hcall2 := HRS.out id w8 HB8.out
      rw [HRS2.out] at hcall2
      clear hcall hb8 y0 y1 y2 y3 y4 t0 t1 t2 t3 s1 v0 v1 v2 v3 v4 a0 b0 hW6 hW7 gl gl2 gn gn1 gn2 wl wn1 wn2 p0 p1 p2
      go_wp2_with fail
      refine hcall2.mono ?_
      rintro e w9 ⟨rfl, hb9⟩
      have G69 := row_n2 hb9 G68.out
      have G79 := row_n2 hb9 G78.out
      have f0 := cells_of_row G69 0 _ rfl
      have f1 := cells_of_row G69 1 _ rfl
      have f2 := cells_of_row G69 2 _ rfl
      have f3 := cells_of_row G69 3 _ rfl
      have h0 := cells_of_row G79 0 _ rfl
      have h1 := cells_of_row G79 1 _ rfl
      have h2 := cells_of_row G79 2 _ rfl
      have h3 := cells_of_row G79 3 _ rfl
      have HB9 := Lib.hid (HB.out.trans ((HBQ8.out.then hb9).mono HB.out.size))
      clear hcall2 hb9 G69 G79 r0 r1 r2
      go_wp2_with fail
      go_roundw
      case rel => exact ⟨k + 1, by omega, by go_num, HB9.out⟩
      case measure => simp [intOf]; omega
    · have hke : k = n := by omega
      subst hke
      have hlt' : ¬ (k : Int) < (k : Int) := by omega
      have hcall := HNX.out wr HBW.out
      clear p0 p1 p2
      go_wp2_with fail
      refine hcall.mono ?_
      rintro e w5 ⟨rfl, hb5⟩
      have HB5 := Lib.hid (HBW.out.then hb5)
      have HR6 := Lib.hid (row_n2 hb5 HR5.out)
      obtain ⟨p0, p1, p2, -⟩ := row3 HR6.out
      have hcall2 := HRN.out w5 HB5.out
      clear hcall hb5
      go_wp2_with fail
      refine hcall2.mono ?_
      rintro e w6 ⟨rfl, hb6⟩
      have HB6 := Lib.hid (HB5.out.then hb6)
      clear hcall2 hb6
      go_wp2_with fail
      go_ret
      exact ⟨by cases nx2 <;> rfl, HB6.out⟩
end Go.Proofs.Ytddajaikighjlaa
