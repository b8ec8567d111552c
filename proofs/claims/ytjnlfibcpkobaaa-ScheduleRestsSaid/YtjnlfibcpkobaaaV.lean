/- Results in cells; fresh states that grow; Submit. -/
import Derived.Test.YtjnlfibcpkobaaaU
import Derived.Test.YtjnlfibcpkobaaaPa
import Derived.Maps.AppendAt
namespace Go.Proofs.Ytjnlfibcpkobaaa
open Go.RowKit Go.Sl Go.Sched

theorem results_ct {P : Program} {fn : Func} {p u1 : Tmp} {ty : TypeId} (h : fn.results = #[.cell p ty, .tmp u1]) (tmps : Array Value) (w : World) (g : Nat) (t : TypeId) (cs : Array Value) (fr : Nat × Nat) (d : TypeDesc)
    (hp : tmps.getD p undef = .pointer (some ⟨g, 0, none⟩)) (hg : w.heap[g]? = some (.cells cs t fr))
    (hu : P.underlying ty = some d) (hd : (match d with | .struct _ | .array _ _ => true | _ => false) = true) (hi : (P.info? ty).map (·.size) = some cs.size) :
    (results fn tmps).run P w = .ok (.tuple #[.agg cs, tmps.getD u1 undef]) w := by
  have hp' : tmps[p]?.getD undef = .pointer (some ⟨g, 0, none⟩) := by simpa using hp
  simp [results, h, hp', asAddr, run_loadVar_row w g t ty cs fr d hg hu hd hi]
theorem results_ctt {P : Program} {fn : Func} {p u1 u2 : Tmp} {ty : TypeId} (h : fn.results = #[.cell p ty, .tmp u1, .tmp u2]) (tmps : Array Value) (w : World) (g : Nat) (t : TypeId) (cs : Array Value) (fr : Nat × Nat) (d : TypeDesc)
    (hp : tmps.getD p undef = .pointer (some ⟨g, 0, none⟩)) (hg : w.heap[g]? = some (.cells cs t fr))
    (hu : P.underlying ty = some d) (hd : (match d with | .struct _ | .array _ _ => true | _ => false) = true) (hi : (P.info? ty).map (·.size) = some cs.size) :
    (results fn tmps).run P w = .ok (.tuple #[.agg cs, tmps.getD u1 undef, tmps.getD u2 undef]) w := by
  have hp' : tmps[p]?.getD undef = .pointer (some ⟨g, 0, none⟩) := by simpa using hp
  simp [results, h, hp', asAddr, run_loadVar_row w g t ty cs fr d hg hu hd hi]
theorem results_cct {P : Program} {fn : Func} {p q u2 : Tmp} {ty ty2 : TypeId} (h : fn.results = #[.cell p ty, .cell q ty2, .tmp u2]) (tmps : Array Value) (w : World) (g : Nat) (t : TypeId) (cs : Array Value) (fr : Nat × Nat) (d : TypeDesc)
    (hp : tmps.getD p undef = .pointer (some ⟨g, 0, none⟩)) (hg : w.heap[g]? = some (.cells cs t fr))
    (hu : P.underlying ty = some d) (hd : (match d with | .struct _ | .array _ _ => true | _ => false) = true) (hi : (P.info? ty).map (·.size) = some cs.size)
    (g2 : Nat) (t2 : TypeId) (cs2 : Array Value) (fr2 : Nat × Nat) (d2 : TypeDesc)
    (hp2 : tmps.getD q undef = .pointer (some ⟨g2, 0, none⟩)) (hg2 : w.heap[g2]? = some (.cells cs2 t2 fr2))
    (hu2 : P.underlying ty2 = some d2) (hd2 : (match d2 with | .struct _ | .array _ _ => true | _ => false) = true) (hi2 : (P.info? ty2).map (·.size) = some cs2.size) :
    (results fn tmps).run P w = .ok (.tuple #[.agg cs, .agg cs2, tmps.getD u2 undef]) w := by
  have hp' : tmps[p]?.getD undef = .pointer (some ⟨g, 0, none⟩) := by simpa using hp
  have hp2' : tmps[q]?.getD undef = .pointer (some ⟨g2, 0, none⟩) := by simpa using hp2
  simp [results, h, hp', hp2', asAddr, run_loadVar_row w g t ty cs fr d hg hu hd hi, run_loadVar_row w g2 t2 ty2 cs2 fr2 d2 hg2 hu2 hd2 hi2]

theorem Fresh.rebox {base P g cap : Nat} {qs : List Value} {injV : Value} {s : St} {w : World} (h : Fresh base P g cap qs injV s w) :
    Fresh base w.heap.size g cap qs injV s (w.alloc (.cells #[.slice (some ⟨g, 0, none⟩) s.ws.length cap, injV] 26)) := by
  have hb : Below w.heap.size w (w.alloc (.cells #[.slice (some ⟨g, 0, none⟩) s.ws.length cap, injV] 26)) := (Below.refl _ _).alloc (Nat.le_refl _) _
  have h2 := h.below hb
  exact ⟨⟨h.own.lt.2.2, heap_alloc_new _ _, h2.own.row, h2.own.lq, h2.own.inj, h2.own.qu⟩, h2.injO, h2.quO, h2.apart⟩
theorem ownBlock_cases (v : Value) (row : Option Nat) (h : ∀ b, v.ownBlock = some b → row ≠ some b) : v.ownBlock = none ∨ v.ownBlock ≠ row := by
  cases hv : v.ownBlock with
  | none => exact Or.inl rfl
  | some b => exact Or.inr fun e => h b hv e.symm

/-- A task comes to the back of what lies outside. -/
theorem Fresh.pushInj {base P g cap : Nat} {qs : List Value} {injV v' : Value} {s : St} {w w' : World} (h : Fresh base P g cap qs injV s w) {q : List Int} {n : Nat} (hg : w.grownBy w' injV.ownBlock) (ho : w'.ownsRow base 3 1 v' n (q.map (Value.int .i64))) :
    OwnSt base P g cap qs v' { s with inj := q } (w'.setCell ⟨P, 1, none⟩ v') := by
  obtain ⟨hbg, cur, hgc⟩ := h.own.block
  have hbox := h.own.box
  have hP : w'.heap[P]? = some (.cells #[.slice (some ⟨g, 0, none⟩) s.ws.length cap, injV] 26 (0, 0)) := by
    rw [hg.block P (Array.getElem?_eq_some_iff.1 hbox).1 (fun e => owns_far h.injO hbox (by decide) e.symm)]
    exact hbox
  have hrow := h.own.row.kept hg (Or.inr (fun e => owns_far h.injO hgc (by decide) (e.symm.trans (by simp [Value.ownBlock]))))
  have hqu : ∀ i, i < s.ws.length → TyI (base ≤ ·) w' (qs.getD i undef) (s.ws.getD i wk0).q := fun i hi =>
    TyI.of_owns ((h.quO i hi).kept hg (ownBlock_cases _ _ fun b hb => (h.apart i hi b hb).1))
  refine ⟨h.own.bP, ?_, ?_, h.own.lq, (TyI.of_owns ho).setCell v' hP (by decide), fun i hi => (hqu i hi).setCell v' hP (by decide)⟩
  · have := heap_setCell_same w' P 1 _ 26 v' hP
    rw [this]
    simp
  · refine ownsRow_setCell_other hrow ?_ _
    simp only [Value.ownBlock, ne_eq, Option.some.injEq]
    exact fun e => h.own.ne e.symm
/-- A task comes to the back of a worker's queue. -/
theorem Fresh.pushQ {base P g cap : Nat} {qs : List Value} {injV v' : Value} {s : St} {w w' : World} (h : Fresh base P g cap qs injV s w) {i : Nat} (hi : i < s.ws.length) {q : List Int} {n : Nat} (hg : w.grownBy w' (qs.getD i undef).ownBlock) (ho : w'.ownsRow base 3 1 v' n (q.map (Value.int .i64))) :
    OwnSt base P g cap (qs.set i v') injV (upd s i fun k => { k with q := q }) (w'.setCell ⟨g, i * 4, none⟩ v') := by
  obtain ⟨hbg, cur, hgc⟩ := h.own.block
  have hbox := h.own.box
  have hqi := h.quO i hi
  have hP : w'.heap[P]? = some (.cells #[.slice (some ⟨g, 0, none⟩) s.ws.length cap, injV] 26 (0, 0)) := by
    rw [hg.block P (Array.getElem?_eq_some_iff.1 hbox).1 (fun e => owns_far hqi hbox (by decide) e.symm)]
    exact hbox
  have hG : w'.heap[g]? = some (.cells cur 42 (0, 0)) := by
    rw [hg.block g (Array.getElem?_eq_some_iff.1 hgc).1 (fun e => owns_far hqi hgc (by decide) e.symm)]
    exact hgc
  have hrow := h.own.row.kept hg (Or.inr (fun e => owns_far hqi hgc (by decide) (e.symm.trans (by simp [Value.ownBlock]))))
  have hinj : TyI (base ≤ ·) w' injV s.inj := TyI.of_owns (h.injO.kept hg (ownBlock_cases _ _ fun b hb e => (h.apart i hi b e).1 hb))
  refine ⟨h.own.bP, ?_, ?_, by simp [upd_len, h.own.lq], hinj.setCell v' hG (by decide), fun j hj => ?_⟩
  · rw [Below.heap_setCell w' _ v' P h.own.ne, upd_len]; exact hP
  · rw [upd_len]
    show World.ownsRow _ _ _ _ _ _ (wcells (qs.set i v') (s.ws.set i _))
    rw [wcells_setQ qs s.ws i h.own.lq hi v' q]
    exact (hrow.stored (i * 4) v').1
  · rw [upd_len] at hj
    simp only [upd, getD_set, h.own.lq, hi, and_true]
    by_cases e : j = i
    · subst e
      simpa using (TyI.of_owns ho).setCell v' hG (by decide)
    · simp only [e, if_false]
      refine (TyI.of_owns ((h.quO j hj).kept hg (ownBlock_cases _ _ fun b hb e2 => ?_))).setCell v' hG (by decide)
      exact (h.apart i hi b e2).2 j hj e hb

theorem StV.empty (w : World) : StV w (.slice none 0 0) (.slice none 0 0) [] ⟨[], []⟩ := ⟨⟨rfl, SlV.nil w 4⟩, SlI.nil w, fun i hi => by simp at hi⟩

/-- A state as its two values read, its blocks of their types. -/
structure StT (A : Nat → Prop) (w : World) (wsV injV : Value) (qs : List Value) (s : St) : Prop where
  st : StV w wsV injV qs s
  ws : ∀ ad n c, wsV = .slice (some ad) n c → ∃ cur, w.heap[ad.block]? = some (.cells cur 42 (0, 0))
  inj : TyI A w injV s.inj
  qu : ∀ i, i < s.ws.length → TyI A w (qs.getD i undef) (s.ws.getD i wk0).q
theorem StT.below {A : Nat → Prop} {w w' : World} {wsV injV : Value} {qs : List Value} {s : St} (h : StT A w wsV injV qs s) (hb : Below w.heap.size w w') : StT A w' wsV injV qs s :=
  ⟨h.st.below hb, fun ad n c he => by
    obtain ⟨cur, hc⟩ := h.ws ad n c he
    exact ⟨cur, by rw [hb.block _ (Array.getElem?_eq_some_iff.1 hc).1]; exact hc⟩, h.inj.below hb, fun i hi => (h.qu i hi).below hb⟩
theorem StT.setCell {A : Nat → Prop} {w : World} {wsV injV : Value} {qs : List Value} {s : St} (h : StT A w wsV injV qs s) {a : Addr} (u : Value) {cur : Array Value} {e : TypeId} (ha : w.heap[a.block]? = some (.cells cur e (0, 0))) (h3 : e ≠ 3) (h42 : e ≠ 42) : StT A (w.setCell a u) wsV injV qs s := by
  have key : ∀ ad k c, wsV = .slice (some ad) k c → ad.block ≠ a.block := by
    intro ad k c hv hb
    obtain ⟨c2, h2⟩ := h.ws ad k c hv
    rw [hb, ha] at h2
    simp only [Option.some.injEq, Obj.cells.injEq] at h2
    exact h42 h2.2.1
  refine ⟨⟨⟨h.st.ws.1, SlV.setCell h.st.ws.2 u key⟩, (h.inj.setCell u ha h3).1, fun i hi => ((h.qu i hi).setCell u ha h3).1⟩, fun ad k c hv => ?_, h.inj.setCell u ha h3, fun i hi => (h.qu i hi).setCell u ha h3⟩
  obtain ⟨c2, h2⟩ := h.ws ad k c hv
  exact ⟨c2, by rw [Below.heap_setCell w a u ad.block (key ad k c hv)]; exact h2⟩
theorem OwnSt.stT {base P g cap : Nat} {qs : List Value} {injV : Value} {s : St} {w : World} (h : OwnSt base P g cap qs injV s w) : StT (base ≤ ·) w (.slice (some ⟨g, 0, none⟩) s.ws.length cap) injV qs s :=
  ⟨h.stV, fun ad n c he => by cases he; exact h.block.2, h.inj, h.qu⟩
theorem tyI_nil (A : Nat → Prop) (w : World) : TyI A w (.slice none 0 0) [] := ⟨SlI.nil w, fun ad n c he => (by cases he), fun ad n c he => by cases he⟩
theorem StT.empty (A : Nat → Prop) (w : World) : StT A w (.slice none 0 0) (.slice none 0 0) [] ⟨[], []⟩ := ⟨StV.empty w, fun ad n c he => (by cases he), tyI_nil A w, fun i hi => by simp at hi⟩

theorem StT.imp {A A' : Nat → Prop} {w : World} {wsV injV : Value} {qs : List Value} {s : St} (h : StT A w wsV injV qs s) (k : ∀ g, g < w.heap.size → A g → A' g) : StT A' w wsV injV qs s :=
  ⟨h.st, h.ws, h.inj.imp k, fun i hi => (h.qu i hi).imp k⟩
/-- What Submit does. -/
def submitS (s : St) (t : Int) : St × Int × Int :=
  if valid s = false then (⟨[], []⟩, 0, 14) else if t < 0 then (⟨[], []⟩, 0, 1) else if putE s t ≠ 0 then (⟨[], []⟩, 0, putE s t)
  else ((wake { s with inj := s.inj ++ [t] }).1, (wake { s with inj := s.inj ++ [t] }).2, 0)

theorem wake_len (s : St) : (wake s).1.ws.length = s.ws.length := by
  unfold wake
  split
  · exact upd_len _ _ _
  · rfl
theorem cell_one_at (w : World) (n : Nat) (h : w.heap.size = n) (x : Value) (t : TypeId) : ∀ j u, [x][j]? = some u → (w.alloc (.cells #[x] t)).cell? ((⟨n, 0, none⟩ : Addr).add j) = some u := by
  subst h
  exact cell_one_new w x t

set_option maxRecDepth 100000 in
set_option maxHeartbeats 4000000 in
theorem submit_calls (wsV injV : Value) (qs : List Value) (s : St) (w : World) (h : StV w wsV injV qs s) (hs : small s) (t : Int) :
    Calls Try.prog 12 #[.agg #[wsV, injV], .int .i64 t] w fun e w' => ∃ a b qs', e = .returned (.tuple #[.agg #[a, b], .int .i64 (submitS s t).2.1, .int .i64 (submitS s t).2.2]) ∧ StT (w.heap.size ≤ ·) w' a b qs' (submitS s t).1 ∧ Below w.heap.size w w' := by
  have hb2 : Below w.heap.size w ((w.alloc (.cells #[wsV, injV] 26)).alloc z26) := ((Below.refl _ _).alloc (Nat.le_refl _) _).alloc (by simp) _
  have hr0 : ((w.alloc (.cells #[wsV, injV] 26)).alloc z26).heap[w.heap.size + 1]? = some z26 := by
    have := heap_alloc_new (w.alloc (.cells #[wsV, injV] 26)) z26
    simpa using this
  have c0 : ((w.alloc (.cells #[wsV, injV] 26)).alloc z26).cell? ⟨w.heap.size, 0, none⟩ = some wsV := by
    rw [World.cell?_alloc_past _ _ _ (by simp), World.cell?_alloc_at _ _ _ _ (by simp)]; rfl
  have c1 : ((w.alloc (.cells #[wsV, injV] 26)).alloc z26).cell? ⟨w.heap.size, 1, none⟩ = some injV := by
    rw [World.cell?_alloc_past _ _ _ (by simp), World.cell?_alloc_at _ _ _ _ (by simp)]; rfl
  have hval := valid_calls wsV injV qs s _ (h.below hb2) hs
  have nR : ¬ w.heap.size + 1 = w.heap.size := by omega
  have nR2 : ¬ w.heap.size = w.heap.size + 1 := by omega
  by_cases hv : valid s = false
  · have hC : submitS s t = (⟨[], []⟩, 0, 14) := by unfold submitS; rw [if_pos hv]
    rw [hC]
    rw [hv] at hval
    simp only [Bool.false_eq_true, if_false] at hval
    clear hC hv h hs
    go_enter Try.func12, Try.ntmps12
    go_wp2_with fail
    refine hval.mono ?_
    rintro e w1 ⟨rfl, hb1⟩
    obtain ⟨hr1, p0, p1, pf⟩ := keep26 hb1 hr0
    replace c0 := hb1.at_cell c0
    replace c1 := hb1.at_cell c1
    have R1 := Lib.hid hr1
    have B1 := Lib.hid (hb2.then hb1)
    clear hr1 hr0 hb1 hb2 hval
    go_wp2_with fail
    have z1 := heap_setCell_same w1 (w.heap.size + 1) 0 _ 26 (.slice none 0 0) R1.out
    have z2 := heap_setCell_same _ (w.heap.size + 1) 1 _ 26 (.slice none 0 0) z1
    refine bodyPost_ret (results_ctt rfl _ _ (w.heap.size + 1) 26 _ (0, 0) _ rfl z2 Try.underlying26 rfl size26) rfl ?_
    exact ⟨.slice none 0 0, .slice none 0 0, [], rfl, StT.empty _ _, (B1.out.setCell (show w.heap.size ≤ w.heap.size + 1 by omega) _).setCell (show w.heap.size ≤ w.heap.size + 1 by omega) _⟩
  have hv2 : valid s = true := by simpa using hv
  rw [hv2] at hval
  simp only [if_true] at hval
  by_cases ht : t < 0
  · have hC : submitS s t = (⟨[], []⟩, 0, 1) := by unfold submitS; rw [if_neg hv, if_pos ht]
    rw [hC]
    clear hC hv hv2 h hs
    go_enter Try.func12, Try.ntmps12
    go_wp2_with fail
    refine hval.mono ?_
    rintro e w1 ⟨rfl, hb1⟩
    obtain ⟨hr1, p0, p1, pf⟩ := keep26 hb1 hr0
    have R1 := Lib.hid hr1
    have B1 := Lib.hid (hb2.then hb1)
    clear hr1 hr0 hb1 hb2 hval c0 c1
    go_wp2_with fail
    have z1 := heap_setCell_same w1 (w.heap.size + 1) 0 _ 26 (.slice none 0 0) R1.out
    have z2 := heap_setCell_same _ (w.heap.size + 1) 1 _ 26 (.slice none 0 0) z1
    refine bodyPost_ret (results_ctt rfl _ _ (w.heap.size + 1) 26 _ (0, 0) _ rfl z2 Try.underlying26 rfl size26) rfl ?_
    exact ⟨.slice none 0 0, .slice none 0 0, [], rfl, StT.empty _ _, (B1.out.setCell (show w.heap.size ≤ w.heap.size + 1 by omega) _).setCell (show w.heap.size ≤ w.heap.size + 1 by omega) _⟩
  have hst := h
  by_cases hp : putE s t ≠ 0
  · have hC : submitS s t = (⟨[], []⟩, 0, putE s t) := by unfold submitS; rw [if_neg hv, if_neg ht, if_pos hp]
    rw [hC]
    generalize hpe : putE s t = pe at *
    have PE := Lib.hid hpe
    clear hC hv hv2 h hpe
    go_enter Try.func12, Try.ntmps12
    go_wp2_with fail
    refine hval.mono ?_
    rintro e w1 ⟨rfl, hb1⟩
    obtain ⟨hr1, p0, p1, pf⟩ := keep26 hb1 hr0
    replace c0 := hb1.at_cell c0
    replace c1 := hb1.at_cell c1
    have ST := Lib.hid (hst.below (hb2.then hb1))
    have R1 := Lib.hid hr1
    have B1 := Lib.hid (hb2.then hb1)
    clear hr1 hr0 hb1 hb2 hval hst p0 p1 pf
    go_wp2_with fail
    refine (put_calls wsV injV qs s _ ST.out hs t).mono ?_
    rintro e w2 ⟨rfl, hb3⟩
    obtain ⟨hr1, p0, p1, pf⟩ := keep26 hb3 R1.out
    replace R1 := Lib.hid hr1
    replace B1 := Lib.hid (B1.out.then hb3)
    rw [PE.out]
    clear hr1 hb3 c0 c1 ST hs
    go_wp2_with fail
    have z1 := heap_setCell_same w2 (w.heap.size + 1) 0 _ 26 (.slice none 0 0) R1.out
    have z2 := heap_setCell_same _ (w.heap.size + 1) 1 _ 26 (.slice none 0 0) z1
    refine bodyPost_ret (results_ctt rfl _ _ (w.heap.size + 1) 26 _ (0, 0) _ rfl z2 Try.underlying26 rfl size26) rfl ?_
    exact ⟨.slice none 0 0, .slice none 0 0, [], rfl, StT.empty _ _, (B1.out.setCell (show w.heap.size ≤ w.heap.size + 1 by omega) _).setCell (show w.heap.size ≤ w.heap.size + 1 by omega) _⟩
  have hp0 : putE s t = 0 := by simpa using hp
  have hC : submitS s t = ((wake { s with inj := s.inj ++ [t] }).1, (wake { s with inj := s.inj ++ [t] }).2, 0) := by unfold submitS; rw [if_neg hv, if_neg ht, if_neg hp]
  rw [hC]
  have hok := (valid_iff s).1 hv2
  have h0 : 0 < s.ws.length := hok.n1
  have h64 := hok.n64
  have hfew := hok.few
  have hij := inj_le_tasks s
  have PE := Lib.hid hp0
  clear hC hv hv2 h hp0 hp hok
  obtain ⟨i0, hif, hz0, hz1, hz2⟩ := info_parts info3
  go_enter Try.func12, Try.ntmps12
  go_wp2_with fail
  refine hval.mono ?_
  rintro e w1 ⟨rfl, hb1⟩
  obtain ⟨hr1, p0, p1, pf⟩ := keep26 hb1 hr0
  replace c0 := hb1.at_cell c0
  replace c1 := hb1.at_cell c1
  have ST := Lib.hid (hst.below (hb2.then hb1))
  have R1 := Lib.hid hr1
  have B1 := Lib.hid (hb2.then hb1)
  clear hr1 hr0 hb1 hb2 hval hst p0 p1 pf
  go_wp2_with fail
  refine (put_calls wsV injV qs s _ ST.out hs t).mono ?_
  rintro e w2 ⟨rfl, hb3⟩
  replace R1 := Lib.hid (keep26 hb3 R1.out).1
  replace B1 := Lib.hid (B1.out.then hb3)
  replace ST := Lib.hid (ST.out.below hb3)
  replace c0 := hb3.at_cell c0
  replace c1 := hb3.at_cell c1
  rw [PE.out]
  clear hb3
  go_wp2_with fail
  refine (copied_calls wsV injV qs s _ ST.out hs h0).mono ?_
  rintro e w3 ⟨P, g, cap, qs', injV', rfl, hF, hb4⟩
  obtain ⟨ja, jc, rfl⟩ := (SlI.of_owns hF.injO).form
  have hF4 := hF.rebox
  have hown := hF4.injO.alloc (.cells #[.int .i64 t] 3)
  have hF5 := hF4.below ((Below.refl _ _).alloc (Nat.le_refl _) (.cells #[.int .i64 t] 3))
  have hcl := cell_one_at (w3.alloc (.cells #[.slice (some ⟨g, 0, none⟩) s.ws.length cap, .slice ja s.inj.length jc] 26)) (w3.heap.size + 1) (by simp) (.int .i64 t) 3
  have hb5 : Below w2.heap.size w2 ((w3.alloc (.cells #[.slice (some ⟨g, 0, none⟩) s.ws.length cap, .slice ja s.inj.length jc] 26)).alloc (.cells #[.int .i64 t] 3)) := (hb4.alloc hb4.size _).alloc (by have := hb4.size; simp; omega) _
  have F5 := Lib.hid hF5
  have B5 := Lib.hid hb5
  have L2 := (Array.getElem?_eq_some_iff.1 R1.out).1
  have L3 := hb4.size
  clear c0 c1 hF hF4 hF5 hb4 ST hb5
  go_wp2_with (at_builtin; refine wpList_append_own _ rfl _ _ 24 rfl w2.heap.size 3 i0 (.int .i64 0) 1 8 Try.underlying24 hif hz0 hz1 hz2 rfl (by decide) _ _ _ rfl hown ⟨w3.heap.size + 1, 0, none⟩ 1 1 [.int .i64 t] rfl rfl hcl ?d2 ?d3 ?d4 ?d5 ?_)
  case d2 => intro u hu; simp at hu; subst hu; rfl
  case d3 => unfold maxLen; omega
  case d4 => omega
  case d5 => exact B5.out.size
  intro v4 w4 hown4 hgrow4 _
  have hown5 : w4.ownsRow w2.heap.size 3 1 v4 (s.inj.length + 1) ((s.inj ++ [t]).map (Value.int .i64)) := by simpa using hown4
  obtain ⟨va, vc, rfl⟩ : ∃ a c, v4 = .slice a (s.inj.length + 1) c := by
    have := (SlI.of_owns hown5).form
    simpa using this
  have hX4 : w4.heap[w3.heap.size]? = some (.cells #[.slice (some ⟨g, 0, none⟩) s.ws.length cap, .slice ja s.inj.length jc] 26 (0, 0)) := by
    have hbx := F5.out.own.box
    rw [hgrow4.block _ (Array.getElem?_eq_some_iff.1 hbx).1 (fun e => owns_far F5.out.injO hbx (by decide) e.symm)]
    exact hbx
  have hO5 := F5.out.pushInj hgrow4 hown5
  have hB4 : Below w2.heap.size w2 (w4.setCell ⟨w3.heap.size, 1, none⟩ (.slice va (s.inj.length + 1) vc)) :=
    (B5.out.grown hgrow4 B5.out.size (fun k hk => (hown.lt k hk).1)).setCell L3 _
  have x0 : w4.cell? ⟨w3.heap.size, 0, none⟩ = some (.slice (some ⟨g, 0, none⟩) s.ws.length cap) := by simp [World.cell?, hX4]
  have x1 : w4.cell? ⟨w3.heap.size, 1, none⟩ = some (.slice ja s.inj.length jc) := by simp [World.cell?, hX4]
  have xf : ∀ j, w4.frozen? ⟨w3.heap.size, j, none⟩ = false := fun j => by simp [World.frozen?, hX4]
  have hw := wake_calls hO5 (by show s.ws.length ≤ 1000; omega)
  have hwl : (wake { s with inj := s.inj ++ [t] }).1.ws.length = s.ws.length := wake_len _
  generalize hW : wake { s with inj := s.inj ++ [t] } = W at *
  clear hown hcl hown4 hown5 hgrow4 hif hz0 hz1 hz2 F5 hX4
  go_wp2_with fail
  refine hw.mono ?_
  rintro e w6 ⟨rfl, hO6, hb6⟩
  have hb7 := hB4.trans hb6
  obtain ⟨hr1, p0, p1, pf⟩ := keep26 hb7 R1.out
  obtain ⟨y0, y1, -⟩ := hO6.boxed
  rw [hwl] at y0
  have nX : ¬ w3.heap.size = w.heap.size + 1 := by omega
  have nX2 : ¬ w.heap.size + 1 = w3.heap.size := by omega
  replace R1 := Lib.hid hr1
  have O6 := Lib.hid hO6
  have L1 : w.heap.size ≤ w2.heap.size := B1.out.size
  have B7 := Lib.hid (B1.out.then hb7)
  have WL := Lib.hid hwl
  have HW := Lib.hid hW
  clear hr1 hO6 hb6 hb7 hB4 hO5 x0 x1 xf hw hwl hW B1 B5
  go_wp2_with fail
  have z1 := heap_setCell_same w6 (w.heap.size + 1) 0 _ 26 (.slice (some ⟨g, 0, none⟩) s.ws.length cap) R1.out
  have z2 := heap_setCell_same _ (w.heap.size + 1) 1 _ 26 (.slice va (s.inj.length + 1) vc) z1
  refine bodyPost_ret (results_ctt rfl _ _ (w.heap.size + 1) 26 _ (0, 0) _ rfl z2 Try.underlying26 rfl size26) rfl ?_
  refine ⟨.slice (some ⟨g, 0, none⟩) s.ws.length cap, .slice va (s.inj.length + 1) vc, qs', by rw [HW.out]; rfl, ?_, (B7.out.setCell (show w.heap.size ≤ w.heap.size + 1 by omega) _).setCell (show w.heap.size ≤ w.heap.size + 1 by omega) _⟩
  have o1 := O6.out.elsewhere26 (a := ⟨w.heap.size + 1, 0, none⟩) (.slice (some ⟨g, 0, none⟩) s.ws.length cap) R1.out (fun e => nX e)
  have o2 := o1.elsewhere26 (a := ⟨w.heap.size + 1, 1, none⟩) (.slice va (s.inj.length + 1) vc) z1 (fun e => nX e)
  have := o2.stT
  rw [WL.out] at this
  rw [HW.out]
  exact this.imp fun g _ hg => Nat.le_trans L1 hg
end Go.Proofs.Ytjnlfibcpkobaaa
