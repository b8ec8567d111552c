/- Custodians: is 68, Same 37, NewCustodian 35. -/
import Derived.Test.YtddajaikighjlaaPa
import Derived.Test.YtddajaikighjlaaAw
import Derived.Test.YtddajaikighjlaaOa
import Derived.Deep.RegionHeld3
import Derived.Deep.RegionLaw
import Derived.Conc.LoneSelect
namespace Go.Proofs.Ytddajaikighjlaa
open Go.RowKit Go.Sl Go.Mp Go.Wh

/-- Nothing has changed but blocks of F. -/
structure Kpt (F : Nat → Prop) (w w' : World) : Prop where
  os : w'.os = w.os
  tape : w'.tape = w.tape
  output : w'.output = w.output
  size : w.heap.size ≤ w'.heap.size
  block : ∀ g, g < w.heap.size → ¬ F g → w'.heap[g]? = w.heap[g]?
theorem Kpt.of_below {F : Nat → Prop} {w w' : World} (h : Below w.heap.size w w') : Kpt F w w' := ⟨h.os, h.tape, h.output, h.size, fun g hg _ => h.block g hg⟩
theorem Kpt.refl (F : Nat → Prop) (w : World) : Kpt F w w := ⟨rfl, rfl, rfl, Nat.le_refl _, fun _ _ _ => rfl⟩
theorem Kpt.trans {F : Nat → Prop} {w w' w2 : World} (h : Kpt F w w') (k : Kpt F w' w2) : Kpt F w w2 :=
  ⟨k.os.trans h.os, k.tape.trans h.tape, k.output.trans h.output, Nat.le_trans h.size k.size, fun g hg hf => (k.block g (Nat.lt_of_lt_of_le hg h.size) hf).trans (h.block g hg hf)⟩
theorem Kpt.mono {F G : Nat → Prop} {w w' : World} (h : Kpt F w w') (hs : ∀ g, g < w.heap.size → F g → G g) : Kpt G w w' :=
  ⟨h.os, h.tape, h.output, h.size, fun g hg hf => h.block g hg fun hF => hf (hs g hg hF)⟩
theorem Kpt.grown {F : Nat → Prop} {w w' w2 : World} (h : Kpt F w w') {r : Option Nat} (hg : w'.grownBy w2 r) (hr : ∀ k, r = some k → k < w.heap.size → F k) : Kpt F w w2 :=
  ⟨hg.os.trans h.os, hg.tape.trans h.tape, hg.output.trans h.output, Nat.le_trans h.size hg.size, fun g hg2 hf => (hg.block g (Nat.lt_of_lt_of_le hg2 h.size) fun e => hf (hr g e.symm hg2)).trans (h.block g hg2 hf)⟩
theorem Kpt.then {F : Nat → Prop} {w w' w2 : World} (h : Kpt F w w') (k : Below w'.heap.size w' w2) : Kpt F w w2 := h.trans (Kpt.of_below k)
theorem Kpt.below {F : Nat → Prop} {w w' : World} {B : Nat} (h : Kpt F w w') (hB : B ≤ w.heap.size) (hF : ∀ g, F g → B ≤ g) : Below B w w' :=
  ⟨h.os, h.tape, h.output, h.size, fun g hg => h.block g (by omega) fun hf => absurd (hF g hf) (by omega)⟩
theorem Kpt.own {F : Nat → Prop} {w w' : World} (h : Kpt F w w') {base size n : Nat} {e : TypeId} {v : Value} {xs : List Value} (ho : w.ownsRow base e size v n xs) (hf : ∀ g, v.ownBlock = some g → ¬ F g) : w'.ownsRow base e size v n xs :=
  own_same ho fun g hg => h.block g (ho.lt g hg).2 (hf g hg)
theorem Kpt.row {F : Nat → Prop} {w w' : World} (h : Kpt F w w') {g : Nat} {o : Obj} (hg : w.heap[g]? = some o) (hf : ¬ F g) : w'.heap[g]? = some o :=
  (h.block g (Array.getElem?_eq_some_iff.1 hg).1 hf).trans hg
theorem Kpt.setCell {F : Nat → Prop} {w w' : World} (h : Kpt F w w') (p : Addr) (v : Value) (hp : p.block < w.heap.size → F p.block) : Kpt F w (w'.setCell p v) := by
  have hb := (Below.refl 0 w').setCell (p := p) (Nat.zero_le _) v
  exact ⟨hb.os.trans h.os, hb.tape.trans h.tape, hb.output.trans h.output, Nat.le_trans h.size hb.size, fun g hg hf => (Below.heap_setCell w' p v g fun e => hf (by rw [e] at hg ⊢; exact hp hg)).trans (h.block g hg hf)⟩

theorem cell_of {w : World} {b : Nat} {t : TypeId} {cs : Array Value} {f : Nat × Nat} (h : w.heap[b]? = some (.cells cs t f)) (j : Nat) (u : Value) (hu : cs[j]? = some u) : w.cell? ⟨b, j, none⟩ = some u := cells_of_row h j u hu
/-- A custodian: its channel and its stock. -/
def CuB (w : World) (p c s : Nat) : Prop := w.heap[p]? = some (.cells #[.chan (some c), .pointer (some ⟨s, 0, none⟩)] 102 (0, 0))
theorem CuB.c0 {w : World} {p c s : Nat} (h : CuB w p c s) : w.cell? ⟨p, 0, none⟩ = some (.chan (some c)) := cell_of h 0 _ rfl
theorem CuB.c1 {w : World} {p c s : Nat} (h : CuB w p c s) : w.cell? ⟨p, 1, none⟩ = some (.pointer (some ⟨s, 0, none⟩)) := cell_of h 1 _ rfl

theorem eqIn_chan (P : Program) (d : Nat) (t : TypeId) {dir e} (h : P.underlying t = some (.chan dir e)) (w : World) (c c2 : Nat) : (Op.equalIn (d + 1) t (.chan (some c)) (.chan (some c2))).run P w = .ok (c == c2) w := by
  simp [Op.equalIn, run_underlying h]
theorem eqIn_ptr (P : Program) (d : Nat) (t : TypeId) {e} (h : P.underlying t = some (.pointer e)) (w : World) (b o : Nat) : (Op.equalIn (d + 1) t (.pointer none) (.pointer (some ⟨b, o, none⟩))).run P w = .ok false w := by
  simp [Op.equalIn, run_underlying h]
theorem eq_chan (w : World) (c c2 : Nat) : (Op.equal 99 (.chan (some c)) (.chan (some c2))).run Try.prog w = .ok (c == c2) w := eqIn_chan Try.prog 9999 99 Try.underlying99 w c c2
theorem beq_chan (w : World) (c c2 : Nat) : (binOp .eql 99 (.chan (some c)) (.chan (some c2))).run Try.prog w = .ok (.bool (c == c2)) w := by
  simp only [binOp]
  simp [eq_chan w c c2]
set_option maxRecDepth 100000 in
theorem is_calls (p c s : Nat) (w : World) (h : CuB w p c s) : Calls Try.prog 68 #[.pointer (some ⟨p, 0, none⟩)] w fun e w' => e = .returned (.bool true) ∧ w' = w := by
  have h1 := h.c1
  go_enter Try.func68, Try.ntmps68
  go_wp2
  go_ret
  exact ⟨rfl, rfl⟩
set_option maxRecDepth 100000 in
theorem is_nil (w : World) : Calls Try.prog 68 #[.pointer none] w fun e w' => e = .returned (.bool false) ∧ w' = w := by
  go_enter Try.func68, Try.ntmps68
  go_wp2
  go_ret
  exact ⟨rfl, rfl⟩
set_option maxRecDepth 100000 in
set_option maxHeartbeats 1000000 in
theorem csame_calls (p c s p2 c2 s2 : Nat) (w : World) (h : CuB w p c s) (h2 : CuB w p2 c2 s2) :
    Calls Try.prog 37 #[.pointer (some ⟨p, 0, none⟩), .pointer (some ⟨p2, 0, none⟩)] w fun e w' => e = .returned (.bool (c == c2)) ∧ Below w.heap.size w w' := by
  have he := fun w => beq_chan w c c2
  have k1 := h.c0
  have k2 := h2.c0
  go_enter Try.func37, Try.ntmps37
  go_upto_region 3 with (fail)
  go_quiet (fail)
  go_wp2
  go_ret
  exact ⟨rfl, below_drewN _ _ _⟩
theorem bytes240 : ∃ i, Try.prog.info? 240 = some i ∧ i.bytes = 0 := by
  have h : (Try.prog.info? 240).map (·.bytes) = some 0 := by kernel_rfl
  obtain ⟨i, hi, hb⟩ := Option.map_eq_some_iff.1 h
  exact ⟨i, hi, hb⟩
theorem mkChan (w : World) : (Instr.makeChan 99 (.int .i64 0)).run Try.prog w = .ok (.chan (some w.heap.size)) (w.alloc (.chan 0 #[] false 0 0 false)) := by
  obtain ⟨i, hi, hb⟩ := bytes240
  simpa using Go.Conc.run_makeChan (P := Try.prog) (w := w) Try.underlying99 hi .i64 0 (by omega) (by rw [hb]; omega)
set_option maxRecDepth 100000 in
theorem made_calls (w : World) : Calls Try.prog 35 #[] w fun e w' => e = .returned (.pointer (some ⟨w.heap.size + 2, 0, none⟩)) ∧ CuB w' (w.heap.size + 2) w.heap.size (w.heap.size + 1) ∧ w'.heap[w.heap.size + 1]? = some (.cells #[.slice none 0 0, .bool false] 166 (0, 0)) ∧ Below w.heap.size w w' := by
  have hm := mkChan
  go_enter Try.func35, Try.ntmps35
  go_wp2
  go_ret
  have e1 : ((w.alloc (.chan 0 #[] false 0 0 false)).alloc (.cells #[.slice none 0 0, .bool false] 166)).heap.size = w.heap.size + 2 := by simp
  have e0 : (w.alloc (.chan 0 #[] false 0 0 false)).heap.size = w.heap.size + 1 := by simp
  refine ⟨rfl, ?_, ?_, (((Below.refl w.heap.size w).alloc (Nat.le_refl _) _).alloc (by simp) _).alloc (by simp; omega) _⟩
  · unfold CuB
    rw [← e1]
    exact heap_alloc_new _ _
  · rw [← e0]
    exact (heap_alloc_old _ _ (by simp)).trans (heap_alloc_new _ _)
theorem run_append_at {P : Program} {w : World} (base : Nat) (t ty e : TypeId) (i : TypeInfo) (z : Value) (size bytes : Nat) (ht : P.underlying t = some (.slice e)) (hi : P.info? e = some i) (hz : i.zero = some z)
    (hsize : i.size = size) (hby : i.bytes = bytes) (hzs : z.cells.size = size) (hsz : 0 < size) (v : Value) (n : Nat) (xs : List Value) (hown : w.ownsRow base e size v n xs)
    (u : Value) (m : Nat) (news : List Value) (hu : SlV w u m size news) (h1 : ∀ c ∈ news, c.oneCell' = true) (h63 : n + m ≤ maxLen) (hbytes : (n + m) * bytes ≤ 140737488355328) (hbase : base ≤ w.heap.size) :
    ∃ v' w', (Builtin.append_ #[t, t] ty #[v, u]).run P w = .ok v' w' ∧ w'.ownsRow base e size v' (n + m) (xs ++ news) ∧ w.grownBy w' v.ownBlock ∧ (v'.ownBlock = v.ownBlock ∨ v'.ownBlock = some w.heap.size) := by
  have hl := hu.1
  rcases hu.2 with ⟨rfl, rfl | ⟨ad, c, rfl⟩⟩ | ⟨h0, b, o, c, rfl, hc⟩
  · have hn : news = [] := List.eq_nil_of_length_eq_zero (by simpa using hl)
    subst hn
    exact ⟨v, w, run_append_owned_none (P := P) (w := w) base t ty e i size ht hi v n xs hown, by simpa using hown, ⟨rfl, rfl, rfl, Nat.le_refl _, fun _ _ _ => rfl⟩, Or.inl rfl⟩
  · have hn : news = [] := List.eq_nil_of_length_eq_zero (by simpa using hl)
    subst hn
    obtain ⟨v', w', hr, h2, h3, -, h5⟩ := run_append_own_at (P := P) w base t ty e i z size bytes ht hi hz hsize hby hzs hsz v n xs hown ad 0 c [] (by simp) (fun j u hj => by simp at hj) (fun u hu => by simp at hu) h63 hbytes hbase
    exact ⟨v', w', hr, h2, h3, h5⟩
  · obtain ⟨v', w', hr, h2, h3, -, h5⟩ := run_append_own_at (P := P) w base t ty e i z size bytes ht hi hz hsize hby hzs hsz v n xs hown ⟨b, o, none⟩ m c news hl (fun j u hj => by rw [Go.WideShapes.add_plain]; exact hc j u hj) h1 h63 hbytes hbase
    exact ⟨v', w', hr, h2, h3, h5⟩
theorem wpList_append_at {P : Program} {ops : Array Oper} {rest : List Oper} {o : Oper} {a : Act} {w : World} {Q : Exit → Act → World → Prop}
    (hg : o.guard = none) (s x : Operand) (t : TypeId) (hop : o.op = Op.call { callee := Callee.builtin Builtin.append, args := #[s, x], argTypes := #[t, t] })
    (base : Nat) (e : TypeId) (i : TypeInfo) (z : Value) (size bytes : Nat) (ht : P.underlying t = some (.slice e)) (hi : P.info? e = some i) (hz : i.zero = some z)
    (hsize : i.size = size) (hby : i.bytes = bytes) (hzs : z.cells.size = size) (hsz : 0 < size) (v : Value) (n : Nat) (xs : List Value) (hs : a.eval s = v) (hown : w.ownsRow base e size v n xs)
    (u : Value) (m : Nat) (news : List Value) (hx : a.eval x = u) (hu : SlV w u m size news) (h1 : ∀ c ∈ news, c.oneCell' = true) (h63 : n + m ≤ maxLen) (hbytes : (n + m) * bytes ≤ 140737488355328) (hbase : base ≤ w.heap.size)
    (hK : ∀ v' w', w'.ownsRow base e size v' (n + m) (xs ++ news) → w.grownBy w' v.ownBlock → (v'.ownBlock = v.ownBlock ∨ v'.ownBlock = some w.heap.size) → wpList P ops Q rest (a.put o.dst v') w') :
    wpList P ops Q (o :: rest) a w := by
  refine wpList_plain hg fun K hK' => ?_
  obtain ⟨v', w', hrun, r1, r2, r3⟩ := run_append_at (P := P) base t o.type e i z size bytes ht hi hz hsize hby hzs hsz v n xs hown u m news hu h1 h63 hbytes hbase
  unfold Oper.wp
  simp [execOp, hop, resolve, invoke, builtin, hs, hx, hrun, Result.andThen]
  exact hK' _ _ (hK v' w' r1 r2 r3)
theorem step_append_at {P : Program} {ops : Array Oper} {o : Oper} {a : Act} {w : World} {K : Act → World → Prop} {Q : Exit → Act → World → Prop} {E : Prop}
    (hg : o.guard = none) (s x : Operand) (t : TypeId) (hop : o.op = Op.call { callee := Callee.builtin Builtin.append, args := #[s, x], argTypes := #[t, t] })
    (base : Nat) (e : TypeId) (i : TypeInfo) (z : Value) (size bytes : Nat) (ht : P.underlying t = some (.slice e)) (hi : P.info? e = some i) (hz : i.zero = some z)
    (hsize : i.size = size) (hby : i.bytes = bytes) (hzs : z.cells.size = size) (hsz : 0 < size) (v : Value) (n : Nat) (xs : List Value) (hs : a.eval s = v) (hown : w.ownsRow base e size v n xs)
    (u : Value) (m : Nat) (news : List Value) (hx : a.eval x = u) (hu : SlV w u m size news) (h1 : ∀ c ∈ news, c.oneCell' = true) (h63 : n + m ≤ maxLen) (hbytes : (n + m) * bytes ≤ 140737488355328) (hbase : base ≤ w.heap.size)
    (hK : ∀ v' w', w'.ownsRow base e size v' (n + m) (xs ++ news) → w.grownBy w' v.ownBlock → (v'.ownBlock = v.ownBlock ∨ v'.ownBlock = some w.heap.size) → K (a.put o.dst v') w') :
    if Region.wanted o (yielded ops a.tmps) = true then Oper.wp P o a w K Q else E := by
  have hw : Region.wanted o (yielded ops a.tmps) = true := by simp [Region.wanted, hg]
  rw [if_pos hw]
  obtain ⟨v', w', hrun, r1, r2, r3⟩ := run_append_at (P := P) base t o.type e i z size bytes ht hi hz hsize hby hzs hsz v n xs hown u m news hu h1 h63 hbytes hbase
  unfold Oper.wp
  simp [execOp, hop, resolve, invoke, builtin, hs, hx, hrun, Result.andThen]
  exact hK v' w' r1 r2 r3
/-- Two cells. -/
theorem row2 {w : World} {b : Nat} {t : TypeId} {x y : Value} (h : w.heap[b]? = some (.cells #[x, y] t (0, 0))) : w.cell? ⟨b, 0, none⟩ = some x ∧ w.cell? ⟨b, 1, none⟩ = some y ∧ ∀ j, w.frozen? ⟨b, j, none⟩ = false :=
  ⟨cell_of h 0 _ rfl, cell_of h 1 _ rfl, fun j => by simp [World.frozen?, h]⟩
theorem info168 : (Try.prog.info? 168).map (fun i => (i.zero, i.size, i.bytes)) = some (some (.agg #[.int .i64 0, .pointer none]), 2, 16) := by kernel_rfl
/-- A part: somebody, or a custodian by its number and the pointer. -/
abbrev Part := Int × Option (Nat × Nat)
def encP2 (p : Part) : List Value := [.int .i64 p.1, .pointer (p.2.map fun q => ⟨q.2, 0, none⟩)]
theorem encP2_len (p : Part) : (encP2 p).length = 2 := rfl
theorem oneP2 (l : List Part) : ∀ u ∈ l.flatMap encP2, u.oneCell' = true := by
  intro u hu
  obtain ⟨s, -, hs⟩ := List.mem_flatMap.1 hu
  simp only [encP2, List.mem_cons, List.not_mem_nil, or_false] at hs
  rcases hs with rfl | rfl <;> rfl
/-- The stock of a custodian. -/
def Stk (w : World) (s : Nat) (v : Value) (d : Bool) : Prop := w.heap[s]? = some (.cells #[v, .bool d] 166 (0, 0))
theorem put_end {w1 wA w2 : World} {s base n : Nat} {v v' : Value} {d : Bool} {xs : List Value} (hb : Below w1.heap.size w1 wA) (hg : wA.grownBy w2 v.ownBlock) (hat : v'.ownBlock = v.ownBlock ∨ v'.ownBlock = some wA.heap.size) (hst : w2.heap[s]? = some (.cells #[v, .bool d] 166 (0, 0))) (own : w2.ownsRow base 168 2 v' n xs) :
    Stk (w2.setCell ⟨s, 0, none⟩ v') s v' d ∧ (w2.setCell ⟨s, 0, none⟩ v').ownsRow base 168 2 v' n xs ∧ Kpt (fun g => g = s ∨ v.ownBlock = some g) w1 (w2.setCell ⟨s, 0, none⟩ v') ∧ (∀ g, v'.ownBlock = some g → v.ownBlock = some g ∨ w1.heap.size ≤ g) := by
  refine ⟨heap_setCell_same w2 s 0 _ 166 v' hst, ownsRow_setCell_other own (fun e => ?_) _, ((Kpt.of_below hb).grown hg (fun k hk _ => Or.inr hk)).setCell _ _ (fun _ => Or.inl rfl), fun g hg2 => ?_⟩
  · obtain ⟨cs, hc, -⟩ := own_cells own e
    rw [hst] at hc
    simp only [Option.some.injEq, Obj.cells.injEq] at hc
    exact absurd hc.2.1 (by decide)
  · rcases hat with h | h
    · exact Or.inl (h ▸ hg2)
    · rw [hg2] at h
      have := hb.size
      exact Or.inr (by simp only [Option.some.injEq] at h; omega)
set_option maxRecDepth 100000 in
theorem give_nil (who : Int) (w : World) : Calls Try.prog 38 #[.pointer none, .int .i64 who] w fun e w' => e = .returned (.tuple #[.bool false, .int .i64 1]) ∧ w' = w := by
  have hi := is_nil w
  go_enter Try.func38, Try.ntmps38
  go_wp2_with (first | (go_at_call 68; refine hi.mono ?_; rintro e w1 ⟨rfl, rfl⟩) | fail)
  go_ret2
  exact ⟨rfl, rfl⟩
set_option maxRecDepth 100000 in
theorem give_done (p c s : Nat) (v : Value) (who : Int) (w : World) (h : CuB w p c s) (hs : Stk w s v true) : Calls Try.prog 38 #[.pointer (some ⟨p, 0, none⟩), .int .i64 who] w fun e w' => e = .returned (.tuple #[.bool true, .int .i64 0]) ∧ w' = w := by
  have hi := is_calls p c s w h
  have h1 := h.c1
  obtain ⟨s0, s1, sf⟩ := row2 hs
  go_enter Try.func38, Try.ntmps38
  go_wp2_with (first | (go_at_call 68; refine hi.mono ?_; rintro e w1 ⟨rfl, rfl⟩) | fail)
  go_ret2
  exact ⟨rfl, rfl⟩
set_option maxRecDepth 100000 in
set_option maxHeartbeats 4000000 in
theorem give_open (p c s : Nat) (v : Value) (base : Nat) (l : List Part) (who : Int) (w : World) (h : CuB w p c s) (hs : Stk w s v false) (ho : w.ownsRow base 168 2 v l.length (l.flatMap encP2)) (hl : l.length < 1000) (hB : base ≤ w.heap.size) :
    Calls Try.prog 38 #[.pointer (some ⟨p, 0, none⟩), .int .i64 who] w fun e w' => e = .returned (.tuple #[.bool false, .int .i64 0]) ∧ ∃ v', Stk w' s v' false ∧ w'.ownsRow base 168 2 v' (l.length + 1) ((l ++ [(who, none)]).flatMap encP2) ∧ Kpt (fun g => g = s ∨ v.ownBlock = some g) w w' ∧ (∀ g, v'.ownBlock = some g → v.ownBlock = some g ∨ w.heap.size ≤ g) := by
  have hi := is_calls p c s w h
  have h1 := h.c1
  obtain ⟨s0, s1, sf⟩ := row2 hs
  obtain ⟨a, cap, rfl⟩ := own_form ho
  obtain ⟨n, hn⟩ : ∃ n, l.length = n := ⟨_, rfl⟩
  rw [hn] at ho hl s0 hs ⊢
  have HN := Lib.hid hn
  have HO := Lib.hid ho
  have H := Lib.hid h
  have HS := Lib.hid hs
  have hlt : ¬ (n : Int) = 1000 := by omega
  clear hn ho h hs
  go_enter Try.func38, Try.ntmps38
  go_upto_region 7 with (first | (go_at_call 68; refine hi.mono ?_; rintro e w1 ⟨rfl, rfl⟩) | fail)
  obtain ⟨i0, hif, hz0, hz1, hz2⟩ := info_parts info168
  have BY := Lib.hid (show Below w1.heap.size w1 ((w1.alloc (.cells #[.int .i64 who, .pointer none] 168)).drew) from ((Below.refl w1.heap.size w1).alloc (Nat.le_refl _) _).drew)
  have OW := Lib.hid (own_same HO.out fun g hg => BY.out.block g (HO.out.lt g hg).2)
  have g7 : ((w1.alloc (.cells #[.int .i64 who, .pointer none] 168)).drew).heap[w1.heap.size]? = some (.cells #[.int .i64 who, .pointer none] 168 (0, 0)) := heap_alloc_new w1 _
  have SN := Lib.hid (show SlV ((w1.alloc (.cells #[.int .i64 who, .pointer none] 168)).drew) (.slice (some ⟨w1.heap.size, 0, none⟩) 1 1) 1 2 [.int .i64 who, .pointer none] from ⟨rfl, Or.inr ⟨by omega, _, 0, 1, rfl, fun i u hi => by
    rw [Nat.zero_add]
    exact cells_of_row g7 i u (by simpa using hi)⟩⟩)
  have hne : ∀ g, (Value.slice a n cap).ownBlock = some g → ¬ g = s := fun g hg e => by
    obtain ⟨cs, hc, -⟩ := own_cells HO.out hg
    have := HS.out
    unfold Stk at this
    rw [e, this] at hc
    simp only [Option.some.injEq, Obj.cells.injEq] at hc
    exact absurd hc.2.1 (by decide)
  have hnp : ∀ g, (Value.slice a n cap).ownBlock = some g → ¬ g = p := fun g hg e => by
    obtain ⟨cs, hc, -⟩ := own_cells HO.out hg
    have := H.out
    unfold CuB at this
    rw [e, this] at hc
    simp only [Option.some.injEq, Obj.cells.injEq] at hc
    exact absurd hc.2.1 (by decide)
  have HNE := Lib.hid hne
  have HNP := Lib.hid hnp
  have ya0 := ((Below.refl w1.heap.size w1).alloc (Nat.le_refl _) (.cells #[.int .i64 who, .pointer none] 168)).at_cell s0
  have ya1 := ((Below.refl w1.heap.size w1).alloc (Nat.le_refl _) (.cells #[.int .i64 who, .pointer none] 168)).at_cell h1
  clear g7 hne hnp
  go_region_law (first
    | (refine step_append_at rfl (.tmp 38) (.tmp 41) 164 rfl base 168 i0 (.agg #[.int .i64 0, .pointer none]) 2 16 Try.underlying164 hif hz0 hz1 hz2 rfl (by decide) (.slice a n cap) n (l.flatMap encP2) rfl OW.out (.slice (some ⟨w1.heap.size, 0, none⟩) 1 1) 1 [.int .i64 who, .pointer none] rfl SN.out (oneP2 [(who, none)]) (by unfold maxLen; omega) (by omega) (Nat.le_trans hB BY.out.size) ?_; intro va w2 own1 hg1 hat1; obtain ⟨a', c', rfl⟩ := own_form own1; have hst := (hg1.block s (Nat.lt_of_lt_of_le (Array.getElem?_eq_some_iff.1 HS.out).1 BY.out.size) (fun e => HNE.out s e.symm rfl)).trans ((BY.out.block s (Array.getElem?_eq_some_iff.1 HS.out).1).trans HS.out); obtain ⟨q0, q1, qf⟩ := row2 hst; have hpt := (hg1.block p (Nat.lt_of_lt_of_le (Array.getElem?_eq_some_iff.1 H.out).1 BY.out.size) (fun e => HNP.out p e.symm rfl)).trans ((BY.out.block p (Array.getElem?_eq_some_iff.1 H.out).1).trans H.out); obtain ⟨-, r1, -⟩ := row2 hpt; clear hpt; have HST := Lib.hid hst; have OWN1 := Lib.hid own1; have HG1 := Lib.hid hg1; have HAT := Lib.hid hat1; clear own1 hg1 hst hat1)
    | (go_simp; go_wp2_with fail))
  all_goals
    go_wp2_with fail
    go_ret2
    refine ⟨rfl, Value.slice a' (n + 1) c', ?_⟩
    rw [List.flatMap_append]
    exact put_end BY.out HG1.out HAT.out HST.out OWN1.out
end Go.Proofs.Ytddajaikighjlaa
