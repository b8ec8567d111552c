/- What every law's row shares: a call that returns true and leaves all old memory as it was keeps each argument's reading. -/
import Derived.WalkKit
import Derived.ProofKit
import Derived.OpenShut
import Derived.Carry
import Derived.Lib.LaidTab
import Derived.LaidMore
namespace Go.LawRow
open Go.RowKit Go.ChangeShapes Go.WideShapes

variable {H : Type} {enc : TypeId × Value → H} {P : Program}

/-- Each type of a list can be read and is on the table. -/
def okTypes (P : Program) (ts : List TypeId) : Bool := ts.all fun t => P.readableRec t && decide (t < P.types.size)

theorem trodAll_below (hl : laidOutB P = true) {W W' : World} (hb : Below W.heap.size W W') :
    ∀ (ts : List TypeId) (vs : List Value) (ds : List (DataW H)) (ps : List MemPlace), okTypes P ts = true →
      DataW.TrodAll enc P W 0 (fun _ => true) true ts vs ds ps → (∀ x ∈ ps, x.block < W.heap.size) →
      DataW.TrodAll enc P W' 0 (fun b => decide (b < W.heap.size)) true ts vs ds ps := by
  intro ts
  induction ts with
  | nil =>
    intro vs ds ps _ h _
    cases vs <;> cases ds <;> simp_all [DataW.TrodAll]
  | cons t ts ih =>
    intro vs ds ps hok h hlt
    cases vs with
    | nil => cases ds <;> simp [DataW.TrodAll] at h
    | cons v vs =>
      cases ds with
      | nil => simp [DataW.TrodAll] at h
      | cons d ds =>
        obtain ⟨p, q, h0, h1, rfl⟩ := h
        simp only [okTypes, List.all_cons, Bool.and_eq_true, decide_eq_true_eq] at hok
        exact ⟨p, q, Below.trod hl hok.1.1 hok.1.2 h0 hb (fun x hx => hlt x (List.mem_append.2 (.inl hx))),
          ih vs ds q hok.2 h1 (fun x hx => hlt x (List.mem_append.2 (.inr hx))), rfl⟩

/-- The post of a law: true; the input reads as it did. -/
theorem law_post {f : Func} {s : ChangeSpec} {apart fresh handsOn : Bool} {W W' : World} {args : Array Value} {ds gs : List (DataW H)} {before : List MemPlace} {tb : TypeId}
    (hl : laidOutB P = true) (hts : okTypes P f.params.toList = true) (hr : f.resultTypes = #[tb]) (htb : P.underlying tb = some .bool)
    (hv : s.vars = []) (hsp : s.fn H (ds ++ gs) = { results := [.lit (.bool true)], args := ds })
    (hW : DataW.Whole enc P f.params.toList s.vars apart W args.toList ds gs before) (hb : Below W.heap.size W W') :
    s.post enc P f apart fresh handsOn false W args (.bool true) W' := by
  have hlt := fun x hx => hW.lt x hx
  obtain ⟨p, q, hA, hV, rfl, hz, hn⟩ := hW
  rw [hv] at hV
  cases gs with
  | cons _ _ => simp [DataW.TrodVars] at hV
  | nil =>
    simp only [DataW.TrodVars] at hV
    subst hV
    simp only [List.append_nil] at hlt hz hn hsp
    refine ⟨ds, [], p, [], p, [], ⟨p, [], hA, by rw [hv]; rfl, by simp, hz, hn⟩, ?_, ?_, ?_, hb.frame _, fun h => by cases h⟩
    · simp only [List.append_nil, hsp, hr]
      exact trodAll_mk1 (shut_bool htb true)
    · simp only [List.append_nil, hsp]
      exact trodAll_below hl hb _ _ _ _ hts hA hlt
    · simp only [List.append_nil, hsp, hv]
      rfl
/-! ### listed variables -/
theorem laidVars_get {w : World} : ∀ (laid : List (String × DataW Unit)) (ps : List MemPlace), DataW.LaidVars P w laid ps → ∀ n d, (n, d) ∈ laid →
    ∃ g t cs fuel p, P.globalNamed n = some g ∧ (P.globals[g]?).map (·.type) = some t ∧ w.var? P n = some cs ∧ DataW.trod (fun _ => ()) P w 0 (fun _ => true) false fuel t cs.toList = some (d, p) := by
  intro laid
  induction laid with
  | nil => intro ps _ n d h; cases h
  | cons x laid ih =>
    intro ps h n d hm
    obtain ⟨n', d'⟩ := x
    obtain ⟨g, t, cs, fuel, p, q, h1, h2, h3, h4, h5, _⟩ := h
    rcases List.mem_cons.1 hm with e | hm
    · cases e
      exact ⟨g, t, cs, fuel, p, h1, h2, h3, h4⟩
    · exact ih q h5 n d hm

theorem laid_get {W : World} {laid : List (String × DataW Unit)} (hf : (laid.filter fun x => x.2.handleName?.isSome) = []) (h : laidMetH P laid W) {n : String} {d : DataW Unit} {g : Nat} {t : TypeId}
    (hm : (n, d) ∈ laid) (hg : P.globalNamed n = some g) (ht : (P.globals[g]?).map (·.type) = some t) :
    ∃ cs fuel p, W.var? P n = some cs ∧ DataW.trod (fun _ => ()) P W 0 (fun _ => true) false fuel t cs.toList = some (d, p) := by
  unfold laidMetH at h
  rw [hf] at h
  obtain ⟨ps, hl, _⟩ := h
  obtain ⟨g', t', cs, fuel, p, h1, h2, h3, h4⟩ := laidVars_get _ _ hl n d hm
  obtain rfl := Option.some.inj (hg.symm.trans h1)
  obtain rfl := Option.some.inj (ht.symm.trans h2)
  exact ⟨cs, fuel, p, h3, h4⟩

/-- A listed table of integers: each cell. -/
theorem laid_tab {W : World} {laid : List (String × DataW Unit)} (hf : (laid.filter fun x => x.2.handleName?.isSome) = []) (h : laidMetH P laid W) {n : String} {k : IntKind} {zs : List Int} {g : Nat} {t e : TypeId} {m : Nat}
    (hm : (n, Lib.tabData k zs) ∈ laid) (hg : P.globalNamed n = some g) (hty : (P.globals[g]?).map (·.type) = some t)
    (ht : P.underlying t = some (.array m e)) (he : P.underlying e = some (.int k)) (hce : P.cellsOf e = 1) (hct : P.cellsOf t = m) :
    ∀ (i : Nat) (z : Int), zs[i]? = some z → W.cell? ⟨g, i, none⟩ = some (.int k z) := by
  obtain ⟨cs, fuel, p, hv, hd⟩ := laid_get hf h hm hg hty
  have hc := Lib.cells_of_tab ht he hce hct hd
  intro i z hz
  have := World.var?_cell hg hv i
  rw [this, ← Array.getElem?_toList, hc]
  simp [hz]

theorem cell_of_tab2 {w : World} {base : Nat} {sp : Nat → Bool} {held : Bool} {fuel : Nat} {t e e2 : TypeId} {n m : Nat} {k : IntKind} {cs : List Value} {zss : List (List Int)} {p : List MemPlace}
    (ht : P.underlying t = some (.array n e)) (he : P.underlying e = some (.array m e2)) (he2 : P.underlying e2 = some (.int k)) (hce2 : P.cellsOf e2 = 1) (hce : P.cellsOf e = m)
    (h : DataW.trod enc P w base sp held fuel t cs = some (.agg (zss.map (Lib.tabData k)), p)) :
    ∀ i j zs z, zss[i]? = some zs → zs[j]? = some z → cs[i * m + j]? = some (.int k z) := by
  cases fuel with
  | zero => simp [DataW.trod] at h
  | succ fuel =>
    simp only [DataW.trod, ht] at h
    split at h
    · obtain ⟨xs, hm, hx⟩ := Option.map_eq_some_iff.1 h
      have hxs : xs.map (·.1) = zss.map (Lib.tabData k) := by
        have := congrArg Prod.fst hx
        simpa using this
      have hxl : xs.length = n := by simpa using Lib.mapM_length hm
      have hzl : zss.length = n := by
        have := congrArg List.length hxs
        simp at this
        omega
      intro i j zs z hi hj
      have hin : i < n := by
        rw [← hzl]
        exact (List.getElem?_eq_some_iff.1 hi).1
      obtain ⟨b, hb, hf⟩ := Lib.mapM_at hm i i (by simp [hin])
      have hb1 : b.1 = Lib.tabData k zs := by
        have h2 : (xs.map (·.1))[i]? = some b.1 := by simp [hb]
        rw [hxs] at h2
        simp [hi] at h2
        exact h2.symm
      obtain ⟨b1, b2⟩ := b
      simp only at hb1
      subst hb1
      have hc := Lib.cells_of_tab he he2 hce2 hce hf
      have := congrArg (·[j]?) hc
      simp only [List.getElem?_map, hj, Option.map_some] at this
      rw [hce, List.getElem?_take] at this
      split at this
      · rw [List.getElem?_drop] at this
        exact this
      · cases this
    · cases h

theorem laid_tab2 {W : World} {laid : List (String × DataW Unit)} (hf : (laid.filter fun x => x.2.handleName?.isSome) = []) (h : laidMetH P laid W) {n : String} {k : IntKind} {zss : List (List Int)} {g : Nat} {t e e2 : TypeId} {m m2 : Nat}
    (hm : (n, .agg (zss.map (Lib.tabData k))) ∈ laid) (hg : P.globalNamed n = some g) (hty : (P.globals[g]?).map (·.type) = some t)
    (ht : P.underlying t = some (.array m e)) (he : P.underlying e = some (.array m2 e2)) (he2 : P.underlying e2 = some (.int k)) (hce2 : P.cellsOf e2 = 1) (hce : P.cellsOf e = m2) :
    ∀ i j zs z, zss[i]? = some zs → zs[j]? = some z → W.cell? ⟨g, i * m2 + j, none⟩ = some (.int k z) := by
  obtain ⟨cs, fuel, p, hv, hd⟩ := laid_get hf h hm hg hty
  intro i j zs z hi hj
  have := World.var?_cell hg hv (i * m2 + j)
  rw [this, ← Array.getElem?_toList]
  exact cell_of_tab2 ht he he2 hce2 hce hd i j zs z hi hj

theorem cell_of_strs {w : World} {base : Nat} {sp : Nat → Bool} {held : Bool} {fuel : Nat} {t e : TypeId} {n : Nat} {cs : List Value} {ss : List (List UInt8)} {p : List MemPlace}
    (ht : P.underlying t = some (.array n e)) (he : P.underlying e = some TypeDesc.string) (hce : P.cellsOf e = 1)
    (h : DataW.trod enc P w base sp held fuel t cs = some (.agg (ss.map fun s => (DataW.lit (.string s) : DataW H)), p)) :
    ∀ (i : Nat) (s : List UInt8), ss[i]? = some s → cs[i]? = some (.string ⟨s.toArray⟩) := by
  cases fuel with
  | zero => simp [DataW.trod] at h
  | succ fuel =>
    simp only [DataW.trod, ht] at h
    split at h
    · obtain ⟨xs, hm, hx⟩ := Option.map_eq_some_iff.1 h
      have hxs : xs.map (·.1) = ss.map (fun s => (DataW.lit (.string s) : DataW H)) := by
        have := congrArg Prod.fst hx
        simpa using this
      have hxl : xs.length = n := by simpa using Lib.mapM_length hm
      have hzl : ss.length = n := by
        have := congrArg List.length hxs
        simp at this
        omega
      intro i s hi
      have hin : i < n := by
        rw [← hzl]
        exact (List.getElem?_eq_some_iff.1 hi).1
      obtain ⟨b, hb, hf⟩ := Lib.mapM_at hm i i (by simp [hin])
      have hb1 : b.1 = .lit (.string s) := by
        have h2 : (xs.map (·.1))[i]? = some b.1 := by simp [hb]
        rw [hxs] at h2
        simp [hi] at h2
        exact h2.symm
      obtain ⟨b1, b2⟩ := b
      simp only at hb1
      subst hb1
      obtain ⟨s', hc, e1, _⟩ := DataW.trod_string he hf
      have := congrArg (·[0]?) hc
      simp only [hce, List.getElem?_take, List.getElem?_drop, Nat.mul_one, Nat.add_zero, List.getElem?_cons_zero] at this
      simp at this
      rw [this]
      simp at e1
      rw [e1.1]
    · cases h

theorem laid_strs {W : World} {laid : List (String × DataW Unit)} (hf : (laid.filter fun x => x.2.handleName?.isSome) = []) (h : laidMetH P laid W) {n : String} {ss : List (List UInt8)} {g : Nat} {t e : TypeId} {m : Nat}
    (hm : (n, .agg (ss.map fun s => (DataW.lit (.string s) : DataW Unit))) ∈ laid) (hg : P.globalNamed n = some g) (hty : (P.globals[g]?).map (·.type) = some t)
    (ht : P.underlying t = some (.array m e)) (he : P.underlying e = some TypeDesc.string) (hce : P.cellsOf e = 1) :
    ∀ (i : Nat) (s : List UInt8), ss[i]? = some s → W.cell? ⟨g, i, none⟩ = some (.string ⟨s.toArray⟩) := by
  obtain ⟨cs, fuel, p, hv, hd⟩ := laid_get hf h hm hg hty
  intro i s hi
  have := World.var?_cell hg hv i
  rw [this, ← Array.getElem?_toList]
  exact cell_of_strs ht he hce hd i s hi
end Go.LawRow
