/- Maps with integer keys as lists of pairs: what each operation does. No program. -/
import Derived.Maps.RangeWalk
import Derived.Maps.OwnSet
import Derived.WalkKit
import Derived.Below
import Derived.Lib.Hide
namespace Go.Mp
open Go.RowKit Go.ChangeMaps

/-- Block r is a map whose entries are the pairs of L, in the order in which they were laid. -/
def MapI (w : World) (r : Nat) (L : List (Int × Value)) : Prop :=
  ∃ es clock, w.heap[r]? = some (.map es clock) ∧ es.toList.map (fun e => (e.key, e.val)) = L.map (fun p => (Value.int .i64 p.1, p.2)) ∧ (L.map Prod.fst).Nodup ∧ (es.toList.map (·.born)).Nodup ∧ ∀ e ∈ es.toList, e.born < clock
/-- A map that may be nil. -/
def MapV (w : World) (v : Value) (L : List (Int × Value)) : Prop := (v = .map none ∧ L = []) ∨ ∃ r, v = .map (some r) ∧ MapI w r L

theorem MapI.lt {w : World} {r : Nat} {L : List (Int × Value)} (h : MapI w r L) : r < w.heap.size := by
  obtain ⟨es, c, hb, -⟩ := h
  exact (Array.getElem?_eq_some_iff.1 hb).1
theorem MapI.same {w w' : World} {r : Nat} {L : List (Int × Value)} (h : MapI w r L) (hb : w'.heap[r]? = w.heap[r]?) : MapI w' r L := by
  obtain ⟨es, c, h1, h2⟩ := h
  exact ⟨es, c, hb.trans h1, h2⟩
theorem MapI.below {w w' : World} {r : Nat} {L : List (Int × Value)} (h : MapI w r L) (hb : Below w.heap.size w w') : MapI w' r L := h.same (hb.block r h.lt)
theorem MapI.made (w : World) : MapI (w.alloc (.map #[] 0)) w.heap.size [] := by
  refine ⟨#[], 0, ?_, by simp, by simp, by simp, by simp⟩
  show (w.heap.push _)[w.heap.size]? = _
  simp

/-- The place of a key. -/
def at? (L : List (Int × Value)) (k : Int) : Option Value := (L.find? fun p => p.1 == k).map Prod.snd

theorem findNow_pairs {d : TypeDesc} (hd : d = .int .i64) (k : Int) : ∀ (es : List MapEntry) (L : List (Int × Value)) (i : Nat), es.map (fun e => (e.key, e.val)) = L.map (fun p => (Value.int .i64 p.1, p.2)) →
    Instr.findNow d (.int .i64 k) es i = some ((L.findIdx? fun p => p.1 == k).map fun j => (i + j, (L.getD j (0, undef)).2))
  | [], [], i, _ => by simp [Instr.findNow]
  | e :: es, p :: L, i, h => by
    subst hd
    simp only [List.map_cons, List.cons.injEq, Prod.mk.injEq] at h
    obtain ⟨⟨h1, h2⟩, h3⟩ := h
    unfold Instr.findNow
    rw [h1]
    unfold Instr.sameNow
    simp only [if_true]
    by_cases hk : k = p.1
    · subst hk
      simp [h2, List.findIdx?_cons]
    · have hk2 : (k == p.1) = false := by simpa using hk
      have hk3 : (p.1 == k) = false := by simpa using fun e => hk e.symm
      rw [hk2]
      simp only
      rw [findNow_pairs rfl k es L (i + 1) h3]
      simp only [List.findIdx?_cons, hk3, Bool.false_eq_true, if_false, Option.map_map]
      congr 1
      cases List.findIdx? (fun p => p.1 == k) L with
      | none => rfl
      | some j => simp [Nat.add_comm, Nat.add_left_comm]
  | [], p :: L, i, h => by simp at h
  | e :: es, [], i, h => by simp at h

variable {P : Program} {t k e : TypeId}

theorem findKey_pairs {w : World} (hk : P.underlying k = some (.int .i64)) (x : Int) {es : Array MapEntry} {L : List (Int × Value)} (h : es.toList.map (fun e => (e.key, e.val)) = L.map (fun p => (Value.int .i64 p.1, p.2))) :
    (Instr.findKey k (.int .i64 x) es.toList).run P w = .ok ((L.findIdx? fun p => p.1 == x).map fun j => (j, (L.getD j (0, undef)).2)) w := by
  unfold Instr.findKey
  simp only [Sem.run_bind, run_underlying hk, Result.andThen, findNow_pairs rfl x es.toList L 0 h, Nat.zero_add, Sem.run_pure]
theorem checkKey_int {w : World} (hk : P.underlying k = some (.int .i64)) (b : Bool) (x : Int) : (Instr.checkKey b 10000 k (.int .i64 x)).run P w = .ok () w := by
  unfold Instr.checkKey
  simp only [Sem.run_bind, run_underlying hk, Result.andThen]
  rfl

/-- What a lookup yields. -/
def got (L : List (Int × Value)) (x : Int) (z : Value) : Value × Bool := match L.findIdx? fun p => p.1 == x with
  | some j => ((L.getD j (0, undef)).2, true)
  | none => (z, false)
theorem run_lookup {w : World} (ht : P.underlying t = some (.map k e)) (hk : P.underlying k = some (.int .i64)) {z : Value} (hz : ∀ w, (zeroValue e).run P w = .ok z w) {v : Value} {L : List (Int × Value)} (h : MapV w v L) (x : Int) (ok : Bool) :
    (Instr.lookup t v (.int .i64 x) ok).run P w = .ok (if ok then .tuple #[(got L x z).1, .bool (got L x z).2] else (got L x z).1) w := by
  rcases h with ⟨rfl, rfl⟩ | ⟨r, rfl, es, c, hb, hl, hn, hs, hc⟩
  · unfold Instr.lookup
    have hf := findKey_pairs (P := P) (w := w) hk x (es := #[]) (L := []) (by simp)
    simp only [Sem.run_bind, run_underlying ht, Result.andThen, Sem.run_pure, checkKey_int hk, hf, got, List.findIdx?_nil, Option.map_none, hz]
  · unfold Instr.lookup
    have hf := findKey_pairs (P := P) (w := w) hk x hl
    have hg : (getObj r).run P w = .ok (.map es c) w := by simp [getObj, Sem.run, hb]
    simp only [Sem.run_bind, run_underlying ht, Result.andThen, hg, Sem.run_pure, checkKey_int hk, hf, got]
    cases List.findIdx? (fun p => p.1 == x) L with
    | none => simp only [Option.map_none, Sem.run_bind, hz, Result.andThen, Sem.run_pure]
    | some j => cases ok <;> rfl
theorem run_len {w : World} (ht : P.underlying t = some (.map k e)) {v : Value} {L : List (Int × Value)} (h : MapV w v L) (ty : TypeId) :
    (Builtin.len_ #[t] ty #[v]).run P w = .ok (.int .i64 (L.length : Int)) w := by
  rcases h with ⟨rfl, rfl⟩ | ⟨r, rfl, es, c, hb, hl, hn, hs, hc⟩
  · simp [Builtin.len_, run_underlying ht, goInt, Result.andThen]
  · have hg : (getObj r).run P w = .ok (.map es c) w := by simp [getObj, Sem.run, hb]
    have hsz : es.size = L.length := by simpa using congrArg List.length hl
    simp [Builtin.len_, run_underlying ht, hg, goInt, Result.andThen, hsz]

/-- The pairs with x at v; without x. -/
def put (L : List (Int × Value)) (x : Int) (v : Value) : List (Int × Value) := match L.findIdx? fun p => p.1 == x with
  | some j => L.set j (x, v)
  | none => L ++ [(x, v)]
def del (L : List (Int × Value)) (x : Int) : List (Int × Value) := match L.findIdx? fun p => p.1 == x with
  | some j => L.eraseIdx j
  | none => L

theorem run_getObj_pairs {w : World} {r : Nat} {es : Array MapEntry} {c : Nat} (hb : w.heap[r]? = some (.map es c)) : (getObj r).run P w = .ok (.map es c) w := by simp [getObj, Sem.run, hb]
theorem run_setObj_pairs {w : World} {r : Nat} {es : Array MapEntry} {c : Nat} (hb : w.heap[r]? = some (.map es c)) (o : Obj) : (setObj r o).run P w = .ok () (setBlock w r o) := by simp [setObj, Sem.run, hb, setBlock]
theorem setBlock_at {w : World} {r : Nat} (h : r < w.heap.size) (o : Obj) : (setBlock w r o).heap[r]? = some o := by simp [setBlock, h]
theorem setBlock_grown (w : World) (r : Nat) (o : Obj) : w.grownBy (setBlock w r o) (some r) :=
  ⟨rfl, rfl, rfl, by simp [setBlock], fun i _ hi => by
    have hne : r ≠ i := fun e => hi (by rw [e])
    show (w.heap.setIfInBounds r o)[i]? = _
    rw [Array.getElem?_setIfInBounds_ne hne]⟩
theorem key_at {es : Array MapEntry} {L : List (Int × Value)} (hl : es.toList.map (fun e => (e.key, e.val)) = L.map (fun p => (Value.int .i64 p.1, p.2))) (j : Nat) (hj : j < L.length) : ∃ (h : j < es.size), es[j].key = .int .i64 (L.getD j (0, undef)).1 ∧ es[j].val = (L.getD j (0, undef)).2 := by
  have hsz : es.size = L.length := by simpa using congrArg List.length hl
  refine ⟨by omega, ?_⟩
  have := congrArg (fun l => l[j]?) hl
  simp [hj, hsz] at this
  simp [List.getD, hj, this]
theorem stays {w : World} (a b : Int) (h : a = b) : (Instr.keyThatStays (.int .i64 a) (.int .i64 b)).run P w = .ok (.int .i64 b) w := by
  subst h
  unfold Instr.keyThatStays
  rw [if_pos (by unfold Instr.sameBits; simp)]
  rfl
theorem idx_facts {L : List (Int × Value)} {x : Int} {j : Nat} (h : (L.findIdx? fun p => p.1 == x) = some j) : j < L.length ∧ (L.getD j (0, undef)).1 = x := by
  rw [List.findIdx?_eq_some_iff_getElem] at h
  obtain ⟨hj, he, -⟩ := h
  exact ⟨hj, by simpa [List.getD, hj] using he⟩
theorem idx_none {L : List (Int × Value)} {x : Int} (h : (L.findIdx? fun p => p.1 == x) = none) : x ∉ L.map Prod.fst := by
  rw [List.findIdx?_eq_none_iff] at h
  intro hm
  obtain ⟨p, hp, rfl⟩ := List.mem_map.1 hm
  simpa using h p hp
/-- An entry is turned: its key as it was. -/
theorem modify_pairs {es : Array MapEntry} {L : List (Int × Value)} {c : Nat} {j : Nat} {x : Int} (hl : es.toList.map (fun e => (e.key, e.val)) = L.map (fun p => (Value.int .i64 p.1, p.2))) (hn : (L.map Prod.fst).Nodup) (hs : (es.toList.map (·.born)).Nodup) (hc : ∀ e ∈ es.toList, e.born < c)
    (hj : j < L.length) (hx : (L.getD j (0, undef)).1 = x) (f : MapEntry → MapEntry) (v : Value) (hf : ∀ e, e.key = .int .i64 x → (f e).key = .int .i64 x) (hv : ∀ e, (f e).val = v) (hb : ∀ e, (f e).born = e.born) :
    (es.modify j f).toList.map (fun e => (e.key, e.val)) = (L.set j (x, v)).map (fun p => (Value.int .i64 p.1, p.2)) ∧ ((L.set j (x, v)).map Prod.fst).Nodup ∧ ((es.modify j f).toList.map (·.born)).Nodup ∧ ∀ e ∈ (es.modify j f).toList, e.born < c := by
  obtain ⟨hje, hk, -⟩ := key_at hl j hj
  rw [hx] at hk
  have e1 : (es.modify j f).toList = es.toList.set j (f es[j]) := by
    apply List.ext_getElem?
    intro i
    simp only [Array.getElem?_toList, Array.getElem?_modify, List.getElem?_set]
    by_cases hi : j = i
    · subst hi; simp [hje]
    · simp [hi]
  have hset : (L.set j (x, v)).map Prod.fst = L.map Prod.fst := by
    apply List.ext_getElem?
    intro i
    simp only [List.getElem?_map, List.getElem?_set]
    by_cases hi : j = i
    · subst hi
      simp [hj, ← hx, List.getD]
    · simp [hi]
  have hborn : (es.modify j f).toList.map (·.born) = es.toList.map (·.born) := by
    rw [e1]
    apply List.ext_getElem?
    intro i
    simp only [List.getElem?_map, List.getElem?_set]
    by_cases hi : j = i
    · subst hi
      simp [hje, hb]
    · simp [hi]
  refine ⟨?_, by rw [hset]; exact hn, by rw [hborn]; exact hs, fun e he => ?_⟩
  · rw [e1, List.map_set, hl, List.map_set, hf _ hk, hv]
  · have : e.born ∈ (es.modify j f).toList.map (·.born) := List.mem_map.2 ⟨e, he, rfl⟩
    rw [hborn] at this
    obtain ⟨e', he', h2⟩ := List.mem_map.1 this
    have := hc e' he'
    omega
theorem push_pairs {es : Array MapEntry} {L : List (Int × Value)} {c : Nat} {x : Int} {v : Value} (hl : es.toList.map (fun e => (e.key, e.val)) = L.map (fun p => (Value.int .i64 p.1, p.2))) (hn : (L.map Prod.fst).Nodup) (hs : (es.toList.map (·.born)).Nodup) (hc : ∀ e ∈ es.toList, e.born < c) (hx : x ∉ L.map Prod.fst) :
    (es.push ⟨.int .i64 x, v, c⟩).toList.map (fun e => (e.key, e.val)) = (L ++ [(x, v)]).map (fun p => (Value.int .i64 p.1, p.2)) ∧ ((L ++ [(x, v)]).map Prod.fst).Nodup ∧ ((es.push ⟨.int .i64 x, v, c⟩).toList.map (·.born)).Nodup ∧ ∀ e ∈ (es.push ⟨.int .i64 x, v, c⟩).toList, e.born < c + 1 := by
  refine ⟨by simp [hl], ?_, ?_, fun e he => ?_⟩
  · rw [List.map_append]
    refine List.nodup_append.2 ⟨hn, by simp, fun a ha b hb => ?_⟩
    simp only [List.map_cons, List.map_nil, List.mem_singleton] at hb
    rintro rfl
    exact hx (hb ▸ ha)
  · rw [Array.toList_push, List.map_append]
    refine List.nodup_append.2 ⟨hs, by simp, fun a ha b hb => ?_⟩
    simp only [List.map_cons, List.map_nil, List.mem_singleton] at hb
    obtain ⟨e', he', rfl⟩ := List.mem_map.1 ha
    have := hc e' he'
    omega
  · rw [Array.toList_push] at he
    rcases List.mem_append.1 he with he | he
    · have := hc e he; omega
    · simp only [List.mem_singleton] at he
      subst he
      show c < c + 1
      omega

theorem run_mapUpdate {w : World} (ht : P.underlying t = some (.map k e)) (hk : P.underlying k = some (.int .i64)) {r : Nat} {L : List (Int × Value)} (h : MapI w r L) (x : Int) (v : Value) :
    ∃ w', (Instr.mapUpdate t (.map (some r)) (.int .i64 x) v).run P w = .ok () w' ∧ MapI w' r (put L x v) ∧ w.grownBy w' (some r) ∧ w'.heap.size = w.heap.size := by
  have hlt := h.lt
  obtain ⟨es, c, hb, hl, hn, hs, hc⟩ := h
  have hf := findKey_pairs (P := P) (w := w) hk x hl
  unfold Instr.mapUpdate
  simp only [Sem.run_bind, run_underlying ht, Result.andThen, run_getObj_pairs hb, checkKey_int hk, hf, put]
  cases hi : List.findIdx? (fun p => p.1 == x) L with
  | none =>
    simp only [Option.map_none, run_setObj_pairs hb]
    obtain ⟨a1, a2, a3, a4⟩ := push_pairs (v := v) hl hn hs hc (idx_none hi)
    exact ⟨_, rfl, ⟨_, _, setBlock_at hlt _, a1, a2, a3, a4⟩, setBlock_grown _ _ _, by simp [setBlock]⟩
  | some j =>
    obtain ⟨hj, hx⟩ := idx_facts hi
    obtain ⟨hje, hkey, -⟩ := key_at hl j hj
    rw [hx] at hkey
    have e1 : ((es[j]?.map fun e => e.key).getD (Value.int .i64 x)) = .int .i64 x := by rw [Array.getElem?_eq_getElem hje]; simp [hkey]
    simp only [Option.map_some, e1, Sem.run_bind, stays x x rfl, Result.andThen, run_setObj_pairs hb]
    obtain ⟨a1, a2, a3, a4⟩ := modify_pairs hl hn hs hc hj hx (fun e => { e with key := .int .i64 x, val := v }) v (fun _ _ => rfl) (fun _ => rfl) (fun _ => rfl)
    exact ⟨_, rfl, ⟨_, _, setBlock_at hlt _, a1, a2, a3, a4⟩, setBlock_grown _ _ _, by simp [setBlock]⟩

/-- The entry of x bears the stamp. -/
def Stamped (w : World) (r : Nat) (x : Int) (st : Nat) : Prop := ∃ es c, w.heap[r]? = some (.map es c) ∧ ∃ e ∈ es.toList, e.key = .int .i64 x ∧ e.born = st
theorem Stamped.same {w w' : World} {r : Nat} {x : Int} {st : Nat} (h : Stamped w r x st) (hb : w'.heap[r]? = w.heap[r]?) : Stamped w' r x st := by
  obtain ⟨es, c, h1, h2⟩ := h
  exact ⟨es, c, hb.trans h1, h2⟩
theorem run_mapEntry {w : World} (ht : P.underlying t = some (.map k e)) (hk : P.underlying k = some (.int .i64)) {z : Value} (hz : ∀ w, (zeroValue e).run P w = .ok z w) {r : Nat} {L : List (Int × Value)} (h : MapI w r L) (x : Int) :
    ∃ w' st, (Instr.mapEntry t (.map (some r)) (.int .i64 x)).run P w = .ok (.tuple #[(got L x z).1, .int .i64 (st : Nat)]) w' ∧ MapI w' r (put L x (got L x z).1) ∧ Stamped w' r x st ∧ w.grownBy w' (some r) ∧ w'.heap.size = w.heap.size := by
  have hlt := h.lt
  obtain ⟨es, c, hb, hl, hn, hs, hc⟩ := h
  have hf := findKey_pairs (P := P) (w := w) hk x hl
  unfold Instr.mapEntry
  simp only [Sem.run_bind, run_underlying ht, Result.andThen, run_getObj_pairs hb, checkKey_int hk, hf, put, got]
  cases hi : List.findIdx? (fun p => p.1 == x) L with
  | none =>
    simp only [Option.map_none, Sem.run_bind, hz, Result.andThen, run_setObj_pairs hb]
    obtain ⟨a1, a2, a3, a4⟩ := push_pairs (v := z) hl hn hs hc (idx_none hi)
    exact ⟨_, c, rfl, ⟨_, _, setBlock_at hlt _, a1, a2, a3, a4⟩, ⟨_, _, setBlock_at hlt _, ⟨.int .i64 x, z, c⟩, by simp, rfl, rfl⟩, setBlock_grown _ _ _, by simp [setBlock]⟩
  | some j =>
    obtain ⟨hj, hx⟩ := idx_facts hi
    obtain ⟨hje, hkey, hval⟩ := key_at hl j hj
    rw [hx] at hkey
    have e1 : ((es[j]?.map fun e => e.key).getD (Value.int .i64 x)) = .int .i64 x := by rw [Array.getElem?_eq_getElem hje]; simp [hkey]
    have e2 : ((es[j]?.map fun e => (e.born : Int)).getD 0) = (es[j].born : Int) := by rw [Array.getElem?_eq_getElem hje]; rfl
    simp only [Option.map_some, e1, Sem.run_bind, stays x x rfl, Result.andThen, run_setObj_pairs hb]
    have hself : (es.modify j fun e => { e with key := .int .i64 x }) = es := by
      apply Array.ext_getElem?
      intro i
      rw [Array.getElem?_modify]
      by_cases hi : j = i
      · subst hi
        simp [hje, ← hkey]
      · simp [hi]
    rw [hself]
    have hset : L.set j (x, (L.getD j (0, undef)).2) = L := by
      apply List.ext_getElem?
      intro i
      rw [List.getElem?_set]
      by_cases hi : j = i
      · subst hi
        have hx2 : L[j].1 = x := by simpa [List.getD, hj] using hx
        simp [hj, List.getD, ← hx2]
      · simp [hi]
    rw [hset]
    refine ⟨_, es[j].born, by rw [← e2]; rfl, ⟨es, c, setBlock_at hlt _, hl, hn, hs, hc⟩, ⟨es, c, setBlock_at hlt _, es[j], by simp, hkey, rfl⟩, setBlock_grown _ _ _, by simp [setBlock]⟩
theorem run_entryStore {w : World} {r : Nat} {L : List (Int × Value)} (h : MapI w r L) {x : Int} {st : Nat} (hst : Stamped w r x st) (v : Value) :
    ∃ w', (Instr.entryStore t (.map (some r)) (.int .i64 (st : Int)) v).run P w = .ok () w' ∧ MapI w' r (put L x v) ∧ w.grownBy w' (some r) ∧ w'.heap.size = w.heap.size := by
  have hlt := h.lt
  obtain ⟨es, c, hb, hl, hn, hs, hc⟩ := h
  obtain ⟨es', c', hb', e0, he0, hk0, hb0⟩ := hst
  rw [hb] at hb'
  cases hb'
  obtain ⟨j, hj, rfl⟩ := List.getElem_of_mem he0
  have hsz : es.size = L.length := by simpa using congrArg List.length hl
  have hjs : j < es.size := by simpa using hj
  have hjL : j < L.length := by omega
  have hx : (L.getD j (0, undef)).1 = x := by
    have : es[j].key = .int .i64 x := by simpa using hk0
    rw [(key_at hl j hjL).2.1] at this
    simpa using this
  have hfi : es.findIdx? (fun e => (e.born : Int) == (st : Int)) = some j := by
    rw [Array.findIdx?_eq_some_iff_getElem]
    refine ⟨hjs, ?_, fun i hi => ?_⟩
    · have : es[j].born = st := by simpa using hb0
      simp [this]
    · have h1 : es[j].born = st := by simpa using hb0
      have hne : es[i].born ≠ es[j].born := by
        intro e
        have := (List.getElem_inj (h₀ := by simp; omega) (h₁ := by simp; omega) hs).1 (show (es.toList.map (·.born))[i]'(by simp; omega) = (es.toList.map (·.born))[j]'(by simp; omega) by simpa using e)
        omega
      simp
      intro e
      exact hne (by omega)
  have hidx : (L.findIdx? fun p => p.1 == x) = some j := by
    rw [List.findIdx?_eq_some_iff_getElem]
    refine ⟨hjL, by simpa [List.getD, hjL] using hx, fun i hi => ?_⟩
    have hne : (L.map Prod.fst)[i]'(by simp; omega) ≠ (L.map Prod.fst)[j]'(by simp; omega) := fun e => by
      have := (List.getElem_inj (h₀ := by simp; omega) (h₁ := by simp; omega) hn).1 e
      omega
    have h1 : L[j].1 = x := by simpa [List.getD, hjL] using hx
    simpa [h1] using hne
  unfold Instr.entryStore
  have hA : (asInt (Value.int .i64 (st : Int))).run P w = .ok (st : Int) w := rfl
  simp only [Sem.run_bind, Result.andThen, run_getObj_pairs hb, put, hidx, hA, hfi, run_setObj_pairs hb]
  obtain ⟨a1, a2, a3, a4⟩ := modify_pairs hl hn hs hc hjL hx (fun e => { e with val := v }) v (fun _ h => h) (fun _ => rfl) (fun _ => rfl)
  exact ⟨_, rfl, ⟨_, _, setBlock_at hlt _, a1, a2, a3, a4⟩, setBlock_grown _ _ _, by simp [setBlock]⟩
theorem map_erase {α β : Type} (f : α → β) : ∀ (l : List α) (j : Nat), (l.eraseIdx j).map f = (l.map f).eraseIdx j
  | [], _ => by simp
  | _ :: _, 0 => by simp
  | a :: l, j + 1 => by simp [map_erase f l j]
theorem run_delete {w : World} (ht : P.underlying t = some (.map k e)) (hk : P.underlying k = some (.int .i64)) {r : Nat} {L : List (Int × Value)} (h : MapI w r L) (x : Int) (ty : TypeId) :
    ∃ w', (Builtin.delete_ #[t, k] ty #[.map (some r), .int .i64 x]).run P w = .ok (.tuple #[]) w' ∧ MapI w' r (del L x) ∧ w.grownBy w' (some r) ∧ w'.heap.size = w.heap.size := by
  have hlt := h.lt
  obtain ⟨es, c, hb, hl, hn, hs, hc⟩ := h
  have hf := findKey_pairs (P := P) (w := w) hk x hl
  unfold Builtin.delete_
  simp only [List.getElem?_toArray, List.getElem?_cons_zero, List.getElem?_cons_succ, Sem.run_bind, run_underlying ht, Result.andThen, run_getObj_pairs hb, checkKey_int hk, hf, del]
  cases hi : List.findIdx? (fun p => p.1 == x) L with
  | none =>
    simp only [Option.map_none, Sem.run_bind, run_setObj_pairs hb, Result.andThen, Sem.run_pure]
    exact ⟨_, rfl, ⟨_, _, setBlock_at hlt _, hl, hn, hs, hc⟩, setBlock_grown _ _ _, by simp [setBlock]⟩
  | some j =>
    obtain ⟨hj, hx⟩ := idx_facts hi
    have hsz : es.size = L.length := by simpa using congrArg List.length hl
    have e1 : (es.eraseIdxIfInBounds j).toList = es.toList.eraseIdx j := by
      unfold Array.eraseIdxIfInBounds
      rw [dif_pos (by omega)]
      exact Array.toList_eraseIdx
    simp only [Option.map_some, Sem.run_bind, run_setObj_pairs hb, Result.andThen, Sem.run_pure]
    refine ⟨_, rfl, ⟨_, _, setBlock_at hlt _, ?_, ?_, ?_, fun e he => ?_⟩, setBlock_grown _ _ _, by simp [setBlock]⟩
    · rw [e1, map_erase, hl, map_erase]
    · rw [map_erase]; exact hn.eraseIdx j
    · rw [e1, map_erase]; exact hs.eraseIdx j
    · rw [e1] at he
      exact hc e (List.mem_of_mem_eraseIdx he)

/-- A range over the map under way: the pairs that are still to come. -/
def RngI (w : World) (r it : Nat) (L left : List (Int × Value)) : Prop :=
  ∃ es clock since seen c0, w.heap[r]? = some (.map es clock) ∧ es.toList.map (fun e => (e.key, e.val)) = L.map (fun p => (Value.int .i64 p.1, p.2)) ∧ (L.map Prod.fst).Nodup ∧ (es.toList.map (·.born)).Nodup ∧ (∀ e ∈ es.toList, e.born < clock) ∧
    w.heap[it]? = some (.mapIter (some r) since seen c0) ∧ (∀ e ∈ es.toList, e.born < since) ∧ since ≤ c0 ∧ since ≤ clock ∧ (leftOf es seen).toList.map (fun e => (e.key, e.val)) = left.map (fun p => (Value.int .i64 p.1, p.2))
theorem RngI.map {w : World} {r it : Nat} {L left : List (Int × Value)} (h : RngI w r it L left) : MapI w r L := by
  obtain ⟨es, c, since, seen, c0, h1, h2, h3, h4, h5, -⟩ := h
  exact ⟨es, c, h1, h2, h3, h4, h5⟩
theorem RngI.same {w w' : World} {r it : Nat} {L left : List (Int × Value)} (h : RngI w r it L left) (hr : w'.heap[r]? = w.heap[r]?) (hi : w'.heap[it]? = w.heap[it]?) : RngI w' r it L left := by
  obtain ⟨es, c, since, seen, c0, h1, h2, h3, h4, h5, h6, h7⟩ := h
  exact ⟨es, c, since, seen, c0, hr.trans h1, h2, h3, h4, h5, hi.trans h6, h7⟩
theorem run_range {w : World} (ht : P.underlying t = some (.map k e)) {r : Nat} {L : List (Int × Value)} (h : MapI w r L) :
    ∃ o, (Instr.range t (.map (some r))).run P w = .ok (.pointer (some ⟨w.heap.size, 0, none⟩)) (w.alloc o) ∧ RngI (w.alloc o) r w.heap.size L L := by
  have hlt := h.lt
  obtain ⟨es, c, hb, hl, hn, hs, hc⟩ := h
  refine ⟨.mapIter (some r) c #[] c, ?_, es, c, c, #[], c, ?_, hl, hn, hs, hc, ?_, hc, Nat.le_refl _, Nat.le_refl _, ?_⟩
  · unfold Instr.range
    simp only [Sem.run_bind, run_underlying ht, Result.andThen, run_getObj_pairs hb, Sem.run_pure, run_newObj_alloc]
  · exact (heap_alloc_old w _ r hlt).trans hb
  · show (w.heap.push _)[w.heap.size]? = _
    simp
  · rw [← hl]
    unfold leftOf
    simp only [Array.toList_filter]
    rw [List.filter_eq_self.2 (by simp)]
theorem leftOf_push (es : Array MapEntry) (seen : Array Nat) (b : Nat) : (leftOf es (seen.push b)).toList = (leftOf es seen).toList.filter fun e => e.born != b := by
  unfold leftOf
  simp only [Array.toList_filter, List.filter_filter]
  congr 1
  funext x
  simp only [Array.contains_push, Bool.not_or, bne]
  rw [Bool.and_comm]
theorem filt_pairs : ∀ (A : List MapEntry) (left : List (Int × Value)), A.map (fun e => (e.key, e.val)) = left.map (fun p => (Value.int .i64 p.1, p.2)) → ∀ (x : Int) (b : Nat), (∀ e ∈ A, (e.born = b ↔ e.key = .int .i64 x)) →
    (A.filter fun e => e.born != b).map (fun e => (e.key, e.val)) = (left.filter fun q => q.1 != x).map (fun p => (Value.int .i64 p.1, p.2))
  | [], [], _, _, _, _ => rfl
  | [], _ :: _, h, _, _, _ => by simp at h
  | _ :: _, [], h, _, _, _ => by simp at h
  | a :: A, p :: l, h, x, b, hb => by
    simp only [List.map_cons, List.cons.injEq, Prod.mk.injEq] at h
    obtain ⟨⟨h1, h2⟩, h3⟩ := h
    have ih := filt_pairs A l h3 x b fun e he => hb e (by simp [he])
    have ha := hb a (by simp)
    rw [h1] at ha
    by_cases hx : p.1 = x
    · have : a.born = b := ha.2 (by rw [hx])
      simp [hx, this, ih]
    · have : a.born ≠ b := fun e => hx (by simpa using ha.1 e)
      simp [hx, this, ih, h1, h2]
theorem born_key {es : List MapEntry} {L : List (Int × Value)} (hl : es.map (fun e => (e.key, e.val)) = L.map (fun p => (Value.int .i64 p.1, p.2))) (hn : (L.map Prod.fst).Nodup) (hs : (es.map (·.born)).Nodup) {x y : MapEntry} (hx : x ∈ es) (hy : y ∈ es) : x.born = y.born ↔ x.key = y.key := by
  have hkeys : (es.map (·.key)).Nodup := by
    have e1 : es.map (·.key) = (L.map Prod.fst).map (Value.int .i64) := by
      have := congrArg (fun l => l.map Prod.fst) hl
      simp only [List.map_map] at this ⊢
      exact this
    rw [e1]
    exact hn.map _ fun a b hab hne => hab (by simpa using hne)
  obtain ⟨i, hi, rfl⟩ := List.getElem_of_mem hx
  obtain ⟨j, hj, rfl⟩ := List.getElem_of_mem hy
  constructor
  · intro h
    have := (List.getElem_inj (h₀ := by simpa using hi) (h₁ := by simpa using hj) hs).1 (show (es.map (·.born))[i]'(by simpa using hi) = (es.map (·.born))[j]'(by simpa using hj) by simpa using h)
    subst this
    rfl
  · intro h
    have := (List.getElem_inj (h₀ := by simpa using hi) (h₁ := by simpa using hj) hkeys).1 (show (es.map (·.key))[i]'(by simpa using hi) = (es.map (·.key))[j]'(by simpa using hj) by simpa using h)
    subst this
    rfl
theorem run_next {w : World} {r it : Nat} {L left : List (Int × Value)} (h : RngI w r it L left) (ty : TypeId) :
    (left = [] ∧ (Instr.next (.pointer (some ⟨it, 0, none⟩)) false ty).run P w = .ok (.tuple #[.bool false]) w) ∨
    ∃ p ∈ left, ∃ w', (Instr.next (.pointer (some ⟨it, 0, none⟩)) false ty).run P w = .ok (.tuple #[.bool true, .int .i64 p.1, p.2]) w' ∧ RngI w' r it L (left.filter fun q => q.1 != p.1) ∧ w.grownBy w' (some it) ∧ w'.heap.size = w.heap.size ∧
      (Instr.entry (.pointer (some ⟨it, 0, none⟩))).run P w' = .ok (.tuple #[.int .i64 p.1, p.2]) w' := by
  obtain ⟨es, c, since, seen, c0, hb, hl, hn, hs, hc, hit, hsi, hsc, hsk, hleft⟩ := h
  have hne : r ≠ it := by
    rintro rfl
    rw [hb] at hit
    cases hit
  rcases run_next_at (P := P) w ty it r since c0 seen es c hit hb hsi hsc with ⟨h0, hrun⟩ | ⟨e0, he0, w1, hw1, hrun⟩
  · refine Or.inl ⟨?_, hrun⟩
    have := congrArg List.length hleft
    simp [h0] at this
    exact List.eq_nil_of_length_eq_zero this.symm
  · right
    have hmem : (e0.key, e0.val) ∈ (leftOf es seen).toList.map (fun e => (e.key, e.val)) := List.mem_map.2 ⟨e0, he0, rfl⟩
    rw [hleft] at hmem
    obtain ⟨p, hp, hpe⟩ := List.mem_map.1 hmem
    simp only [Prod.mk.injEq] at hpe
    obtain ⟨hpk, hpv⟩ := hpe
    have he0s : e0 ∈ es.toList := by
      unfold leftOf at he0
      simp at he0
      simpa using he0.1
    have hb1 : w1.heap = w.heap := by rcases hw1 with rfl | rfl <;> rfl
    have hitl : it < w1.heap.size := by rw [hb1]; exact (Array.getElem?_eq_some_iff.1 hit).1
    have hr2 : (setBlock w1 it (.mapIter (some r) since (seen.push e0.born) c)).heap[r]? = some (.map es c) := by
      show (w1.heap.setIfInBounds it _)[r]? = _
      rw [Array.getElem?_setIfInBounds_ne (Ne.symm hne), hb1]
      exact hb
    have hi2 : (setBlock w1 it (.mapIter (some r) since (seen.push e0.born) c)).heap[it]? = some (.mapIter (some r) since (seen.push e0.born) c) := setBlock_at hitl _
    have hgr : w.grownBy (setBlock w1 it (.mapIter (some r) since (seen.push e0.born) c)) (some it) := by
      rcases hw1 with rfl | rfl
      · exact setBlock_grown _ _ _
      · exact ⟨rfl, rfl, rfl, by simp [setBlock], fun i _ hi => by
          have hne : it ≠ i := fun e => hi (by rw [e])
          show (w.heap.setIfInBounds it _)[i]? = _
          rw [Array.getElem?_setIfInBounds_ne hne]⟩
    refine ⟨p, hp, _, by rw [hpk, hpv]; exact hrun, ⟨es, c, since, seen.push e0.born, c, hr2, hl, hn, hs, hc, hi2, hsi, hsk, hsk, ?_⟩, hgr, by simp [setBlock, hb1], ?_⟩
    · rw [leftOf_push]
      refine filt_pairs _ _ hleft _ _ fun x hx => ?_
      have hxs : x ∈ es.toList := by
        unfold leftOf at hx
        simp at hx
        simpa using hx.1
      rw [hpk]
      exact born_key hl hn hs hxs he0s
    · rw [hpk, hpv]
      exact run_entry_at _ it r since seen es c e0 hi2 hr2 he0s hs
end Go.Mp
