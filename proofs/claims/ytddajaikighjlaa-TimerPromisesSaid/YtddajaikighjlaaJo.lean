/- What Join answers; rows of promises. -/
import Derived.Test.YtddajaikighjlaaPe
namespace Go.Proofs.Ytddajaikighjlaa
open Go.RowKit Go.Sl

def sumW (l : List Pr) : Int := l.foldl (fun s p => wrap64 (s + p.val)) 0
theorem sumW_succ {l : List Pr} {k : Nat} {p : Pr} (h : l[k]? = some p) : sumW (l.take (k + 1)) = wrap64 (sumW (l.take k) + p.val) := by
  unfold sumW
  rw [List.take_add_one, h, List.foldl_append]
  rfl
def joinS (l : List Pr) : Pr × Int :=
  if l.any (fun p => okP p != 0) then (pr0, 2) else
    match l.find? (fun p => p.ph == 2) with
    | some p => (⟨2, p.val, []⟩, 0)
    | none => if l.any (fun p => p.ph == 0) then (pr0, 0) else (⟨1, sumW l, []⟩, 0)
theorem joinS_bad {l : List Pr} {k : Nat} {p : Pr} (h : l[k]? = some p) (hp : okP p ≠ 0) : joinS l = (pr0, 2) := by
  unfold joinS
  rw [if_pos]
  rw [List.any_eq_true]
  exact ⟨p, List.mem_of_getElem? h, by simpa using hp⟩
/-- All of the first k are right. -/
def Right (l : List Pr) (k : Nat) : Prop := ∀ p ∈ l.take k, okP p = 0
theorem Right.zero (l : List Pr) : Right l 0 := by intro p hp; simp at hp
theorem Right.succ {l : List Pr} {k : Nat} {p : Pr} (h : Right l k) (hp : l[k]? = some p) (h0 : okP p = 0) : Right l (k + 1) := by
  intro q hq
  rw [List.take_add_one, hp] at hq
  simp only [Option.toList_some, List.mem_append, List.mem_singleton] at hq
  rcases hq with hq | rfl
  · exact h q hq
  · exact h0
theorem Right.all {l : List Pr} {k : Nat} (h : Right l k) (hk : k = l.length) : l.any (fun p => okP p != 0) = false := by
  rw [List.any_eq_false]
  intro p hp
  have := h p (by rw [hk, List.take_length]; exact hp)
  simp [this]
/-- The first of the first k that is rejected. -/
def rejS (l : List Pr) (k : Nat) : Option Pr := (l.take k).find? (fun p => p.ph == 2)
def opS (l : List Pr) (k : Nat) : Bool := (l.take k).any (fun p => p.ph == 0)
theorem rejS_succ {l : List Pr} {k : Nat} {p : Pr} (hp : l[k]? = some p) : rejS l (k + 1) = (rejS l k).or (if p.ph = 2 then some p else none) := by
  unfold rejS
  rw [List.take_add_one, hp, List.find?_append]
  by_cases h : p.ph = 2 <;> simp [h]
theorem opS_succ {l : List Pr} {k : Nat} {p : Pr} (hp : l[k]? = some p) : opS l (k + 1) = (opS l k || decide (p.ph = 0)) := by
  unfold opS
  rw [List.take_add_one, hp, List.any_append]
  by_cases h : p.ph = 0 <;> simp [h]
theorem joinS_right {l : List Pr} {k : Nat} (h : Right l k) (hk : k = l.length) : joinS l = match rejS l k with
    | some p => (⟨2, p.val, []⟩, 0)
    | none => if opS l k then (pr0, 0) else (⟨1, sumW (l.take k), []⟩, 0) := by
  unfold joinS
  rw [if_neg (by rw [h.all hk]; simp)]
  unfold rejS opS
  rw [hk, List.take_length]
theorem find_take {l : List Pr} {k : Nat} {p : Pr} (hp : l[k]? = some p) (h2 : p.ph = 2) (hn : rejS l k = none) : l.find? (fun p => p.ph == 2) = some p := by
  have hs := rejS_succ hp
  rw [hn, if_pos h2] at hs
  unfold rejS at hs
  have e : l = l.take (k + 1) ++ l.drop (k + 1) := (List.take_append_drop _ _).symm
  rw [e, List.find?_append, hs]
  rfl
theorem joinS_rej {l : List Pr} (hr : l.any (fun p => okP p != 0) = false) {k : Nat} {p : Pr} (hp : l[k]? = some p) (h2 : p.ph = 2) (hn : rejS l k = none) : joinS l = (⟨2, p.val, []⟩, 0) := by
  unfold joinS
  rw [if_neg (by rw [hr]; simp), find_take hp h2 hn]

/-- A row of promises. -/
def RowP (w : World) (v : Value) (l : List Pr) : Prop := ∃ a c, v = .slice a l.length c ∧ ∀ i p, l[i]? = some p → ∃ g o sv, a = some ⟨g, o, none⟩ ∧ w.cell? ⟨g, o + i * 3, none⟩ = some (.int .i64 p.ph) ∧ w.cell? ⟨g, o + i * 3 + 1, none⟩ = some (.int .i64 p.val) ∧ w.cell? ⟨g, o + i * 3 + 2, none⟩ = some sv ∧ SlI w sv p.wt
theorem RowP.below {w w' : World} {v : Value} {l : List Pr} (h : RowP w v l) (hb : Below w.heap.size w w') : RowP w' v l := by
  obtain ⟨a, c, rfl, h2⟩ := h
  refine ⟨a, c, rfl, fun i p hp => ?_⟩
  obtain ⟨g, o, sv, h1, h3, h4, h5, h6⟩ := h2 i p hp
  exact ⟨g, o, sv, h1, hb.at_cell h3, hb.at_cell h4, hb.at_cell h5, h6.below hb⟩
/-- The cells of promises with their slices. -/
def encA (e : Pr × Value) : List Value := [.int .i64 e.1.ph, .int .i64 e.1.val, e.2]
theorem encA_len (e : Pr × Value) : (encA e).length = 3 := rfl
theorem RowP.own {w : World} {b : Nat} {t : TypeId} {v : Value} {ls : List (Pr × Value)} (h : w.ownsRow b t 3 v ls.length (ls.flatMap encA)) (hs : ∀ e ∈ ls, SlI w e.2 e.1.wt) : RowP w v (ls.map (·.1)) := by
  by_cases h0 : 0 < ls.length
  · obtain ⟨g, cap, rfl, -, hc⟩ := own_form2 h h0
    refine ⟨_, cap, by rw [List.length_map], fun i p hp => ?_⟩
    rw [List.getElem?_map, Option.map_eq_some_iff] at hp
    obtain ⟨e, he, rfl⟩ := hp
    refine ⟨g, 0, e.2, rfl, ?_, ?_, ?_, hs e (List.mem_of_getElem? he)⟩
    · refine (congrArg _ (by simp)).trans (hc (i * 3) _ ?_)
      rw [Go.Mp.flat_get encA 3 encA_len (by omega), show i * 3 / 3 = i by omega, show i * 3 % 3 = 0 by omega, he]
      rfl
    · refine (congrArg _ (by simp)).trans (hc (i * 3 + 1) _ ?_)
      rw [Go.Mp.flat_get encA 3 encA_len (by omega), show (i * 3 + 1) / 3 = i by omega, show (i * 3 + 1) % 3 = 1 by omega, he]
      rfl
    · refine (congrArg _ (by simp)).trans (hc (i * 3 + 2) _ ?_)
      rw [Go.Mp.flat_get encA 3 encA_len (by omega), show (i * 3 + 2) / 3 = i by omega, show (i * 3 + 2) % 3 = 2 by omega, he]
      rfl
  · have hL : ls = [] := List.eq_nil_of_length_eq_zero (by omega)
    subst hL
    obtain ⟨a, cap, rfl⟩ := own_form h
    exact ⟨a, cap, rfl, fun i p hp => by simp at hp⟩
end Go.Proofs.Ytddajaikighjlaa
