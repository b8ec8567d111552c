/- The wheels' lists and the maps' pairs. No program. -/
import Derived.Test.YtddajaikighjlaaMp
import Derived.Test.YtddajaikighjlaaWh
namespace Go.Mp
open Go.RowKit Go.ChangeMaps Go.Wh

/-- Pairs with their values written as values of the machine. -/
def mv {α : Type} (f : α → Value) (L : List (Int × α)) : List (Int × Value) := L.map fun p => (p.1, f p.2)
theorem mv_idx {α : Type} (f : α → Value) (L : List (Int × α)) (x : Int) : ((mv f L).findIdx? fun p => p.1 == x) = L.findIdx? fun p => p.1 == x := by
  induction L with
  | nil => rfl
  | cons p l ih =>
    unfold mv at ih ⊢
    simp only [List.map_cons, List.findIdx?_cons, ih]
theorem mv_put {α : Type} (f : α → Value) (L : List (Int × α)) (x : Int) (v : α) : put (mv f L) x (f v) = mv f (putA L x v) := by
  unfold put putA
  rw [mv_idx]
  cases L.findIdx? fun p => p.1 == x with
  | none => simp [mv]
  | some j => simp [mv, List.map_set]
theorem mv_del {α : Type} (f : α → Value) (L : List (Int × α)) (x : Int) : del (mv f L) x = mv f (delA L x) := by
  unfold del delA
  rw [mv_idx]
  cases L.findIdx? fun p => p.1 == x with
  | none => rfl
  | some j => simp [mv, map_erase]
theorem mv_got {α : Type} (f : α → Value) (L : List (Int × α)) (x : Int) (z : α) : got (mv f L) x (f z) = (f (getA L x z).1, (getA L x z).2) := by
  unfold got getA
  rw [mv_idx]
  cases h : L.findIdx? fun p => p.1 == x with
  | none => rfl
  | some j =>
    rw [List.findIdx?_eq_some_iff_getElem] at h
    obtain ⟨hj, -⟩ := h
    simp [mv, List.getD, hj]
theorem mv_len {α : Type} (f : α → Value) (L : List (Int × α)) : (mv f L).length = L.length := by simp [mv]
/-- What map updates and then stores: the second wins. -/
theorem put_put (L : List (Int × Value)) (x : Int) (u v : Value) : put (put L x u) x v = put L x v := by
  unfold put
  cases h : L.findIdx? fun p => p.1 == x with
  | none =>
    have h2 : ((L ++ [(x, u)]).findIdx? fun p => p.1 == x) = some L.length := by
      rw [List.findIdx?_append, h]
      simp [List.findIdx?_cons]
    simp only [h2]
    simp
  | some j =>
    obtain ⟨hj, -⟩ := idx_facts h
    have h2 : ((L.set j (x, u)).findIdx? fun p => p.1 == x) = some j := by
      rw [List.findIdx?_eq_some_iff_getElem] at h ⊢
      obtain ⟨_, he, hlt⟩ := h
      refine ⟨by simpa using hj, by simp, fun i hi => ?_⟩
      have := hlt i hi
      rw [List.getElem_set_ne (by omega)]
      exact this
    simp only [h2]
    simp
end Go.Mp
