/- TimerFires' SortStableFunc 50: insertionSortCmpFunc 89, stableCmpFunc 77, closure 51. -/
import Derived.Test.YtddajaikighjlaaSb
import Derived.Test.YtddajaikighjlaaSo
import Derived.Test.YtddajaikighjlaaShelf
namespace Go.Proofs
def Try.insSt_ren : Go.Shelf.Ren := ⟨fun | 20 => 89 | n => n, fun | 22 => 119 | 24 => 122 | 25 => 127 | n => n, fun | n => n⟩
theorem Try.insSt : Go.Proofs.SlLaysF0.n20 Try.prog Try.insSt_ren := {
  mixed := by kernel_rfl
  f20 := ⟨Try.f89.name, by decide, Try.func89.trans (congrArg some (by kernel_rfl))⟩
  t0 := Try.underlying0
  a0 := Try.isAgg0
  z0 := Try.sizeOf0
  v0 := Try.zeroValue0
  t3 := Try.underlying3
  a3 := Try.isAgg3
  z3 := Try.sizeOf3
  v3 := Try.zeroValue3
  t4 := Try.underlying4
  a4 := Try.isAgg4
  z4 := Try.sizeOf4
  v4 := Try.zeroValue4
  t22 := Try.underlying119
  a22 := Try.isAgg119
  z22 := Try.sizeOf119
  v22 := Try.zeroValue119
  t25 := Try.underlying127
  a25 := Try.isAgg127
  z25 := Try.sizeOf127
  v25 := Try.zeroValue127 }
end Go.Proofs
namespace Go.Proofs.Ytddajaikighjlaa
open Go.RowKit Go.Sl Go.Mp Go.Wh Go.Sort Go.Proofs

/-- What the closure answers. -/
def cfA (x y : Int × Int) : Int := wrap64 (x.2 - y.2)
theorem f51_calls (x y : Int × Int) (W : World) : Calls Try.prog 51 #[.agg (encF x).toArray, .agg (encF y).toArray] W fun e w' => e = .returned (.int .i64 (cfA x y)) ∧ ∃ q os, w' = Sort.grow (W.drewN q) os := by
  obtain ⟨a, b⟩ := x
  obtain ⟨c, d⟩ := y
  unfold cfA
  simp only [encF]
  go_enter Try.func51, Try.ntmps51
  go_wp2
  go_ret
  exact ⟨rfl, 0, _, by rw [Sort.alloc_eq_grow, Sort.alloc_eq_grow, Sort.grow_grow]; rfl⟩
instance : Inhabited (Int × Int) := ⟨(0, 0)⟩

set_option maxHeartbeats 1000000 in
theorem ins89_calls (v : Value) (l : List (Int × Int)) (base a b : Nat) (w : World) (h : w.ownsRow base 122 2 v l.length (l.flatMap encF)) (h0 : 0 < l.length) (hb : l.length ≤ 1000000) (hab : a ≤ b) (hbl : b ≤ l.length) (hs : (Sort.insertionSort (ltOf cfA) l.toArray a b).size = l.length) :
    Calls Try.prog 89 #[v, .int .i64 (a : Int), .int .i64 (b : Int), .func (.func 51) #[] #[]] w fun e w' => e = .returned (.tuple #[]) ∧ w'.ownsRow base 122 2 v l.length ((Sort.insertionSort (ltOf cfA) l.toArray a b).toList.flatMap encF) ∧ w.grownBy w' v.ownBlock := by
  rcases h.2 with ⟨rfl, h1⟩ | ⟨g, cap, cur, rfl, hg, hc, h1, h2, h3, h4⟩
  · omega
  · have hH := holdsK_block encF 2 encF_len (by omega) (l := l) hc h4
    have hlt : g < w.heap.size := (Array.getElem?_eq_some_iff.1 hc).1
    have eg : ∀ args w, (callFunc 51 args).run Try.prog w = .ok (.enter 51 args) w := enters_of Try.func51 (by kernel_rfl) rfl
    have hcon := AnyQ.insertionSortCmpFunc Try.insSt 2 Try.isAgg122 Try.sizeOf122 encF encF_len (fun x v hv => by simp [encF] at hv; rcases hv with rfl | rfl <;> rfl) cfA 51 #[] g 0 cap a b l.toArray w eg (fun _ _ _ _ x y => f51_calls x y _) hH hlt hab (by simpa using hbl) (by simp; omega)
    change Calls Try.prog 89 _ _ _ at hcon
    simp only [List.size_toArray] at hcon
    refine hcon.mono ?_
    rintro e w' ⟨rfl, n, os, rfl⟩
    obtain ⟨d', hd⟩ : ∃ d', Sort.insertionSort (ltOf cfA) l.toArray a b = d' := ⟨_, rfl⟩
    rw [hd] at hs ⊢
    have hd2 : d' = d'.toList.toArray := by simp
    have hfs : (Sort.flatK encF 2 d').size = l.length * 2 := by simp [hs]
    refine ⟨rfl, ⟨by rw [flat_len encF 2 encF_len, Array.length_toList, hs], .inr ⟨g, cap, _, rfl, hg, heap_sortedK encF 2 _ hc, h1, h2, by simp [Sort.putCells, h3], ?_⟩⟩, grownBy_sortedK encF 2 _⟩
    rw [← hfs, take_putCellsK _ _ (by rw [hfs, h3]; omega)]
    conv => lhs; rw [hd2]
    rw [flatK_list encF 2 encF_len (by omega)]
end Go.Proofs.Ytddajaikighjlaa
