/- What the law ScheduleRests keeps. No program. -/
import Derived.Test.YtjnlfibcpkobaaaFa
namespace Go.Proofs.Ytjnlfibcpkobaaa
open Go.RowKit Go.Sl Go.Sched

structure RInv (k n : Nat) (s : St) : Prop where
  ok : Ok s
  bare : Bare s
  len : s.ws.length = n
  lt : ∀ x ∈ tasks s, x < k
  few : (tasks s).length ≤ k
theorem RInv.notin {k n : Nat} {s : St} (h : RInv k n s) : (k : Int) ∉ tasks s := fun hm => by have := h.lt _ hm; omega
theorem RInv.start {n : Nat} (h1 : 1 ≤ n) (h2 : n ≤ 64) : RInv 0 n ⟨List.replicate n wkN, []⟩ := by
  have hw := WInv.start h1 h2
  have ht : tasks ⟨List.replicate n wkN, []⟩ = [] := List.eq_nil_of_length_eq_zero (by have := hw.tasks_few; omega)
  refine ⟨hw.ok, fun k hk ha => ?_, by simp, by rw [ht]; simp, by rw [ht]; simp⟩
  obtain ⟨-, rfl⟩ := List.mem_replicate.1 hk
  rfl
theorem RInv.more {k n : Nat} {s s' : St} (h : RInv k n s) (hok : Ok s') (hb : Bare s') (hl : s'.ws.length = s.ws.length) (hp : List.Perm (tasks s') ((k : Int) :: tasks s)) : RInv (k + 1) n s' := by
  refine ⟨hok, hb, hl.trans h.len, fun x hx => ?_, by rw [hp.length_eq, List.length_cons]; have := h.few; omega⟩
  rcases List.mem_cons.1 (hp.mem_iff.1 hx) with rfl | hx
  · omega
  · have := h.lt x hx; omega
theorem perm_tasks {s s' : St} {t : Int} (hq : List.Perm (qT s') (t :: qT s)) (hr : List.Perm (rT s') (rT s)) : List.Perm (tasks s') (t :: tasks s) :=
  (tasks_perm s').trans ((hq.append hr).trans ((tasks_perm s).symm.cons t))
theorem RInv.submit {k n : Nat} {s : St} (h : RInv k n s) (hk : k < 2000) : submitS s (k : Int) = ((submitS s k).1, (submitS s k).2.1, 0) ∧ RInv (k + 1) n (submitS s k).1 := by
  obtain ⟨e1, hok2, hp2, hl2, hq2, hr2⟩ := submit_ok h.ok (t := (k : Int)) (by omega) h.notin (by have := h.few; omega)
  refine ⟨e1, h.more hok2 ?_ hl2 hp2⟩
  have hp : putE s (k : Int) = 0 := by unfold putE; rw [if_neg h.notin, if_neg (by have := h.few; omega)]
  have e : submitS s (k : Int) = ((wake { s with inj := s.inj ++ [(k : Int)] }).1, (wake { s with inj := s.inj ++ [(k : Int)] }).2, 0) := by
    unfold submitS
    rw [if_neg (by rw [(valid_iff s).2 h.ok]; decide), if_neg (by omega), if_neg (by rw [hp]; decide)]
  rw [e]
  exact bare_wake h.bare
theorem RInv.push {k n : Nat} {s : St} (h : RInv k n s) (hk : k < 2000) {x : Nat} (hx : x < n) (h3 : (s.ws.getD x wk0).ph = 3) : pushS s (x : Int) (k : Int) = ((pushS s x k).1, (pushS s x k).2.1, 0) ∧ RInv (k + 1) n (pushS s x k).1 := by
  have hx2 : x < s.ws.length := by rw [h.len]; exact hx
  obtain ⟨e1, hok2, hl2, hq2, hr2⟩ := push_ok h.ok hx2 h3 (t := (k : Int)) (by omega) h.notin (by have := h.few; omega)
  refine ⟨e1, h.more hok2 ?_ hl2 (perm_tasks hq2 hr2)⟩
  have hp : putE s (k : Int) = 0 := by unfold putE; rw [if_neg h.notin, if_neg (by have := h.few; omega)]
  have e : pushS s x (k : Int) = ((wake (upd s x fun u => { u with q := u.q ++ [(k : Int)] })).1, (wake (upd s x fun u => { u with q := u.q ++ [(k : Int)] })).2, 0) := by
    unfold pushS
    rw [if_neg (by rw [(valid_iff s).2 h.ok]; decide), if_neg (by omega), Int.toNat_natCast, if_neg (by rw [h3]; decide), if_neg (by rw [hp]; decide)]
  rw [e]
  refine bare_wake (bare_upd h.bare x _ fun ha => ?_)
  have := (asl_iff _).1 ha
  simp only at this
  omega
theorem RInv.step {k n : Nat} {s : St} (h : RInv k n s) {x : Nat} (hx : x < n) (c : Int) : RInv k n (stepS s x c).1 := by
  have hx2 : x < s.ws.length := by rw [h.len]; exact hx
  have he := step_eff s x c hx2
  obtain ⟨l, hl⟩ := he.tasks
  refine ⟨ok_step h.ok hx2 c, bare_step h.bare x hx2 c, he.len.trans h.len, fun y hy => h.lt y (hl.mem_iff.2 (List.mem_append_right _ hy)), ?_⟩
  have := hl.length_eq
  rw [List.length_append] at this
  have := h.few
  omega
theorem RInv.phile {k n : Nat} {s : St} (h : RInv k n s) : phi s ≤ 2 * k := by
  have h1 := (tasks_perm s).length_eq
  have h2 := h.few
  rw [List.length_append] at h1
  unfold phi
  omega
/-- The script of the law. -/
def scr (n : Nat) (f : Nat → Int) (N : Nat) : List (Int × Int) := (List.range N).map fun i => (((i % n : Nat) : Int), f i)
theorem scr_len (n : Nat) (f : Nat → Int) (N : Nat) : (scr n f N).length = N := by simp [scr]
theorem scr_succ (n : Nat) (f : Nat → Int) (N : Nat) : scr n f (N + 1) = scr n f N ++ [(((N % n : Nat) : Int), f N)] := by
  unfold scr
  rw [List.range_succ, List.map_append]
  rfl
theorem scr_is (n : Nat) (f : Nat → Int) (k : Nat) : scr n f (n * k) = (script n f 0 k).map fun p => ((p.1 : Int), p.2) := by
  unfold scr script
  rw [List.map_map, Nat.mul_zero, List.range_eq_range']
  rfl
theorem RInv.rests {T n : Nat} {s : St} (h : RInv T n s) (f : Nat → Int) : restS (playS s (scr n f (n * ((T + 4) * (n + 4) * 2)))).1 = true := by
  have hn : 0 < n := by have := h.ok.n1; have := h.len; omega
  have e : 2 * phi s + ((T + 4) * (n + 4) * 2 - 2 * phi s) = (T + 4) * (n + 4) * 2 := by
    have h1 := h.phile
    have h2 : (T + 4) * 5 ≤ (T + 4) * (n + 4) := Nat.mul_le_mul_left _ (by omega)
    omega
  have ht := script_turns n hn f ((T + 4) * (n + 4) * 2) 0
  rw [scr_is, play_run n _ s h.len ht.few]
  refine Proofs.Ytjnlfibcpkobaaa.rests h.ok h.bare (Nat.le_refl _) (b := (T + 4) * (n + 4) * 2 - 2 * phi s) ?_ (by rw [e, h.len]; exact ht)
  have h1 := h.phile
  rw [h.len]
  have h3 : (T + 4) * (n + 4) = T * n + T * 4 + (4 * n + 16) := by rw [Nat.add_mul, Nat.mul_add, Nat.mul_add]
  have h4 : 0 ≤ T * n := Nat.zero_le _
  omega
theorem RInv.stepR {k n : Nat} {s : St} (h : RInv k n s) {x : Nat} (hx : x < n) (c : Int) : Proofs.Ytjnlfibcpkobaaa.stepR s (x : Int) c = ((stepS s x c).1, (stepS s x c).2, 0) := by
  unfold Proofs.Ytjnlfibcpkobaaa.stepR
  rw [if_neg (by rw [(valid_iff s).2 h.ok]; decide), if_neg (by have := h.len; omega), Int.toNat_natCast]
end Go.Proofs.Ytjnlfibcpkobaaa
