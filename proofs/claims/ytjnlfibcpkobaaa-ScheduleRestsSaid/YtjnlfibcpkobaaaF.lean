/- Valid. -/
import Derived.Test.YtjnlfibcpkobaaaE
namespace Go.Proofs.Ytjnlfibcpkobaaa
open Go.RowKit Go.Sl Go.Sched

/-- A state as its two values read. -/
structure StV (w : World) (wsV injV : Value) (qs : List Value) (s : St) : Prop where
  ws : RWs w wsV qs s.ws
  inj : SlI w injV s.inj
  qu : ∀ i, i < s.ws.length → SlI w (qs.getD i undef) (s.ws.getD i wk0).q
theorem StV.below {w w' : World} {wsV injV : Value} {qs : List Value} {s : St} (h : StV w wsV injV qs s) (hb : Below w.heap.size w w') : StV w' wsV injV qs s :=
  ⟨h.ws.below hb, h.inj.below hb, fun i hi => (h.qu i hi).below hb⟩

def small (s : St) : Prop := (tasks s).length ≤ 100000 ∧ s.ws.length ≤ 1000

def valid (s : St) : Bool :=
  decide (1 ≤ s.ws.length) && decide (s.ws.length ≤ 64) && !(s.ws.any fun k => !formed s.ws.length k) && decide ((tasks s).length ≤ 2000) && decide (∀ x ∈ tasks s, 0 ≤ x) && decide (tasks s).Nodup && (s.ws.any (fun k => !asleep k) || (List.range (s.ws.length + 1)).all fun k => (Sched.queue s k).isEmpty || Sched.watched s k)

structure VE (B : Nat) (wsV injV : Value) (qs : List Value) (s : St) (w : World) : Prop where
  st : StV w wsV injV qs s
  b0 : w.cell? ⟨B, 0, none⟩ = some wsV
  b1 : w.cell? ⟨B, 1, none⟩ = some injV
  nc : w.cell? ⟨B + 1, 0, none⟩ = some (.int .i64 (s.ws.length : Int))
theorem VE.below {B : Nat} {wsV injV : Value} {qs : List Value} {s : St} {w w' : World} (h : VE B wsV injV qs s w) (hb : Below w.heap.size w w') : VE B wsV injV qs s w' :=
  ⟨h.st.below hb, hb.at_cell h.b0, hb.at_cell h.b1, hb.at_cell h.nc⟩

theorem queue_calls (wsV injV : Value) (qs : List Value) (s : St) (k : Nat) (w : World) (h : StV w wsV injV qs s) (hk : k ≤ s.ws.length) (hb : s.ws.length ≤ 1000000) :
    Calls Try.prog 54 #[.agg #[wsV, injV], .int .i64 (k : Int)] w fun e w' => (∃ v, e = .returned v ∧ SlI w' v (Sched.queue s k)) ∧ Below w.heap.size w w' := by
  cases k with
  | zero =>
    refine (queue_inj_calls wsV injV w).mono ?_
    rintro e w' ⟨rfl, hb⟩
    exact ⟨⟨_, rfl, h.inj.below hb⟩, hb⟩
  | succ k =>
    rw [show ((k + 1 : Nat) : Int) = (k : Int) + 1 by omega]
    refine (queue_at_calls wsV injV qs s.ws k w h.ws (by omega) hb).mono ?_
    rintro e w' ⟨rfl, hb⟩
    refine ⟨⟨_, rfl, ?_⟩, hb⟩
    have := (h.qu k (by omega)).below hb
    simpa [Sched.queue, wk0] using this

set_option maxRecDepth 100000 in
set_option maxHeartbeats 2000000 in
theorem valid_calls (wsV injV : Value) (qs : List Value) (s : St) (w : World) (h : StV w wsV injV qs s) (hs : small s) :
    Calls Try.prog 23 #[.agg #[wsV, injV]] w fun e w' => e = .returned (.int .i64 (if valid s then 0 else 14)) ∧ Below w.heap.size w w' := by
  obtain ⟨hs1, hs2⟩ := hs
  obtain ⟨a, c, hv⟩ := h.ws.form
  by_cases h1 : s.ws.length < 1
  · have hr : valid s = false := by simp [valid]; omega
    rw [hr]
    subst hv
    have g1 : ((s.ws.length : Int) < 1) := by omega
    generalize s.ws.length = n at *
    clear h
    go_enter Try.func23, Try.ntmps23
    go_wp2
    go_ret
    exact ⟨rfl, (((Below.refl _ _).alloc (Nat.le_refl _) _).alloc (by simp) _)⟩
  by_cases h2 : 64 < s.ws.length
  · have hr : valid s = false := by simp [valid]; omega
    rw [hr]
    subst hv
    have g1 : ¬ ((s.ws.length : Int) < 1) := by omega
    have g2 : (64 : Int) < (s.ws.length : Int) := by omega
    generalize s.ws.length = n at *
    clear h
    go_enter Try.func23, Try.ntmps23
    go_wp2
    go_ret
    exact ⟨rfl, (((Below.refl _ _).alloc (Nat.le_refl _) _).alloc (by simp) _)⟩
  have g1 : ¬ ((s.ws.length : Int) < 1) := by omega
  have g2 : ¬ (64 : Int) < (s.ws.length : Int) := by omega
  have hb : Below w.heap.size w ((w.alloc (.cells #[wsV, injV] 26)).alloc (.cells #[.int .i64 (s.ws.length : Int)] 3)) := (((Below.refl _ _).alloc (Nat.le_refl _) _).alloc (by simp) _)
  have hE : VE w.heap.size wsV injV qs s ((w.alloc (.cells #[wsV, injV] 26)).alloc (.cells #[.int .i64 (s.ws.length : Int)] 3)) := by
    refine ⟨h.below hb, ?_, ?_, ?_⟩
    · rw [World.cell?_alloc_past _ _ _ (by simp), World.cell?_alloc_at _ _ _ _ (by simp)]; rfl
    · rw [World.cell?_alloc_past _ _ _ (by simp), World.cell?_alloc_at _ _ _ _ (by simp)]; rfl
    · rw [World.cell?_alloc_at _ _ _ _ (by simp)]; rfl
  have hans := answers49 _ (w.heap.size + 1) (s.ws.length : Int) (by omega) (by omega) hE.nc
  generalize hV : valid s = V
  have VV := Lib.hid hV
  clear hV
  generalize hn : s.ws.length = n at hs2 h1 h2 g1 g2 hv
  have NN := Lib.hid hn
  subst hv
  rw [hn] at hE hb hans
  go_enter Try.func23, Try.ntmps23
  go_wp2_with fail
  refine (containsFunc_calls _ qs s.ws 49 _ _ _ hE.st.ws (by rw [hn]; omega) hans cf49).mono ?_
  rintro e w1 ⟨rfl, hb1⟩
  replace hE := hE.below hb1
  replace hb := hb.then hb1
  clear hb1 hans h
  generalize hF : (s.ws.any fun k => !formed n k) = F1
  cases F1
  case true =>
    obtain rfl : V = false := by rw [← VV.out]; simp only [valid, hn, hF]; simp
    clear hF hE hn
    go_wp2
    go_ret
    exact ⟨rfl, hb⟩
  obtain ⟨hst, hc0, hc1, hcn⟩ := hE
  rw [hn] at hcn
  have ST := Lib.hid hst
  have NF := Lib.hid hF
  have HB := Lib.hid hb
  clear hst hF hn hb
  go_wp2_with fail
  refine (tasks_calls _ injV qs s w1 ST.out.ws ST.out.inj ST.out.qu (by omega) (by rw [NN.out]; omega)).mono ?_
  rintro e w2 ⟨vl, rfl, hown, hb2⟩
  generalize hL : tasks s = L at *
  have LL := Lib.hid hL
  clear hL
  go_wp2_with fail
  refine (sort_own vl L w1.heap.size w2 hown (by omega) hb2.size).mono ?_
  rintro e w3 ⟨rfl, hown3, hb3⟩
  have hsl := SlI.of_owns hown3
  replace hb3 := hb2.trans hb3
  replace ST := Lib.hid (ST.out.below hb3)
  replace hc0 := hb3.at_cell hc0
  replace hc1 := hb3.at_cell hc1
  replace hcn := hb3.at_cell hcn
  replace HB := Lib.hid (HB.out.then hb3)
  clear hb2 hb3 hown hown3
  have hsd : (L.mergeSort fun x y => decide (x ≤ y)) = sorted L := rfl
  rw [hsd] at hsl
  clear hsd
  have hsle := sorted_length L
  generalize hm : L.length = m at *
  have HM := Lib.hid hm
  clear hm
  by_cases hbig : 2000 < m
  · obtain rfl : V = false := by
      rw [← VV.out]
      have e1 : decide ((tasks s).length ≤ 2000) = false := by rw [LL.out, HM.out]; simp; omega
      simp only [valid, e1]; simp
    obtain ⟨a2, c2, rfl⟩ := hsl.form
    rw [hsle]
    have g3 : (2000 : Int) < (m : Int) := by omega
    clear hsl hsle
    go_wp2
    go_ret
    exact ⟨rfl, HB.out⟩
  have g3 : ¬ (2000 : Int) < (m : Int) := by omega
  have hne : ∀ (neg : Bool), (neg = true → ∃ x ∈ L, x < 0) → neg = true → V = false := by
    intro neg h hn
    rw [← VV.out]
    have e1 : decide (∀ x ∈ tasks s, 0 ≤ x) = false := by
      rw [LL.out]
      simp only [decide_eq_false_iff_not]
      obtain ⟨x, hx, hx0⟩ := h hn
      intro hall
      have := hall x hx
      omega
    simp only [valid, e1]; simp
  have HNE := Lib.hid hne
  clear hne
  have hpos : m = 0 → ∀ x ∈ L, 0 ≤ x := by
    intro h0 x hx
    have : L = [] := List.eq_nil_of_length_eq_zero (by rw [HM.out]; exact h0)
    subst this
    simp at hx
  have HPOS := Lib.hid hpos
  clear hpos
  rcases hsl.cases with ⟨hnil, a2, c2, rfl⟩ | ⟨hmp, b2, o2, c2, rfl, hcell⟩
  case' inr =>
    rw [hsle] at hmp hcell hsl
    have hx0 := hcell 0 hmp
    rw [Nat.add_zero] at hx0
    have hhead := sorted_head L (by rw [HM.out]; exact hmp)
    generalize (sorted L).getD 0 0 = x0 at *
    clear hcell
    rw [hsle]
    have g4 : (0 : Int) < (m : Int) := by omega
    by_cases hx : x0 < 0
  case' inl =>
    have hm0 : m = 0 := by rw [← hsle, hnil]; rfl
    subst hm0
    clear hnil
    have hall := HPOS.out rfl
  case' pos =>
    obtain rfl : V = false := HNE.out true (fun _ => hhead.1 hx) rfl
    clear hsl hhead
    go_wp2
    go_ret
    exact ⟨rfl, HB.out⟩
  case' neg =>
    have hall : ∀ x ∈ L, 0 ≤ x := by
      intro x hx'
      by_cases hlt : x < 0
      · exact absurd (hhead.2 ⟨x, hx', hlt⟩) hx
      · omega
    clear hhead
  all_goals
    have HALL := Lib.hid hall
    clear hall
    go_wp2_with fail
  all_goals
    refine (clone_calls _ (sorted L) w3 hsl (by omega)).mono ?_
    rintro e w4 ⟨vc, rfl, hown4, hb4⟩
    have hiff := compact_len (sorted L) (sorted_pair L)
    rw [hsle, sorted_nodup] at hiff
    go_wp2_with fail
    refine (compact_own vc (sorted L) w3.heap.size w4 hown4 (by omega)).mono ?_
    rintro e w5 ⟨⟨a5, c5, rfl⟩, hb5⟩
    replace hb5 := hb4.trans hb5
    replace ST := Lib.hid (ST.out.below hb5)
    replace hc0 := hb5.at_cell hc0
    replace hc1 := hb5.at_cell hc1
    replace hcn := hb5.at_cell hcn
    replace HB := Lib.hid (HB.out.then hb5)
    clear hb4 hb5 hown4 hsl hsle HNE HPOS
    try clear hx0
    generalize (Lib.compact (sorted L)).length = cl at hiff ⊢
    by_cases hd : L.Nodup
    · have hcl := hiff.2 hd
      clear hiff
      subst hcl
      have hval : V = (s.ws.any (fun k => !asleep k) || (List.range (n + 1)).all fun k => (Sched.queue s k).isEmpty || Sched.watched s k) := by
        rw [← VV.out]
        have e0 : decide (∀ x ∈ tasks s, 0 ≤ x) = true := by rw [LL.out]; exact decide_eq_true HALL.out
        have e1 : decide (tasks s).Nodup = true := by rw [LL.out]; exact decide_eq_true hd
        have e2 : decide ((tasks s).length ≤ 2000) = true := by rw [LL.out, HM.out]; exact decide_eq_true (by omega)
        have e3 : decide (1 ≤ n) = true := decide_eq_true (by omega)
        have e4 : decide (n ≤ 64) = true := decide_eq_true (by omega)
        simp only [valid, e0, e1, e2, NN.out, NF.out, e3, e4, Bool.not_false, Bool.true_and]
      clear VV hd HALL NF LL HM
      have H52 := answers52 w5
      go_wp2_with fail
      refine (containsFunc_calls _ qs s.ws 52 _ _ w5 ST.out.ws (by rw [NN.out]; omega) H52 cf52).mono ?_
      rintro e w6 ⟨rfl, hb6⟩
      replace ST := Lib.hid (ST.out.below hb6)
      replace hc0 := hb6.at_cell hc0
      replace hc1 := hb6.at_cell hc1
      replace hcn := hb6.at_cell hcn
      replace HB := Lib.hid (HB.out.then hb6)
      clear hb6 H52
      generalize s.ws.any (fun k => !asleep k) = A at hval ⊢
      cases A
      case true =>
        obtain rfl : V = true := by rw [hval]; simp
        clear hval
        go_wp2
        go_ret
        exact ⟨rfl, HB.out⟩
      rw [Bool.false_or] at hval
      have HV := Lib.hid hval
      clear hval
      go_wp2
      go_loopw [53] (fun i wr => ∃ k : Nat, k ≤ n + 1 ∧ i = .int .i64 k ∧ Below w6.heap.size w6 wr ∧ ∀ j, j < k → ((Sched.queue s j).isEmpty || Sched.watched s j) = true) (fun i _ => n + 1 - (intOf i).toNat)
      case atStart => exact ⟨0, Nat.zero_le _, rfl, Below.refl _ _, fun j hj => by omega⟩
      case round =>
        obtain ⟨k, hk, rfl, hbel, hal⟩ := hrel
        have AL := Lib.hid hal
        clear hal
        by_cases hlt : k < n + 1
        · have g8 : (k : Int) < (n : Int) + 1 := by omega
          have hc0r := hbel.at_cell hc0
          have hc1r := hbel.at_cell hc1
          have hcnr := hbel.at_cell hcn
          clear hc0 hc1 hcn
          have STr := Lib.hid (ST.out.below hbel)
          go_wp2_with fail
          refine (queue_calls _ injV qs s k wr STr.out (by rw [NN.out]; omega) (by rw [NN.out]; omega)).mono ?_
          rintro e w7 ⟨⟨v7, rfl, hq⟩, hb7⟩
          obtain ⟨a7, c7, rfl⟩ := hq.form
          clear hq
          replace hc0 := hb7.at_cell hc0r
          replace hc1 := hb7.at_cell hc1r
          replace STr := Lib.hid (STr.out.below hb7)
          replace hbel := hbel.then hb7
          clear hb7 hc0r hc1r hcnr
          by_cases hz : (Sched.queue s k).length = 0
          · rw [hz]
            have PK : Hid (((Sched.queue s k).isEmpty || Sched.watched s k) = true) := Lib.hid (by simp [List.eq_nil_of_length_eq_zero hz])
            clear hz
            go_wp2
            go_roundw
            case rel =>
              refine ⟨k + 1, by omega, by go_num, hbel, fun j hj => ?_⟩
              by_cases e : j = k
              · subst e; exact PK.out
              · exact AL.out j (by omega)
            case measure => simp [intOf]; omega
          · have QE : Hid ((Sched.queue s k).isEmpty = false) := Lib.hid (by
              cases hqq : Sched.queue s k with
              | nil => simp [hqq] at hz
              | cons _ _ => rfl)
            generalize (Sched.queue s k).length = lq at hz ⊢
            have g9 : (0 : Int) < (lq : Int) := by omega
            go_wp2_with fail
            refine (watched_calls _ injV qs s (k : Int) w7 STr.out.ws (by rw [NN.out]; omega)).mono ?_
            rintro e w8 ⟨rfl, hb8⟩
            replace hbel := hbel.then hb8
            clear hb8 hc0 hc1
            generalize hW : Sched.watched s (k : Int) = W
            have WW := Lib.hid hW
            clear hW
            cases W
            · obtain rfl : V = false := by
                rw [HV.out, Bool.eq_false_iff]
                intro hal
                have := List.all_eq_true.1 hal k (List.mem_range.2 hlt)
                rw [QE.out, WW.out] at this
                simp at this
              go_wp2
              go_ret
              exact ⟨rfl, HB.out.then hbel⟩
            · go_wp2
              go_roundw
              case rel =>
                refine ⟨k + 1, by omega, by go_num, hbel, fun j hj => ?_⟩
                by_cases e : j = k
                · subst e; rw [WW.out]; simp
                · exact AL.out j (by omega)
              case measure => simp [intOf]; omega
        · have hkn : k = n + 1 := by omega
          subst hkn
          obtain rfl : V = true := by
            rw [HV.out, List.all_eq_true]
            intro j hj
            exact AL.out j (List.mem_range.1 hj)
          clear hc0 hc1 hcn
          have g8 : ¬ (((n + 1 : Nat) : Int) < (n : Int) + 1) := by omega
          go_wp2
          go_ret
          exact ⟨rfl, HB.out.then hbel⟩
    · have hcl := mt hiff.1 hd
      obtain rfl : V = false := by
        rw [← VV.out]
        have e1 : decide (tasks s).Nodup = false := by rw [LL.out]; simp [hd]
        simp only [valid, e1]; simp
      clear hiff hd VV HALL NF LL HM ST
      first
        | have g6 : ((cl : Int) != (m : Int)) = true := by simp; omega
        | have g6 : ((cl : Int) != 0) = true := by simp; omega
      go_wp2
      go_ret
      exact ⟨rfl, HB.out⟩
end Go.Proofs.Ytjnlfibcpkobaaa
