/- The law ScheduleBells: its walk. -/
import Derived.Test.YtjnlfibcpkobaaaBl
import Derived.Deep.RegionLaw
import Derived.Deep.CutRange
namespace Go.Proofs.Ytjnlfibcpkobaaa
open Go.RowKit Go.Sl Go.Conc

theorem cells_at {w : World} {b o : Nat} {v : Value} (h : w.cell? ⟨b, o, none⟩ = some v) : ∃ x y z, w.heap[b]? = some (.cells x y z) := by
  simp only [World.cell?] at h
  split at h
  · rename_i x y z h1
    exact ⟨x, y, z, h1⟩
  · cases h

theorem setChan_same {w : World} {c cap s r : Nat} {buf : Array Value} {cl tm : Bool} (h : w.heap[c]? = some (.chan cap buf cl s r tm)) : w.setChan c cap buf cl s r tm = w := by
  obtain ⟨hlt, he⟩ := Array.getElem?_eq_some_iff.1 h
  simp only [World.setChan]
  have : w.heap.setIfInBounds c (.chan cap buf cl s r tm) = w.heap := by
    rw [← he]
    simp [Array.setIfInBounds, hlt]
  rw [this]
theorem cell_setChan {w : World} {c : Nat} (cap : Nat) (buf : Array Value) (cl : Bool) (s r : Nat) (tm : Bool) {a : Addr} {v : Value} (h : w.cell? a = some v) (hc : ∀ x y z, w.heap[c]? ≠ some (.cells x y z)) : (w.setChan c cap buf cl s r tm).cell? a = some v := by
  have hne : a.block ≠ c := by
    rintro rfl
    obtain ⟨b, o, sp⟩ := a
    have hs := World.cell?_spot h
    simp only at hs
    subst hs
    obtain ⟨x, y, z, h1⟩ := cells_at h
    exact hc _ _ _ h1
  rw [World.cell?_of_block (setChan_far hne)]
  exact h
/-- A slice of bytes. -/
def SlB (w : World) (v : Value) (l : List Int) : Prop := SlV w v l.length 1 (l.map (Value.int .u8))

set_option maxRecDepth 100000 in
set_option maxHeartbeats 8000000 in
theorem law6_calls (v : Value) (l : List Int) (w : World) (h : SlB w v l) (hl : ∀ x ∈ l, 0 ≤ x ∧ x < 256) :
    Calls Try.prog 6 #[v] w fun e w' => e = .returned (.bool true) ∧ Below w.heap.size w w' := by
  obtain ⟨a, c, rfl⟩ := SlV.form h
  have H := Lib.hid h
  have HL := Lib.hid hl
  clear h hl
  by_cases h40 : 40 < l.length
  · have g1 : (40 : Int) < (l.length : Int) := by omega
    clear h40
    go_enter Try.func6, Try.ntmps6
    go_wp2_with fail
    refine (awake_calls _).mono ?_
    rintro e w1 ⟨rfl, hb⟩
    go_wp2_with fail
    go_ret
    exact ⟨rfl, hb⟩
  have g1 : ¬ (40 : Int) < (l.length : Int) := by omega
  have H40 := Lib.hid h40
  clear h40
  have hw0 : Below w.heap.size w ((w.alloc (.cells #[.pointer none, .pointer none, .pointer none, .pointer none] 68)).alloc (.cells #[.bool false, .bool false, .bool false, .bool false] 69)) := ((Below.refl _ _).alloc (Nat.le_refl _) _).alloc (by simp) _
  have hA0 : ((w.alloc (.cells #[.pointer none, .pointer none, .pointer none, .pointer none] 68)).alloc (.cells #[.bool false, .bool false, .bool false, .bool false] 69)).heap[w.heap.size]? = some (.cells #[.pointer none, .pointer none, .pointer none, .pointer none] 68 (0, 0)) := by
    rw [heap_alloc_old _ _ (by simp)]
    exact heap_alloc_new _ _
  have hR0 : ((w.alloc (.cells #[.pointer none, .pointer none, .pointer none, .pointer none] 68)).alloc (.cells #[.bool false, .bool false, .bool false, .bool false] 69)).heap[w.heap.size + 1]? = some (.cells #[.bool false, .bool false, .bool false, .bool false] 69 (0, 0)) := by
    have := heap_alloc_new (w.alloc (.cells #[.pointer none, .pointer none, .pointer none, .pointer none] 68)) (.cells #[.bool false, .bool false, .bool false, .bool false] 69)
    simpa using this
  have hB0 : Bls w w.heap.size (w.heap.size + 1) 0 (fun _ => (0, 0)) (fun _ => false) ((w.alloc (.cells #[.pointer none, .pointer none, .pointer none, .pointer none] 68)).alloc (.cells #[.bool false, .bool false, .bool false, .bool false] 69)) := by
    refine ⟨hw0, Nat.le_refl _, by omega, ⟨_, hA0, rfl⟩, ⟨_, hR0, rfl⟩, fun k hk => by omega, fun k hk => ?_, fun k hk => by omega, fun k hk => by omega, fun k hk => by omega⟩
    rw [cell_of_row _ _ k _ 69 (0, 0) hR0]
    match k, hk with
    | 0, _ => rfl
    | 1, _ => rfl
    | 2, _ => rfl
    | 3, _ => rfl
  have B0 := Lib.hid hB0
  clear hw0 hA0 hR0 hB0
  go_enter Try.func6, Try.ntmps6
  go_wp2_with fail
  go_loopw [17] (fun i wr => ∃ (k : Nat) (f : Nat → Nat × Nat), k ≤ 4 ∧ i = .int .i64 (k : Int) ∧ Bls w w.heap.size (w.heap.size + 1) k f (fun _ => false) wr) (fun i _ => 4 - (intOf i).toNat)
  case atStart => exact ⟨0, _, by omega, rfl, B0.out⟩
  case round =>
    obtain ⟨k, f, hk, rfl, hB⟩ := hrel
    by_cases hlt : k < 4
    · have g3 : (k : Int) < 4 := by omega
      have g4 : (0 : Int) ≤ (k : Int) := by omega
      have hb : Below wr.heap.size wr ((wr.alloc (.chan 1 #[] false 0 0 false)).alloc (.cells #[.chan (some wr.heap.size)] 73)) := ((Below.refl _ _).alloc (Nat.le_refl _) _).alloc (by simp) _
      have h2 := hB.then hb
      obtain ⟨v0, c0⟩ := h2.hasA k hlt
      have f0 := h2.free.1
      have B2 := Lib.hid (hB.add hlt)
      clear hB h2 hb
      go_wp2_with fail
      refine (newbell_calls _).mono ?_
      rintro e w1 ⟨rfl, rfl⟩
      go_wp2_with fail
      go_roundw
      case rel => exact ⟨k + 1, _, by omega, by go_num, B2.out⟩
      case measure => simp [intOf]; omega
    · have hk4 : k = 4 := by omega
      subst hk4
      have HB := Lib.hid hB
      clear hB hlt
      go_wp2_with fail
      rw [show ((4 : Nat) : Int) = 4 from rfl]
      go_loopw [30] (fun i wr => ∃ (k : Nat) (rg : Nat → Bool), k ≤ l.length ∧ i = .int .i64 (k : Int) ∧ Bls w w.heap.size (w.heap.size + 1) 4 f rg wr) (fun i _ => l.length - (intOf i).toNat)
      case atStart => exact ⟨0, _, Nat.zero_le _, rfl, HB.out⟩
      case round =>
        obtain ⟨k, rg, hk, rfl, hB⟩ := hrel
        by_cases hlt : k < l.length
        · rcases H.out.2 with ⟨h0, _⟩ | ⟨h0, sb, so, sc, hse, hcell⟩
          · omega
          cases hse
          have hxm : l[k] ∈ l := List.getElem_mem hlt
          obtain ⟨xn, hxn⟩ : ∃ xn : Nat, l[k] = (xn : Int) := ⟨l[k].toNat, by have := HL.out _ hxm; omega⟩
          have hx256 : xn < 256 := by have := HL.out _ hxm; omega
          have hc := hB.bel.at_cell (hcell k (.int .u8 (xn : Int)) (by simp [hlt, hxn]))
          obtain ⟨q, hq, hq4⟩ : ∃ q : Nat, (xn : Int) % 4 = (q : Int) ∧ q < 4 := ⟨xn % 4, by omega, by omega⟩
          have g3 : (k : Int) < (l.length : Int) := by omega
          have g4 : (0 : Int) ≤ (k : Int) := by omega
          have g5 : (q : Int) < 4 := by omega
          have g6 : (0 : Int) ≤ (q : Int) := by omega
          have hab := hB.ab q hq4
          have hbc := hB.bc q hq4
          have hbcell : wr.cell? ⟨(f q).1, 0, none⟩ = some (.chan (some (f q).2)) := by rw [cell_of_row _ _ 0 _ 73 (0, 0) hbc]; rfl
          have HB := Lib.hid hB
          clear hB hcell hxm hxn hbc h0
          go_upto_if 42 with (fail)
          go_cut [9] from 40 to 45 (fun t9 wx => ∃ B, t9 = .pointer (some ⟨B, 0, none⟩) ∧ wx.cell? ⟨B, 0, none⟩ = some (.chan (some (f q).2)) ∧ Bls w w.heap.size (w.heap.size + 1) 4 f rg wx)
          case first =>
            go_wp2_with fail
            all_goals (go_meet; case' rel => skip)
            · exact ⟨_, rfl, by rw [World.cell?_alloc_at _ _ _ _ (by simp)]; rfl, HB.out.then ((Below.refl _ _).alloc (Nat.le_refl _) _)⟩
            · exact ⟨_, rfl, hbcell, HB.out⟩
          case rest =>
            obtain ⟨B, rfl, hcb, hB⟩ := hcut
            clear hc hab hbcell HB
            rw [hq]
            have hBd := hB.then ((Below.refl _ _).drew)
            have hcbd : wc.drew.cell? ⟨B, 0, none⟩ = some (.chan (some (f q).2)) := hcb
            obtain ⟨hck, s0, r0, hch⟩ := hBd.ch q hq4
            have har := hBd.ar q hq4
            have haf := hBd.free.2
            have hclt := (Array.getElem?_eq_some_iff.1 hch).1
            have HB := Lib.hid hB
            have HBD := Lib.hid hBd
            clear hB hBd
            go_upto_if 48 with (fail)
            go_cut [9] from 46 to 64 (fun t9 wx => t9 = .pointer (some ⟨B, 0, none⟩) ∧ ∃ rg', wx.cell? ⟨B, 0, none⟩ = some (.chan (some (f q).2)) ∧ Bls w w.heap.size (w.heap.size + 1) 4 f rg' wx)
            case first =>
              have e0 : bufOf false = #[] := rfl
              have e1 : bufOf true = #[.agg #[]] := rfl
              have hnB : B ≠ w.heap.size + 1 := by
                intro e
                have h1 := HBD.out.ar 0 (by omega)
                rw [e] at hcbd
                rw [hcbd] at h1
                cases h1
              have hnB2 : (⟨B, 0, none⟩ : Addr) ≠ ⟨w.heap.size + 1, q, none⟩ := fun e => hnB (congrArg Addr.block e)
              cases hrq : rg q with
              | true =>
                rw [hrq] at hch har
                have hch2 : wc.drew.heap[(f q).2]? = some (.chan 1 #[.agg #[]] false s0 r0 false) := hch
                have hsame := setChan_same hch2
                have ht1 := HBD.out.turn hq4 true s0 r0
                have ht2 := HBD.out.turn hq4 false s0 (r0 + 1)
                rw [e1, hsame] at ht1
                rw [e0] at ht2
                obtain ⟨b1, -, -⟩ := ht1
                obtain ⟨b2, a2, f2⟩ := ht2
                have a2q := a2 q hq4
                rw [hrq] at a2q
                have hcell2 := cell_setChan (c := (f q).2) 1 #[] false s0 (r0 + 1) false hcbd (by rw [hch]; simp)
                have hring := ring_full B 0 (f q).2 s0 r0 false wc.drew hcbd hch2
                have hheard := heard_rung B 0 (f q).2 s0 r0 false wc.drew hcbd hch2
                have k1 := (World.cell?_setCell_other wc.drew ⟨w.heap.size + 1, q, none⟩ ⟨B, 0, none⟩ (.bool true) (Ne.symm hnB2)).trans hcbd
                have k2 := (World.cell?_setCell_other _ ⟨w.heap.size + 1, q, none⟩ ⟨B, 0, none⟩ (.bool false) (Ne.symm hnB2)).trans hcell2
                have B1 := Lib.hid b1
                have B2 := Lib.hid b2
                have K1 := Lib.hid k1
                have K2 := Lib.hid k2
                have HRI := Lib.hid hring
                have HHE := Lib.hid hheard
                clear b1 b2 a2 hsame k1 k2 hring hheard hcell2
                go_wp2_with fail
                · go_region_with (go_at_call 26; refine HRI.out.mono ?_; rintro e wy ⟨rfl, rfl⟩)
                  all_goals (
                    go_wp2_with fail
                    go_meet
                    case' rel => exact ⟨rfl, _, K1.out, B1.out⟩)
                · go_region_with (go_at_call 27; refine HHE.out.mono ?_; rintro e wy ⟨rfl, rfl⟩)
                  all_goals (
                    go_wp2_with fail
                    go_meet
                    case' rel => exact ⟨rfl, _, K2.out, B2.out⟩)
              | false =>
                rw [hrq] at hch har
                have hch2 : wc.drew.heap[(f q).2]? = some (.chan 1 #[] false s0 r0 false) := hch
                have hsame := setChan_same hch2
                have ht1 := HBD.out.turn hq4 true (s0 + 1) r0
                have ht2 := HBD.out.turn hq4 false s0 r0
                rw [e1] at ht1
                rw [e0, hsame] at ht2
                obtain ⟨b1, a2, f2⟩ := ht1
                obtain ⟨b2, -, -⟩ := ht2
                have a2q := a2 q hq4
                rw [hrq] at a2q
                have hcell2 := cell_setChan (c := (f q).2) 1 #[.agg #[]] false (s0 + 1) r0 false hcbd (by rw [hch]; simp)
                have hring := ring_room B 0 (f q).2 s0 r0 false wc.drew hcbd hch2
                have hheard := heard_none B 0 (f q).2 s0 r0 false wc.drew hcbd hch2
                have k1 := (World.cell?_setCell_other _ ⟨w.heap.size + 1, q, none⟩ ⟨B, 0, none⟩ (.bool true) (Ne.symm hnB2)).trans hcell2
                have k2 := (World.cell?_setCell_other wc.drew ⟨w.heap.size + 1, q, none⟩ ⟨B, 0, none⟩ (.bool false) (Ne.symm hnB2)).trans hcbd
                have B1 := Lib.hid b1
                have B2 := Lib.hid b2
                have K1 := Lib.hid k1
                have K2 := Lib.hid k2
                have HRI := Lib.hid hring
                have HHE := Lib.hid hheard
                clear b1 b2 a2 hsame k1 k2 hring hheard hcell2
                go_wp2_with fail
                · go_region_with (go_at_call 26; refine HRI.out.mono ?_; rintro e wy ⟨rfl, rfl⟩)
                  all_goals (
                    go_wp2_with fail
                    go_meet
                    case' rel => exact ⟨rfl, _, K1.out, B1.out⟩)
                · go_region_with (go_at_call 27; refine HHE.out.mono ?_; rintro e wy ⟨rfl, rfl⟩)
                  all_goals (
                    go_wp2_with fail
                    go_meet
                    case' rel => exact ⟨rfl, _, K2.out, B2.out⟩)
            case rest =>
              obtain ⟨rfl, rg', hcb2, hB2⟩ := hcut
              clear hch har haf hclt hcb hcbd HB HBD hck
              have HB2 := Lib.hid hB2
              clear hB2
              go_wp2_with fail
              go_loopw [65] (fun i wr => ∃ j : Nat, j ≤ 4 ∧ i = .int .i64 (j : Int) ∧ wr.cell? ⟨B, 0, none⟩ = some (.chan (some (f q).2)) ∧ Bls w w.heap.size (w.heap.size + 1) 4 f rg' wr) (fun i _ => 4 - (intOf i).toNat)
              case atStart => exact ⟨0, by omega, rfl, hcb2, HB2.out⟩
              case round =>
                obtain ⟨j, hj, rfl, hcb3, hB3⟩ := hrel
                by_cases hjl : j < 4
                · have g7 : (j : Int) < 4 := by omega
                  have g8 : (0 : Int) ≤ (j : Int) := by omega
                  have haj := hB3.ab j hjl
                  have hbj := hB3.bc j hjl
                  have hbjc : wr.cell? ⟨(f j).1, 0, none⟩ = some (.chan (some (f j).2)) := by rw [cell_of_row _ _ 0 _ 73 (0, 0) hbj]; rfl
                  have hinj := hB3.inj q hq4 j hjl
                  have s1 := same_calls B 0 (f q).2 (f j).1 0 (f j).2 wr hcb3 hbjc
                  have s2 := fun nn => same_calls (f j).1 0 (f j).2 B 0 (f q).2 (wr.drewN nn) hbjc hcb3
                  have haj2 : ∀ nn, (wr.drewN nn).cell? ⟨w.heap.size, j, none⟩ = some (.pointer (some ⟨(f j).1, 0, none⟩)) := fun _ => haj
                  have HB3 := Lib.hid (fun nn => hB3.then ((Below.refl wr.heap.size wr).drewN nn))
                  have HC3 := Lib.hid hcb3
                  clear hbj hbjc hB3 hcb3 hcb2
                  by_cases hqj : q = j
                  · subst hqj
                    rw [show ((f q).2 == (f q).2) = true by simp] at s1
                    simp only [beq_self_eq_true] at s2
                    clear hinj
                    go_wp2_with fail
                    refine s1.mono ?_
                    rintro e w1 ⟨rfl, nn, rfl⟩
                    go_wp2_with fail
                    refine (s2 _).mono ?_
                    rintro e w2 ⟨rfl, mm, rfl⟩
                    go_wp2_with fail
                    go_roundw
                    case rel => exact ⟨q + 1, by omega, by go_num, HC3.out, HB3.out _⟩
                    case measure => simp [intOf]; omega
                  · have n1 : ((f q).2 == (f j).2) = false := by
                      rw [beq_eq_false_iff_ne]
                      exact fun e => hqj (hinj e)
                    have n2 : ((f j).2 == (f q).2) = false := by
                      rw [beq_eq_false_iff_ne]
                      exact fun e => hqj (hinj e.symm)
                    rw [n1] at s1
                    rw [n2] at s2
                    have n3 : ¬ (j : Int) = (q : Int) := by omega
                    clear hinj n1 n2
                    go_wp2_with fail
                    refine s1.mono ?_
                    rintro e w1 ⟨rfl, nn, rfl⟩
                    go_wp2_with fail
                    refine (s2 _).mono ?_
                    rintro e w2 ⟨rfl, mm, rfl⟩
                    go_wp2_with fail
                    go_roundw
                    case rel => exact ⟨j + 1, by omega, by go_num, HC3.out, HB3.out _⟩
                    case measure => simp [intOf]; omega
                · have hj4 : j = 4 := by omega
                  subst hj4
                  have HB3 := Lib.hid hB3
                  clear hB3 hcb3 hcb2
                  go_wp2_with fail
                  go_roundw
                  case rel => exact ⟨k + 1, rg', by omega, by go_num, HB3.out⟩
                  case measure => simp [intOf]; omega
        · have hkn : k = l.length := by omega
          subst hkn
          have hab := hB.ab 0 (by omega)
          have HB := Lib.hid hB
          clear hB hlt
          go_wp2_with fail
          refine (ring_nil _).mono ?_
          rintro e w1 ⟨rfl, rfl⟩
          go_wp2_with fail
          refine (heard_nil _).mono ?_
          rintro e w1 ⟨rfl, rfl⟩
          go_wp2_with fail
          refine (same_nil_nil _).mono ?_
          rintro e w1 ⟨rfl, rfl⟩
          go_wp2_with fail
          refine (same_nil_of _ _ _).mono ?_
          rintro e w1 ⟨rfl, rfl⟩
          go_wp2_with fail
          refine (same_of_nil _ _ _).mono ?_
          rintro e w1 ⟨rfl, rfl⟩
          go_wp2_with fail
          refine (awake_calls _).mono ?_
          rintro e w2 ⟨rfl, hb⟩
          have HBB := Lib.hid (HB.out.bel.then hb)
          clear hb
          go_wp2_with fail
          go_ret
          exact ⟨rfl, HBB.out⟩
end Go.Proofs.Ytjnlfibcpkobaaa
