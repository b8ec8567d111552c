/- The walk of the law CapSets, a capability at a time. -/
import Derived.Test.YtlagofkcddhigaaDoorQ
namespace Go.Proofs.YtlagofkcddhigaaDoor
open Go.RowKit

structure ES (w : World) : Prop where
  v : TV w
  f : T1 1 .u64 fitsL w
  s : T1 4 .u64 setsL w
  d : T1 8 .u8 dbL w
  n : TN w
  b : NB w
  g : T1 3 .u64 globalL w
theorem ES.below {w w' : World} (h : ES w) (hb : Below w.heap.size w w') : ES w' := ⟨h.v.below hb, h.f.below hb, h.s.below hb, h.d.below hb, h.n.below hb, h.b.below hb, h.g.below hb⟩
theorem ES.two {w : World} (h : ES w) : E2 w := ⟨h.v, h.f⟩

theorem asc_of {xs : List Int} (h : ((List.range xs.length).all fun i => !decide (i + 1 < xs.length) || decide (xs.getD i 0 < xs.getD (i + 1) 0)) = true) : Asc xs := by
  intro i hi
  have := List.all_eq_true.1 h i (by simp; omega)
  simpa [hi] using this
theorem members_calls2 (c : Int) (n : Nat) (hn : (membersL c).length = n) (w : World) (hs : T1 4 .u64 setsL w) (ht : T1 8 .u8 dbL w) :
    Calls Tryd.prog 36 #[.int .i64 c] w fun e w' => ∃ a cap, e = .returned (.slice a n cap) ∧ SlI w' (.slice a n cap) (membersL c) ∧ Below w.heap.size w w' :=
  (members_calls c w hs ht).mono fun e w' ⟨v, he, hv, hb⟩ => by
    obtain ⟨a, cap, hf⟩ := hv.form
    rw [hn] at hf
    subst hf
    exact ⟨a, cap, he, hv, hb⟩
theorem clone_calls2 (v : Value) (xs : List Int) (n : Nat) (hn : xs.length = n) (w : World) (h : SlI w v xs) (h0 : 0 < n) (hb : n ≤ 1000000) :
    Calls Tryd.prog 50 #[v] w fun e w' => ∃ a cap, e = .returned (.slice a n cap) ∧ SlI w' (.slice a n cap) xs ∧ Below w.heap.size w w' :=
  (clone_calls v xs w h (by omega) (by omega)).mono fun e w' ⟨v, he, hv, hb⟩ => by
    obtain ⟨a, cap, hf⟩ := hv.form
    rw [hn] at hf
    subst hf
    exact ⟨a, cap, he, hv, hb⟩
theorem rd1 : readsC 1 = true := by decide
theorem sd1 : hasC 82 1 = true := by decide
theorem gl1 : globalC 1 1 = false := by decide
theorem rd2 : readsC 2 = true := by decide
theorem sd2 : hasC 82 2 = false := by decide
theorem gl2 : globalC 2 2 = false := by decide
theorem rd3 : readsC 3 = true := by decide
theorem sd3 : hasC 82 3 = false := by decide
theorem gl3 : globalC 3 3 = false := by decide
theorem rd4 : readsC 4 = true := by decide
theorem sd4 : hasC 82 4 = true := by decide
theorem gl4 : globalC 4 4 = true := by decide
theorem rd5 : readsC 5 = true := by decide
theorem sd5 : hasC 82 5 = false := by decide
theorem gl5 : globalC 5 5 = true := by decide
theorem rd6 : readsC 6 = false := by decide
theorem sd6 : hasC 82 6 = true := by decide
theorem gl6 : globalC 6 6 = true := by decide
theorem pn1 : parseN ⟨#[105, 115, 111]⟩ = 1 := by decide
theorem pe1 : parseE ⟨#[105, 115, 111]⟩ = 0 := by decide
theorem ml1 : (membersL 1).length = 1 := by decide
theorem ma1 : Asc (membersL 1) := asc_of (by decide)
theorem mm1_1 : decide ((1 : Int) ∈ membersL 1) = true := by decide
theorem mm1_2 : decide ((2 : Int) ∈ membersL 1) = false := by decide
theorem mm1_3 : decide ((3 : Int) ∈ membersL 1) = false := by decide
theorem mm1_4 : decide ((4 : Int) ∈ membersL 1) = false := by decide
theorem mm1_5 : decide ((5 : Int) ∈ membersL 1) = false := by decide
theorem mm1_6 : decide ((6 : Int) ∈ membersL 1) = false := by decide
theorem pn2 : parseN ⟨#[116, 114, 110]⟩ = 2 := by decide
theorem pe2 : parseE ⟨#[116, 114, 110]⟩ = 0 := by decide
theorem ml2 : (membersL 2).length = 1 := by decide
theorem ma2 : Asc (membersL 2) := asc_of (by decide)
theorem mm2_1 : decide ((1 : Int) ∈ membersL 2) = false := by decide
theorem mm2_2 : decide ((2 : Int) ∈ membersL 2) = true := by decide
theorem mm2_3 : decide ((3 : Int) ∈ membersL 2) = false := by decide
theorem mm2_4 : decide ((4 : Int) ∈ membersL 2) = false := by decide
theorem mm2_5 : decide ((5 : Int) ∈ membersL 2) = false := by decide
theorem mm2_6 : decide ((6 : Int) ∈ membersL 2) = false := by decide
theorem pn3 : parseN ⟨#[114, 101, 102]⟩ = 3 := by decide
theorem pe3 : parseE ⟨#[114, 101, 102]⟩ = 0 := by decide
theorem ml3 : (membersL 3).length = 1 := by decide
theorem ma3 : Asc (membersL 3) := asc_of (by decide)
theorem mm3_1 : decide ((1 : Int) ∈ membersL 3) = false := by decide
theorem mm3_2 : decide ((2 : Int) ∈ membersL 3) = false := by decide
theorem mm3_3 : decide ((3 : Int) ∈ membersL 3) = true := by decide
theorem mm3_4 : decide ((4 : Int) ∈ membersL 3) = false := by decide
theorem mm3_5 : decide ((5 : Int) ∈ membersL 3) = false := by decide
theorem mm3_6 : decide ((6 : Int) ∈ membersL 3) = false := by decide
theorem pn4 : parseN ⟨#[118, 97, 108]⟩ = 4 := by decide
theorem pe4 : parseE ⟨#[118, 97, 108]⟩ = 0 := by decide
theorem ml4 : (membersL 4).length = 1 := by decide
theorem ma4 : Asc (membersL 4) := asc_of (by decide)
theorem mm4_1 : decide ((1 : Int) ∈ membersL 4) = false := by decide
theorem mm4_2 : decide ((2 : Int) ∈ membersL 4) = false := by decide
theorem mm4_3 : decide ((3 : Int) ∈ membersL 4) = false := by decide
theorem mm4_4 : decide ((4 : Int) ∈ membersL 4) = true := by decide
theorem mm4_5 : decide ((5 : Int) ∈ membersL 4) = false := by decide
theorem mm4_6 : decide ((6 : Int) ∈ membersL 4) = false := by decide
theorem pn5 : parseN ⟨#[98, 111, 120]⟩ = 5 := by decide
theorem pe5 : parseE ⟨#[98, 111, 120]⟩ = 0 := by decide
theorem ml5 : (membersL 5).length = 1 := by decide
theorem ma5 : Asc (membersL 5) := asc_of (by decide)
theorem mm5_1 : decide ((1 : Int) ∈ membersL 5) = false := by decide
theorem mm5_2 : decide ((2 : Int) ∈ membersL 5) = false := by decide
theorem mm5_3 : decide ((3 : Int) ∈ membersL 5) = false := by decide
theorem mm5_4 : decide ((4 : Int) ∈ membersL 5) = false := by decide
theorem mm5_5 : decide ((5 : Int) ∈ membersL 5) = true := by decide
theorem mm5_6 : decide ((6 : Int) ∈ membersL 5) = false := by decide
theorem pn6 : parseN ⟨#[116, 97, 103]⟩ = 6 := by decide
theorem pe6 : parseE ⟨#[116, 97, 103]⟩ = 0 := by decide
theorem ml6 : (membersL 6).length = 1 := by decide
theorem ma6 : Asc (membersL 6) := asc_of (by decide)
theorem mm6_1 : decide ((1 : Int) ∈ membersL 6) = false := by decide
theorem mm6_2 : decide ((2 : Int) ∈ membersL 6) = false := by decide
theorem mm6_3 : decide ((3 : Int) ∈ membersL 6) = false := by decide
theorem mm6_4 : decide ((4 : Int) ∈ membersL 6) = false := by decide
theorem mm6_5 : decide ((5 : Int) ∈ membersL 6) = false := by decide
theorem mm6_6 : decide ((6 : Int) ∈ membersL 6) = true := by decide
theorem pn7 : parseN ⟨#[35, 114, 101, 97, 100]⟩ = 7 := by decide
theorem pe7 : parseE ⟨#[35, 114, 101, 97, 100]⟩ = 0 := by decide
theorem ml7 : (membersL 7).length = 3 := by decide
theorem ma7 : Asc (membersL 7) := asc_of (by decide)
theorem mm7_1 : decide ((1 : Int) ∈ membersL 7) = false := by decide
theorem mm7_2 : decide ((2 : Int) ∈ membersL 7) = false := by decide
theorem mm7_3 : decide ((3 : Int) ∈ membersL 7) = true := by decide
theorem mm7_4 : decide ((4 : Int) ∈ membersL 7) = true := by decide
theorem mm7_5 : decide ((5 : Int) ∈ membersL 7) = true := by decide
theorem mm7_6 : decide ((6 : Int) ∈ membersL 7) = false := by decide
theorem pn8 : parseN ⟨#[35, 115, 101, 110, 100]⟩ = 8 := by decide
theorem pe8 : parseE ⟨#[35, 115, 101, 110, 100]⟩ = 0 := by decide
theorem ml8 : (membersL 8).length = 3 := by decide
theorem ma8 : Asc (membersL 8) := asc_of (by decide)
theorem mm8_1 : decide ((1 : Int) ∈ membersL 8) = true := by decide
theorem mm8_2 : decide ((2 : Int) ∈ membersL 8) = false := by decide
theorem mm8_3 : decide ((3 : Int) ∈ membersL 8) = false := by decide
theorem mm8_4 : decide ((4 : Int) ∈ membersL 8) = true := by decide
theorem mm8_5 : decide ((5 : Int) ∈ membersL 8) = false := by decide
theorem mm8_6 : decide ((6 : Int) ∈ membersL 8) = true := by decide
theorem pn9 : parseN ⟨#[35, 115, 104, 97, 114, 101]⟩ = 9 := by decide
theorem pe9 : parseE ⟨#[35, 115, 104, 97, 114, 101]⟩ = 0 := by decide
theorem ml9 : (membersL 9).length = 2 := by decide
theorem ma9 : Asc (membersL 9) := asc_of (by decide)
theorem mm9_1 : decide ((1 : Int) ∈ membersL 9) = false := by decide
theorem mm9_2 : decide ((2 : Int) ∈ membersL 9) = false := by decide
theorem mm9_3 : decide ((3 : Int) ∈ membersL 9) = false := by decide
theorem mm9_4 : decide ((4 : Int) ∈ membersL 9) = true := by decide
theorem mm9_5 : decide ((5 : Int) ∈ membersL 9) = false := by decide
theorem mm9_6 : decide ((6 : Int) ∈ membersL 9) = true := by decide
theorem pn10 : parseN ⟨#[35, 97, 108, 105, 97, 115]⟩ = 10 := by decide
theorem pe10 : parseE ⟨#[35, 97, 108, 105, 97, 115]⟩ = 0 := by decide
theorem ml10 : (membersL 10).length = 4 := by decide
theorem ma10 : Asc (membersL 10) := asc_of (by decide)
theorem mm10_1 : decide ((1 : Int) ∈ membersL 10) = false := by decide
theorem mm10_2 : decide ((2 : Int) ∈ membersL 10) = false := by decide
theorem mm10_3 : decide ((3 : Int) ∈ membersL 10) = true := by decide
theorem mm10_4 : decide ((4 : Int) ∈ membersL 10) = true := by decide
theorem mm10_5 : decide ((5 : Int) ∈ membersL 10) = true := by decide
theorem mm10_6 : decide ((6 : Int) ∈ membersL 10) = true := by decide
theorem pn11 : parseN ⟨#[35, 97, 110, 121]⟩ = 11 := by decide
theorem pe11 : parseE ⟨#[35, 97, 110, 121]⟩ = 0 := by decide
theorem ml11 : (membersL 11).length = 6 := by decide
theorem ma11 : Asc (membersL 11) := asc_of (by decide)
theorem mm11_1 : decide ((1 : Int) ∈ membersL 11) = true := by decide
theorem mm11_2 : decide ((2 : Int) ∈ membersL 11) = true := by decide
theorem mm11_3 : decide ((3 : Int) ∈ membersL 11) = true := by decide
theorem mm11_4 : decide ((4 : Int) ∈ membersL 11) = true := by decide
theorem mm11_5 : decide ((5 : Int) ∈ membersL 11) = true := by decide
theorem mm11_6 : decide ((6 : Int) ∈ membersL 11) = true := by decide

set_option maxRecDepth 100000 in
set_option maxHeartbeats 8000000 in
theorem sets_1 (n : Int) (hn : 1 + n % 11 = 1) (h0 : 0 ≤ n) (h1 : n ≤ 255) (w0 w : World) (hB : Below w0.heap.size w0 w) (hE : ES w) :
    Calls Tryd.prog 8 #[.int .u8 n] w fun e w' => e = .returned (.bool true) ∧ Below w0.heap.size w0 w' := by
  have c1 := nc1
  have c2 := pn1
  have c3 := pe1
  have m1 := mm1_1
  have m2 := mm1_2
  have m3 := mm1_3
  have m4 := mm1_4
  have m5 := mm1_5
  have m6 := mm1_6
  go_enter Tryd.func8, Tryd.ntmps8
  go_wp2_with (first
    | (go_at_call 31; refine (name_calls _ _ hE.n).mono ?_; rintro e w' ⟨rfl, rfl⟩)
    | (go_at_call 29; refine (parse_calls _ _ hE.b).mono ?_; rintro e w' ⟨rfl, rfl⟩)
    | (go_at_call 36; refine (members_calls2 _ 1 ml1 _ hE.s hE.d).mono ?_; rintro e w1 ⟨a36, c36, rfl, h36, hb1⟩; replace hE := hE.below hb1; replace hB := hB.then hb1; clear hb1)
    | (go_at_call 48; refine (sorted_calls _ _ _ h36 ma1 (by rw [ml1]; decide)).mono ?_; rintro e w1 ⟨rfl, hb1⟩; replace hE := hE.below hb1; replace hB := hB.then hb1; replace h36 := h36.below hb1; clear hb1)
    | (go_at_call 50; refine (clone_calls2 _ _ 1 ml1 _ h36 (by decide) (by decide)).mono ?_; rintro e w1 ⟨a50, c50, rfl, h50, hb1⟩; replace hE := hE.below hb1; replace hB := hB.then hb1; replace h36 := h36.below hb1; clear hb1)
    | (go_at_call 49; refine (compact_calls _ _ _ h50 ma1 (by rw [ml1]; decide)).mono ?_; rintro e w1 ⟨rfl, hb1⟩; replace hE := hE.below hb1; replace hB := hB.then hb1; replace h36 := h36.below hb1; clear hb1 h50)
    | (go_at_call 51; refine (contains_calls _ _ _ _ h36 (by rw [ml1]; decide)).mono ?_; rintro e w' ⟨rfl, rfl⟩)
    | (go_at_call 12; refine (reads_calls _ _).mono ?_; rintro e w' ⟨rfl, rfl⟩)
    | (go_at_call 22; refine (sendable_calls _ _ hE.s).mono ?_; rintro e w' ⟨rfl, rfl⟩)
    | (go_at_call 20; refine (global_calls _ _ _ hE.g).mono ?_; rintro e w' ⟨rfl, rfl⟩)
    | (go_at_call 15; refine (awake_calls _ hE.two).mono ?_; rintro e w1 ⟨rfl, hb1⟩; replace hE := hE.below hb1; replace hB := hB.then hb1; clear hb1))
  refine wp_loop_rounds 7 ?_
  rw [rounds_succ]; go_wp2_with (first
    | (go_at_call 31; refine (name_calls _ _ hE.n).mono ?_; rintro e w' ⟨rfl, rfl⟩)
    | (go_at_call 29; refine (parse_calls _ _ hE.b).mono ?_; rintro e w' ⟨rfl, rfl⟩)
    | (go_at_call 36; refine (members_calls2 _ 1 ml1 _ hE.s hE.d).mono ?_; rintro e w1 ⟨a36, c36, rfl, h36, hb1⟩; replace hE := hE.below hb1; replace hB := hB.then hb1; clear hb1)
    | (go_at_call 48; refine (sorted_calls _ _ _ h36 ma1 (by rw [ml1]; decide)).mono ?_; rintro e w1 ⟨rfl, hb1⟩; replace hE := hE.below hb1; replace hB := hB.then hb1; replace h36 := h36.below hb1; clear hb1)
    | (go_at_call 50; refine (clone_calls2 _ _ 1 ml1 _ h36 (by decide) (by decide)).mono ?_; rintro e w1 ⟨a50, c50, rfl, h50, hb1⟩; replace hE := hE.below hb1; replace hB := hB.then hb1; replace h36 := h36.below hb1; clear hb1)
    | (go_at_call 49; refine (compact_calls _ _ _ h50 ma1 (by rw [ml1]; decide)).mono ?_; rintro e w1 ⟨rfl, hb1⟩; replace hE := hE.below hb1; replace hB := hB.then hb1; replace h36 := h36.below hb1; clear hb1 h50)
    | (go_at_call 51; refine (contains_calls _ _ _ _ h36 (by rw [ml1]; decide)).mono ?_; rintro e w' ⟨rfl, rfl⟩)
    | (go_at_call 12; refine (reads_calls _ _).mono ?_; rintro e w' ⟨rfl, rfl⟩)
    | (go_at_call 22; refine (sendable_calls _ _ hE.s).mono ?_; rintro e w' ⟨rfl, rfl⟩)
    | (go_at_call 20; refine (global_calls _ _ _ hE.g).mono ?_; rintro e w' ⟨rfl, rfl⟩)
    | (go_at_call 15; refine (awake_calls _ hE.two).mono ?_; rintro e w1 ⟨rfl, hb1⟩; replace hE := hE.below hb1; replace hB := hB.then hb1; clear hb1))
  rw [rounds_succ]; go_wp2_with (first
    | (go_at_call 31; refine (name_calls _ _ hE.n).mono ?_; rintro e w' ⟨rfl, rfl⟩)
    | (go_at_call 29; refine (parse_calls _ _ hE.b).mono ?_; rintro e w' ⟨rfl, rfl⟩)
    | (go_at_call 36; refine (members_calls2 _ 1 ml1 _ hE.s hE.d).mono ?_; rintro e w1 ⟨a36, c36, rfl, h36, hb1⟩; replace hE := hE.below hb1; replace hB := hB.then hb1; clear hb1)
    | (go_at_call 48; refine (sorted_calls _ _ _ h36 ma1 (by rw [ml1]; decide)).mono ?_; rintro e w1 ⟨rfl, hb1⟩; replace hE := hE.below hb1; replace hB := hB.then hb1; replace h36 := h36.below hb1; clear hb1)
    | (go_at_call 50; refine (clone_calls2 _ _ 1 ml1 _ h36 (by decide) (by decide)).mono ?_; rintro e w1 ⟨a50, c50, rfl, h50, hb1⟩; replace hE := hE.below hb1; replace hB := hB.then hb1; replace h36 := h36.below hb1; clear hb1)
    | (go_at_call 49; refine (compact_calls _ _ _ h50 ma1 (by rw [ml1]; decide)).mono ?_; rintro e w1 ⟨rfl, hb1⟩; replace hE := hE.below hb1; replace hB := hB.then hb1; replace h36 := h36.below hb1; clear hb1 h50)
    | (go_at_call 51; refine (contains_calls _ _ _ _ h36 (by rw [ml1]; decide)).mono ?_; rintro e w' ⟨rfl, rfl⟩)
    | (go_at_call 12; refine (reads_calls _ _).mono ?_; rintro e w' ⟨rfl, rfl⟩)
    | (go_at_call 22; refine (sendable_calls _ _ hE.s).mono ?_; rintro e w' ⟨rfl, rfl⟩)
    | (go_at_call 20; refine (global_calls _ _ _ hE.g).mono ?_; rintro e w' ⟨rfl, rfl⟩)
    | (go_at_call 15; refine (awake_calls _ hE.two).mono ?_; rintro e w1 ⟨rfl, hb1⟩; replace hE := hE.below hb1; replace hB := hB.then hb1; clear hb1))
  rw [rounds_succ]; go_wp2_with (first
    | (go_at_call 31; refine (name_calls _ _ hE.n).mono ?_; rintro e w' ⟨rfl, rfl⟩)
    | (go_at_call 29; refine (parse_calls _ _ hE.b).mono ?_; rintro e w' ⟨rfl, rfl⟩)
    | (go_at_call 36; refine (members_calls2 _ 1 ml1 _ hE.s hE.d).mono ?_; rintro e w1 ⟨a36, c36, rfl, h36, hb1⟩; replace hE := hE.below hb1; replace hB := hB.then hb1; clear hb1)
    | (go_at_call 48; refine (sorted_calls _ _ _ h36 ma1 (by rw [ml1]; decide)).mono ?_; rintro e w1 ⟨rfl, hb1⟩; replace hE := hE.below hb1; replace hB := hB.then hb1; replace h36 := h36.below hb1; clear hb1)
    | (go_at_call 50; refine (clone_calls2 _ _ 1 ml1 _ h36 (by decide) (by decide)).mono ?_; rintro e w1 ⟨a50, c50, rfl, h50, hb1⟩; replace hE := hE.below hb1; replace hB := hB.then hb1; replace h36 := h36.below hb1; clear hb1)
    | (go_at_call 49; refine (compact_calls _ _ _ h50 ma1 (by rw [ml1]; decide)).mono ?_; rintro e w1 ⟨rfl, hb1⟩; replace hE := hE.below hb1; replace hB := hB.then hb1; replace h36 := h36.below hb1; clear hb1 h50)
    | (go_at_call 51; refine (contains_calls _ _ _ _ h36 (by rw [ml1]; decide)).mono ?_; rintro e w' ⟨rfl, rfl⟩)
    | (go_at_call 12; refine (reads_calls _ _).mono ?_; rintro e w' ⟨rfl, rfl⟩)
    | (go_at_call 22; refine (sendable_calls _ _ hE.s).mono ?_; rintro e w' ⟨rfl, rfl⟩)
    | (go_at_call 20; refine (global_calls _ _ _ hE.g).mono ?_; rintro e w' ⟨rfl, rfl⟩)
    | (go_at_call 15; refine (awake_calls _ hE.two).mono ?_; rintro e w1 ⟨rfl, hb1⟩; replace hE := hE.below hb1; replace hB := hB.then hb1; clear hb1))
  rw [rounds_succ]; go_wp2_with (first
    | (go_at_call 31; refine (name_calls _ _ hE.n).mono ?_; rintro e w' ⟨rfl, rfl⟩)
    | (go_at_call 29; refine (parse_calls _ _ hE.b).mono ?_; rintro e w' ⟨rfl, rfl⟩)
    | (go_at_call 36; refine (members_calls2 _ 1 ml1 _ hE.s hE.d).mono ?_; rintro e w1 ⟨a36, c36, rfl, h36, hb1⟩; replace hE := hE.below hb1; replace hB := hB.then hb1; clear hb1)
    | (go_at_call 48; refine (sorted_calls _ _ _ h36 ma1 (by rw [ml1]; decide)).mono ?_; rintro e w1 ⟨rfl, hb1⟩; replace hE := hE.below hb1; replace hB := hB.then hb1; replace h36 := h36.below hb1; clear hb1)
    | (go_at_call 50; refine (clone_calls2 _ _ 1 ml1 _ h36 (by decide) (by decide)).mono ?_; rintro e w1 ⟨a50, c50, rfl, h50, hb1⟩; replace hE := hE.below hb1; replace hB := hB.then hb1; replace h36 := h36.below hb1; clear hb1)
    | (go_at_call 49; refine (compact_calls _ _ _ h50 ma1 (by rw [ml1]; decide)).mono ?_; rintro e w1 ⟨rfl, hb1⟩; replace hE := hE.below hb1; replace hB := hB.then hb1; replace h36 := h36.below hb1; clear hb1 h50)
    | (go_at_call 51; refine (contains_calls _ _ _ _ h36 (by rw [ml1]; decide)).mono ?_; rintro e w' ⟨rfl, rfl⟩)
    | (go_at_call 12; refine (reads_calls _ _).mono ?_; rintro e w' ⟨rfl, rfl⟩)
    | (go_at_call 22; refine (sendable_calls _ _ hE.s).mono ?_; rintro e w' ⟨rfl, rfl⟩)
    | (go_at_call 20; refine (global_calls _ _ _ hE.g).mono ?_; rintro e w' ⟨rfl, rfl⟩)
    | (go_at_call 15; refine (awake_calls _ hE.two).mono ?_; rintro e w1 ⟨rfl, hb1⟩; replace hE := hE.below hb1; replace hB := hB.then hb1; clear hb1))
  rw [rounds_succ]; go_wp2_with (first
    | (go_at_call 31; refine (name_calls _ _ hE.n).mono ?_; rintro e w' ⟨rfl, rfl⟩)
    | (go_at_call 29; refine (parse_calls _ _ hE.b).mono ?_; rintro e w' ⟨rfl, rfl⟩)
    | (go_at_call 36; refine (members_calls2 _ 1 ml1 _ hE.s hE.d).mono ?_; rintro e w1 ⟨a36, c36, rfl, h36, hb1⟩; replace hE := hE.below hb1; replace hB := hB.then hb1; clear hb1)
    | (go_at_call 48; refine (sorted_calls _ _ _ h36 ma1 (by rw [ml1]; decide)).mono ?_; rintro e w1 ⟨rfl, hb1⟩; replace hE := hE.below hb1; replace hB := hB.then hb1; replace h36 := h36.below hb1; clear hb1)
    | (go_at_call 50; refine (clone_calls2 _ _ 1 ml1 _ h36 (by decide) (by decide)).mono ?_; rintro e w1 ⟨a50, c50, rfl, h50, hb1⟩; replace hE := hE.below hb1; replace hB := hB.then hb1; replace h36 := h36.below hb1; clear hb1)
    | (go_at_call 49; refine (compact_calls _ _ _ h50 ma1 (by rw [ml1]; decide)).mono ?_; rintro e w1 ⟨rfl, hb1⟩; replace hE := hE.below hb1; replace hB := hB.then hb1; replace h36 := h36.below hb1; clear hb1 h50)
    | (go_at_call 51; refine (contains_calls _ _ _ _ h36 (by rw [ml1]; decide)).mono ?_; rintro e w' ⟨rfl, rfl⟩)
    | (go_at_call 12; refine (reads_calls _ _).mono ?_; rintro e w' ⟨rfl, rfl⟩)
    | (go_at_call 22; refine (sendable_calls _ _ hE.s).mono ?_; rintro e w' ⟨rfl, rfl⟩)
    | (go_at_call 20; refine (global_calls _ _ _ hE.g).mono ?_; rintro e w' ⟨rfl, rfl⟩)
    | (go_at_call 15; refine (awake_calls _ hE.two).mono ?_; rintro e w1 ⟨rfl, hb1⟩; replace hE := hE.below hb1; replace hB := hB.then hb1; clear hb1))
  rw [rounds_succ]; go_wp2_with (first
    | (go_at_call 31; refine (name_calls _ _ hE.n).mono ?_; rintro e w' ⟨rfl, rfl⟩)
    | (go_at_call 29; refine (parse_calls _ _ hE.b).mono ?_; rintro e w' ⟨rfl, rfl⟩)
    | (go_at_call 36; refine (members_calls2 _ 1 ml1 _ hE.s hE.d).mono ?_; rintro e w1 ⟨a36, c36, rfl, h36, hb1⟩; replace hE := hE.below hb1; replace hB := hB.then hb1; clear hb1)
    | (go_at_call 48; refine (sorted_calls _ _ _ h36 ma1 (by rw [ml1]; decide)).mono ?_; rintro e w1 ⟨rfl, hb1⟩; replace hE := hE.below hb1; replace hB := hB.then hb1; replace h36 := h36.below hb1; clear hb1)
    | (go_at_call 50; refine (clone_calls2 _ _ 1 ml1 _ h36 (by decide) (by decide)).mono ?_; rintro e w1 ⟨a50, c50, rfl, h50, hb1⟩; replace hE := hE.below hb1; replace hB := hB.then hb1; replace h36 := h36.below hb1; clear hb1)
    | (go_at_call 49; refine (compact_calls _ _ _ h50 ma1 (by rw [ml1]; decide)).mono ?_; rintro e w1 ⟨rfl, hb1⟩; replace hE := hE.below hb1; replace hB := hB.then hb1; replace h36 := h36.below hb1; clear hb1 h50)
    | (go_at_call 51; refine (contains_calls _ _ _ _ h36 (by rw [ml1]; decide)).mono ?_; rintro e w' ⟨rfl, rfl⟩)
    | (go_at_call 12; refine (reads_calls _ _).mono ?_; rintro e w' ⟨rfl, rfl⟩)
    | (go_at_call 22; refine (sendable_calls _ _ hE.s).mono ?_; rintro e w' ⟨rfl, rfl⟩)
    | (go_at_call 20; refine (global_calls _ _ _ hE.g).mono ?_; rintro e w' ⟨rfl, rfl⟩)
    | (go_at_call 15; refine (awake_calls _ hE.two).mono ?_; rintro e w1 ⟨rfl, hb1⟩; replace hE := hE.below hb1; replace hB := hB.then hb1; clear hb1))
  rw [rounds_succ]; go_wp2_with (first
    | (go_at_call 31; refine (name_calls _ _ hE.n).mono ?_; rintro e w' ⟨rfl, rfl⟩)
    | (go_at_call 29; refine (parse_calls _ _ hE.b).mono ?_; rintro e w' ⟨rfl, rfl⟩)
    | (go_at_call 36; refine (members_calls2 _ 1 ml1 _ hE.s hE.d).mono ?_; rintro e w1 ⟨a36, c36, rfl, h36, hb1⟩; replace hE := hE.below hb1; replace hB := hB.then hb1; clear hb1)
    | (go_at_call 48; refine (sorted_calls _ _ _ h36 ma1 (by rw [ml1]; decide)).mono ?_; rintro e w1 ⟨rfl, hb1⟩; replace hE := hE.below hb1; replace hB := hB.then hb1; replace h36 := h36.below hb1; clear hb1)
    | (go_at_call 50; refine (clone_calls2 _ _ 1 ml1 _ h36 (by decide) (by decide)).mono ?_; rintro e w1 ⟨a50, c50, rfl, h50, hb1⟩; replace hE := hE.below hb1; replace hB := hB.then hb1; replace h36 := h36.below hb1; clear hb1)
    | (go_at_call 49; refine (compact_calls _ _ _ h50 ma1 (by rw [ml1]; decide)).mono ?_; rintro e w1 ⟨rfl, hb1⟩; replace hE := hE.below hb1; replace hB := hB.then hb1; replace h36 := h36.below hb1; clear hb1 h50)
    | (go_at_call 51; refine (contains_calls _ _ _ _ h36 (by rw [ml1]; decide)).mono ?_; rintro e w' ⟨rfl, rfl⟩)
    | (go_at_call 12; refine (reads_calls _ _).mono ?_; rintro e w' ⟨rfl, rfl⟩)
    | (go_at_call 22; refine (sendable_calls _ _ hE.s).mono ?_; rintro e w' ⟨rfl, rfl⟩)
    | (go_at_call 20; refine (global_calls _ _ _ hE.g).mono ?_; rintro e w' ⟨rfl, rfl⟩)
    | (go_at_call 15; refine (awake_calls _ hE.two).mono ?_; rintro e w1 ⟨rfl, hb1⟩; replace hE := hE.below hb1; replace hB := hB.then hb1; clear hb1))
  go_ret
  exact ⟨rfl, hB⟩

set_option maxRecDepth 100000 in
set_option maxHeartbeats 8000000 in
theorem sets_2 (n : Int) (hn : 1 + n % 11 = 2) (h0 : 0 ≤ n) (h1 : n ≤ 255) (w0 w : World) (hB : Below w0.heap.size w0 w) (hE : ES w) :
    Calls Tryd.prog 8 #[.int .u8 n] w fun e w' => e = .returned (.bool true) ∧ Below w0.heap.size w0 w' := by
  have c1 := nc2
  have c2 := pn2
  have c3 := pe2
  have m1 := mm2_1
  have m2 := mm2_2
  have m3 := mm2_3
  have m4 := mm2_4
  have m5 := mm2_5
  have m6 := mm2_6
  go_enter Tryd.func8, Tryd.ntmps8
  go_wp2_with (first
    | (go_at_call 31; refine (name_calls _ _ hE.n).mono ?_; rintro e w' ⟨rfl, rfl⟩)
    | (go_at_call 29; refine (parse_calls _ _ hE.b).mono ?_; rintro e w' ⟨rfl, rfl⟩)
    | (go_at_call 36; refine (members_calls2 _ 1 ml2 _ hE.s hE.d).mono ?_; rintro e w1 ⟨a36, c36, rfl, h36, hb1⟩; replace hE := hE.below hb1; replace hB := hB.then hb1; clear hb1)
    | (go_at_call 48; refine (sorted_calls _ _ _ h36 ma2 (by rw [ml2]; decide)).mono ?_; rintro e w1 ⟨rfl, hb1⟩; replace hE := hE.below hb1; replace hB := hB.then hb1; replace h36 := h36.below hb1; clear hb1)
    | (go_at_call 50; refine (clone_calls2 _ _ 1 ml2 _ h36 (by decide) (by decide)).mono ?_; rintro e w1 ⟨a50, c50, rfl, h50, hb1⟩; replace hE := hE.below hb1; replace hB := hB.then hb1; replace h36 := h36.below hb1; clear hb1)
    | (go_at_call 49; refine (compact_calls _ _ _ h50 ma2 (by rw [ml2]; decide)).mono ?_; rintro e w1 ⟨rfl, hb1⟩; replace hE := hE.below hb1; replace hB := hB.then hb1; replace h36 := h36.below hb1; clear hb1 h50)
    | (go_at_call 51; refine (contains_calls _ _ _ _ h36 (by rw [ml2]; decide)).mono ?_; rintro e w' ⟨rfl, rfl⟩)
    | (go_at_call 12; refine (reads_calls _ _).mono ?_; rintro e w' ⟨rfl, rfl⟩)
    | (go_at_call 22; refine (sendable_calls _ _ hE.s).mono ?_; rintro e w' ⟨rfl, rfl⟩)
    | (go_at_call 20; refine (global_calls _ _ _ hE.g).mono ?_; rintro e w' ⟨rfl, rfl⟩)
    | (go_at_call 15; refine (awake_calls _ hE.two).mono ?_; rintro e w1 ⟨rfl, hb1⟩; replace hE := hE.below hb1; replace hB := hB.then hb1; clear hb1))
  refine wp_loop_rounds 7 ?_
  rw [rounds_succ]; go_wp2_with (first
    | (go_at_call 31; refine (name_calls _ _ hE.n).mono ?_; rintro e w' ⟨rfl, rfl⟩)
    | (go_at_call 29; refine (parse_calls _ _ hE.b).mono ?_; rintro e w' ⟨rfl, rfl⟩)
    | (go_at_call 36; refine (members_calls2 _ 1 ml2 _ hE.s hE.d).mono ?_; rintro e w1 ⟨a36, c36, rfl, h36, hb1⟩; replace hE := hE.below hb1; replace hB := hB.then hb1; clear hb1)
    | (go_at_call 48; refine (sorted_calls _ _ _ h36 ma2 (by rw [ml2]; decide)).mono ?_; rintro e w1 ⟨rfl, hb1⟩; replace hE := hE.below hb1; replace hB := hB.then hb1; replace h36 := h36.below hb1; clear hb1)
    | (go_at_call 50; refine (clone_calls2 _ _ 1 ml2 _ h36 (by decide) (by decide)).mono ?_; rintro e w1 ⟨a50, c50, rfl, h50, hb1⟩; replace hE := hE.below hb1; replace hB := hB.then hb1; replace h36 := h36.below hb1; clear hb1)
    | (go_at_call 49; refine (compact_calls _ _ _ h50 ma2 (by rw [ml2]; decide)).mono ?_; rintro e w1 ⟨rfl, hb1⟩; replace hE := hE.below hb1; replace hB := hB.then hb1; replace h36 := h36.below hb1; clear hb1 h50)
    | (go_at_call 51; refine (contains_calls _ _ _ _ h36 (by rw [ml2]; decide)).mono ?_; rintro e w' ⟨rfl, rfl⟩)
    | (go_at_call 12; refine (reads_calls _ _).mono ?_; rintro e w' ⟨rfl, rfl⟩)
    | (go_at_call 22; refine (sendable_calls _ _ hE.s).mono ?_; rintro e w' ⟨rfl, rfl⟩)
    | (go_at_call 20; refine (global_calls _ _ _ hE.g).mono ?_; rintro e w' ⟨rfl, rfl⟩)
    | (go_at_call 15; refine (awake_calls _ hE.two).mono ?_; rintro e w1 ⟨rfl, hb1⟩; replace hE := hE.below hb1; replace hB := hB.then hb1; clear hb1))
  rw [rounds_succ]; go_wp2_with (first
    | (go_at_call 31; refine (name_calls _ _ hE.n).mono ?_; rintro e w' ⟨rfl, rfl⟩)
    | (go_at_call 29; refine (parse_calls _ _ hE.b).mono ?_; rintro e w' ⟨rfl, rfl⟩)
    | (go_at_call 36; refine (members_calls2 _ 1 ml2 _ hE.s hE.d).mono ?_; rintro e w1 ⟨a36, c36, rfl, h36, hb1⟩; replace hE := hE.below hb1; replace hB := hB.then hb1; clear hb1)
    | (go_at_call 48; refine (sorted_calls _ _ _ h36 ma2 (by rw [ml2]; decide)).mono ?_; rintro e w1 ⟨rfl, hb1⟩; replace hE := hE.below hb1; replace hB := hB.then hb1; replace h36 := h36.below hb1; clear hb1)
    | (go_at_call 50; refine (clone_calls2 _ _ 1 ml2 _ h36 (by decide) (by decide)).mono ?_; rintro e w1 ⟨a50, c50, rfl, h50, hb1⟩; replace hE := hE.below hb1; replace hB := hB.then hb1; replace h36 := h36.below hb1; clear hb1)
    | (go_at_call 49; refine (compact_calls _ _ _ h50 ma2 (by rw [ml2]; decide)).mono ?_; rintro e w1 ⟨rfl, hb1⟩; replace hE := hE.below hb1; replace hB := hB.then hb1; replace h36 := h36.below hb1; clear hb1 h50)
    | (go_at_call 51; refine (contains_calls _ _ _ _ h36 (by rw [ml2]; decide)).mono ?_; rintro e w' ⟨rfl, rfl⟩)
    | (go_at_call 12; refine (reads_calls _ _).mono ?_; rintro e w' ⟨rfl, rfl⟩)
    | (go_at_call 22; refine (sendable_calls _ _ hE.s).mono ?_; rintro e w' ⟨rfl, rfl⟩)
    | (go_at_call 20; refine (global_calls _ _ _ hE.g).mono ?_; rintro e w' ⟨rfl, rfl⟩)
    | (go_at_call 15; refine (awake_calls _ hE.two).mono ?_; rintro e w1 ⟨rfl, hb1⟩; replace hE := hE.below hb1; replace hB := hB.then hb1; clear hb1))
  rw [rounds_succ]; go_wp2_with (first
    | (go_at_call 31; refine (name_calls _ _ hE.n).mono ?_; rintro e w' ⟨rfl, rfl⟩)
    | (go_at_call 29; refine (parse_calls _ _ hE.b).mono ?_; rintro e w' ⟨rfl, rfl⟩)
    | (go_at_call 36; refine (members_calls2 _ 1 ml2 _ hE.s hE.d).mono ?_; rintro e w1 ⟨a36, c36, rfl, h36, hb1⟩; replace hE := hE.below hb1; replace hB := hB.then hb1; clear hb1)
    | (go_at_call 48; refine (sorted_calls _ _ _ h36 ma2 (by rw [ml2]; decide)).mono ?_; rintro e w1 ⟨rfl, hb1⟩; replace hE := hE.below hb1; replace hB := hB.then hb1; replace h36 := h36.below hb1; clear hb1)
    | (go_at_call 50; refine (clone_calls2 _ _ 1 ml2 _ h36 (by decide) (by decide)).mono ?_; rintro e w1 ⟨a50, c50, rfl, h50, hb1⟩; replace hE := hE.below hb1; replace hB := hB.then hb1; replace h36 := h36.below hb1; clear hb1)
    | (go_at_call 49; refine (compact_calls _ _ _ h50 ma2 (by rw [ml2]; decide)).mono ?_; rintro e w1 ⟨rfl, hb1⟩; replace hE := hE.below hb1; replace hB := hB.then hb1; replace h36 := h36.below hb1; clear hb1 h50)
    | (go_at_call 51; refine (contains_calls _ _ _ _ h36 (by rw [ml2]; decide)).mono ?_; rintro e w' ⟨rfl, rfl⟩)
    | (go_at_call 12; refine (reads_calls _ _).mono ?_; rintro e w' ⟨rfl, rfl⟩)
    | (go_at_call 22; refine (sendable_calls _ _ hE.s).mono ?_; rintro e w' ⟨rfl, rfl⟩)
    | (go_at_call 20; refine (global_calls _ _ _ hE.g).mono ?_; rintro e w' ⟨rfl, rfl⟩)
    | (go_at_call 15; refine (awake_calls _ hE.two).mono ?_; rintro e w1 ⟨rfl, hb1⟩; replace hE := hE.below hb1; replace hB := hB.then hb1; clear hb1))
  rw [rounds_succ]; go_wp2_with (first
    | (go_at_call 31; refine (name_calls _ _ hE.n).mono ?_; rintro e w' ⟨rfl, rfl⟩)
    | (go_at_call 29; refine (parse_calls _ _ hE.b).mono ?_; rintro e w' ⟨rfl, rfl⟩)
    | (go_at_call 36; refine (members_calls2 _ 1 ml2 _ hE.s hE.d).mono ?_; rintro e w1 ⟨a36, c36, rfl, h36, hb1⟩; replace hE := hE.below hb1; replace hB := hB.then hb1; clear hb1)
    | (go_at_call 48; refine (sorted_calls _ _ _ h36 ma2 (by rw [ml2]; decide)).mono ?_; rintro e w1 ⟨rfl, hb1⟩; replace hE := hE.below hb1; replace hB := hB.then hb1; replace h36 := h36.below hb1; clear hb1)
    | (go_at_call 50; refine (clone_calls2 _ _ 1 ml2 _ h36 (by decide) (by decide)).mono ?_; rintro e w1 ⟨a50, c50, rfl, h50, hb1⟩; replace hE := hE.below hb1; replace hB := hB.then hb1; replace h36 := h36.below hb1; clear hb1)
    | (go_at_call 49; refine (compact_calls _ _ _ h50 ma2 (by rw [ml2]; decide)).mono ?_; rintro e w1 ⟨rfl, hb1⟩; replace hE := hE.below hb1; replace hB := hB.then hb1; replace h36 := h36.below hb1; clear hb1 h50)
    | (go_at_call 51; refine (contains_calls _ _ _ _ h36 (by rw [ml2]; decide)).mono ?_; rintro e w' ⟨rfl, rfl⟩)
    | (go_at_call 12; refine (reads_calls _ _).mono ?_; rintro e w' ⟨rfl, rfl⟩)
    | (go_at_call 22; refine (sendable_calls _ _ hE.s).mono ?_; rintro e w' ⟨rfl, rfl⟩)
    | (go_at_call 20; refine (global_calls _ _ _ hE.g).mono ?_; rintro e w' ⟨rfl, rfl⟩)
    | (go_at_call 15; refine (awake_calls _ hE.two).mono ?_; rintro e w1 ⟨rfl, hb1⟩; replace hE := hE.below hb1; replace hB := hB.then hb1; clear hb1))
  rw [rounds_succ]; go_wp2_with (first
    | (go_at_call 31; refine (name_calls _ _ hE.n).mono ?_; rintro e w' ⟨rfl, rfl⟩)
    | (go_at_call 29; refine (parse_calls _ _ hE.b).mono ?_; rintro e w' ⟨rfl, rfl⟩)
    | (go_at_call 36; refine (members_calls2 _ 1 ml2 _ hE.s hE.d).mono ?_; rintro e w1 ⟨a36, c36, rfl, h36, hb1⟩; replace hE := hE.below hb1; replace hB := hB.then hb1; clear hb1)
    | (go_at_call 48; refine (sorted_calls _ _ _ h36 ma2 (by rw [ml2]; decide)).mono ?_; rintro e w1 ⟨rfl, hb1⟩; replace hE := hE.below hb1; replace hB := hB.then hb1; replace h36 := h36.below hb1; clear hb1)
    | (go_at_call 50; refine (clone_calls2 _ _ 1 ml2 _ h36 (by decide) (by decide)).mono ?_; rintro e w1 ⟨a50, c50, rfl, h50, hb1⟩; replace hE := hE.below hb1; replace hB := hB.then hb1; replace h36 := h36.below hb1; clear hb1)
    | (go_at_call 49; refine (compact_calls _ _ _ h50 ma2 (by rw [ml2]; decide)).mono ?_; rintro e w1 ⟨rfl, hb1⟩; replace hE := hE.below hb1; replace hB := hB.then hb1; replace h36 := h36.below hb1; clear hb1 h50)
    | (go_at_call 51; refine (contains_calls _ _ _ _ h36 (by rw [ml2]; decide)).mono ?_; rintro e w' ⟨rfl, rfl⟩)
    | (go_at_call 12; refine (reads_calls _ _).mono ?_; rintro e w' ⟨rfl, rfl⟩)
    | (go_at_call 22; refine (sendable_calls _ _ hE.s).mono ?_; rintro e w' ⟨rfl, rfl⟩)
    | (go_at_call 20; refine (global_calls _ _ _ hE.g).mono ?_; rintro e w' ⟨rfl, rfl⟩)
    | (go_at_call 15; refine (awake_calls _ hE.two).mono ?_; rintro e w1 ⟨rfl, hb1⟩; replace hE := hE.below hb1; replace hB := hB.then hb1; clear hb1))
  rw [rounds_succ]; go_wp2_with (first
    | (go_at_call 31; refine (name_calls _ _ hE.n).mono ?_; rintro e w' ⟨rfl, rfl⟩)
    | (go_at_call 29; refine (parse_calls _ _ hE.b).mono ?_; rintro e w' ⟨rfl, rfl⟩)
    | (go_at_call 36; refine (members_calls2 _ 1 ml2 _ hE.s hE.d).mono ?_; rintro e w1 ⟨a36, c36, rfl, h36, hb1⟩; replace hE := hE.below hb1; replace hB := hB.then hb1; clear hb1)
    | (go_at_call 48; refine (sorted_calls _ _ _ h36 ma2 (by rw [ml2]; decide)).mono ?_; rintro e w1 ⟨rfl, hb1⟩; replace hE := hE.below hb1; replace hB := hB.then hb1; replace h36 := h36.below hb1; clear hb1)
    | (go_at_call 50; refine (clone_calls2 _ _ 1 ml2 _ h36 (by decide) (by decide)).mono ?_; rintro e w1 ⟨a50, c50, rfl, h50, hb1⟩; replace hE := hE.below hb1; replace hB := hB.then hb1; replace h36 := h36.below hb1; clear hb1)
    | (go_at_call 49; refine (compact_calls _ _ _ h50 ma2 (by rw [ml2]; decide)).mono ?_; rintro e w1 ⟨rfl, hb1⟩; replace hE := hE.below hb1; replace hB := hB.then hb1; replace h36 := h36.below hb1; clear hb1 h50)
    | (go_at_call 51; refine (contains_calls _ _ _ _ h36 (by rw [ml2]; decide)).mono ?_; rintro e w' ⟨rfl, rfl⟩)
    | (go_at_call 12; refine (reads_calls _ _).mono ?_; rintro e w' ⟨rfl, rfl⟩)
    | (go_at_call 22; refine (sendable_calls _ _ hE.s).mono ?_; rintro e w' ⟨rfl, rfl⟩)
    | (go_at_call 20; refine (global_calls _ _ _ hE.g).mono ?_; rintro e w' ⟨rfl, rfl⟩)
    | (go_at_call 15; refine (awake_calls _ hE.two).mono ?_; rintro e w1 ⟨rfl, hb1⟩; replace hE := hE.below hb1; replace hB := hB.then hb1; clear hb1))
  rw [rounds_succ]; go_wp2_with (first
    | (go_at_call 31; refine (name_calls _ _ hE.n).mono ?_; rintro e w' ⟨rfl, rfl⟩)
    | (go_at_call 29; refine (parse_calls _ _ hE.b).mono ?_; rintro e w' ⟨rfl, rfl⟩)
    | (go_at_call 36; refine (members_calls2 _ 1 ml2 _ hE.s hE.d).mono ?_; rintro e w1 ⟨a36, c36, rfl, h36, hb1⟩; replace hE := hE.below hb1; replace hB := hB.then hb1; clear hb1)
    | (go_at_call 48; refine (sorted_calls _ _ _ h36 ma2 (by rw [ml2]; decide)).mono ?_; rintro e w1 ⟨rfl, hb1⟩; replace hE := hE.below hb1; replace hB := hB.then hb1; replace h36 := h36.below hb1; clear hb1)
    | (go_at_call 50; refine (clone_calls2 _ _ 1 ml2 _ h36 (by decide) (by decide)).mono ?_; rintro e w1 ⟨a50, c50, rfl, h50, hb1⟩; replace hE := hE.below hb1; replace hB := hB.then hb1; replace h36 := h36.below hb1; clear hb1)
    | (go_at_call 49; refine (compact_calls _ _ _ h50 ma2 (by rw [ml2]; decide)).mono ?_; rintro e w1 ⟨rfl, hb1⟩; replace hE := hE.below hb1; replace hB := hB.then hb1; replace h36 := h36.below hb1; clear hb1 h50)
    | (go_at_call 51; refine (contains_calls _ _ _ _ h36 (by rw [ml2]; decide)).mono ?_; rintro e w' ⟨rfl, rfl⟩)
    | (go_at_call 12; refine (reads_calls _ _).mono ?_; rintro e w' ⟨rfl, rfl⟩)
    | (go_at_call 22; refine (sendable_calls _ _ hE.s).mono ?_; rintro e w' ⟨rfl, rfl⟩)
    | (go_at_call 20; refine (global_calls _ _ _ hE.g).mono ?_; rintro e w' ⟨rfl, rfl⟩)
    | (go_at_call 15; refine (awake_calls _ hE.two).mono ?_; rintro e w1 ⟨rfl, hb1⟩; replace hE := hE.below hb1; replace hB := hB.then hb1; clear hb1))
  go_ret
  exact ⟨rfl, hB⟩

set_option maxRecDepth 100000 in
set_option maxHeartbeats 8000000 in
theorem sets_3 (n : Int) (hn : 1 + n % 11 = 3) (h0 : 0 ≤ n) (h1 : n ≤ 255) (w0 w : World) (hB : Below w0.heap.size w0 w) (hE : ES w) :
    Calls Tryd.prog 8 #[.int .u8 n] w fun e w' => e = .returned (.bool true) ∧ Below w0.heap.size w0 w' := by
  have c1 := nc3
  have c2 := pn3
  have c3 := pe3
  have m1 := mm3_1
  have m2 := mm3_2
  have m3 := mm3_3
  have m4 := mm3_4
  have m5 := mm3_5
  have m6 := mm3_6
  go_enter Tryd.func8, Tryd.ntmps8
  go_wp2_with (first
    | (go_at_call 31; refine (name_calls _ _ hE.n).mono ?_; rintro e w' ⟨rfl, rfl⟩)
    | (go_at_call 29; refine (parse_calls _ _ hE.b).mono ?_; rintro e w' ⟨rfl, rfl⟩)
    | (go_at_call 36; refine (members_calls2 _ 1 ml3 _ hE.s hE.d).mono ?_; rintro e w1 ⟨a36, c36, rfl, h36, hb1⟩; replace hE := hE.below hb1; replace hB := hB.then hb1; clear hb1)
    | (go_at_call 48; refine (sorted_calls _ _ _ h36 ma3 (by rw [ml3]; decide)).mono ?_; rintro e w1 ⟨rfl, hb1⟩; replace hE := hE.below hb1; replace hB := hB.then hb1; replace h36 := h36.below hb1; clear hb1)
    | (go_at_call 50; refine (clone_calls2 _ _ 1 ml3 _ h36 (by decide) (by decide)).mono ?_; rintro e w1 ⟨a50, c50, rfl, h50, hb1⟩; replace hE := hE.below hb1; replace hB := hB.then hb1; replace h36 := h36.below hb1; clear hb1)
    | (go_at_call 49; refine (compact_calls _ _ _ h50 ma3 (by rw [ml3]; decide)).mono ?_; rintro e w1 ⟨rfl, hb1⟩; replace hE := hE.below hb1; replace hB := hB.then hb1; replace h36 := h36.below hb1; clear hb1 h50)
    | (go_at_call 51; refine (contains_calls _ _ _ _ h36 (by rw [ml3]; decide)).mono ?_; rintro e w' ⟨rfl, rfl⟩)
    | (go_at_call 12; refine (reads_calls _ _).mono ?_; rintro e w' ⟨rfl, rfl⟩)
    | (go_at_call 22; refine (sendable_calls _ _ hE.s).mono ?_; rintro e w' ⟨rfl, rfl⟩)
    | (go_at_call 20; refine (global_calls _ _ _ hE.g).mono ?_; rintro e w' ⟨rfl, rfl⟩)
    | (go_at_call 15; refine (awake_calls _ hE.two).mono ?_; rintro e w1 ⟨rfl, hb1⟩; replace hE := hE.below hb1; replace hB := hB.then hb1; clear hb1))
  refine wp_loop_rounds 7 ?_
  rw [rounds_succ]; go_wp2_with (first
    | (go_at_call 31; refine (name_calls _ _ hE.n).mono ?_; rintro e w' ⟨rfl, rfl⟩)
    | (go_at_call 29; refine (parse_calls _ _ hE.b).mono ?_; rintro e w' ⟨rfl, rfl⟩)
    | (go_at_call 36; refine (members_calls2 _ 1 ml3 _ hE.s hE.d).mono ?_; rintro e w1 ⟨a36, c36, rfl, h36, hb1⟩; replace hE := hE.below hb1; replace hB := hB.then hb1; clear hb1)
    | (go_at_call 48; refine (sorted_calls _ _ _ h36 ma3 (by rw [ml3]; decide)).mono ?_; rintro e w1 ⟨rfl, hb1⟩; replace hE := hE.below hb1; replace hB := hB.then hb1; replace h36 := h36.below hb1; clear hb1)
    | (go_at_call 50; refine (clone_calls2 _ _ 1 ml3 _ h36 (by decide) (by decide)).mono ?_; rintro e w1 ⟨a50, c50, rfl, h50, hb1⟩; replace hE := hE.below hb1; replace hB := hB.then hb1; replace h36 := h36.below hb1; clear hb1)
    | (go_at_call 49; refine (compact_calls _ _ _ h50 ma3 (by rw [ml3]; decide)).mono ?_; rintro e w1 ⟨rfl, hb1⟩; replace hE := hE.below hb1; replace hB := hB.then hb1; replace h36 := h36.below hb1; clear hb1 h50)
    | (go_at_call 51; refine (contains_calls _ _ _ _ h36 (by rw [ml3]; decide)).mono ?_; rintro e w' ⟨rfl, rfl⟩)
    | (go_at_call 12; refine (reads_calls _ _).mono ?_; rintro e w' ⟨rfl, rfl⟩)
    | (go_at_call 22; refine (sendable_calls _ _ hE.s).mono ?_; rintro e w' ⟨rfl, rfl⟩)
    | (go_at_call 20; refine (global_calls _ _ _ hE.g).mono ?_; rintro e w' ⟨rfl, rfl⟩)
    | (go_at_call 15; refine (awake_calls _ hE.two).mono ?_; rintro e w1 ⟨rfl, hb1⟩; replace hE := hE.below hb1; replace hB := hB.then hb1; clear hb1))
  rw [rounds_succ]; go_wp2_with (first
    | (go_at_call 31; refine (name_calls _ _ hE.n).mono ?_; rintro e w' ⟨rfl, rfl⟩)
    | (go_at_call 29; refine (parse_calls _ _ hE.b).mono ?_; rintro e w' ⟨rfl, rfl⟩)
    | (go_at_call 36; refine (members_calls2 _ 1 ml3 _ hE.s hE.d).mono ?_; rintro e w1 ⟨a36, c36, rfl, h36, hb1⟩; replace hE := hE.below hb1; replace hB := hB.then hb1; clear hb1)
    | (go_at_call 48; refine (sorted_calls _ _ _ h36 ma3 (by rw [ml3]; decide)).mono ?_; rintro e w1 ⟨rfl, hb1⟩; replace hE := hE.below hb1; replace hB := hB.then hb1; replace h36 := h36.below hb1; clear hb1)
    | (go_at_call 50; refine (clone_calls2 _ _ 1 ml3 _ h36 (by decide) (by decide)).mono ?_; rintro e w1 ⟨a50, c50, rfl, h50, hb1⟩; replace hE := hE.below hb1; replace hB := hB.then hb1; replace h36 := h36.below hb1; clear hb1)
    | (go_at_call 49; refine (compact_calls _ _ _ h50 ma3 (by rw [ml3]; decide)).mono ?_; rintro e w1 ⟨rfl, hb1⟩; replace hE := hE.below hb1; replace hB := hB.then hb1; replace h36 := h36.below hb1; clear hb1 h50)
    | (go_at_call 51; refine (contains_calls _ _ _ _ h36 (by rw [ml3]; decide)).mono ?_; rintro e w' ⟨rfl, rfl⟩)
    | (go_at_call 12; refine (reads_calls _ _).mono ?_; rintro e w' ⟨rfl, rfl⟩)
    | (go_at_call 22; refine (sendable_calls _ _ hE.s).mono ?_; rintro e w' ⟨rfl, rfl⟩)
    | (go_at_call 20; refine (global_calls _ _ _ hE.g).mono ?_; rintro e w' ⟨rfl, rfl⟩)
    | (go_at_call 15; refine (awake_calls _ hE.two).mono ?_; rintro e w1 ⟨rfl, hb1⟩; replace hE := hE.below hb1; replace hB := hB.then hb1; clear hb1))
  rw [rounds_succ]; go_wp2_with (first
    | (go_at_call 31; refine (name_calls _ _ hE.n).mono ?_; rintro e w' ⟨rfl, rfl⟩)
    | (go_at_call 29; refine (parse_calls _ _ hE.b).mono ?_; rintro e w' ⟨rfl, rfl⟩)
    | (go_at_call 36; refine (members_calls2 _ 1 ml3 _ hE.s hE.d).mono ?_; rintro e w1 ⟨a36, c36, rfl, h36, hb1⟩; replace hE := hE.below hb1; replace hB := hB.then hb1; clear hb1)
    | (go_at_call 48; refine (sorted_calls _ _ _ h36 ma3 (by rw [ml3]; decide)).mono ?_; rintro e w1 ⟨rfl, hb1⟩; replace hE := hE.below hb1; replace hB := hB.then hb1; replace h36 := h36.below hb1; clear hb1)
    | (go_at_call 50; refine (clone_calls2 _ _ 1 ml3 _ h36 (by decide) (by decide)).mono ?_; rintro e w1 ⟨a50, c50, rfl, h50, hb1⟩; replace hE := hE.below hb1; replace hB := hB.then hb1; replace h36 := h36.below hb1; clear hb1)
    | (go_at_call 49; refine (compact_calls _ _ _ h50 ma3 (by rw [ml3]; decide)).mono ?_; rintro e w1 ⟨rfl, hb1⟩; replace hE := hE.below hb1; replace hB := hB.then hb1; replace h36 := h36.below hb1; clear hb1 h50)
    | (go_at_call 51; refine (contains_calls _ _ _ _ h36 (by rw [ml3]; decide)).mono ?_; rintro e w' ⟨rfl, rfl⟩)
    | (go_at_call 12; refine (reads_calls _ _).mono ?_; rintro e w' ⟨rfl, rfl⟩)
    | (go_at_call 22; refine (sendable_calls _ _ hE.s).mono ?_; rintro e w' ⟨rfl, rfl⟩)
    | (go_at_call 20; refine (global_calls _ _ _ hE.g).mono ?_; rintro e w' ⟨rfl, rfl⟩)
    | (go_at_call 15; refine (awake_calls _ hE.two).mono ?_; rintro e w1 ⟨rfl, hb1⟩; replace hE := hE.below hb1; replace hB := hB.then hb1; clear hb1))
  rw [rounds_succ]; go_wp2_with (first
    | (go_at_call 31; refine (name_calls _ _ hE.n).mono ?_; rintro e w' ⟨rfl, rfl⟩)
    | (go_at_call 29; refine (parse_calls _ _ hE.b).mono ?_; rintro e w' ⟨rfl, rfl⟩)
    | (go_at_call 36; refine (members_calls2 _ 1 ml3 _ hE.s hE.d).mono ?_; rintro e w1 ⟨a36, c36, rfl, h36, hb1⟩; replace hE := hE.below hb1; replace hB := hB.then hb1; clear hb1)
    | (go_at_call 48; refine (sorted_calls _ _ _ h36 ma3 (by rw [ml3]; decide)).mono ?_; rintro e w1 ⟨rfl, hb1⟩; replace hE := hE.below hb1; replace hB := hB.then hb1; replace h36 := h36.below hb1; clear hb1)
    | (go_at_call 50; refine (clone_calls2 _ _ 1 ml3 _ h36 (by decide) (by decide)).mono ?_; rintro e w1 ⟨a50, c50, rfl, h50, hb1⟩; replace hE := hE.below hb1; replace hB := hB.then hb1; replace h36 := h36.below hb1; clear hb1)
    | (go_at_call 49; refine (compact_calls _ _ _ h50 ma3 (by rw [ml3]; decide)).mono ?_; rintro e w1 ⟨rfl, hb1⟩; replace hE := hE.below hb1; replace hB := hB.then hb1; replace h36 := h36.below hb1; clear hb1 h50)
    | (go_at_call 51; refine (contains_calls _ _ _ _ h36 (by rw [ml3]; decide)).mono ?_; rintro e w' ⟨rfl, rfl⟩)
    | (go_at_call 12; refine (reads_calls _ _).mono ?_; rintro e w' ⟨rfl, rfl⟩)
    | (go_at_call 22; refine (sendable_calls _ _ hE.s).mono ?_; rintro e w' ⟨rfl, rfl⟩)
    | (go_at_call 20; refine (global_calls _ _ _ hE.g).mono ?_; rintro e w' ⟨rfl, rfl⟩)
    | (go_at_call 15; refine (awake_calls _ hE.two).mono ?_; rintro e w1 ⟨rfl, hb1⟩; replace hE := hE.below hb1; replace hB := hB.then hb1; clear hb1))
  rw [rounds_succ]; go_wp2_with (first
    | (go_at_call 31; refine (name_calls _ _ hE.n).mono ?_; rintro e w' ⟨rfl, rfl⟩)
    | (go_at_call 29; refine (parse_calls _ _ hE.b).mono ?_; rintro e w' ⟨rfl, rfl⟩)
    | (go_at_call 36; refine (members_calls2 _ 1 ml3 _ hE.s hE.d).mono ?_; rintro e w1 ⟨a36, c36, rfl, h36, hb1⟩; replace hE := hE.below hb1; replace hB := hB.then hb1; clear hb1)
    | (go_at_call 48; refine (sorted_calls _ _ _ h36 ma3 (by rw [ml3]; decide)).mono ?_; rintro e w1 ⟨rfl, hb1⟩; replace hE := hE.below hb1; replace hB := hB.then hb1; replace h36 := h36.below hb1; clear hb1)
    | (go_at_call 50; refine (clone_calls2 _ _ 1 ml3 _ h36 (by decide) (by decide)).mono ?_; rintro e w1 ⟨a50, c50, rfl, h50, hb1⟩; replace hE := hE.below hb1; replace hB := hB.then hb1; replace h36 := h36.below hb1; clear hb1)
    | (go_at_call 49; refine (compact_calls _ _ _ h50 ma3 (by rw [ml3]; decide)).mono ?_; rintro e w1 ⟨rfl, hb1⟩; replace hE := hE.below hb1; replace hB := hB.then hb1; replace h36 := h36.below hb1; clear hb1 h50)
    | (go_at_call 51; refine (contains_calls _ _ _ _ h36 (by rw [ml3]; decide)).mono ?_; rintro e w' ⟨rfl, rfl⟩)
    | (go_at_call 12; refine (reads_calls _ _).mono ?_; rintro e w' ⟨rfl, rfl⟩)
    | (go_at_call 22; refine (sendable_calls _ _ hE.s).mono ?_; rintro e w' ⟨rfl, rfl⟩)
    | (go_at_call 20; refine (global_calls _ _ _ hE.g).mono ?_; rintro e w' ⟨rfl, rfl⟩)
    | (go_at_call 15; refine (awake_calls _ hE.two).mono ?_; rintro e w1 ⟨rfl, hb1⟩; replace hE := hE.below hb1; replace hB := hB.then hb1; clear hb1))
  rw [rounds_succ]; go_wp2_with (first
    | (go_at_call 31; refine (name_calls _ _ hE.n).mono ?_; rintro e w' ⟨rfl, rfl⟩)
    | (go_at_call 29; refine (parse_calls _ _ hE.b).mono ?_; rintro e w' ⟨rfl, rfl⟩)
    | (go_at_call 36; refine (members_calls2 _ 1 ml3 _ hE.s hE.d).mono ?_; rintro e w1 ⟨a36, c36, rfl, h36, hb1⟩; replace hE := hE.below hb1; replace hB := hB.then hb1; clear hb1)
    | (go_at_call 48; refine (sorted_calls _ _ _ h36 ma3 (by rw [ml3]; decide)).mono ?_; rintro e w1 ⟨rfl, hb1⟩; replace hE := hE.below hb1; replace hB := hB.then hb1; replace h36 := h36.below hb1; clear hb1)
    | (go_at_call 50; refine (clone_calls2 _ _ 1 ml3 _ h36 (by decide) (by decide)).mono ?_; rintro e w1 ⟨a50, c50, rfl, h50, hb1⟩; replace hE := hE.below hb1; replace hB := hB.then hb1; replace h36 := h36.below hb1; clear hb1)
    | (go_at_call 49; refine (compact_calls _ _ _ h50 ma3 (by rw [ml3]; decide)).mono ?_; rintro e w1 ⟨rfl, hb1⟩; replace hE := hE.below hb1; replace hB := hB.then hb1; replace h36 := h36.below hb1; clear hb1 h50)
    | (go_at_call 51; refine (contains_calls _ _ _ _ h36 (by rw [ml3]; decide)).mono ?_; rintro e w' ⟨rfl, rfl⟩)
    | (go_at_call 12; refine (reads_calls _ _).mono ?_; rintro e w' ⟨rfl, rfl⟩)
    | (go_at_call 22; refine (sendable_calls _ _ hE.s).mono ?_; rintro e w' ⟨rfl, rfl⟩)
    | (go_at_call 20; refine (global_calls _ _ _ hE.g).mono ?_; rintro e w' ⟨rfl, rfl⟩)
    | (go_at_call 15; refine (awake_calls _ hE.two).mono ?_; rintro e w1 ⟨rfl, hb1⟩; replace hE := hE.below hb1; replace hB := hB.then hb1; clear hb1))
  rw [rounds_succ]; go_wp2_with (first
    | (go_at_call 31; refine (name_calls _ _ hE.n).mono ?_; rintro e w' ⟨rfl, rfl⟩)
    | (go_at_call 29; refine (parse_calls _ _ hE.b).mono ?_; rintro e w' ⟨rfl, rfl⟩)
    | (go_at_call 36; refine (members_calls2 _ 1 ml3 _ hE.s hE.d).mono ?_; rintro e w1 ⟨a36, c36, rfl, h36, hb1⟩; replace hE := hE.below hb1; replace hB := hB.then hb1; clear hb1)
    | (go_at_call 48; refine (sorted_calls _ _ _ h36 ma3 (by rw [ml3]; decide)).mono ?_; rintro e w1 ⟨rfl, hb1⟩; replace hE := hE.below hb1; replace hB := hB.then hb1; replace h36 := h36.below hb1; clear hb1)
    | (go_at_call 50; refine (clone_calls2 _ _ 1 ml3 _ h36 (by decide) (by decide)).mono ?_; rintro e w1 ⟨a50, c50, rfl, h50, hb1⟩; replace hE := hE.below hb1; replace hB := hB.then hb1; replace h36 := h36.below hb1; clear hb1)
    | (go_at_call 49; refine (compact_calls _ _ _ h50 ma3 (by rw [ml3]; decide)).mono ?_; rintro e w1 ⟨rfl, hb1⟩; replace hE := hE.below hb1; replace hB := hB.then hb1; replace h36 := h36.below hb1; clear hb1 h50)
    | (go_at_call 51; refine (contains_calls _ _ _ _ h36 (by rw [ml3]; decide)).mono ?_; rintro e w' ⟨rfl, rfl⟩)
    | (go_at_call 12; refine (reads_calls _ _).mono ?_; rintro e w' ⟨rfl, rfl⟩)
    | (go_at_call 22; refine (sendable_calls _ _ hE.s).mono ?_; rintro e w' ⟨rfl, rfl⟩)
    | (go_at_call 20; refine (global_calls _ _ _ hE.g).mono ?_; rintro e w' ⟨rfl, rfl⟩)
    | (go_at_call 15; refine (awake_calls _ hE.two).mono ?_; rintro e w1 ⟨rfl, hb1⟩; replace hE := hE.below hb1; replace hB := hB.then hb1; clear hb1))
  go_ret
  exact ⟨rfl, hB⟩

set_option maxRecDepth 100000 in
set_option maxHeartbeats 8000000 in
theorem sets_4 (n : Int) (hn : 1 + n % 11 = 4) (h0 : 0 ≤ n) (h1 : n ≤ 255) (w0 w : World) (hB : Below w0.heap.size w0 w) (hE : ES w) :
    Calls Tryd.prog 8 #[.int .u8 n] w fun e w' => e = .returned (.bool true) ∧ Below w0.heap.size w0 w' := by
  have c1 := nc4
  have c2 := pn4
  have c3 := pe4
  have m1 := mm4_1
  have m2 := mm4_2
  have m3 := mm4_3
  have m4 := mm4_4
  have m5 := mm4_5
  have m6 := mm4_6
  go_enter Tryd.func8, Tryd.ntmps8
  go_wp2_with (first
    | (go_at_call 31; refine (name_calls _ _ hE.n).mono ?_; rintro e w' ⟨rfl, rfl⟩)
    | (go_at_call 29; refine (parse_calls _ _ hE.b).mono ?_; rintro e w' ⟨rfl, rfl⟩)
    | (go_at_call 36; refine (members_calls2 _ 1 ml4 _ hE.s hE.d).mono ?_; rintro e w1 ⟨a36, c36, rfl, h36, hb1⟩; replace hE := hE.below hb1; replace hB := hB.then hb1; clear hb1)
    | (go_at_call 48; refine (sorted_calls _ _ _ h36 ma4 (by rw [ml4]; decide)).mono ?_; rintro e w1 ⟨rfl, hb1⟩; replace hE := hE.below hb1; replace hB := hB.then hb1; replace h36 := h36.below hb1; clear hb1)
    | (go_at_call 50; refine (clone_calls2 _ _ 1 ml4 _ h36 (by decide) (by decide)).mono ?_; rintro e w1 ⟨a50, c50, rfl, h50, hb1⟩; replace hE := hE.below hb1; replace hB := hB.then hb1; replace h36 := h36.below hb1; clear hb1)
    | (go_at_call 49; refine (compact_calls _ _ _ h50 ma4 (by rw [ml4]; decide)).mono ?_; rintro e w1 ⟨rfl, hb1⟩; replace hE := hE.below hb1; replace hB := hB.then hb1; replace h36 := h36.below hb1; clear hb1 h50)
    | (go_at_call 51; refine (contains_calls _ _ _ _ h36 (by rw [ml4]; decide)).mono ?_; rintro e w' ⟨rfl, rfl⟩)
    | (go_at_call 12; refine (reads_calls _ _).mono ?_; rintro e w' ⟨rfl, rfl⟩)
    | (go_at_call 22; refine (sendable_calls _ _ hE.s).mono ?_; rintro e w' ⟨rfl, rfl⟩)
    | (go_at_call 20; refine (global_calls _ _ _ hE.g).mono ?_; rintro e w' ⟨rfl, rfl⟩)
    | (go_at_call 15; refine (awake_calls _ hE.two).mono ?_; rintro e w1 ⟨rfl, hb1⟩; replace hE := hE.below hb1; replace hB := hB.then hb1; clear hb1))
  refine wp_loop_rounds 7 ?_
  rw [rounds_succ]; go_wp2_with (first
    | (go_at_call 31; refine (name_calls _ _ hE.n).mono ?_; rintro e w' ⟨rfl, rfl⟩)
    | (go_at_call 29; refine (parse_calls _ _ hE.b).mono ?_; rintro e w' ⟨rfl, rfl⟩)
    | (go_at_call 36; refine (members_calls2 _ 1 ml4 _ hE.s hE.d).mono ?_; rintro e w1 ⟨a36, c36, rfl, h36, hb1⟩; replace hE := hE.below hb1; replace hB := hB.then hb1; clear hb1)
    | (go_at_call 48; refine (sorted_calls _ _ _ h36 ma4 (by rw [ml4]; decide)).mono ?_; rintro e w1 ⟨rfl, hb1⟩; replace hE := hE.below hb1; replace hB := hB.then hb1; replace h36 := h36.below hb1; clear hb1)
    | (go_at_call 50; refine (clone_calls2 _ _ 1 ml4 _ h36 (by decide) (by decide)).mono ?_; rintro e w1 ⟨a50, c50, rfl, h50, hb1⟩; replace hE := hE.below hb1; replace hB := hB.then hb1; replace h36 := h36.below hb1; clear hb1)
    | (go_at_call 49; refine (compact_calls _ _ _ h50 ma4 (by rw [ml4]; decide)).mono ?_; rintro e w1 ⟨rfl, hb1⟩; replace hE := hE.below hb1; replace hB := hB.then hb1; replace h36 := h36.below hb1; clear hb1 h50)
    | (go_at_call 51; refine (contains_calls _ _ _ _ h36 (by rw [ml4]; decide)).mono ?_; rintro e w' ⟨rfl, rfl⟩)
    | (go_at_call 12; refine (reads_calls _ _).mono ?_; rintro e w' ⟨rfl, rfl⟩)
    | (go_at_call 22; refine (sendable_calls _ _ hE.s).mono ?_; rintro e w' ⟨rfl, rfl⟩)
    | (go_at_call 20; refine (global_calls _ _ _ hE.g).mono ?_; rintro e w' ⟨rfl, rfl⟩)
    | (go_at_call 15; refine (awake_calls _ hE.two).mono ?_; rintro e w1 ⟨rfl, hb1⟩; replace hE := hE.below hb1; replace hB := hB.then hb1; clear hb1))
  rw [rounds_succ]; go_wp2_with (first
    | (go_at_call 31; refine (name_calls _ _ hE.n).mono ?_; rintro e w' ⟨rfl, rfl⟩)
    | (go_at_call 29; refine (parse_calls _ _ hE.b).mono ?_; rintro e w' ⟨rfl, rfl⟩)
    | (go_at_call 36; refine (members_calls2 _ 1 ml4 _ hE.s hE.d).mono ?_; rintro e w1 ⟨a36, c36, rfl, h36, hb1⟩; replace hE := hE.below hb1; replace hB := hB.then hb1; clear hb1)
    | (go_at_call 48; refine (sorted_calls _ _ _ h36 ma4 (by rw [ml4]; decide)).mono ?_; rintro e w1 ⟨rfl, hb1⟩; replace hE := hE.below hb1; replace hB := hB.then hb1; replace h36 := h36.below hb1; clear hb1)
    | (go_at_call 50; refine (clone_calls2 _ _ 1 ml4 _ h36 (by decide) (by decide)).mono ?_; rintro e w1 ⟨a50, c50, rfl, h50, hb1⟩; replace hE := hE.below hb1; replace hB := hB.then hb1; replace h36 := h36.below hb1; clear hb1)
    | (go_at_call 49; refine (compact_calls _ _ _ h50 ma4 (by rw [ml4]; decide)).mono ?_; rintro e w1 ⟨rfl, hb1⟩; replace hE := hE.below hb1; replace hB := hB.then hb1; replace h36 := h36.below hb1; clear hb1 h50)
    | (go_at_call 51; refine (contains_calls _ _ _ _ h36 (by rw [ml4]; decide)).mono ?_; rintro e w' ⟨rfl, rfl⟩)
    | (go_at_call 12; refine (reads_calls _ _).mono ?_; rintro e w' ⟨rfl, rfl⟩)
    | (go_at_call 22; refine (sendable_calls _ _ hE.s).mono ?_; rintro e w' ⟨rfl, rfl⟩)
    | (go_at_call 20; refine (global_calls _ _ _ hE.g).mono ?_; rintro e w' ⟨rfl, rfl⟩)
    | (go_at_call 15; refine (awake_calls _ hE.two).mono ?_; rintro e w1 ⟨rfl, hb1⟩; replace hE := hE.below hb1; replace hB := hB.then hb1; clear hb1))
  rw [rounds_succ]; go_wp2_with (first
    | (go_at_call 31; refine (name_calls _ _ hE.n).mono ?_; rintro e w' ⟨rfl, rfl⟩)
    | (go_at_call 29; refine (parse_calls _ _ hE.b).mono ?_; rintro e w' ⟨rfl, rfl⟩)
    | (go_at_call 36; refine (members_calls2 _ 1 ml4 _ hE.s hE.d).mono ?_; rintro e w1 ⟨a36, c36, rfl, h36, hb1⟩; replace hE := hE.below hb1; replace hB := hB.then hb1; clear hb1)
    | (go_at_call 48; refine (sorted_calls _ _ _ h36 ma4 (by rw [ml4]; decide)).mono ?_; rintro e w1 ⟨rfl, hb1⟩; replace hE := hE.below hb1; replace hB := hB.then hb1; replace h36 := h36.below hb1; clear hb1)
    | (go_at_call 50; refine (clone_calls2 _ _ 1 ml4 _ h36 (by decide) (by decide)).mono ?_; rintro e w1 ⟨a50, c50, rfl, h50, hb1⟩; replace hE := hE.below hb1; replace hB := hB.then hb1; replace h36 := h36.below hb1; clear hb1)
    | (go_at_call 49; refine (compact_calls _ _ _ h50 ma4 (by rw [ml4]; decide)).mono ?_; rintro e w1 ⟨rfl, hb1⟩; replace hE := hE.below hb1; replace hB := hB.then hb1; replace h36 := h36.below hb1; clear hb1 h50)
    | (go_at_call 51; refine (contains_calls _ _ _ _ h36 (by rw [ml4]; decide)).mono ?_; rintro e w' ⟨rfl, rfl⟩)
    | (go_at_call 12; refine (reads_calls _ _).mono ?_; rintro e w' ⟨rfl, rfl⟩)
    | (go_at_call 22; refine (sendable_calls _ _ hE.s).mono ?_; rintro e w' ⟨rfl, rfl⟩)
    | (go_at_call 20; refine (global_calls _ _ _ hE.g).mono ?_; rintro e w' ⟨rfl, rfl⟩)
    | (go_at_call 15; refine (awake_calls _ hE.two).mono ?_; rintro e w1 ⟨rfl, hb1⟩; replace hE := hE.below hb1; replace hB := hB.then hb1; clear hb1))
  rw [rounds_succ]; go_wp2_with (first
    | (go_at_call 31; refine (name_calls _ _ hE.n).mono ?_; rintro e w' ⟨rfl, rfl⟩)
    | (go_at_call 29; refine (parse_calls _ _ hE.b).mono ?_; rintro e w' ⟨rfl, rfl⟩)
    | (go_at_call 36; refine (members_calls2 _ 1 ml4 _ hE.s hE.d).mono ?_; rintro e w1 ⟨a36, c36, rfl, h36, hb1⟩; replace hE := hE.below hb1; replace hB := hB.then hb1; clear hb1)
    | (go_at_call 48; refine (sorted_calls _ _ _ h36 ma4 (by rw [ml4]; decide)).mono ?_; rintro e w1 ⟨rfl, hb1⟩; replace hE := hE.below hb1; replace hB := hB.then hb1; replace h36 := h36.below hb1; clear hb1)
    | (go_at_call 50; refine (clone_calls2 _ _ 1 ml4 _ h36 (by decide) (by decide)).mono ?_; rintro e w1 ⟨a50, c50, rfl, h50, hb1⟩; replace hE := hE.below hb1; replace hB := hB.then hb1; replace h36 := h36.below hb1; clear hb1)
    | (go_at_call 49; refine (compact_calls _ _ _ h50 ma4 (by rw [ml4]; decide)).mono ?_; rintro e w1 ⟨rfl, hb1⟩; replace hE := hE.below hb1; replace hB := hB.then hb1; replace h36 := h36.below hb1; clear hb1 h50)
    | (go_at_call 51; refine (contains_calls _ _ _ _ h36 (by rw [ml4]; decide)).mono ?_; rintro e w' ⟨rfl, rfl⟩)
    | (go_at_call 12; refine (reads_calls _ _).mono ?_; rintro e w' ⟨rfl, rfl⟩)
    | (go_at_call 22; refine (sendable_calls _ _ hE.s).mono ?_; rintro e w' ⟨rfl, rfl⟩)
    | (go_at_call 20; refine (global_calls _ _ _ hE.g).mono ?_; rintro e w' ⟨rfl, rfl⟩)
    | (go_at_call 15; refine (awake_calls _ hE.two).mono ?_; rintro e w1 ⟨rfl, hb1⟩; replace hE := hE.below hb1; replace hB := hB.then hb1; clear hb1))
  rw [rounds_succ]; go_wp2_with (first
    | (go_at_call 31; refine (name_calls _ _ hE.n).mono ?_; rintro e w' ⟨rfl, rfl⟩)
    | (go_at_call 29; refine (parse_calls _ _ hE.b).mono ?_; rintro e w' ⟨rfl, rfl⟩)
    | (go_at_call 36; refine (members_calls2 _ 1 ml4 _ hE.s hE.d).mono ?_; rintro e w1 ⟨a36, c36, rfl, h36, hb1⟩; replace hE := hE.below hb1; replace hB := hB.then hb1; clear hb1)
    | (go_at_call 48; refine (sorted_calls _ _ _ h36 ma4 (by rw [ml4]; decide)).mono ?_; rintro e w1 ⟨rfl, hb1⟩; replace hE := hE.below hb1; replace hB := hB.then hb1; replace h36 := h36.below hb1; clear hb1)
    | (go_at_call 50; refine (clone_calls2 _ _ 1 ml4 _ h36 (by decide) (by decide)).mono ?_; rintro e w1 ⟨a50, c50, rfl, h50, hb1⟩; replace hE := hE.below hb1; replace hB := hB.then hb1; replace h36 := h36.below hb1; clear hb1)
    | (go_at_call 49; refine (compact_calls _ _ _ h50 ma4 (by rw [ml4]; decide)).mono ?_; rintro e w1 ⟨rfl, hb1⟩; replace hE := hE.below hb1; replace hB := hB.then hb1; replace h36 := h36.below hb1; clear hb1 h50)
    | (go_at_call 51; refine (contains_calls _ _ _ _ h36 (by rw [ml4]; decide)).mono ?_; rintro e w' ⟨rfl, rfl⟩)
    | (go_at_call 12; refine (reads_calls _ _).mono ?_; rintro e w' ⟨rfl, rfl⟩)
    | (go_at_call 22; refine (sendable_calls _ _ hE.s).mono ?_; rintro e w' ⟨rfl, rfl⟩)
    | (go_at_call 20; refine (global_calls _ _ _ hE.g).mono ?_; rintro e w' ⟨rfl, rfl⟩)
    | (go_at_call 15; refine (awake_calls _ hE.two).mono ?_; rintro e w1 ⟨rfl, hb1⟩; replace hE := hE.below hb1; replace hB := hB.then hb1; clear hb1))
  rw [rounds_succ]; go_wp2_with (first
    | (go_at_call 31; refine (name_calls _ _ hE.n).mono ?_; rintro e w' ⟨rfl, rfl⟩)
    | (go_at_call 29; refine (parse_calls _ _ hE.b).mono ?_; rintro e w' ⟨rfl, rfl⟩)
    | (go_at_call 36; refine (members_calls2 _ 1 ml4 _ hE.s hE.d).mono ?_; rintro e w1 ⟨a36, c36, rfl, h36, hb1⟩; replace hE := hE.below hb1; replace hB := hB.then hb1; clear hb1)
    | (go_at_call 48; refine (sorted_calls _ _ _ h36 ma4 (by rw [ml4]; decide)).mono ?_; rintro e w1 ⟨rfl, hb1⟩; replace hE := hE.below hb1; replace hB := hB.then hb1; replace h36 := h36.below hb1; clear hb1)
    | (go_at_call 50; refine (clone_calls2 _ _ 1 ml4 _ h36 (by decide) (by decide)).mono ?_; rintro e w1 ⟨a50, c50, rfl, h50, hb1⟩; replace hE := hE.below hb1; replace hB := hB.then hb1; replace h36 := h36.below hb1; clear hb1)
    | (go_at_call 49; refine (compact_calls _ _ _ h50 ma4 (by rw [ml4]; decide)).mono ?_; rintro e w1 ⟨rfl, hb1⟩; replace hE := hE.below hb1; replace hB := hB.then hb1; replace h36 := h36.below hb1; clear hb1 h50)
    | (go_at_call 51; refine (contains_calls _ _ _ _ h36 (by rw [ml4]; decide)).mono ?_; rintro e w' ⟨rfl, rfl⟩)
    | (go_at_call 12; refine (reads_calls _ _).mono ?_; rintro e w' ⟨rfl, rfl⟩)
    | (go_at_call 22; refine (sendable_calls _ _ hE.s).mono ?_; rintro e w' ⟨rfl, rfl⟩)
    | (go_at_call 20; refine (global_calls _ _ _ hE.g).mono ?_; rintro e w' ⟨rfl, rfl⟩)
    | (go_at_call 15; refine (awake_calls _ hE.two).mono ?_; rintro e w1 ⟨rfl, hb1⟩; replace hE := hE.below hb1; replace hB := hB.then hb1; clear hb1))
  rw [rounds_succ]; go_wp2_with (first
    | (go_at_call 31; refine (name_calls _ _ hE.n).mono ?_; rintro e w' ⟨rfl, rfl⟩)
    | (go_at_call 29; refine (parse_calls _ _ hE.b).mono ?_; rintro e w' ⟨rfl, rfl⟩)
    | (go_at_call 36; refine (members_calls2 _ 1 ml4 _ hE.s hE.d).mono ?_; rintro e w1 ⟨a36, c36, rfl, h36, hb1⟩; replace hE := hE.below hb1; replace hB := hB.then hb1; clear hb1)
    | (go_at_call 48; refine (sorted_calls _ _ _ h36 ma4 (by rw [ml4]; decide)).mono ?_; rintro e w1 ⟨rfl, hb1⟩; replace hE := hE.below hb1; replace hB := hB.then hb1; replace h36 := h36.below hb1; clear hb1)
    | (go_at_call 50; refine (clone_calls2 _ _ 1 ml4 _ h36 (by decide) (by decide)).mono ?_; rintro e w1 ⟨a50, c50, rfl, h50, hb1⟩; replace hE := hE.below hb1; replace hB := hB.then hb1; replace h36 := h36.below hb1; clear hb1)
    | (go_at_call 49; refine (compact_calls _ _ _ h50 ma4 (by rw [ml4]; decide)).mono ?_; rintro e w1 ⟨rfl, hb1⟩; replace hE := hE.below hb1; replace hB := hB.then hb1; replace h36 := h36.below hb1; clear hb1 h50)
    | (go_at_call 51; refine (contains_calls _ _ _ _ h36 (by rw [ml4]; decide)).mono ?_; rintro e w' ⟨rfl, rfl⟩)
    | (go_at_call 12; refine (reads_calls _ _).mono ?_; rintro e w' ⟨rfl, rfl⟩)
    | (go_at_call 22; refine (sendable_calls _ _ hE.s).mono ?_; rintro e w' ⟨rfl, rfl⟩)
    | (go_at_call 20; refine (global_calls _ _ _ hE.g).mono ?_; rintro e w' ⟨rfl, rfl⟩)
    | (go_at_call 15; refine (awake_calls _ hE.two).mono ?_; rintro e w1 ⟨rfl, hb1⟩; replace hE := hE.below hb1; replace hB := hB.then hb1; clear hb1))
  go_ret
  exact ⟨rfl, hB⟩

set_option maxRecDepth 100000 in
set_option maxHeartbeats 8000000 in
theorem sets_5 (n : Int) (hn : 1 + n % 11 = 5) (h0 : 0 ≤ n) (h1 : n ≤ 255) (w0 w : World) (hB : Below w0.heap.size w0 w) (hE : ES w) :
    Calls Tryd.prog 8 #[.int .u8 n] w fun e w' => e = .returned (.bool true) ∧ Below w0.heap.size w0 w' := by
  have c1 := nc5
  have c2 := pn5
  have c3 := pe5
  have m1 := mm5_1
  have m2 := mm5_2
  have m3 := mm5_3
  have m4 := mm5_4
  have m5 := mm5_5
  have m6 := mm5_6
  go_enter Tryd.func8, Tryd.ntmps8
  go_wp2_with (first
    | (go_at_call 31; refine (name_calls _ _ hE.n).mono ?_; rintro e w' ⟨rfl, rfl⟩)
    | (go_at_call 29; refine (parse_calls _ _ hE.b).mono ?_; rintro e w' ⟨rfl, rfl⟩)
    | (go_at_call 36; refine (members_calls2 _ 1 ml5 _ hE.s hE.d).mono ?_; rintro e w1 ⟨a36, c36, rfl, h36, hb1⟩; replace hE := hE.below hb1; replace hB := hB.then hb1; clear hb1)
    | (go_at_call 48; refine (sorted_calls _ _ _ h36 ma5 (by rw [ml5]; decide)).mono ?_; rintro e w1 ⟨rfl, hb1⟩; replace hE := hE.below hb1; replace hB := hB.then hb1; replace h36 := h36.below hb1; clear hb1)
    | (go_at_call 50; refine (clone_calls2 _ _ 1 ml5 _ h36 (by decide) (by decide)).mono ?_; rintro e w1 ⟨a50, c50, rfl, h50, hb1⟩; replace hE := hE.below hb1; replace hB := hB.then hb1; replace h36 := h36.below hb1; clear hb1)
    | (go_at_call 49; refine (compact_calls _ _ _ h50 ma5 (by rw [ml5]; decide)).mono ?_; rintro e w1 ⟨rfl, hb1⟩; replace hE := hE.below hb1; replace hB := hB.then hb1; replace h36 := h36.below hb1; clear hb1 h50)
    | (go_at_call 51; refine (contains_calls _ _ _ _ h36 (by rw [ml5]; decide)).mono ?_; rintro e w' ⟨rfl, rfl⟩)
    | (go_at_call 12; refine (reads_calls _ _).mono ?_; rintro e w' ⟨rfl, rfl⟩)
    | (go_at_call 22; refine (sendable_calls _ _ hE.s).mono ?_; rintro e w' ⟨rfl, rfl⟩)
    | (go_at_call 20; refine (global_calls _ _ _ hE.g).mono ?_; rintro e w' ⟨rfl, rfl⟩)
    | (go_at_call 15; refine (awake_calls _ hE.two).mono ?_; rintro e w1 ⟨rfl, hb1⟩; replace hE := hE.below hb1; replace hB := hB.then hb1; clear hb1))
  refine wp_loop_rounds 7 ?_
  rw [rounds_succ]; go_wp2_with (first
    | (go_at_call 31; refine (name_calls _ _ hE.n).mono ?_; rintro e w' ⟨rfl, rfl⟩)
    | (go_at_call 29; refine (parse_calls _ _ hE.b).mono ?_; rintro e w' ⟨rfl, rfl⟩)
    | (go_at_call 36; refine (members_calls2 _ 1 ml5 _ hE.s hE.d).mono ?_; rintro e w1 ⟨a36, c36, rfl, h36, hb1⟩; replace hE := hE.below hb1; replace hB := hB.then hb1; clear hb1)
    | (go_at_call 48; refine (sorted_calls _ _ _ h36 ma5 (by rw [ml5]; decide)).mono ?_; rintro e w1 ⟨rfl, hb1⟩; replace hE := hE.below hb1; replace hB := hB.then hb1; replace h36 := h36.below hb1; clear hb1)
    | (go_at_call 50; refine (clone_calls2 _ _ 1 ml5 _ h36 (by decide) (by decide)).mono ?_; rintro e w1 ⟨a50, c50, rfl, h50, hb1⟩; replace hE := hE.below hb1; replace hB := hB.then hb1; replace h36 := h36.below hb1; clear hb1)
    | (go_at_call 49; refine (compact_calls _ _ _ h50 ma5 (by rw [ml5]; decide)).mono ?_; rintro e w1 ⟨rfl, hb1⟩; replace hE := hE.below hb1; replace hB := hB.then hb1; replace h36 := h36.below hb1; clear hb1 h50)
    | (go_at_call 51; refine (contains_calls _ _ _ _ h36 (by rw [ml5]; decide)).mono ?_; rintro e w' ⟨rfl, rfl⟩)
    | (go_at_call 12; refine (reads_calls _ _).mono ?_; rintro e w' ⟨rfl, rfl⟩)
    | (go_at_call 22; refine (sendable_calls _ _ hE.s).mono ?_; rintro e w' ⟨rfl, rfl⟩)
    | (go_at_call 20; refine (global_calls _ _ _ hE.g).mono ?_; rintro e w' ⟨rfl, rfl⟩)
    | (go_at_call 15; refine (awake_calls _ hE.two).mono ?_; rintro e w1 ⟨rfl, hb1⟩; replace hE := hE.below hb1; replace hB := hB.then hb1; clear hb1))
  rw [rounds_succ]; go_wp2_with (first
    | (go_at_call 31; refine (name_calls _ _ hE.n).mono ?_; rintro e w' ⟨rfl, rfl⟩)
    | (go_at_call 29; refine (parse_calls _ _ hE.b).mono ?_; rintro e w' ⟨rfl, rfl⟩)
    | (go_at_call 36; refine (members_calls2 _ 1 ml5 _ hE.s hE.d).mono ?_; rintro e w1 ⟨a36, c36, rfl, h36, hb1⟩; replace hE := hE.below hb1; replace hB := hB.then hb1; clear hb1)
    | (go_at_call 48; refine (sorted_calls _ _ _ h36 ma5 (by rw [ml5]; decide)).mono ?_; rintro e w1 ⟨rfl, hb1⟩; replace hE := hE.below hb1; replace hB := hB.then hb1; replace h36 := h36.below hb1; clear hb1)
    | (go_at_call 50; refine (clone_calls2 _ _ 1 ml5 _ h36 (by decide) (by decide)).mono ?_; rintro e w1 ⟨a50, c50, rfl, h50, hb1⟩; replace hE := hE.below hb1; replace hB := hB.then hb1; replace h36 := h36.below hb1; clear hb1)
    | (go_at_call 49; refine (compact_calls _ _ _ h50 ma5 (by rw [ml5]; decide)).mono ?_; rintro e w1 ⟨rfl, hb1⟩; replace hE := hE.below hb1; replace hB := hB.then hb1; replace h36 := h36.below hb1; clear hb1 h50)
    | (go_at_call 51; refine (contains_calls _ _ _ _ h36 (by rw [ml5]; decide)).mono ?_; rintro e w' ⟨rfl, rfl⟩)
    | (go_at_call 12; refine (reads_calls _ _).mono ?_; rintro e w' ⟨rfl, rfl⟩)
    | (go_at_call 22; refine (sendable_calls _ _ hE.s).mono ?_; rintro e w' ⟨rfl, rfl⟩)
    | (go_at_call 20; refine (global_calls _ _ _ hE.g).mono ?_; rintro e w' ⟨rfl, rfl⟩)
    | (go_at_call 15; refine (awake_calls _ hE.two).mono ?_; rintro e w1 ⟨rfl, hb1⟩; replace hE := hE.below hb1; replace hB := hB.then hb1; clear hb1))
  rw [rounds_succ]; go_wp2_with (first
    | (go_at_call 31; refine (name_calls _ _ hE.n).mono ?_; rintro e w' ⟨rfl, rfl⟩)
    | (go_at_call 29; refine (parse_calls _ _ hE.b).mono ?_; rintro e w' ⟨rfl, rfl⟩)
    | (go_at_call 36; refine (members_calls2 _ 1 ml5 _ hE.s hE.d).mono ?_; rintro e w1 ⟨a36, c36, rfl, h36, hb1⟩; replace hE := hE.below hb1; replace hB := hB.then hb1; clear hb1)
    | (go_at_call 48; refine (sorted_calls _ _ _ h36 ma5 (by rw [ml5]; decide)).mono ?_; rintro e w1 ⟨rfl, hb1⟩; replace hE := hE.below hb1; replace hB := hB.then hb1; replace h36 := h36.below hb1; clear hb1)
    | (go_at_call 50; refine (clone_calls2 _ _ 1 ml5 _ h36 (by decide) (by decide)).mono ?_; rintro e w1 ⟨a50, c50, rfl, h50, hb1⟩; replace hE := hE.below hb1; replace hB := hB.then hb1; replace h36 := h36.below hb1; clear hb1)
    | (go_at_call 49; refine (compact_calls _ _ _ h50 ma5 (by rw [ml5]; decide)).mono ?_; rintro e w1 ⟨rfl, hb1⟩; replace hE := hE.below hb1; replace hB := hB.then hb1; replace h36 := h36.below hb1; clear hb1 h50)
    | (go_at_call 51; refine (contains_calls _ _ _ _ h36 (by rw [ml5]; decide)).mono ?_; rintro e w' ⟨rfl, rfl⟩)
    | (go_at_call 12; refine (reads_calls _ _).mono ?_; rintro e w' ⟨rfl, rfl⟩)
    | (go_at_call 22; refine (sendable_calls _ _ hE.s).mono ?_; rintro e w' ⟨rfl, rfl⟩)
    | (go_at_call 20; refine (global_calls _ _ _ hE.g).mono ?_; rintro e w' ⟨rfl, rfl⟩)
    | (go_at_call 15; refine (awake_calls _ hE.two).mono ?_; rintro e w1 ⟨rfl, hb1⟩; replace hE := hE.below hb1; replace hB := hB.then hb1; clear hb1))
  rw [rounds_succ]; go_wp2_with (first
    | (go_at_call 31; refine (name_calls _ _ hE.n).mono ?_; rintro e w' ⟨rfl, rfl⟩)
    | (go_at_call 29; refine (parse_calls _ _ hE.b).mono ?_; rintro e w' ⟨rfl, rfl⟩)
    | (go_at_call 36; refine (members_calls2 _ 1 ml5 _ hE.s hE.d).mono ?_; rintro e w1 ⟨a36, c36, rfl, h36, hb1⟩; replace hE := hE.below hb1; replace hB := hB.then hb1; clear hb1)
    | (go_at_call 48; refine (sorted_calls _ _ _ h36 ma5 (by rw [ml5]; decide)).mono ?_; rintro e w1 ⟨rfl, hb1⟩; replace hE := hE.below hb1; replace hB := hB.then hb1; replace h36 := h36.below hb1; clear hb1)
    | (go_at_call 50; refine (clone_calls2 _ _ 1 ml5 _ h36 (by decide) (by decide)).mono ?_; rintro e w1 ⟨a50, c50, rfl, h50, hb1⟩; replace hE := hE.below hb1; replace hB := hB.then hb1; replace h36 := h36.below hb1; clear hb1)
    | (go_at_call 49; refine (compact_calls _ _ _ h50 ma5 (by rw [ml5]; decide)).mono ?_; rintro e w1 ⟨rfl, hb1⟩; replace hE := hE.below hb1; replace hB := hB.then hb1; replace h36 := h36.below hb1; clear hb1 h50)
    | (go_at_call 51; refine (contains_calls _ _ _ _ h36 (by rw [ml5]; decide)).mono ?_; rintro e w' ⟨rfl, rfl⟩)
    | (go_at_call 12; refine (reads_calls _ _).mono ?_; rintro e w' ⟨rfl, rfl⟩)
    | (go_at_call 22; refine (sendable_calls _ _ hE.s).mono ?_; rintro e w' ⟨rfl, rfl⟩)
    | (go_at_call 20; refine (global_calls _ _ _ hE.g).mono ?_; rintro e w' ⟨rfl, rfl⟩)
    | (go_at_call 15; refine (awake_calls _ hE.two).mono ?_; rintro e w1 ⟨rfl, hb1⟩; replace hE := hE.below hb1; replace hB := hB.then hb1; clear hb1))
  rw [rounds_succ]; go_wp2_with (first
    | (go_at_call 31; refine (name_calls _ _ hE.n).mono ?_; rintro e w' ⟨rfl, rfl⟩)
    | (go_at_call 29; refine (parse_calls _ _ hE.b).mono ?_; rintro e w' ⟨rfl, rfl⟩)
    | (go_at_call 36; refine (members_calls2 _ 1 ml5 _ hE.s hE.d).mono ?_; rintro e w1 ⟨a36, c36, rfl, h36, hb1⟩; replace hE := hE.below hb1; replace hB := hB.then hb1; clear hb1)
    | (go_at_call 48; refine (sorted_calls _ _ _ h36 ma5 (by rw [ml5]; decide)).mono ?_; rintro e w1 ⟨rfl, hb1⟩; replace hE := hE.below hb1; replace hB := hB.then hb1; replace h36 := h36.below hb1; clear hb1)
    | (go_at_call 50; refine (clone_calls2 _ _ 1 ml5 _ h36 (by decide) (by decide)).mono ?_; rintro e w1 ⟨a50, c50, rfl, h50, hb1⟩; replace hE := hE.below hb1; replace hB := hB.then hb1; replace h36 := h36.below hb1; clear hb1)
    | (go_at_call 49; refine (compact_calls _ _ _ h50 ma5 (by rw [ml5]; decide)).mono ?_; rintro e w1 ⟨rfl, hb1⟩; replace hE := hE.below hb1; replace hB := hB.then hb1; replace h36 := h36.below hb1; clear hb1 h50)
    | (go_at_call 51; refine (contains_calls _ _ _ _ h36 (by rw [ml5]; decide)).mono ?_; rintro e w' ⟨rfl, rfl⟩)
    | (go_at_call 12; refine (reads_calls _ _).mono ?_; rintro e w' ⟨rfl, rfl⟩)
    | (go_at_call 22; refine (sendable_calls _ _ hE.s).mono ?_; rintro e w' ⟨rfl, rfl⟩)
    | (go_at_call 20; refine (global_calls _ _ _ hE.g).mono ?_; rintro e w' ⟨rfl, rfl⟩)
    | (go_at_call 15; refine (awake_calls _ hE.two).mono ?_; rintro e w1 ⟨rfl, hb1⟩; replace hE := hE.below hb1; replace hB := hB.then hb1; clear hb1))
  rw [rounds_succ]; go_wp2_with (first
    | (go_at_call 31; refine (name_calls _ _ hE.n).mono ?_; rintro e w' ⟨rfl, rfl⟩)
    | (go_at_call 29; refine (parse_calls _ _ hE.b).mono ?_; rintro e w' ⟨rfl, rfl⟩)
    | (go_at_call 36; refine (members_calls2 _ 1 ml5 _ hE.s hE.d).mono ?_; rintro e w1 ⟨a36, c36, rfl, h36, hb1⟩; replace hE := hE.below hb1; replace hB := hB.then hb1; clear hb1)
    | (go_at_call 48; refine (sorted_calls _ _ _ h36 ma5 (by rw [ml5]; decide)).mono ?_; rintro e w1 ⟨rfl, hb1⟩; replace hE := hE.below hb1; replace hB := hB.then hb1; replace h36 := h36.below hb1; clear hb1)
    | (go_at_call 50; refine (clone_calls2 _ _ 1 ml5 _ h36 (by decide) (by decide)).mono ?_; rintro e w1 ⟨a50, c50, rfl, h50, hb1⟩; replace hE := hE.below hb1; replace hB := hB.then hb1; replace h36 := h36.below hb1; clear hb1)
    | (go_at_call 49; refine (compact_calls _ _ _ h50 ma5 (by rw [ml5]; decide)).mono ?_; rintro e w1 ⟨rfl, hb1⟩; replace hE := hE.below hb1; replace hB := hB.then hb1; replace h36 := h36.below hb1; clear hb1 h50)
    | (go_at_call 51; refine (contains_calls _ _ _ _ h36 (by rw [ml5]; decide)).mono ?_; rintro e w' ⟨rfl, rfl⟩)
    | (go_at_call 12; refine (reads_calls _ _).mono ?_; rintro e w' ⟨rfl, rfl⟩)
    | (go_at_call 22; refine (sendable_calls _ _ hE.s).mono ?_; rintro e w' ⟨rfl, rfl⟩)
    | (go_at_call 20; refine (global_calls _ _ _ hE.g).mono ?_; rintro e w' ⟨rfl, rfl⟩)
    | (go_at_call 15; refine (awake_calls _ hE.two).mono ?_; rintro e w1 ⟨rfl, hb1⟩; replace hE := hE.below hb1; replace hB := hB.then hb1; clear hb1))
  rw [rounds_succ]; go_wp2_with (first
    | (go_at_call 31; refine (name_calls _ _ hE.n).mono ?_; rintro e w' ⟨rfl, rfl⟩)
    | (go_at_call 29; refine (parse_calls _ _ hE.b).mono ?_; rintro e w' ⟨rfl, rfl⟩)
    | (go_at_call 36; refine (members_calls2 _ 1 ml5 _ hE.s hE.d).mono ?_; rintro e w1 ⟨a36, c36, rfl, h36, hb1⟩; replace hE := hE.below hb1; replace hB := hB.then hb1; clear hb1)
    | (go_at_call 48; refine (sorted_calls _ _ _ h36 ma5 (by rw [ml5]; decide)).mono ?_; rintro e w1 ⟨rfl, hb1⟩; replace hE := hE.below hb1; replace hB := hB.then hb1; replace h36 := h36.below hb1; clear hb1)
    | (go_at_call 50; refine (clone_calls2 _ _ 1 ml5 _ h36 (by decide) (by decide)).mono ?_; rintro e w1 ⟨a50, c50, rfl, h50, hb1⟩; replace hE := hE.below hb1; replace hB := hB.then hb1; replace h36 := h36.below hb1; clear hb1)
    | (go_at_call 49; refine (compact_calls _ _ _ h50 ma5 (by rw [ml5]; decide)).mono ?_; rintro e w1 ⟨rfl, hb1⟩; replace hE := hE.below hb1; replace hB := hB.then hb1; replace h36 := h36.below hb1; clear hb1 h50)
    | (go_at_call 51; refine (contains_calls _ _ _ _ h36 (by rw [ml5]; decide)).mono ?_; rintro e w' ⟨rfl, rfl⟩)
    | (go_at_call 12; refine (reads_calls _ _).mono ?_; rintro e w' ⟨rfl, rfl⟩)
    | (go_at_call 22; refine (sendable_calls _ _ hE.s).mono ?_; rintro e w' ⟨rfl, rfl⟩)
    | (go_at_call 20; refine (global_calls _ _ _ hE.g).mono ?_; rintro e w' ⟨rfl, rfl⟩)
    | (go_at_call 15; refine (awake_calls _ hE.two).mono ?_; rintro e w1 ⟨rfl, hb1⟩; replace hE := hE.below hb1; replace hB := hB.then hb1; clear hb1))
  go_ret
  exact ⟨rfl, hB⟩

set_option maxRecDepth 100000 in
set_option maxHeartbeats 8000000 in
theorem sets_6 (n : Int) (hn : 1 + n % 11 = 6) (h0 : 0 ≤ n) (h1 : n ≤ 255) (w0 w : World) (hB : Below w0.heap.size w0 w) (hE : ES w) :
    Calls Tryd.prog 8 #[.int .u8 n] w fun e w' => e = .returned (.bool true) ∧ Below w0.heap.size w0 w' := by
  have c1 := nc6
  have c2 := pn6
  have c3 := pe6
  have m1 := mm6_1
  have m2 := mm6_2
  have m3 := mm6_3
  have m4 := mm6_4
  have m5 := mm6_5
  have m6 := mm6_6
  go_enter Tryd.func8, Tryd.ntmps8
  go_wp2_with (first
    | (go_at_call 31; refine (name_calls _ _ hE.n).mono ?_; rintro e w' ⟨rfl, rfl⟩)
    | (go_at_call 29; refine (parse_calls _ _ hE.b).mono ?_; rintro e w' ⟨rfl, rfl⟩)
    | (go_at_call 36; refine (members_calls2 _ 1 ml6 _ hE.s hE.d).mono ?_; rintro e w1 ⟨a36, c36, rfl, h36, hb1⟩; replace hE := hE.below hb1; replace hB := hB.then hb1; clear hb1)
    | (go_at_call 48; refine (sorted_calls _ _ _ h36 ma6 (by rw [ml6]; decide)).mono ?_; rintro e w1 ⟨rfl, hb1⟩; replace hE := hE.below hb1; replace hB := hB.then hb1; replace h36 := h36.below hb1; clear hb1)
    | (go_at_call 50; refine (clone_calls2 _ _ 1 ml6 _ h36 (by decide) (by decide)).mono ?_; rintro e w1 ⟨a50, c50, rfl, h50, hb1⟩; replace hE := hE.below hb1; replace hB := hB.then hb1; replace h36 := h36.below hb1; clear hb1)
    | (go_at_call 49; refine (compact_calls _ _ _ h50 ma6 (by rw [ml6]; decide)).mono ?_; rintro e w1 ⟨rfl, hb1⟩; replace hE := hE.below hb1; replace hB := hB.then hb1; replace h36 := h36.below hb1; clear hb1 h50)
    | (go_at_call 51; refine (contains_calls _ _ _ _ h36 (by rw [ml6]; decide)).mono ?_; rintro e w' ⟨rfl, rfl⟩)
    | (go_at_call 12; refine (reads_calls _ _).mono ?_; rintro e w' ⟨rfl, rfl⟩)
    | (go_at_call 22; refine (sendable_calls _ _ hE.s).mono ?_; rintro e w' ⟨rfl, rfl⟩)
    | (go_at_call 20; refine (global_calls _ _ _ hE.g).mono ?_; rintro e w' ⟨rfl, rfl⟩)
    | (go_at_call 15; refine (awake_calls _ hE.two).mono ?_; rintro e w1 ⟨rfl, hb1⟩; replace hE := hE.below hb1; replace hB := hB.then hb1; clear hb1))
  refine wp_loop_rounds 7 ?_
  rw [rounds_succ]; go_wp2_with (first
    | (go_at_call 31; refine (name_calls _ _ hE.n).mono ?_; rintro e w' ⟨rfl, rfl⟩)
    | (go_at_call 29; refine (parse_calls _ _ hE.b).mono ?_; rintro e w' ⟨rfl, rfl⟩)
    | (go_at_call 36; refine (members_calls2 _ 1 ml6 _ hE.s hE.d).mono ?_; rintro e w1 ⟨a36, c36, rfl, h36, hb1⟩; replace hE := hE.below hb1; replace hB := hB.then hb1; clear hb1)
    | (go_at_call 48; refine (sorted_calls _ _ _ h36 ma6 (by rw [ml6]; decide)).mono ?_; rintro e w1 ⟨rfl, hb1⟩; replace hE := hE.below hb1; replace hB := hB.then hb1; replace h36 := h36.below hb1; clear hb1)
    | (go_at_call 50; refine (clone_calls2 _ _ 1 ml6 _ h36 (by decide) (by decide)).mono ?_; rintro e w1 ⟨a50, c50, rfl, h50, hb1⟩; replace hE := hE.below hb1; replace hB := hB.then hb1; replace h36 := h36.below hb1; clear hb1)
    | (go_at_call 49; refine (compact_calls _ _ _ h50 ma6 (by rw [ml6]; decide)).mono ?_; rintro e w1 ⟨rfl, hb1⟩; replace hE := hE.below hb1; replace hB := hB.then hb1; replace h36 := h36.below hb1; clear hb1 h50)
    | (go_at_call 51; refine (contains_calls _ _ _ _ h36 (by rw [ml6]; decide)).mono ?_; rintro e w' ⟨rfl, rfl⟩)
    | (go_at_call 12; refine (reads_calls _ _).mono ?_; rintro e w' ⟨rfl, rfl⟩)
    | (go_at_call 22; refine (sendable_calls _ _ hE.s).mono ?_; rintro e w' ⟨rfl, rfl⟩)
    | (go_at_call 20; refine (global_calls _ _ _ hE.g).mono ?_; rintro e w' ⟨rfl, rfl⟩)
    | (go_at_call 15; refine (awake_calls _ hE.two).mono ?_; rintro e w1 ⟨rfl, hb1⟩; replace hE := hE.below hb1; replace hB := hB.then hb1; clear hb1))
  rw [rounds_succ]; go_wp2_with (first
    | (go_at_call 31; refine (name_calls _ _ hE.n).mono ?_; rintro e w' ⟨rfl, rfl⟩)
    | (go_at_call 29; refine (parse_calls _ _ hE.b).mono ?_; rintro e w' ⟨rfl, rfl⟩)
    | (go_at_call 36; refine (members_calls2 _ 1 ml6 _ hE.s hE.d).mono ?_; rintro e w1 ⟨a36, c36, rfl, h36, hb1⟩; replace hE := hE.below hb1; replace hB := hB.then hb1; clear hb1)
    | (go_at_call 48; refine (sorted_calls _ _ _ h36 ma6 (by rw [ml6]; decide)).mono ?_; rintro e w1 ⟨rfl, hb1⟩; replace hE := hE.below hb1; replace hB := hB.then hb1; replace h36 := h36.below hb1; clear hb1)
    | (go_at_call 50; refine (clone_calls2 _ _ 1 ml6 _ h36 (by decide) (by decide)).mono ?_; rintro e w1 ⟨a50, c50, rfl, h50, hb1⟩; replace hE := hE.below hb1; replace hB := hB.then hb1; replace h36 := h36.below hb1; clear hb1)
    | (go_at_call 49; refine (compact_calls _ _ _ h50 ma6 (by rw [ml6]; decide)).mono ?_; rintro e w1 ⟨rfl, hb1⟩; replace hE := hE.below hb1; replace hB := hB.then hb1; replace h36 := h36.below hb1; clear hb1 h50)
    | (go_at_call 51; refine (contains_calls _ _ _ _ h36 (by rw [ml6]; decide)).mono ?_; rintro e w' ⟨rfl, rfl⟩)
    | (go_at_call 12; refine (reads_calls _ _).mono ?_; rintro e w' ⟨rfl, rfl⟩)
    | (go_at_call 22; refine (sendable_calls _ _ hE.s).mono ?_; rintro e w' ⟨rfl, rfl⟩)
    | (go_at_call 20; refine (global_calls _ _ _ hE.g).mono ?_; rintro e w' ⟨rfl, rfl⟩)
    | (go_at_call 15; refine (awake_calls _ hE.two).mono ?_; rintro e w1 ⟨rfl, hb1⟩; replace hE := hE.below hb1; replace hB := hB.then hb1; clear hb1))
  rw [rounds_succ]; go_wp2_with (first
    | (go_at_call 31; refine (name_calls _ _ hE.n).mono ?_; rintro e w' ⟨rfl, rfl⟩)
    | (go_at_call 29; refine (parse_calls _ _ hE.b).mono ?_; rintro e w' ⟨rfl, rfl⟩)
    | (go_at_call 36; refine (members_calls2 _ 1 ml6 _ hE.s hE.d).mono ?_; rintro e w1 ⟨a36, c36, rfl, h36, hb1⟩; replace hE := hE.below hb1; replace hB := hB.then hb1; clear hb1)
    | (go_at_call 48; refine (sorted_calls _ _ _ h36 ma6 (by rw [ml6]; decide)).mono ?_; rintro e w1 ⟨rfl, hb1⟩; replace hE := hE.below hb1; replace hB := hB.then hb1; replace h36 := h36.below hb1; clear hb1)
    | (go_at_call 50; refine (clone_calls2 _ _ 1 ml6 _ h36 (by decide) (by decide)).mono ?_; rintro e w1 ⟨a50, c50, rfl, h50, hb1⟩; replace hE := hE.below hb1; replace hB := hB.then hb1; replace h36 := h36.below hb1; clear hb1)
    | (go_at_call 49; refine (compact_calls _ _ _ h50 ma6 (by rw [ml6]; decide)).mono ?_; rintro e w1 ⟨rfl, hb1⟩; replace hE := hE.below hb1; replace hB := hB.then hb1; replace h36 := h36.below hb1; clear hb1 h50)
    | (go_at_call 51; refine (contains_calls _ _ _ _ h36 (by rw [ml6]; decide)).mono ?_; rintro e w' ⟨rfl, rfl⟩)
    | (go_at_call 12; refine (reads_calls _ _).mono ?_; rintro e w' ⟨rfl, rfl⟩)
    | (go_at_call 22; refine (sendable_calls _ _ hE.s).mono ?_; rintro e w' ⟨rfl, rfl⟩)
    | (go_at_call 20; refine (global_calls _ _ _ hE.g).mono ?_; rintro e w' ⟨rfl, rfl⟩)
    | (go_at_call 15; refine (awake_calls _ hE.two).mono ?_; rintro e w1 ⟨rfl, hb1⟩; replace hE := hE.below hb1; replace hB := hB.then hb1; clear hb1))
  rw [rounds_succ]; go_wp2_with (first
    | (go_at_call 31; refine (name_calls _ _ hE.n).mono ?_; rintro e w' ⟨rfl, rfl⟩)
    | (go_at_call 29; refine (parse_calls _ _ hE.b).mono ?_; rintro e w' ⟨rfl, rfl⟩)
    | (go_at_call 36; refine (members_calls2 _ 1 ml6 _ hE.s hE.d).mono ?_; rintro e w1 ⟨a36, c36, rfl, h36, hb1⟩; replace hE := hE.below hb1; replace hB := hB.then hb1; clear hb1)
    | (go_at_call 48; refine (sorted_calls _ _ _ h36 ma6 (by rw [ml6]; decide)).mono ?_; rintro e w1 ⟨rfl, hb1⟩; replace hE := hE.below hb1; replace hB := hB.then hb1; replace h36 := h36.below hb1; clear hb1)
    | (go_at_call 50; refine (clone_calls2 _ _ 1 ml6 _ h36 (by decide) (by decide)).mono ?_; rintro e w1 ⟨a50, c50, rfl, h50, hb1⟩; replace hE := hE.below hb1; replace hB := hB.then hb1; replace h36 := h36.below hb1; clear hb1)
    | (go_at_call 49; refine (compact_calls _ _ _ h50 ma6 (by rw [ml6]; decide)).mono ?_; rintro e w1 ⟨rfl, hb1⟩; replace hE := hE.below hb1; replace hB := hB.then hb1; replace h36 := h36.below hb1; clear hb1 h50)
    | (go_at_call 51; refine (contains_calls _ _ _ _ h36 (by rw [ml6]; decide)).mono ?_; rintro e w' ⟨rfl, rfl⟩)
    | (go_at_call 12; refine (reads_calls _ _).mono ?_; rintro e w' ⟨rfl, rfl⟩)
    | (go_at_call 22; refine (sendable_calls _ _ hE.s).mono ?_; rintro e w' ⟨rfl, rfl⟩)
    | (go_at_call 20; refine (global_calls _ _ _ hE.g).mono ?_; rintro e w' ⟨rfl, rfl⟩)
    | (go_at_call 15; refine (awake_calls _ hE.two).mono ?_; rintro e w1 ⟨rfl, hb1⟩; replace hE := hE.below hb1; replace hB := hB.then hb1; clear hb1))
  rw [rounds_succ]; go_wp2_with (first
    | (go_at_call 31; refine (name_calls _ _ hE.n).mono ?_; rintro e w' ⟨rfl, rfl⟩)
    | (go_at_call 29; refine (parse_calls _ _ hE.b).mono ?_; rintro e w' ⟨rfl, rfl⟩)
    | (go_at_call 36; refine (members_calls2 _ 1 ml6 _ hE.s hE.d).mono ?_; rintro e w1 ⟨a36, c36, rfl, h36, hb1⟩; replace hE := hE.below hb1; replace hB := hB.then hb1; clear hb1)
    | (go_at_call 48; refine (sorted_calls _ _ _ h36 ma6 (by rw [ml6]; decide)).mono ?_; rintro e w1 ⟨rfl, hb1⟩; replace hE := hE.below hb1; replace hB := hB.then hb1; replace h36 := h36.below hb1; clear hb1)
    | (go_at_call 50; refine (clone_calls2 _ _ 1 ml6 _ h36 (by decide) (by decide)).mono ?_; rintro e w1 ⟨a50, c50, rfl, h50, hb1⟩; replace hE := hE.below hb1; replace hB := hB.then hb1; replace h36 := h36.below hb1; clear hb1)
    | (go_at_call 49; refine (compact_calls _ _ _ h50 ma6 (by rw [ml6]; decide)).mono ?_; rintro e w1 ⟨rfl, hb1⟩; replace hE := hE.below hb1; replace hB := hB.then hb1; replace h36 := h36.below hb1; clear hb1 h50)
    | (go_at_call 51; refine (contains_calls _ _ _ _ h36 (by rw [ml6]; decide)).mono ?_; rintro e w' ⟨rfl, rfl⟩)
    | (go_at_call 12; refine (reads_calls _ _).mono ?_; rintro e w' ⟨rfl, rfl⟩)
    | (go_at_call 22; refine (sendable_calls _ _ hE.s).mono ?_; rintro e w' ⟨rfl, rfl⟩)
    | (go_at_call 20; refine (global_calls _ _ _ hE.g).mono ?_; rintro e w' ⟨rfl, rfl⟩)
    | (go_at_call 15; refine (awake_calls _ hE.two).mono ?_; rintro e w1 ⟨rfl, hb1⟩; replace hE := hE.below hb1; replace hB := hB.then hb1; clear hb1))
  rw [rounds_succ]; go_wp2_with (first
    | (go_at_call 31; refine (name_calls _ _ hE.n).mono ?_; rintro e w' ⟨rfl, rfl⟩)
    | (go_at_call 29; refine (parse_calls _ _ hE.b).mono ?_; rintro e w' ⟨rfl, rfl⟩)
    | (go_at_call 36; refine (members_calls2 _ 1 ml6 _ hE.s hE.d).mono ?_; rintro e w1 ⟨a36, c36, rfl, h36, hb1⟩; replace hE := hE.below hb1; replace hB := hB.then hb1; clear hb1)
    | (go_at_call 48; refine (sorted_calls _ _ _ h36 ma6 (by rw [ml6]; decide)).mono ?_; rintro e w1 ⟨rfl, hb1⟩; replace hE := hE.below hb1; replace hB := hB.then hb1; replace h36 := h36.below hb1; clear hb1)
    | (go_at_call 50; refine (clone_calls2 _ _ 1 ml6 _ h36 (by decide) (by decide)).mono ?_; rintro e w1 ⟨a50, c50, rfl, h50, hb1⟩; replace hE := hE.below hb1; replace hB := hB.then hb1; replace h36 := h36.below hb1; clear hb1)
    | (go_at_call 49; refine (compact_calls _ _ _ h50 ma6 (by rw [ml6]; decide)).mono ?_; rintro e w1 ⟨rfl, hb1⟩; replace hE := hE.below hb1; replace hB := hB.then hb1; replace h36 := h36.below hb1; clear hb1 h50)
    | (go_at_call 51; refine (contains_calls _ _ _ _ h36 (by rw [ml6]; decide)).mono ?_; rintro e w' ⟨rfl, rfl⟩)
    | (go_at_call 12; refine (reads_calls _ _).mono ?_; rintro e w' ⟨rfl, rfl⟩)
    | (go_at_call 22; refine (sendable_calls _ _ hE.s).mono ?_; rintro e w' ⟨rfl, rfl⟩)
    | (go_at_call 20; refine (global_calls _ _ _ hE.g).mono ?_; rintro e w' ⟨rfl, rfl⟩)
    | (go_at_call 15; refine (awake_calls _ hE.two).mono ?_; rintro e w1 ⟨rfl, hb1⟩; replace hE := hE.below hb1; replace hB := hB.then hb1; clear hb1))
  rw [rounds_succ]; go_wp2_with (first
    | (go_at_call 31; refine (name_calls _ _ hE.n).mono ?_; rintro e w' ⟨rfl, rfl⟩)
    | (go_at_call 29; refine (parse_calls _ _ hE.b).mono ?_; rintro e w' ⟨rfl, rfl⟩)
    | (go_at_call 36; refine (members_calls2 _ 1 ml6 _ hE.s hE.d).mono ?_; rintro e w1 ⟨a36, c36, rfl, h36, hb1⟩; replace hE := hE.below hb1; replace hB := hB.then hb1; clear hb1)
    | (go_at_call 48; refine (sorted_calls _ _ _ h36 ma6 (by rw [ml6]; decide)).mono ?_; rintro e w1 ⟨rfl, hb1⟩; replace hE := hE.below hb1; replace hB := hB.then hb1; replace h36 := h36.below hb1; clear hb1)
    | (go_at_call 50; refine (clone_calls2 _ _ 1 ml6 _ h36 (by decide) (by decide)).mono ?_; rintro e w1 ⟨a50, c50, rfl, h50, hb1⟩; replace hE := hE.below hb1; replace hB := hB.then hb1; replace h36 := h36.below hb1; clear hb1)
    | (go_at_call 49; refine (compact_calls _ _ _ h50 ma6 (by rw [ml6]; decide)).mono ?_; rintro e w1 ⟨rfl, hb1⟩; replace hE := hE.below hb1; replace hB := hB.then hb1; replace h36 := h36.below hb1; clear hb1 h50)
    | (go_at_call 51; refine (contains_calls _ _ _ _ h36 (by rw [ml6]; decide)).mono ?_; rintro e w' ⟨rfl, rfl⟩)
    | (go_at_call 12; refine (reads_calls _ _).mono ?_; rintro e w' ⟨rfl, rfl⟩)
    | (go_at_call 22; refine (sendable_calls _ _ hE.s).mono ?_; rintro e w' ⟨rfl, rfl⟩)
    | (go_at_call 20; refine (global_calls _ _ _ hE.g).mono ?_; rintro e w' ⟨rfl, rfl⟩)
    | (go_at_call 15; refine (awake_calls _ hE.two).mono ?_; rintro e w1 ⟨rfl, hb1⟩; replace hE := hE.below hb1; replace hB := hB.then hb1; clear hb1))
  go_ret
  exact ⟨rfl, hB⟩

set_option maxRecDepth 100000 in
set_option maxHeartbeats 8000000 in
theorem sets_7 (n : Int) (hn : 1 + n % 11 = 7) (h0 : 0 ≤ n) (h1 : n ≤ 255) (w0 w : World) (hB : Below w0.heap.size w0 w) (hE : ES w) :
    Calls Tryd.prog 8 #[.int .u8 n] w fun e w' => e = .returned (.bool true) ∧ Below w0.heap.size w0 w' := by
  have c1 := nc7
  have c2 := pn7
  have c3 := pe7
  have m1 := mm7_1
  have r1 := rd1
  have m2 := mm7_2
  have r2 := rd2
  have m3 := mm7_3
  have r3 := rd3
  have m4 := mm7_4
  have r4 := rd4
  have m5 := mm7_5
  have r5 := rd5
  have m6 := mm7_6
  have r6 := rd6
  go_enter Tryd.func8, Tryd.ntmps8
  go_wp2_with (first
    | (go_at_call 31; refine (name_calls _ _ hE.n).mono ?_; rintro e w' ⟨rfl, rfl⟩)
    | (go_at_call 29; refine (parse_calls _ _ hE.b).mono ?_; rintro e w' ⟨rfl, rfl⟩)
    | (go_at_call 36; refine (members_calls2 _ 3 ml7 _ hE.s hE.d).mono ?_; rintro e w1 ⟨a36, c36, rfl, h36, hb1⟩; replace hE := hE.below hb1; replace hB := hB.then hb1; clear hb1)
    | (go_at_call 48; refine (sorted_calls _ _ _ h36 ma7 (by rw [ml7]; decide)).mono ?_; rintro e w1 ⟨rfl, hb1⟩; replace hE := hE.below hb1; replace hB := hB.then hb1; replace h36 := h36.below hb1; clear hb1)
    | (go_at_call 50; refine (clone_calls2 _ _ 3 ml7 _ h36 (by decide) (by decide)).mono ?_; rintro e w1 ⟨a50, c50, rfl, h50, hb1⟩; replace hE := hE.below hb1; replace hB := hB.then hb1; replace h36 := h36.below hb1; clear hb1)
    | (go_at_call 49; refine (compact_calls _ _ _ h50 ma7 (by rw [ml7]; decide)).mono ?_; rintro e w1 ⟨rfl, hb1⟩; replace hE := hE.below hb1; replace hB := hB.then hb1; replace h36 := h36.below hb1; clear hb1 h50)
    | (go_at_call 51; refine (contains_calls _ _ _ _ h36 (by rw [ml7]; decide)).mono ?_; rintro e w' ⟨rfl, rfl⟩)
    | (go_at_call 12; refine (reads_calls _ _).mono ?_; rintro e w' ⟨rfl, rfl⟩)
    | (go_at_call 22; refine (sendable_calls _ _ hE.s).mono ?_; rintro e w' ⟨rfl, rfl⟩)
    | (go_at_call 20; refine (global_calls _ _ _ hE.g).mono ?_; rintro e w' ⟨rfl, rfl⟩)
    | (go_at_call 15; refine (awake_calls _ hE.two).mono ?_; rintro e w1 ⟨rfl, hb1⟩; replace hE := hE.below hb1; replace hB := hB.then hb1; clear hb1))
  refine wp_loop_rounds 7 ?_
  rw [rounds_succ]; go_wp2_with (first
    | (go_at_call 31; refine (name_calls _ _ hE.n).mono ?_; rintro e w' ⟨rfl, rfl⟩)
    | (go_at_call 29; refine (parse_calls _ _ hE.b).mono ?_; rintro e w' ⟨rfl, rfl⟩)
    | (go_at_call 36; refine (members_calls2 _ 3 ml7 _ hE.s hE.d).mono ?_; rintro e w1 ⟨a36, c36, rfl, h36, hb1⟩; replace hE := hE.below hb1; replace hB := hB.then hb1; clear hb1)
    | (go_at_call 48; refine (sorted_calls _ _ _ h36 ma7 (by rw [ml7]; decide)).mono ?_; rintro e w1 ⟨rfl, hb1⟩; replace hE := hE.below hb1; replace hB := hB.then hb1; replace h36 := h36.below hb1; clear hb1)
    | (go_at_call 50; refine (clone_calls2 _ _ 3 ml7 _ h36 (by decide) (by decide)).mono ?_; rintro e w1 ⟨a50, c50, rfl, h50, hb1⟩; replace hE := hE.below hb1; replace hB := hB.then hb1; replace h36 := h36.below hb1; clear hb1)
    | (go_at_call 49; refine (compact_calls _ _ _ h50 ma7 (by rw [ml7]; decide)).mono ?_; rintro e w1 ⟨rfl, hb1⟩; replace hE := hE.below hb1; replace hB := hB.then hb1; replace h36 := h36.below hb1; clear hb1 h50)
    | (go_at_call 51; refine (contains_calls _ _ _ _ h36 (by rw [ml7]; decide)).mono ?_; rintro e w' ⟨rfl, rfl⟩)
    | (go_at_call 12; refine (reads_calls _ _).mono ?_; rintro e w' ⟨rfl, rfl⟩)
    | (go_at_call 22; refine (sendable_calls _ _ hE.s).mono ?_; rintro e w' ⟨rfl, rfl⟩)
    | (go_at_call 20; refine (global_calls _ _ _ hE.g).mono ?_; rintro e w' ⟨rfl, rfl⟩)
    | (go_at_call 15; refine (awake_calls _ hE.two).mono ?_; rintro e w1 ⟨rfl, hb1⟩; replace hE := hE.below hb1; replace hB := hB.then hb1; clear hb1))
  rw [rounds_succ]; go_wp2_with (first
    | (go_at_call 31; refine (name_calls _ _ hE.n).mono ?_; rintro e w' ⟨rfl, rfl⟩)
    | (go_at_call 29; refine (parse_calls _ _ hE.b).mono ?_; rintro e w' ⟨rfl, rfl⟩)
    | (go_at_call 36; refine (members_calls2 _ 3 ml7 _ hE.s hE.d).mono ?_; rintro e w1 ⟨a36, c36, rfl, h36, hb1⟩; replace hE := hE.below hb1; replace hB := hB.then hb1; clear hb1)
    | (go_at_call 48; refine (sorted_calls _ _ _ h36 ma7 (by rw [ml7]; decide)).mono ?_; rintro e w1 ⟨rfl, hb1⟩; replace hE := hE.below hb1; replace hB := hB.then hb1; replace h36 := h36.below hb1; clear hb1)
    | (go_at_call 50; refine (clone_calls2 _ _ 3 ml7 _ h36 (by decide) (by decide)).mono ?_; rintro e w1 ⟨a50, c50, rfl, h50, hb1⟩; replace hE := hE.below hb1; replace hB := hB.then hb1; replace h36 := h36.below hb1; clear hb1)
    | (go_at_call 49; refine (compact_calls _ _ _ h50 ma7 (by rw [ml7]; decide)).mono ?_; rintro e w1 ⟨rfl, hb1⟩; replace hE := hE.below hb1; replace hB := hB.then hb1; replace h36 := h36.below hb1; clear hb1 h50)
    | (go_at_call 51; refine (contains_calls _ _ _ _ h36 (by rw [ml7]; decide)).mono ?_; rintro e w' ⟨rfl, rfl⟩)
    | (go_at_call 12; refine (reads_calls _ _).mono ?_; rintro e w' ⟨rfl, rfl⟩)
    | (go_at_call 22; refine (sendable_calls _ _ hE.s).mono ?_; rintro e w' ⟨rfl, rfl⟩)
    | (go_at_call 20; refine (global_calls _ _ _ hE.g).mono ?_; rintro e w' ⟨rfl, rfl⟩)
    | (go_at_call 15; refine (awake_calls _ hE.two).mono ?_; rintro e w1 ⟨rfl, hb1⟩; replace hE := hE.below hb1; replace hB := hB.then hb1; clear hb1))
  rw [rounds_succ]; go_wp2_with (first
    | (go_at_call 31; refine (name_calls _ _ hE.n).mono ?_; rintro e w' ⟨rfl, rfl⟩)
    | (go_at_call 29; refine (parse_calls _ _ hE.b).mono ?_; rintro e w' ⟨rfl, rfl⟩)
    | (go_at_call 36; refine (members_calls2 _ 3 ml7 _ hE.s hE.d).mono ?_; rintro e w1 ⟨a36, c36, rfl, h36, hb1⟩; replace hE := hE.below hb1; replace hB := hB.then hb1; clear hb1)
    | (go_at_call 48; refine (sorted_calls _ _ _ h36 ma7 (by rw [ml7]; decide)).mono ?_; rintro e w1 ⟨rfl, hb1⟩; replace hE := hE.below hb1; replace hB := hB.then hb1; replace h36 := h36.below hb1; clear hb1)
    | (go_at_call 50; refine (clone_calls2 _ _ 3 ml7 _ h36 (by decide) (by decide)).mono ?_; rintro e w1 ⟨a50, c50, rfl, h50, hb1⟩; replace hE := hE.below hb1; replace hB := hB.then hb1; replace h36 := h36.below hb1; clear hb1)
    | (go_at_call 49; refine (compact_calls _ _ _ h50 ma7 (by rw [ml7]; decide)).mono ?_; rintro e w1 ⟨rfl, hb1⟩; replace hE := hE.below hb1; replace hB := hB.then hb1; replace h36 := h36.below hb1; clear hb1 h50)
    | (go_at_call 51; refine (contains_calls _ _ _ _ h36 (by rw [ml7]; decide)).mono ?_; rintro e w' ⟨rfl, rfl⟩)
    | (go_at_call 12; refine (reads_calls _ _).mono ?_; rintro e w' ⟨rfl, rfl⟩)
    | (go_at_call 22; refine (sendable_calls _ _ hE.s).mono ?_; rintro e w' ⟨rfl, rfl⟩)
    | (go_at_call 20; refine (global_calls _ _ _ hE.g).mono ?_; rintro e w' ⟨rfl, rfl⟩)
    | (go_at_call 15; refine (awake_calls _ hE.two).mono ?_; rintro e w1 ⟨rfl, hb1⟩; replace hE := hE.below hb1; replace hB := hB.then hb1; clear hb1))
  rw [rounds_succ]; go_wp2_with (first
    | (go_at_call 31; refine (name_calls _ _ hE.n).mono ?_; rintro e w' ⟨rfl, rfl⟩)
    | (go_at_call 29; refine (parse_calls _ _ hE.b).mono ?_; rintro e w' ⟨rfl, rfl⟩)
    | (go_at_call 36; refine (members_calls2 _ 3 ml7 _ hE.s hE.d).mono ?_; rintro e w1 ⟨a36, c36, rfl, h36, hb1⟩; replace hE := hE.below hb1; replace hB := hB.then hb1; clear hb1)
    | (go_at_call 48; refine (sorted_calls _ _ _ h36 ma7 (by rw [ml7]; decide)).mono ?_; rintro e w1 ⟨rfl, hb1⟩; replace hE := hE.below hb1; replace hB := hB.then hb1; replace h36 := h36.below hb1; clear hb1)
    | (go_at_call 50; refine (clone_calls2 _ _ 3 ml7 _ h36 (by decide) (by decide)).mono ?_; rintro e w1 ⟨a50, c50, rfl, h50, hb1⟩; replace hE := hE.below hb1; replace hB := hB.then hb1; replace h36 := h36.below hb1; clear hb1)
    | (go_at_call 49; refine (compact_calls _ _ _ h50 ma7 (by rw [ml7]; decide)).mono ?_; rintro e w1 ⟨rfl, hb1⟩; replace hE := hE.below hb1; replace hB := hB.then hb1; replace h36 := h36.below hb1; clear hb1 h50)
    | (go_at_call 51; refine (contains_calls _ _ _ _ h36 (by rw [ml7]; decide)).mono ?_; rintro e w' ⟨rfl, rfl⟩)
    | (go_at_call 12; refine (reads_calls _ _).mono ?_; rintro e w' ⟨rfl, rfl⟩)
    | (go_at_call 22; refine (sendable_calls _ _ hE.s).mono ?_; rintro e w' ⟨rfl, rfl⟩)
    | (go_at_call 20; refine (global_calls _ _ _ hE.g).mono ?_; rintro e w' ⟨rfl, rfl⟩)
    | (go_at_call 15; refine (awake_calls _ hE.two).mono ?_; rintro e w1 ⟨rfl, hb1⟩; replace hE := hE.below hb1; replace hB := hB.then hb1; clear hb1))
  rw [rounds_succ]; go_wp2_with (first
    | (go_at_call 31; refine (name_calls _ _ hE.n).mono ?_; rintro e w' ⟨rfl, rfl⟩)
    | (go_at_call 29; refine (parse_calls _ _ hE.b).mono ?_; rintro e w' ⟨rfl, rfl⟩)
    | (go_at_call 36; refine (members_calls2 _ 3 ml7 _ hE.s hE.d).mono ?_; rintro e w1 ⟨a36, c36, rfl, h36, hb1⟩; replace hE := hE.below hb1; replace hB := hB.then hb1; clear hb1)
    | (go_at_call 48; refine (sorted_calls _ _ _ h36 ma7 (by rw [ml7]; decide)).mono ?_; rintro e w1 ⟨rfl, hb1⟩; replace hE := hE.below hb1; replace hB := hB.then hb1; replace h36 := h36.below hb1; clear hb1)
    | (go_at_call 50; refine (clone_calls2 _ _ 3 ml7 _ h36 (by decide) (by decide)).mono ?_; rintro e w1 ⟨a50, c50, rfl, h50, hb1⟩; replace hE := hE.below hb1; replace hB := hB.then hb1; replace h36 := h36.below hb1; clear hb1)
    | (go_at_call 49; refine (compact_calls _ _ _ h50 ma7 (by rw [ml7]; decide)).mono ?_; rintro e w1 ⟨rfl, hb1⟩; replace hE := hE.below hb1; replace hB := hB.then hb1; replace h36 := h36.below hb1; clear hb1 h50)
    | (go_at_call 51; refine (contains_calls _ _ _ _ h36 (by rw [ml7]; decide)).mono ?_; rintro e w' ⟨rfl, rfl⟩)
    | (go_at_call 12; refine (reads_calls _ _).mono ?_; rintro e w' ⟨rfl, rfl⟩)
    | (go_at_call 22; refine (sendable_calls _ _ hE.s).mono ?_; rintro e w' ⟨rfl, rfl⟩)
    | (go_at_call 20; refine (global_calls _ _ _ hE.g).mono ?_; rintro e w' ⟨rfl, rfl⟩)
    | (go_at_call 15; refine (awake_calls _ hE.two).mono ?_; rintro e w1 ⟨rfl, hb1⟩; replace hE := hE.below hb1; replace hB := hB.then hb1; clear hb1))
  rw [rounds_succ]; go_wp2_with (first
    | (go_at_call 31; refine (name_calls _ _ hE.n).mono ?_; rintro e w' ⟨rfl, rfl⟩)
    | (go_at_call 29; refine (parse_calls _ _ hE.b).mono ?_; rintro e w' ⟨rfl, rfl⟩)
    | (go_at_call 36; refine (members_calls2 _ 3 ml7 _ hE.s hE.d).mono ?_; rintro e w1 ⟨a36, c36, rfl, h36, hb1⟩; replace hE := hE.below hb1; replace hB := hB.then hb1; clear hb1)
    | (go_at_call 48; refine (sorted_calls _ _ _ h36 ma7 (by rw [ml7]; decide)).mono ?_; rintro e w1 ⟨rfl, hb1⟩; replace hE := hE.below hb1; replace hB := hB.then hb1; replace h36 := h36.below hb1; clear hb1)
    | (go_at_call 50; refine (clone_calls2 _ _ 3 ml7 _ h36 (by decide) (by decide)).mono ?_; rintro e w1 ⟨a50, c50, rfl, h50, hb1⟩; replace hE := hE.below hb1; replace hB := hB.then hb1; replace h36 := h36.below hb1; clear hb1)
    | (go_at_call 49; refine (compact_calls _ _ _ h50 ma7 (by rw [ml7]; decide)).mono ?_; rintro e w1 ⟨rfl, hb1⟩; replace hE := hE.below hb1; replace hB := hB.then hb1; replace h36 := h36.below hb1; clear hb1 h50)
    | (go_at_call 51; refine (contains_calls _ _ _ _ h36 (by rw [ml7]; decide)).mono ?_; rintro e w' ⟨rfl, rfl⟩)
    | (go_at_call 12; refine (reads_calls _ _).mono ?_; rintro e w' ⟨rfl, rfl⟩)
    | (go_at_call 22; refine (sendable_calls _ _ hE.s).mono ?_; rintro e w' ⟨rfl, rfl⟩)
    | (go_at_call 20; refine (global_calls _ _ _ hE.g).mono ?_; rintro e w' ⟨rfl, rfl⟩)
    | (go_at_call 15; refine (awake_calls _ hE.two).mono ?_; rintro e w1 ⟨rfl, hb1⟩; replace hE := hE.below hb1; replace hB := hB.then hb1; clear hb1))
  rw [rounds_succ]; go_wp2_with (first
    | (go_at_call 31; refine (name_calls _ _ hE.n).mono ?_; rintro e w' ⟨rfl, rfl⟩)
    | (go_at_call 29; refine (parse_calls _ _ hE.b).mono ?_; rintro e w' ⟨rfl, rfl⟩)
    | (go_at_call 36; refine (members_calls2 _ 3 ml7 _ hE.s hE.d).mono ?_; rintro e w1 ⟨a36, c36, rfl, h36, hb1⟩; replace hE := hE.below hb1; replace hB := hB.then hb1; clear hb1)
    | (go_at_call 48; refine (sorted_calls _ _ _ h36 ma7 (by rw [ml7]; decide)).mono ?_; rintro e w1 ⟨rfl, hb1⟩; replace hE := hE.below hb1; replace hB := hB.then hb1; replace h36 := h36.below hb1; clear hb1)
    | (go_at_call 50; refine (clone_calls2 _ _ 3 ml7 _ h36 (by decide) (by decide)).mono ?_; rintro e w1 ⟨a50, c50, rfl, h50, hb1⟩; replace hE := hE.below hb1; replace hB := hB.then hb1; replace h36 := h36.below hb1; clear hb1)
    | (go_at_call 49; refine (compact_calls _ _ _ h50 ma7 (by rw [ml7]; decide)).mono ?_; rintro e w1 ⟨rfl, hb1⟩; replace hE := hE.below hb1; replace hB := hB.then hb1; replace h36 := h36.below hb1; clear hb1 h50)
    | (go_at_call 51; refine (contains_calls _ _ _ _ h36 (by rw [ml7]; decide)).mono ?_; rintro e w' ⟨rfl, rfl⟩)
    | (go_at_call 12; refine (reads_calls _ _).mono ?_; rintro e w' ⟨rfl, rfl⟩)
    | (go_at_call 22; refine (sendable_calls _ _ hE.s).mono ?_; rintro e w' ⟨rfl, rfl⟩)
    | (go_at_call 20; refine (global_calls _ _ _ hE.g).mono ?_; rintro e w' ⟨rfl, rfl⟩)
    | (go_at_call 15; refine (awake_calls _ hE.two).mono ?_; rintro e w1 ⟨rfl, hb1⟩; replace hE := hE.below hb1; replace hB := hB.then hb1; clear hb1))
  go_ret
  exact ⟨rfl, hB⟩

set_option maxRecDepth 100000 in
set_option maxHeartbeats 8000000 in
theorem sets_8 (n : Int) (hn : 1 + n % 11 = 8) (h0 : 0 ≤ n) (h1 : n ≤ 255) (w0 w : World) (hB : Below w0.heap.size w0 w) (hE : ES w) :
    Calls Tryd.prog 8 #[.int .u8 n] w fun e w' => e = .returned (.bool true) ∧ Below w0.heap.size w0 w' := by
  have c1 := nc8
  have c2 := pn8
  have c3 := pe8
  have m1 := mm8_1
  have s1 := sd1
  have m2 := mm8_2
  have s2 := sd2
  have m3 := mm8_3
  have s3 := sd3
  have m4 := mm8_4
  have s4 := sd4
  have m5 := mm8_5
  have s5 := sd5
  have m6 := mm8_6
  have s6 := sd6
  go_enter Tryd.func8, Tryd.ntmps8
  go_wp2_with (first
    | (go_at_call 31; refine (name_calls _ _ hE.n).mono ?_; rintro e w' ⟨rfl, rfl⟩)
    | (go_at_call 29; refine (parse_calls _ _ hE.b).mono ?_; rintro e w' ⟨rfl, rfl⟩)
    | (go_at_call 36; refine (members_calls2 _ 3 ml8 _ hE.s hE.d).mono ?_; rintro e w1 ⟨a36, c36, rfl, h36, hb1⟩; replace hE := hE.below hb1; replace hB := hB.then hb1; clear hb1)
    | (go_at_call 48; refine (sorted_calls _ _ _ h36 ma8 (by rw [ml8]; decide)).mono ?_; rintro e w1 ⟨rfl, hb1⟩; replace hE := hE.below hb1; replace hB := hB.then hb1; replace h36 := h36.below hb1; clear hb1)
    | (go_at_call 50; refine (clone_calls2 _ _ 3 ml8 _ h36 (by decide) (by decide)).mono ?_; rintro e w1 ⟨a50, c50, rfl, h50, hb1⟩; replace hE := hE.below hb1; replace hB := hB.then hb1; replace h36 := h36.below hb1; clear hb1)
    | (go_at_call 49; refine (compact_calls _ _ _ h50 ma8 (by rw [ml8]; decide)).mono ?_; rintro e w1 ⟨rfl, hb1⟩; replace hE := hE.below hb1; replace hB := hB.then hb1; replace h36 := h36.below hb1; clear hb1 h50)
    | (go_at_call 51; refine (contains_calls _ _ _ _ h36 (by rw [ml8]; decide)).mono ?_; rintro e w' ⟨rfl, rfl⟩)
    | (go_at_call 12; refine (reads_calls _ _).mono ?_; rintro e w' ⟨rfl, rfl⟩)
    | (go_at_call 22; refine (sendable_calls _ _ hE.s).mono ?_; rintro e w' ⟨rfl, rfl⟩)
    | (go_at_call 20; refine (global_calls _ _ _ hE.g).mono ?_; rintro e w' ⟨rfl, rfl⟩)
    | (go_at_call 15; refine (awake_calls _ hE.two).mono ?_; rintro e w1 ⟨rfl, hb1⟩; replace hE := hE.below hb1; replace hB := hB.then hb1; clear hb1))
  refine wp_loop_rounds 7 ?_
  rw [rounds_succ]; go_wp2_with (first
    | (go_at_call 31; refine (name_calls _ _ hE.n).mono ?_; rintro e w' ⟨rfl, rfl⟩)
    | (go_at_call 29; refine (parse_calls _ _ hE.b).mono ?_; rintro e w' ⟨rfl, rfl⟩)
    | (go_at_call 36; refine (members_calls2 _ 3 ml8 _ hE.s hE.d).mono ?_; rintro e w1 ⟨a36, c36, rfl, h36, hb1⟩; replace hE := hE.below hb1; replace hB := hB.then hb1; clear hb1)
    | (go_at_call 48; refine (sorted_calls _ _ _ h36 ma8 (by rw [ml8]; decide)).mono ?_; rintro e w1 ⟨rfl, hb1⟩; replace hE := hE.below hb1; replace hB := hB.then hb1; replace h36 := h36.below hb1; clear hb1)
    | (go_at_call 50; refine (clone_calls2 _ _ 3 ml8 _ h36 (by decide) (by decide)).mono ?_; rintro e w1 ⟨a50, c50, rfl, h50, hb1⟩; replace hE := hE.below hb1; replace hB := hB.then hb1; replace h36 := h36.below hb1; clear hb1)
    | (go_at_call 49; refine (compact_calls _ _ _ h50 ma8 (by rw [ml8]; decide)).mono ?_; rintro e w1 ⟨rfl, hb1⟩; replace hE := hE.below hb1; replace hB := hB.then hb1; replace h36 := h36.below hb1; clear hb1 h50)
    | (go_at_call 51; refine (contains_calls _ _ _ _ h36 (by rw [ml8]; decide)).mono ?_; rintro e w' ⟨rfl, rfl⟩)
    | (go_at_call 12; refine (reads_calls _ _).mono ?_; rintro e w' ⟨rfl, rfl⟩)
    | (go_at_call 22; refine (sendable_calls _ _ hE.s).mono ?_; rintro e w' ⟨rfl, rfl⟩)
    | (go_at_call 20; refine (global_calls _ _ _ hE.g).mono ?_; rintro e w' ⟨rfl, rfl⟩)
    | (go_at_call 15; refine (awake_calls _ hE.two).mono ?_; rintro e w1 ⟨rfl, hb1⟩; replace hE := hE.below hb1; replace hB := hB.then hb1; clear hb1))
  rw [rounds_succ]; go_wp2_with (first
    | (go_at_call 31; refine (name_calls _ _ hE.n).mono ?_; rintro e w' ⟨rfl, rfl⟩)
    | (go_at_call 29; refine (parse_calls _ _ hE.b).mono ?_; rintro e w' ⟨rfl, rfl⟩)
    | (go_at_call 36; refine (members_calls2 _ 3 ml8 _ hE.s hE.d).mono ?_; rintro e w1 ⟨a36, c36, rfl, h36, hb1⟩; replace hE := hE.below hb1; replace hB := hB.then hb1; clear hb1)
    | (go_at_call 48; refine (sorted_calls _ _ _ h36 ma8 (by rw [ml8]; decide)).mono ?_; rintro e w1 ⟨rfl, hb1⟩; replace hE := hE.below hb1; replace hB := hB.then hb1; replace h36 := h36.below hb1; clear hb1)
    | (go_at_call 50; refine (clone_calls2 _ _ 3 ml8 _ h36 (by decide) (by decide)).mono ?_; rintro e w1 ⟨a50, c50, rfl, h50, hb1⟩; replace hE := hE.below hb1; replace hB := hB.then hb1; replace h36 := h36.below hb1; clear hb1)
    | (go_at_call 49; refine (compact_calls _ _ _ h50 ma8 (by rw [ml8]; decide)).mono ?_; rintro e w1 ⟨rfl, hb1⟩; replace hE := hE.below hb1; replace hB := hB.then hb1; replace h36 := h36.below hb1; clear hb1 h50)
    | (go_at_call 51; refine (contains_calls _ _ _ _ h36 (by rw [ml8]; decide)).mono ?_; rintro e w' ⟨rfl, rfl⟩)
    | (go_at_call 12; refine (reads_calls _ _).mono ?_; rintro e w' ⟨rfl, rfl⟩)
    | (go_at_call 22; refine (sendable_calls _ _ hE.s).mono ?_; rintro e w' ⟨rfl, rfl⟩)
    | (go_at_call 20; refine (global_calls _ _ _ hE.g).mono ?_; rintro e w' ⟨rfl, rfl⟩)
    | (go_at_call 15; refine (awake_calls _ hE.two).mono ?_; rintro e w1 ⟨rfl, hb1⟩; replace hE := hE.below hb1; replace hB := hB.then hb1; clear hb1))
  rw [rounds_succ]; go_wp2_with (first
    | (go_at_call 31; refine (name_calls _ _ hE.n).mono ?_; rintro e w' ⟨rfl, rfl⟩)
    | (go_at_call 29; refine (parse_calls _ _ hE.b).mono ?_; rintro e w' ⟨rfl, rfl⟩)
    | (go_at_call 36; refine (members_calls2 _ 3 ml8 _ hE.s hE.d).mono ?_; rintro e w1 ⟨a36, c36, rfl, h36, hb1⟩; replace hE := hE.below hb1; replace hB := hB.then hb1; clear hb1)
    | (go_at_call 48; refine (sorted_calls _ _ _ h36 ma8 (by rw [ml8]; decide)).mono ?_; rintro e w1 ⟨rfl, hb1⟩; replace hE := hE.below hb1; replace hB := hB.then hb1; replace h36 := h36.below hb1; clear hb1)
    | (go_at_call 50; refine (clone_calls2 _ _ 3 ml8 _ h36 (by decide) (by decide)).mono ?_; rintro e w1 ⟨a50, c50, rfl, h50, hb1⟩; replace hE := hE.below hb1; replace hB := hB.then hb1; replace h36 := h36.below hb1; clear hb1)
    | (go_at_call 49; refine (compact_calls _ _ _ h50 ma8 (by rw [ml8]; decide)).mono ?_; rintro e w1 ⟨rfl, hb1⟩; replace hE := hE.below hb1; replace hB := hB.then hb1; replace h36 := h36.below hb1; clear hb1 h50)
    | (go_at_call 51; refine (contains_calls _ _ _ _ h36 (by rw [ml8]; decide)).mono ?_; rintro e w' ⟨rfl, rfl⟩)
    | (go_at_call 12; refine (reads_calls _ _).mono ?_; rintro e w' ⟨rfl, rfl⟩)
    | (go_at_call 22; refine (sendable_calls _ _ hE.s).mono ?_; rintro e w' ⟨rfl, rfl⟩)
    | (go_at_call 20; refine (global_calls _ _ _ hE.g).mono ?_; rintro e w' ⟨rfl, rfl⟩)
    | (go_at_call 15; refine (awake_calls _ hE.two).mono ?_; rintro e w1 ⟨rfl, hb1⟩; replace hE := hE.below hb1; replace hB := hB.then hb1; clear hb1))
  rw [rounds_succ]; go_wp2_with (first
    | (go_at_call 31; refine (name_calls _ _ hE.n).mono ?_; rintro e w' ⟨rfl, rfl⟩)
    | (go_at_call 29; refine (parse_calls _ _ hE.b).mono ?_; rintro e w' ⟨rfl, rfl⟩)
    | (go_at_call 36; refine (members_calls2 _ 3 ml8 _ hE.s hE.d).mono ?_; rintro e w1 ⟨a36, c36, rfl, h36, hb1⟩; replace hE := hE.below hb1; replace hB := hB.then hb1; clear hb1)
    | (go_at_call 48; refine (sorted_calls _ _ _ h36 ma8 (by rw [ml8]; decide)).mono ?_; rintro e w1 ⟨rfl, hb1⟩; replace hE := hE.below hb1; replace hB := hB.then hb1; replace h36 := h36.below hb1; clear hb1)
    | (go_at_call 50; refine (clone_calls2 _ _ 3 ml8 _ h36 (by decide) (by decide)).mono ?_; rintro e w1 ⟨a50, c50, rfl, h50, hb1⟩; replace hE := hE.below hb1; replace hB := hB.then hb1; replace h36 := h36.below hb1; clear hb1)
    | (go_at_call 49; refine (compact_calls _ _ _ h50 ma8 (by rw [ml8]; decide)).mono ?_; rintro e w1 ⟨rfl, hb1⟩; replace hE := hE.below hb1; replace hB := hB.then hb1; replace h36 := h36.below hb1; clear hb1 h50)
    | (go_at_call 51; refine (contains_calls _ _ _ _ h36 (by rw [ml8]; decide)).mono ?_; rintro e w' ⟨rfl, rfl⟩)
    | (go_at_call 12; refine (reads_calls _ _).mono ?_; rintro e w' ⟨rfl, rfl⟩)
    | (go_at_call 22; refine (sendable_calls _ _ hE.s).mono ?_; rintro e w' ⟨rfl, rfl⟩)
    | (go_at_call 20; refine (global_calls _ _ _ hE.g).mono ?_; rintro e w' ⟨rfl, rfl⟩)
    | (go_at_call 15; refine (awake_calls _ hE.two).mono ?_; rintro e w1 ⟨rfl, hb1⟩; replace hE := hE.below hb1; replace hB := hB.then hb1; clear hb1))
  rw [rounds_succ]; go_wp2_with (first
    | (go_at_call 31; refine (name_calls _ _ hE.n).mono ?_; rintro e w' ⟨rfl, rfl⟩)
    | (go_at_call 29; refine (parse_calls _ _ hE.b).mono ?_; rintro e w' ⟨rfl, rfl⟩)
    | (go_at_call 36; refine (members_calls2 _ 3 ml8 _ hE.s hE.d).mono ?_; rintro e w1 ⟨a36, c36, rfl, h36, hb1⟩; replace hE := hE.below hb1; replace hB := hB.then hb1; clear hb1)
    | (go_at_call 48; refine (sorted_calls _ _ _ h36 ma8 (by rw [ml8]; decide)).mono ?_; rintro e w1 ⟨rfl, hb1⟩; replace hE := hE.below hb1; replace hB := hB.then hb1; replace h36 := h36.below hb1; clear hb1)
    | (go_at_call 50; refine (clone_calls2 _ _ 3 ml8 _ h36 (by decide) (by decide)).mono ?_; rintro e w1 ⟨a50, c50, rfl, h50, hb1⟩; replace hE := hE.below hb1; replace hB := hB.then hb1; replace h36 := h36.below hb1; clear hb1)
    | (go_at_call 49; refine (compact_calls _ _ _ h50 ma8 (by rw [ml8]; decide)).mono ?_; rintro e w1 ⟨rfl, hb1⟩; replace hE := hE.below hb1; replace hB := hB.then hb1; replace h36 := h36.below hb1; clear hb1 h50)
    | (go_at_call 51; refine (contains_calls _ _ _ _ h36 (by rw [ml8]; decide)).mono ?_; rintro e w' ⟨rfl, rfl⟩)
    | (go_at_call 12; refine (reads_calls _ _).mono ?_; rintro e w' ⟨rfl, rfl⟩)
    | (go_at_call 22; refine (sendable_calls _ _ hE.s).mono ?_; rintro e w' ⟨rfl, rfl⟩)
    | (go_at_call 20; refine (global_calls _ _ _ hE.g).mono ?_; rintro e w' ⟨rfl, rfl⟩)
    | (go_at_call 15; refine (awake_calls _ hE.two).mono ?_; rintro e w1 ⟨rfl, hb1⟩; replace hE := hE.below hb1; replace hB := hB.then hb1; clear hb1))
  rw [rounds_succ]; go_wp2_with (first
    | (go_at_call 31; refine (name_calls _ _ hE.n).mono ?_; rintro e w' ⟨rfl, rfl⟩)
    | (go_at_call 29; refine (parse_calls _ _ hE.b).mono ?_; rintro e w' ⟨rfl, rfl⟩)
    | (go_at_call 36; refine (members_calls2 _ 3 ml8 _ hE.s hE.d).mono ?_; rintro e w1 ⟨a36, c36, rfl, h36, hb1⟩; replace hE := hE.below hb1; replace hB := hB.then hb1; clear hb1)
    | (go_at_call 48; refine (sorted_calls _ _ _ h36 ma8 (by rw [ml8]; decide)).mono ?_; rintro e w1 ⟨rfl, hb1⟩; replace hE := hE.below hb1; replace hB := hB.then hb1; replace h36 := h36.below hb1; clear hb1)
    | (go_at_call 50; refine (clone_calls2 _ _ 3 ml8 _ h36 (by decide) (by decide)).mono ?_; rintro e w1 ⟨a50, c50, rfl, h50, hb1⟩; replace hE := hE.below hb1; replace hB := hB.then hb1; replace h36 := h36.below hb1; clear hb1)
    | (go_at_call 49; refine (compact_calls _ _ _ h50 ma8 (by rw [ml8]; decide)).mono ?_; rintro e w1 ⟨rfl, hb1⟩; replace hE := hE.below hb1; replace hB := hB.then hb1; replace h36 := h36.below hb1; clear hb1 h50)
    | (go_at_call 51; refine (contains_calls _ _ _ _ h36 (by rw [ml8]; decide)).mono ?_; rintro e w' ⟨rfl, rfl⟩)
    | (go_at_call 12; refine (reads_calls _ _).mono ?_; rintro e w' ⟨rfl, rfl⟩)
    | (go_at_call 22; refine (sendable_calls _ _ hE.s).mono ?_; rintro e w' ⟨rfl, rfl⟩)
    | (go_at_call 20; refine (global_calls _ _ _ hE.g).mono ?_; rintro e w' ⟨rfl, rfl⟩)
    | (go_at_call 15; refine (awake_calls _ hE.two).mono ?_; rintro e w1 ⟨rfl, hb1⟩; replace hE := hE.below hb1; replace hB := hB.then hb1; clear hb1))
  rw [rounds_succ]; go_wp2_with (first
    | (go_at_call 31; refine (name_calls _ _ hE.n).mono ?_; rintro e w' ⟨rfl, rfl⟩)
    | (go_at_call 29; refine (parse_calls _ _ hE.b).mono ?_; rintro e w' ⟨rfl, rfl⟩)
    | (go_at_call 36; refine (members_calls2 _ 3 ml8 _ hE.s hE.d).mono ?_; rintro e w1 ⟨a36, c36, rfl, h36, hb1⟩; replace hE := hE.below hb1; replace hB := hB.then hb1; clear hb1)
    | (go_at_call 48; refine (sorted_calls _ _ _ h36 ma8 (by rw [ml8]; decide)).mono ?_; rintro e w1 ⟨rfl, hb1⟩; replace hE := hE.below hb1; replace hB := hB.then hb1; replace h36 := h36.below hb1; clear hb1)
    | (go_at_call 50; refine (clone_calls2 _ _ 3 ml8 _ h36 (by decide) (by decide)).mono ?_; rintro e w1 ⟨a50, c50, rfl, h50, hb1⟩; replace hE := hE.below hb1; replace hB := hB.then hb1; replace h36 := h36.below hb1; clear hb1)
    | (go_at_call 49; refine (compact_calls _ _ _ h50 ma8 (by rw [ml8]; decide)).mono ?_; rintro e w1 ⟨rfl, hb1⟩; replace hE := hE.below hb1; replace hB := hB.then hb1; replace h36 := h36.below hb1; clear hb1 h50)
    | (go_at_call 51; refine (contains_calls _ _ _ _ h36 (by rw [ml8]; decide)).mono ?_; rintro e w' ⟨rfl, rfl⟩)
    | (go_at_call 12; refine (reads_calls _ _).mono ?_; rintro e w' ⟨rfl, rfl⟩)
    | (go_at_call 22; refine (sendable_calls _ _ hE.s).mono ?_; rintro e w' ⟨rfl, rfl⟩)
    | (go_at_call 20; refine (global_calls _ _ _ hE.g).mono ?_; rintro e w' ⟨rfl, rfl⟩)
    | (go_at_call 15; refine (awake_calls _ hE.two).mono ?_; rintro e w1 ⟨rfl, hb1⟩; replace hE := hE.below hb1; replace hB := hB.then hb1; clear hb1))
  go_ret
  exact ⟨rfl, hB⟩

set_option maxRecDepth 100000 in
set_option maxHeartbeats 8000000 in
theorem sets_9 (n : Int) (hn : 1 + n % 11 = 9) (h0 : 0 ≤ n) (h1 : n ≤ 255) (w0 w : World) (hB : Below w0.heap.size w0 w) (hE : ES w) :
    Calls Tryd.prog 8 #[.int .u8 n] w fun e w' => e = .returned (.bool true) ∧ Below w0.heap.size w0 w' := by
  have c1 := nc9
  have c2 := pn9
  have c3 := pe9
  have m1 := mm9_1
  have s1 := sd1
  have g1 := gl1
  have m2 := mm9_2
  have s2 := sd2
  have g2 := gl2
  have m3 := mm9_3
  have s3 := sd3
  have g3 := gl3
  have m4 := mm9_4
  have s4 := sd4
  have g4 := gl4
  have m5 := mm9_5
  have s5 := sd5
  have g5 := gl5
  have m6 := mm9_6
  have s6 := sd6
  have g6 := gl6
  go_enter Tryd.func8, Tryd.ntmps8
  go_wp2_with (first
    | (go_at_call 31; refine (name_calls _ _ hE.n).mono ?_; rintro e w' ⟨rfl, rfl⟩)
    | (go_at_call 29; refine (parse_calls _ _ hE.b).mono ?_; rintro e w' ⟨rfl, rfl⟩)
    | (go_at_call 36; refine (members_calls2 _ 2 ml9 _ hE.s hE.d).mono ?_; rintro e w1 ⟨a36, c36, rfl, h36, hb1⟩; replace hE := hE.below hb1; replace hB := hB.then hb1; clear hb1)
    | (go_at_call 48; refine (sorted_calls _ _ _ h36 ma9 (by rw [ml9]; decide)).mono ?_; rintro e w1 ⟨rfl, hb1⟩; replace hE := hE.below hb1; replace hB := hB.then hb1; replace h36 := h36.below hb1; clear hb1)
    | (go_at_call 50; refine (clone_calls2 _ _ 2 ml9 _ h36 (by decide) (by decide)).mono ?_; rintro e w1 ⟨a50, c50, rfl, h50, hb1⟩; replace hE := hE.below hb1; replace hB := hB.then hb1; replace h36 := h36.below hb1; clear hb1)
    | (go_at_call 49; refine (compact_calls _ _ _ h50 ma9 (by rw [ml9]; decide)).mono ?_; rintro e w1 ⟨rfl, hb1⟩; replace hE := hE.below hb1; replace hB := hB.then hb1; replace h36 := h36.below hb1; clear hb1 h50)
    | (go_at_call 51; refine (contains_calls _ _ _ _ h36 (by rw [ml9]; decide)).mono ?_; rintro e w' ⟨rfl, rfl⟩)
    | (go_at_call 12; refine (reads_calls _ _).mono ?_; rintro e w' ⟨rfl, rfl⟩)
    | (go_at_call 22; refine (sendable_calls _ _ hE.s).mono ?_; rintro e w' ⟨rfl, rfl⟩)
    | (go_at_call 20; refine (global_calls _ _ _ hE.g).mono ?_; rintro e w' ⟨rfl, rfl⟩)
    | (go_at_call 15; refine (awake_calls _ hE.two).mono ?_; rintro e w1 ⟨rfl, hb1⟩; replace hE := hE.below hb1; replace hB := hB.then hb1; clear hb1))
  refine wp_loop_rounds 7 ?_
  rw [rounds_succ]; go_wp2_with (first
    | (go_at_call 31; refine (name_calls _ _ hE.n).mono ?_; rintro e w' ⟨rfl, rfl⟩)
    | (go_at_call 29; refine (parse_calls _ _ hE.b).mono ?_; rintro e w' ⟨rfl, rfl⟩)
    | (go_at_call 36; refine (members_calls2 _ 2 ml9 _ hE.s hE.d).mono ?_; rintro e w1 ⟨a36, c36, rfl, h36, hb1⟩; replace hE := hE.below hb1; replace hB := hB.then hb1; clear hb1)
    | (go_at_call 48; refine (sorted_calls _ _ _ h36 ma9 (by rw [ml9]; decide)).mono ?_; rintro e w1 ⟨rfl, hb1⟩; replace hE := hE.below hb1; replace hB := hB.then hb1; replace h36 := h36.below hb1; clear hb1)
    | (go_at_call 50; refine (clone_calls2 _ _ 2 ml9 _ h36 (by decide) (by decide)).mono ?_; rintro e w1 ⟨a50, c50, rfl, h50, hb1⟩; replace hE := hE.below hb1; replace hB := hB.then hb1; replace h36 := h36.below hb1; clear hb1)
    | (go_at_call 49; refine (compact_calls _ _ _ h50 ma9 (by rw [ml9]; decide)).mono ?_; rintro e w1 ⟨rfl, hb1⟩; replace hE := hE.below hb1; replace hB := hB.then hb1; replace h36 := h36.below hb1; clear hb1 h50)
    | (go_at_call 51; refine (contains_calls _ _ _ _ h36 (by rw [ml9]; decide)).mono ?_; rintro e w' ⟨rfl, rfl⟩)
    | (go_at_call 12; refine (reads_calls _ _).mono ?_; rintro e w' ⟨rfl, rfl⟩)
    | (go_at_call 22; refine (sendable_calls _ _ hE.s).mono ?_; rintro e w' ⟨rfl, rfl⟩)
    | (go_at_call 20; refine (global_calls _ _ _ hE.g).mono ?_; rintro e w' ⟨rfl, rfl⟩)
    | (go_at_call 15; refine (awake_calls _ hE.two).mono ?_; rintro e w1 ⟨rfl, hb1⟩; replace hE := hE.below hb1; replace hB := hB.then hb1; clear hb1))
  rw [rounds_succ]; go_wp2_with (first
    | (go_at_call 31; refine (name_calls _ _ hE.n).mono ?_; rintro e w' ⟨rfl, rfl⟩)
    | (go_at_call 29; refine (parse_calls _ _ hE.b).mono ?_; rintro e w' ⟨rfl, rfl⟩)
    | (go_at_call 36; refine (members_calls2 _ 2 ml9 _ hE.s hE.d).mono ?_; rintro e w1 ⟨a36, c36, rfl, h36, hb1⟩; replace hE := hE.below hb1; replace hB := hB.then hb1; clear hb1)
    | (go_at_call 48; refine (sorted_calls _ _ _ h36 ma9 (by rw [ml9]; decide)).mono ?_; rintro e w1 ⟨rfl, hb1⟩; replace hE := hE.below hb1; replace hB := hB.then hb1; replace h36 := h36.below hb1; clear hb1)
    | (go_at_call 50; refine (clone_calls2 _ _ 2 ml9 _ h36 (by decide) (by decide)).mono ?_; rintro e w1 ⟨a50, c50, rfl, h50, hb1⟩; replace hE := hE.below hb1; replace hB := hB.then hb1; replace h36 := h36.below hb1; clear hb1)
    | (go_at_call 49; refine (compact_calls _ _ _ h50 ma9 (by rw [ml9]; decide)).mono ?_; rintro e w1 ⟨rfl, hb1⟩; replace hE := hE.below hb1; replace hB := hB.then hb1; replace h36 := h36.below hb1; clear hb1 h50)
    | (go_at_call 51; refine (contains_calls _ _ _ _ h36 (by rw [ml9]; decide)).mono ?_; rintro e w' ⟨rfl, rfl⟩)
    | (go_at_call 12; refine (reads_calls _ _).mono ?_; rintro e w' ⟨rfl, rfl⟩)
    | (go_at_call 22; refine (sendable_calls _ _ hE.s).mono ?_; rintro e w' ⟨rfl, rfl⟩)
    | (go_at_call 20; refine (global_calls _ _ _ hE.g).mono ?_; rintro e w' ⟨rfl, rfl⟩)
    | (go_at_call 15; refine (awake_calls _ hE.two).mono ?_; rintro e w1 ⟨rfl, hb1⟩; replace hE := hE.below hb1; replace hB := hB.then hb1; clear hb1))
  rw [rounds_succ]; go_wp2_with (first
    | (go_at_call 31; refine (name_calls _ _ hE.n).mono ?_; rintro e w' ⟨rfl, rfl⟩)
    | (go_at_call 29; refine (parse_calls _ _ hE.b).mono ?_; rintro e w' ⟨rfl, rfl⟩)
    | (go_at_call 36; refine (members_calls2 _ 2 ml9 _ hE.s hE.d).mono ?_; rintro e w1 ⟨a36, c36, rfl, h36, hb1⟩; replace hE := hE.below hb1; replace hB := hB.then hb1; clear hb1)
    | (go_at_call 48; refine (sorted_calls _ _ _ h36 ma9 (by rw [ml9]; decide)).mono ?_; rintro e w1 ⟨rfl, hb1⟩; replace hE := hE.below hb1; replace hB := hB.then hb1; replace h36 := h36.below hb1; clear hb1)
    | (go_at_call 50; refine (clone_calls2 _ _ 2 ml9 _ h36 (by decide) (by decide)).mono ?_; rintro e w1 ⟨a50, c50, rfl, h50, hb1⟩; replace hE := hE.below hb1; replace hB := hB.then hb1; replace h36 := h36.below hb1; clear hb1)
    | (go_at_call 49; refine (compact_calls _ _ _ h50 ma9 (by rw [ml9]; decide)).mono ?_; rintro e w1 ⟨rfl, hb1⟩; replace hE := hE.below hb1; replace hB := hB.then hb1; replace h36 := h36.below hb1; clear hb1 h50)
    | (go_at_call 51; refine (contains_calls _ _ _ _ h36 (by rw [ml9]; decide)).mono ?_; rintro e w' ⟨rfl, rfl⟩)
    | (go_at_call 12; refine (reads_calls _ _).mono ?_; rintro e w' ⟨rfl, rfl⟩)
    | (go_at_call 22; refine (sendable_calls _ _ hE.s).mono ?_; rintro e w' ⟨rfl, rfl⟩)
    | (go_at_call 20; refine (global_calls _ _ _ hE.g).mono ?_; rintro e w' ⟨rfl, rfl⟩)
    | (go_at_call 15; refine (awake_calls _ hE.two).mono ?_; rintro e w1 ⟨rfl, hb1⟩; replace hE := hE.below hb1; replace hB := hB.then hb1; clear hb1))
  rw [rounds_succ]; go_wp2_with (first
    | (go_at_call 31; refine (name_calls _ _ hE.n).mono ?_; rintro e w' ⟨rfl, rfl⟩)
    | (go_at_call 29; refine (parse_calls _ _ hE.b).mono ?_; rintro e w' ⟨rfl, rfl⟩)
    | (go_at_call 36; refine (members_calls2 _ 2 ml9 _ hE.s hE.d).mono ?_; rintro e w1 ⟨a36, c36, rfl, h36, hb1⟩; replace hE := hE.below hb1; replace hB := hB.then hb1; clear hb1)
    | (go_at_call 48; refine (sorted_calls _ _ _ h36 ma9 (by rw [ml9]; decide)).mono ?_; rintro e w1 ⟨rfl, hb1⟩; replace hE := hE.below hb1; replace hB := hB.then hb1; replace h36 := h36.below hb1; clear hb1)
    | (go_at_call 50; refine (clone_calls2 _ _ 2 ml9 _ h36 (by decide) (by decide)).mono ?_; rintro e w1 ⟨a50, c50, rfl, h50, hb1⟩; replace hE := hE.below hb1; replace hB := hB.then hb1; replace h36 := h36.below hb1; clear hb1)
    | (go_at_call 49; refine (compact_calls _ _ _ h50 ma9 (by rw [ml9]; decide)).mono ?_; rintro e w1 ⟨rfl, hb1⟩; replace hE := hE.below hb1; replace hB := hB.then hb1; replace h36 := h36.below hb1; clear hb1 h50)
    | (go_at_call 51; refine (contains_calls _ _ _ _ h36 (by rw [ml9]; decide)).mono ?_; rintro e w' ⟨rfl, rfl⟩)
    | (go_at_call 12; refine (reads_calls _ _).mono ?_; rintro e w' ⟨rfl, rfl⟩)
    | (go_at_call 22; refine (sendable_calls _ _ hE.s).mono ?_; rintro e w' ⟨rfl, rfl⟩)
    | (go_at_call 20; refine (global_calls _ _ _ hE.g).mono ?_; rintro e w' ⟨rfl, rfl⟩)
    | (go_at_call 15; refine (awake_calls _ hE.two).mono ?_; rintro e w1 ⟨rfl, hb1⟩; replace hE := hE.below hb1; replace hB := hB.then hb1; clear hb1))
  rw [rounds_succ]; go_wp2_with (first
    | (go_at_call 31; refine (name_calls _ _ hE.n).mono ?_; rintro e w' ⟨rfl, rfl⟩)
    | (go_at_call 29; refine (parse_calls _ _ hE.b).mono ?_; rintro e w' ⟨rfl, rfl⟩)
    | (go_at_call 36; refine (members_calls2 _ 2 ml9 _ hE.s hE.d).mono ?_; rintro e w1 ⟨a36, c36, rfl, h36, hb1⟩; replace hE := hE.below hb1; replace hB := hB.then hb1; clear hb1)
    | (go_at_call 48; refine (sorted_calls _ _ _ h36 ma9 (by rw [ml9]; decide)).mono ?_; rintro e w1 ⟨rfl, hb1⟩; replace hE := hE.below hb1; replace hB := hB.then hb1; replace h36 := h36.below hb1; clear hb1)
    | (go_at_call 50; refine (clone_calls2 _ _ 2 ml9 _ h36 (by decide) (by decide)).mono ?_; rintro e w1 ⟨a50, c50, rfl, h50, hb1⟩; replace hE := hE.below hb1; replace hB := hB.then hb1; replace h36 := h36.below hb1; clear hb1)
    | (go_at_call 49; refine (compact_calls _ _ _ h50 ma9 (by rw [ml9]; decide)).mono ?_; rintro e w1 ⟨rfl, hb1⟩; replace hE := hE.below hb1; replace hB := hB.then hb1; replace h36 := h36.below hb1; clear hb1 h50)
    | (go_at_call 51; refine (contains_calls _ _ _ _ h36 (by rw [ml9]; decide)).mono ?_; rintro e w' ⟨rfl, rfl⟩)
    | (go_at_call 12; refine (reads_calls _ _).mono ?_; rintro e w' ⟨rfl, rfl⟩)
    | (go_at_call 22; refine (sendable_calls _ _ hE.s).mono ?_; rintro e w' ⟨rfl, rfl⟩)
    | (go_at_call 20; refine (global_calls _ _ _ hE.g).mono ?_; rintro e w' ⟨rfl, rfl⟩)
    | (go_at_call 15; refine (awake_calls _ hE.two).mono ?_; rintro e w1 ⟨rfl, hb1⟩; replace hE := hE.below hb1; replace hB := hB.then hb1; clear hb1))
  rw [rounds_succ]; go_wp2_with (first
    | (go_at_call 31; refine (name_calls _ _ hE.n).mono ?_; rintro e w' ⟨rfl, rfl⟩)
    | (go_at_call 29; refine (parse_calls _ _ hE.b).mono ?_; rintro e w' ⟨rfl, rfl⟩)
    | (go_at_call 36; refine (members_calls2 _ 2 ml9 _ hE.s hE.d).mono ?_; rintro e w1 ⟨a36, c36, rfl, h36, hb1⟩; replace hE := hE.below hb1; replace hB := hB.then hb1; clear hb1)
    | (go_at_call 48; refine (sorted_calls _ _ _ h36 ma9 (by rw [ml9]; decide)).mono ?_; rintro e w1 ⟨rfl, hb1⟩; replace hE := hE.below hb1; replace hB := hB.then hb1; replace h36 := h36.below hb1; clear hb1)
    | (go_at_call 50; refine (clone_calls2 _ _ 2 ml9 _ h36 (by decide) (by decide)).mono ?_; rintro e w1 ⟨a50, c50, rfl, h50, hb1⟩; replace hE := hE.below hb1; replace hB := hB.then hb1; replace h36 := h36.below hb1; clear hb1)
    | (go_at_call 49; refine (compact_calls _ _ _ h50 ma9 (by rw [ml9]; decide)).mono ?_; rintro e w1 ⟨rfl, hb1⟩; replace hE := hE.below hb1; replace hB := hB.then hb1; replace h36 := h36.below hb1; clear hb1 h50)
    | (go_at_call 51; refine (contains_calls _ _ _ _ h36 (by rw [ml9]; decide)).mono ?_; rintro e w' ⟨rfl, rfl⟩)
    | (go_at_call 12; refine (reads_calls _ _).mono ?_; rintro e w' ⟨rfl, rfl⟩)
    | (go_at_call 22; refine (sendable_calls _ _ hE.s).mono ?_; rintro e w' ⟨rfl, rfl⟩)
    | (go_at_call 20; refine (global_calls _ _ _ hE.g).mono ?_; rintro e w' ⟨rfl, rfl⟩)
    | (go_at_call 15; refine (awake_calls _ hE.two).mono ?_; rintro e w1 ⟨rfl, hb1⟩; replace hE := hE.below hb1; replace hB := hB.then hb1; clear hb1))
  rw [rounds_succ]; go_wp2_with (first
    | (go_at_call 31; refine (name_calls _ _ hE.n).mono ?_; rintro e w' ⟨rfl, rfl⟩)
    | (go_at_call 29; refine (parse_calls _ _ hE.b).mono ?_; rintro e w' ⟨rfl, rfl⟩)
    | (go_at_call 36; refine (members_calls2 _ 2 ml9 _ hE.s hE.d).mono ?_; rintro e w1 ⟨a36, c36, rfl, h36, hb1⟩; replace hE := hE.below hb1; replace hB := hB.then hb1; clear hb1)
    | (go_at_call 48; refine (sorted_calls _ _ _ h36 ma9 (by rw [ml9]; decide)).mono ?_; rintro e w1 ⟨rfl, hb1⟩; replace hE := hE.below hb1; replace hB := hB.then hb1; replace h36 := h36.below hb1; clear hb1)
    | (go_at_call 50; refine (clone_calls2 _ _ 2 ml9 _ h36 (by decide) (by decide)).mono ?_; rintro e w1 ⟨a50, c50, rfl, h50, hb1⟩; replace hE := hE.below hb1; replace hB := hB.then hb1; replace h36 := h36.below hb1; clear hb1)
    | (go_at_call 49; refine (compact_calls _ _ _ h50 ma9 (by rw [ml9]; decide)).mono ?_; rintro e w1 ⟨rfl, hb1⟩; replace hE := hE.below hb1; replace hB := hB.then hb1; replace h36 := h36.below hb1; clear hb1 h50)
    | (go_at_call 51; refine (contains_calls _ _ _ _ h36 (by rw [ml9]; decide)).mono ?_; rintro e w' ⟨rfl, rfl⟩)
    | (go_at_call 12; refine (reads_calls _ _).mono ?_; rintro e w' ⟨rfl, rfl⟩)
    | (go_at_call 22; refine (sendable_calls _ _ hE.s).mono ?_; rintro e w' ⟨rfl, rfl⟩)
    | (go_at_call 20; refine (global_calls _ _ _ hE.g).mono ?_; rintro e w' ⟨rfl, rfl⟩)
    | (go_at_call 15; refine (awake_calls _ hE.two).mono ?_; rintro e w1 ⟨rfl, hb1⟩; replace hE := hE.below hb1; replace hB := hB.then hb1; clear hb1))
  go_ret
  exact ⟨rfl, hB⟩

set_option maxRecDepth 100000 in
set_option maxHeartbeats 8000000 in
theorem sets_10 (n : Int) (hn : 1 + n % 11 = 10) (h0 : 0 ≤ n) (h1 : n ≤ 255) (w0 w : World) (hB : Below w0.heap.size w0 w) (hE : ES w) :
    Calls Tryd.prog 8 #[.int .u8 n] w fun e w' => e = .returned (.bool true) ∧ Below w0.heap.size w0 w' := by
  have c1 := nc10
  have c2 := pn10
  have c3 := pe10
  have m1 := mm10_1
  have m2 := mm10_2
  have m3 := mm10_3
  have m4 := mm10_4
  have m5 := mm10_5
  have m6 := mm10_6
  go_enter Tryd.func8, Tryd.ntmps8
  go_wp2_with (first
    | (go_at_call 31; refine (name_calls _ _ hE.n).mono ?_; rintro e w' ⟨rfl, rfl⟩)
    | (go_at_call 29; refine (parse_calls _ _ hE.b).mono ?_; rintro e w' ⟨rfl, rfl⟩)
    | (go_at_call 36; refine (members_calls2 _ 4 ml10 _ hE.s hE.d).mono ?_; rintro e w1 ⟨a36, c36, rfl, h36, hb1⟩; replace hE := hE.below hb1; replace hB := hB.then hb1; clear hb1)
    | (go_at_call 48; refine (sorted_calls _ _ _ h36 ma10 (by rw [ml10]; decide)).mono ?_; rintro e w1 ⟨rfl, hb1⟩; replace hE := hE.below hb1; replace hB := hB.then hb1; replace h36 := h36.below hb1; clear hb1)
    | (go_at_call 50; refine (clone_calls2 _ _ 4 ml10 _ h36 (by decide) (by decide)).mono ?_; rintro e w1 ⟨a50, c50, rfl, h50, hb1⟩; replace hE := hE.below hb1; replace hB := hB.then hb1; replace h36 := h36.below hb1; clear hb1)
    | (go_at_call 49; refine (compact_calls _ _ _ h50 ma10 (by rw [ml10]; decide)).mono ?_; rintro e w1 ⟨rfl, hb1⟩; replace hE := hE.below hb1; replace hB := hB.then hb1; replace h36 := h36.below hb1; clear hb1 h50)
    | (go_at_call 51; refine (contains_calls _ _ _ _ h36 (by rw [ml10]; decide)).mono ?_; rintro e w' ⟨rfl, rfl⟩)
    | (go_at_call 12; refine (reads_calls _ _).mono ?_; rintro e w' ⟨rfl, rfl⟩)
    | (go_at_call 22; refine (sendable_calls _ _ hE.s).mono ?_; rintro e w' ⟨rfl, rfl⟩)
    | (go_at_call 20; refine (global_calls _ _ _ hE.g).mono ?_; rintro e w' ⟨rfl, rfl⟩)
    | (go_at_call 15; refine (awake_calls _ hE.two).mono ?_; rintro e w1 ⟨rfl, hb1⟩; replace hE := hE.below hb1; replace hB := hB.then hb1; clear hb1))
  refine wp_loop_rounds 7 ?_
  rw [rounds_succ]; go_wp2_with (first
    | (go_at_call 31; refine (name_calls _ _ hE.n).mono ?_; rintro e w' ⟨rfl, rfl⟩)
    | (go_at_call 29; refine (parse_calls _ _ hE.b).mono ?_; rintro e w' ⟨rfl, rfl⟩)
    | (go_at_call 36; refine (members_calls2 _ 4 ml10 _ hE.s hE.d).mono ?_; rintro e w1 ⟨a36, c36, rfl, h36, hb1⟩; replace hE := hE.below hb1; replace hB := hB.then hb1; clear hb1)
    | (go_at_call 48; refine (sorted_calls _ _ _ h36 ma10 (by rw [ml10]; decide)).mono ?_; rintro e w1 ⟨rfl, hb1⟩; replace hE := hE.below hb1; replace hB := hB.then hb1; replace h36 := h36.below hb1; clear hb1)
    | (go_at_call 50; refine (clone_calls2 _ _ 4 ml10 _ h36 (by decide) (by decide)).mono ?_; rintro e w1 ⟨a50, c50, rfl, h50, hb1⟩; replace hE := hE.below hb1; replace hB := hB.then hb1; replace h36 := h36.below hb1; clear hb1)
    | (go_at_call 49; refine (compact_calls _ _ _ h50 ma10 (by rw [ml10]; decide)).mono ?_; rintro e w1 ⟨rfl, hb1⟩; replace hE := hE.below hb1; replace hB := hB.then hb1; replace h36 := h36.below hb1; clear hb1 h50)
    | (go_at_call 51; refine (contains_calls _ _ _ _ h36 (by rw [ml10]; decide)).mono ?_; rintro e w' ⟨rfl, rfl⟩)
    | (go_at_call 12; refine (reads_calls _ _).mono ?_; rintro e w' ⟨rfl, rfl⟩)
    | (go_at_call 22; refine (sendable_calls _ _ hE.s).mono ?_; rintro e w' ⟨rfl, rfl⟩)
    | (go_at_call 20; refine (global_calls _ _ _ hE.g).mono ?_; rintro e w' ⟨rfl, rfl⟩)
    | (go_at_call 15; refine (awake_calls _ hE.two).mono ?_; rintro e w1 ⟨rfl, hb1⟩; replace hE := hE.below hb1; replace hB := hB.then hb1; clear hb1))
  rw [rounds_succ]; go_wp2_with (first
    | (go_at_call 31; refine (name_calls _ _ hE.n).mono ?_; rintro e w' ⟨rfl, rfl⟩)
    | (go_at_call 29; refine (parse_calls _ _ hE.b).mono ?_; rintro e w' ⟨rfl, rfl⟩)
    | (go_at_call 36; refine (members_calls2 _ 4 ml10 _ hE.s hE.d).mono ?_; rintro e w1 ⟨a36, c36, rfl, h36, hb1⟩; replace hE := hE.below hb1; replace hB := hB.then hb1; clear hb1)
    | (go_at_call 48; refine (sorted_calls _ _ _ h36 ma10 (by rw [ml10]; decide)).mono ?_; rintro e w1 ⟨rfl, hb1⟩; replace hE := hE.below hb1; replace hB := hB.then hb1; replace h36 := h36.below hb1; clear hb1)
    | (go_at_call 50; refine (clone_calls2 _ _ 4 ml10 _ h36 (by decide) (by decide)).mono ?_; rintro e w1 ⟨a50, c50, rfl, h50, hb1⟩; replace hE := hE.below hb1; replace hB := hB.then hb1; replace h36 := h36.below hb1; clear hb1)
    | (go_at_call 49; refine (compact_calls _ _ _ h50 ma10 (by rw [ml10]; decide)).mono ?_; rintro e w1 ⟨rfl, hb1⟩; replace hE := hE.below hb1; replace hB := hB.then hb1; replace h36 := h36.below hb1; clear hb1 h50)
    | (go_at_call 51; refine (contains_calls _ _ _ _ h36 (by rw [ml10]; decide)).mono ?_; rintro e w' ⟨rfl, rfl⟩)
    | (go_at_call 12; refine (reads_calls _ _).mono ?_; rintro e w' ⟨rfl, rfl⟩)
    | (go_at_call 22; refine (sendable_calls _ _ hE.s).mono ?_; rintro e w' ⟨rfl, rfl⟩)
    | (go_at_call 20; refine (global_calls _ _ _ hE.g).mono ?_; rintro e w' ⟨rfl, rfl⟩)
    | (go_at_call 15; refine (awake_calls _ hE.two).mono ?_; rintro e w1 ⟨rfl, hb1⟩; replace hE := hE.below hb1; replace hB := hB.then hb1; clear hb1))
  rw [rounds_succ]; go_wp2_with (first
    | (go_at_call 31; refine (name_calls _ _ hE.n).mono ?_; rintro e w' ⟨rfl, rfl⟩)
    | (go_at_call 29; refine (parse_calls _ _ hE.b).mono ?_; rintro e w' ⟨rfl, rfl⟩)
    | (go_at_call 36; refine (members_calls2 _ 4 ml10 _ hE.s hE.d).mono ?_; rintro e w1 ⟨a36, c36, rfl, h36, hb1⟩; replace hE := hE.below hb1; replace hB := hB.then hb1; clear hb1)
    | (go_at_call 48; refine (sorted_calls _ _ _ h36 ma10 (by rw [ml10]; decide)).mono ?_; rintro e w1 ⟨rfl, hb1⟩; replace hE := hE.below hb1; replace hB := hB.then hb1; replace h36 := h36.below hb1; clear hb1)
    | (go_at_call 50; refine (clone_calls2 _ _ 4 ml10 _ h36 (by decide) (by decide)).mono ?_; rintro e w1 ⟨a50, c50, rfl, h50, hb1⟩; replace hE := hE.below hb1; replace hB := hB.then hb1; replace h36 := h36.below hb1; clear hb1)
    | (go_at_call 49; refine (compact_calls _ _ _ h50 ma10 (by rw [ml10]; decide)).mono ?_; rintro e w1 ⟨rfl, hb1⟩; replace hE := hE.below hb1; replace hB := hB.then hb1; replace h36 := h36.below hb1; clear hb1 h50)
    | (go_at_call 51; refine (contains_calls _ _ _ _ h36 (by rw [ml10]; decide)).mono ?_; rintro e w' ⟨rfl, rfl⟩)
    | (go_at_call 12; refine (reads_calls _ _).mono ?_; rintro e w' ⟨rfl, rfl⟩)
    | (go_at_call 22; refine (sendable_calls _ _ hE.s).mono ?_; rintro e w' ⟨rfl, rfl⟩)
    | (go_at_call 20; refine (global_calls _ _ _ hE.g).mono ?_; rintro e w' ⟨rfl, rfl⟩)
    | (go_at_call 15; refine (awake_calls _ hE.two).mono ?_; rintro e w1 ⟨rfl, hb1⟩; replace hE := hE.below hb1; replace hB := hB.then hb1; clear hb1))
  rw [rounds_succ]; go_wp2_with (first
    | (go_at_call 31; refine (name_calls _ _ hE.n).mono ?_; rintro e w' ⟨rfl, rfl⟩)
    | (go_at_call 29; refine (parse_calls _ _ hE.b).mono ?_; rintro e w' ⟨rfl, rfl⟩)
    | (go_at_call 36; refine (members_calls2 _ 4 ml10 _ hE.s hE.d).mono ?_; rintro e w1 ⟨a36, c36, rfl, h36, hb1⟩; replace hE := hE.below hb1; replace hB := hB.then hb1; clear hb1)
    | (go_at_call 48; refine (sorted_calls _ _ _ h36 ma10 (by rw [ml10]; decide)).mono ?_; rintro e w1 ⟨rfl, hb1⟩; replace hE := hE.below hb1; replace hB := hB.then hb1; replace h36 := h36.below hb1; clear hb1)
    | (go_at_call 50; refine (clone_calls2 _ _ 4 ml10 _ h36 (by decide) (by decide)).mono ?_; rintro e w1 ⟨a50, c50, rfl, h50, hb1⟩; replace hE := hE.below hb1; replace hB := hB.then hb1; replace h36 := h36.below hb1; clear hb1)
    | (go_at_call 49; refine (compact_calls _ _ _ h50 ma10 (by rw [ml10]; decide)).mono ?_; rintro e w1 ⟨rfl, hb1⟩; replace hE := hE.below hb1; replace hB := hB.then hb1; replace h36 := h36.below hb1; clear hb1 h50)
    | (go_at_call 51; refine (contains_calls _ _ _ _ h36 (by rw [ml10]; decide)).mono ?_; rintro e w' ⟨rfl, rfl⟩)
    | (go_at_call 12; refine (reads_calls _ _).mono ?_; rintro e w' ⟨rfl, rfl⟩)
    | (go_at_call 22; refine (sendable_calls _ _ hE.s).mono ?_; rintro e w' ⟨rfl, rfl⟩)
    | (go_at_call 20; refine (global_calls _ _ _ hE.g).mono ?_; rintro e w' ⟨rfl, rfl⟩)
    | (go_at_call 15; refine (awake_calls _ hE.two).mono ?_; rintro e w1 ⟨rfl, hb1⟩; replace hE := hE.below hb1; replace hB := hB.then hb1; clear hb1))
  rw [rounds_succ]; go_wp2_with (first
    | (go_at_call 31; refine (name_calls _ _ hE.n).mono ?_; rintro e w' ⟨rfl, rfl⟩)
    | (go_at_call 29; refine (parse_calls _ _ hE.b).mono ?_; rintro e w' ⟨rfl, rfl⟩)
    | (go_at_call 36; refine (members_calls2 _ 4 ml10 _ hE.s hE.d).mono ?_; rintro e w1 ⟨a36, c36, rfl, h36, hb1⟩; replace hE := hE.below hb1; replace hB := hB.then hb1; clear hb1)
    | (go_at_call 48; refine (sorted_calls _ _ _ h36 ma10 (by rw [ml10]; decide)).mono ?_; rintro e w1 ⟨rfl, hb1⟩; replace hE := hE.below hb1; replace hB := hB.then hb1; replace h36 := h36.below hb1; clear hb1)
    | (go_at_call 50; refine (clone_calls2 _ _ 4 ml10 _ h36 (by decide) (by decide)).mono ?_; rintro e w1 ⟨a50, c50, rfl, h50, hb1⟩; replace hE := hE.below hb1; replace hB := hB.then hb1; replace h36 := h36.below hb1; clear hb1)
    | (go_at_call 49; refine (compact_calls _ _ _ h50 ma10 (by rw [ml10]; decide)).mono ?_; rintro e w1 ⟨rfl, hb1⟩; replace hE := hE.below hb1; replace hB := hB.then hb1; replace h36 := h36.below hb1; clear hb1 h50)
    | (go_at_call 51; refine (contains_calls _ _ _ _ h36 (by rw [ml10]; decide)).mono ?_; rintro e w' ⟨rfl, rfl⟩)
    | (go_at_call 12; refine (reads_calls _ _).mono ?_; rintro e w' ⟨rfl, rfl⟩)
    | (go_at_call 22; refine (sendable_calls _ _ hE.s).mono ?_; rintro e w' ⟨rfl, rfl⟩)
    | (go_at_call 20; refine (global_calls _ _ _ hE.g).mono ?_; rintro e w' ⟨rfl, rfl⟩)
    | (go_at_call 15; refine (awake_calls _ hE.two).mono ?_; rintro e w1 ⟨rfl, hb1⟩; replace hE := hE.below hb1; replace hB := hB.then hb1; clear hb1))
  rw [rounds_succ]; go_wp2_with (first
    | (go_at_call 31; refine (name_calls _ _ hE.n).mono ?_; rintro e w' ⟨rfl, rfl⟩)
    | (go_at_call 29; refine (parse_calls _ _ hE.b).mono ?_; rintro e w' ⟨rfl, rfl⟩)
    | (go_at_call 36; refine (members_calls2 _ 4 ml10 _ hE.s hE.d).mono ?_; rintro e w1 ⟨a36, c36, rfl, h36, hb1⟩; replace hE := hE.below hb1; replace hB := hB.then hb1; clear hb1)
    | (go_at_call 48; refine (sorted_calls _ _ _ h36 ma10 (by rw [ml10]; decide)).mono ?_; rintro e w1 ⟨rfl, hb1⟩; replace hE := hE.below hb1; replace hB := hB.then hb1; replace h36 := h36.below hb1; clear hb1)
    | (go_at_call 50; refine (clone_calls2 _ _ 4 ml10 _ h36 (by decide) (by decide)).mono ?_; rintro e w1 ⟨a50, c50, rfl, h50, hb1⟩; replace hE := hE.below hb1; replace hB := hB.then hb1; replace h36 := h36.below hb1; clear hb1)
    | (go_at_call 49; refine (compact_calls _ _ _ h50 ma10 (by rw [ml10]; decide)).mono ?_; rintro e w1 ⟨rfl, hb1⟩; replace hE := hE.below hb1; replace hB := hB.then hb1; replace h36 := h36.below hb1; clear hb1 h50)
    | (go_at_call 51; refine (contains_calls _ _ _ _ h36 (by rw [ml10]; decide)).mono ?_; rintro e w' ⟨rfl, rfl⟩)
    | (go_at_call 12; refine (reads_calls _ _).mono ?_; rintro e w' ⟨rfl, rfl⟩)
    | (go_at_call 22; refine (sendable_calls _ _ hE.s).mono ?_; rintro e w' ⟨rfl, rfl⟩)
    | (go_at_call 20; refine (global_calls _ _ _ hE.g).mono ?_; rintro e w' ⟨rfl, rfl⟩)
    | (go_at_call 15; refine (awake_calls _ hE.two).mono ?_; rintro e w1 ⟨rfl, hb1⟩; replace hE := hE.below hb1; replace hB := hB.then hb1; clear hb1))
  rw [rounds_succ]; go_wp2_with (first
    | (go_at_call 31; refine (name_calls _ _ hE.n).mono ?_; rintro e w' ⟨rfl, rfl⟩)
    | (go_at_call 29; refine (parse_calls _ _ hE.b).mono ?_; rintro e w' ⟨rfl, rfl⟩)
    | (go_at_call 36; refine (members_calls2 _ 4 ml10 _ hE.s hE.d).mono ?_; rintro e w1 ⟨a36, c36, rfl, h36, hb1⟩; replace hE := hE.below hb1; replace hB := hB.then hb1; clear hb1)
    | (go_at_call 48; refine (sorted_calls _ _ _ h36 ma10 (by rw [ml10]; decide)).mono ?_; rintro e w1 ⟨rfl, hb1⟩; replace hE := hE.below hb1; replace hB := hB.then hb1; replace h36 := h36.below hb1; clear hb1)
    | (go_at_call 50; refine (clone_calls2 _ _ 4 ml10 _ h36 (by decide) (by decide)).mono ?_; rintro e w1 ⟨a50, c50, rfl, h50, hb1⟩; replace hE := hE.below hb1; replace hB := hB.then hb1; replace h36 := h36.below hb1; clear hb1)
    | (go_at_call 49; refine (compact_calls _ _ _ h50 ma10 (by rw [ml10]; decide)).mono ?_; rintro e w1 ⟨rfl, hb1⟩; replace hE := hE.below hb1; replace hB := hB.then hb1; replace h36 := h36.below hb1; clear hb1 h50)
    | (go_at_call 51; refine (contains_calls _ _ _ _ h36 (by rw [ml10]; decide)).mono ?_; rintro e w' ⟨rfl, rfl⟩)
    | (go_at_call 12; refine (reads_calls _ _).mono ?_; rintro e w' ⟨rfl, rfl⟩)
    | (go_at_call 22; refine (sendable_calls _ _ hE.s).mono ?_; rintro e w' ⟨rfl, rfl⟩)
    | (go_at_call 20; refine (global_calls _ _ _ hE.g).mono ?_; rintro e w' ⟨rfl, rfl⟩)
    | (go_at_call 15; refine (awake_calls _ hE.two).mono ?_; rintro e w1 ⟨rfl, hb1⟩; replace hE := hE.below hb1; replace hB := hB.then hb1; clear hb1))
  go_ret
  exact ⟨rfl, hB⟩

set_option maxRecDepth 100000 in
set_option maxHeartbeats 8000000 in
theorem sets_11 (n : Int) (hn : 1 + n % 11 = 11) (h0 : 0 ≤ n) (h1 : n ≤ 255) (w0 w : World) (hB : Below w0.heap.size w0 w) (hE : ES w) :
    Calls Tryd.prog 8 #[.int .u8 n] w fun e w' => e = .returned (.bool true) ∧ Below w0.heap.size w0 w' := by
  have c1 := nc11
  have c2 := pn11
  have c3 := pe11
  have m1 := mm11_1
  have m2 := mm11_2
  have m3 := mm11_3
  have m4 := mm11_4
  have m5 := mm11_5
  have m6 := mm11_6
  go_enter Tryd.func8, Tryd.ntmps8
  go_wp2_with (first
    | (go_at_call 31; refine (name_calls _ _ hE.n).mono ?_; rintro e w' ⟨rfl, rfl⟩)
    | (go_at_call 29; refine (parse_calls _ _ hE.b).mono ?_; rintro e w' ⟨rfl, rfl⟩)
    | (go_at_call 36; refine (members_calls2 _ 6 ml11 _ hE.s hE.d).mono ?_; rintro e w1 ⟨a36, c36, rfl, h36, hb1⟩; replace hE := hE.below hb1; replace hB := hB.then hb1; clear hb1)
    | (go_at_call 48; refine (sorted_calls _ _ _ h36 ma11 (by rw [ml11]; decide)).mono ?_; rintro e w1 ⟨rfl, hb1⟩; replace hE := hE.below hb1; replace hB := hB.then hb1; replace h36 := h36.below hb1; clear hb1)
    | (go_at_call 50; refine (clone_calls2 _ _ 6 ml11 _ h36 (by decide) (by decide)).mono ?_; rintro e w1 ⟨a50, c50, rfl, h50, hb1⟩; replace hE := hE.below hb1; replace hB := hB.then hb1; replace h36 := h36.below hb1; clear hb1)
    | (go_at_call 49; refine (compact_calls _ _ _ h50 ma11 (by rw [ml11]; decide)).mono ?_; rintro e w1 ⟨rfl, hb1⟩; replace hE := hE.below hb1; replace hB := hB.then hb1; replace h36 := h36.below hb1; clear hb1 h50)
    | (go_at_call 51; refine (contains_calls _ _ _ _ h36 (by rw [ml11]; decide)).mono ?_; rintro e w' ⟨rfl, rfl⟩)
    | (go_at_call 12; refine (reads_calls _ _).mono ?_; rintro e w' ⟨rfl, rfl⟩)
    | (go_at_call 22; refine (sendable_calls _ _ hE.s).mono ?_; rintro e w' ⟨rfl, rfl⟩)
    | (go_at_call 20; refine (global_calls _ _ _ hE.g).mono ?_; rintro e w' ⟨rfl, rfl⟩)
    | (go_at_call 15; refine (awake_calls _ hE.two).mono ?_; rintro e w1 ⟨rfl, hb1⟩; replace hE := hE.below hb1; replace hB := hB.then hb1; clear hb1))
  refine wp_loop_rounds 7 ?_
  rw [rounds_succ]; go_wp2_with (first
    | (go_at_call 31; refine (name_calls _ _ hE.n).mono ?_; rintro e w' ⟨rfl, rfl⟩)
    | (go_at_call 29; refine (parse_calls _ _ hE.b).mono ?_; rintro e w' ⟨rfl, rfl⟩)
    | (go_at_call 36; refine (members_calls2 _ 6 ml11 _ hE.s hE.d).mono ?_; rintro e w1 ⟨a36, c36, rfl, h36, hb1⟩; replace hE := hE.below hb1; replace hB := hB.then hb1; clear hb1)
    | (go_at_call 48; refine (sorted_calls _ _ _ h36 ma11 (by rw [ml11]; decide)).mono ?_; rintro e w1 ⟨rfl, hb1⟩; replace hE := hE.below hb1; replace hB := hB.then hb1; replace h36 := h36.below hb1; clear hb1)
    | (go_at_call 50; refine (clone_calls2 _ _ 6 ml11 _ h36 (by decide) (by decide)).mono ?_; rintro e w1 ⟨a50, c50, rfl, h50, hb1⟩; replace hE := hE.below hb1; replace hB := hB.then hb1; replace h36 := h36.below hb1; clear hb1)
    | (go_at_call 49; refine (compact_calls _ _ _ h50 ma11 (by rw [ml11]; decide)).mono ?_; rintro e w1 ⟨rfl, hb1⟩; replace hE := hE.below hb1; replace hB := hB.then hb1; replace h36 := h36.below hb1; clear hb1 h50)
    | (go_at_call 51; refine (contains_calls _ _ _ _ h36 (by rw [ml11]; decide)).mono ?_; rintro e w' ⟨rfl, rfl⟩)
    | (go_at_call 12; refine (reads_calls _ _).mono ?_; rintro e w' ⟨rfl, rfl⟩)
    | (go_at_call 22; refine (sendable_calls _ _ hE.s).mono ?_; rintro e w' ⟨rfl, rfl⟩)
    | (go_at_call 20; refine (global_calls _ _ _ hE.g).mono ?_; rintro e w' ⟨rfl, rfl⟩)
    | (go_at_call 15; refine (awake_calls _ hE.two).mono ?_; rintro e w1 ⟨rfl, hb1⟩; replace hE := hE.below hb1; replace hB := hB.then hb1; clear hb1))
  rw [rounds_succ]; go_wp2_with (first
    | (go_at_call 31; refine (name_calls _ _ hE.n).mono ?_; rintro e w' ⟨rfl, rfl⟩)
    | (go_at_call 29; refine (parse_calls _ _ hE.b).mono ?_; rintro e w' ⟨rfl, rfl⟩)
    | (go_at_call 36; refine (members_calls2 _ 6 ml11 _ hE.s hE.d).mono ?_; rintro e w1 ⟨a36, c36, rfl, h36, hb1⟩; replace hE := hE.below hb1; replace hB := hB.then hb1; clear hb1)
    | (go_at_call 48; refine (sorted_calls _ _ _ h36 ma11 (by rw [ml11]; decide)).mono ?_; rintro e w1 ⟨rfl, hb1⟩; replace hE := hE.below hb1; replace hB := hB.then hb1; replace h36 := h36.below hb1; clear hb1)
    | (go_at_call 50; refine (clone_calls2 _ _ 6 ml11 _ h36 (by decide) (by decide)).mono ?_; rintro e w1 ⟨a50, c50, rfl, h50, hb1⟩; replace hE := hE.below hb1; replace hB := hB.then hb1; replace h36 := h36.below hb1; clear hb1)
    | (go_at_call 49; refine (compact_calls _ _ _ h50 ma11 (by rw [ml11]; decide)).mono ?_; rintro e w1 ⟨rfl, hb1⟩; replace hE := hE.below hb1; replace hB := hB.then hb1; replace h36 := h36.below hb1; clear hb1 h50)
    | (go_at_call 51; refine (contains_calls _ _ _ _ h36 (by rw [ml11]; decide)).mono ?_; rintro e w' ⟨rfl, rfl⟩)
    | (go_at_call 12; refine (reads_calls _ _).mono ?_; rintro e w' ⟨rfl, rfl⟩)
    | (go_at_call 22; refine (sendable_calls _ _ hE.s).mono ?_; rintro e w' ⟨rfl, rfl⟩)
    | (go_at_call 20; refine (global_calls _ _ _ hE.g).mono ?_; rintro e w' ⟨rfl, rfl⟩)
    | (go_at_call 15; refine (awake_calls _ hE.two).mono ?_; rintro e w1 ⟨rfl, hb1⟩; replace hE := hE.below hb1; replace hB := hB.then hb1; clear hb1))
  rw [rounds_succ]; go_wp2_with (first
    | (go_at_call 31; refine (name_calls _ _ hE.n).mono ?_; rintro e w' ⟨rfl, rfl⟩)
    | (go_at_call 29; refine (parse_calls _ _ hE.b).mono ?_; rintro e w' ⟨rfl, rfl⟩)
    | (go_at_call 36; refine (members_calls2 _ 6 ml11 _ hE.s hE.d).mono ?_; rintro e w1 ⟨a36, c36, rfl, h36, hb1⟩; replace hE := hE.below hb1; replace hB := hB.then hb1; clear hb1)
    | (go_at_call 48; refine (sorted_calls _ _ _ h36 ma11 (by rw [ml11]; decide)).mono ?_; rintro e w1 ⟨rfl, hb1⟩; replace hE := hE.below hb1; replace hB := hB.then hb1; replace h36 := h36.below hb1; clear hb1)
    | (go_at_call 50; refine (clone_calls2 _ _ 6 ml11 _ h36 (by decide) (by decide)).mono ?_; rintro e w1 ⟨a50, c50, rfl, h50, hb1⟩; replace hE := hE.below hb1; replace hB := hB.then hb1; replace h36 := h36.below hb1; clear hb1)
    | (go_at_call 49; refine (compact_calls _ _ _ h50 ma11 (by rw [ml11]; decide)).mono ?_; rintro e w1 ⟨rfl, hb1⟩; replace hE := hE.below hb1; replace hB := hB.then hb1; replace h36 := h36.below hb1; clear hb1 h50)
    | (go_at_call 51; refine (contains_calls _ _ _ _ h36 (by rw [ml11]; decide)).mono ?_; rintro e w' ⟨rfl, rfl⟩)
    | (go_at_call 12; refine (reads_calls _ _).mono ?_; rintro e w' ⟨rfl, rfl⟩)
    | (go_at_call 22; refine (sendable_calls _ _ hE.s).mono ?_; rintro e w' ⟨rfl, rfl⟩)
    | (go_at_call 20; refine (global_calls _ _ _ hE.g).mono ?_; rintro e w' ⟨rfl, rfl⟩)
    | (go_at_call 15; refine (awake_calls _ hE.two).mono ?_; rintro e w1 ⟨rfl, hb1⟩; replace hE := hE.below hb1; replace hB := hB.then hb1; clear hb1))
  rw [rounds_succ]; go_wp2_with (first
    | (go_at_call 31; refine (name_calls _ _ hE.n).mono ?_; rintro e w' ⟨rfl, rfl⟩)
    | (go_at_call 29; refine (parse_calls _ _ hE.b).mono ?_; rintro e w' ⟨rfl, rfl⟩)
    | (go_at_call 36; refine (members_calls2 _ 6 ml11 _ hE.s hE.d).mono ?_; rintro e w1 ⟨a36, c36, rfl, h36, hb1⟩; replace hE := hE.below hb1; replace hB := hB.then hb1; clear hb1)
    | (go_at_call 48; refine (sorted_calls _ _ _ h36 ma11 (by rw [ml11]; decide)).mono ?_; rintro e w1 ⟨rfl, hb1⟩; replace hE := hE.below hb1; replace hB := hB.then hb1; replace h36 := h36.below hb1; clear hb1)
    | (go_at_call 50; refine (clone_calls2 _ _ 6 ml11 _ h36 (by decide) (by decide)).mono ?_; rintro e w1 ⟨a50, c50, rfl, h50, hb1⟩; replace hE := hE.below hb1; replace hB := hB.then hb1; replace h36 := h36.below hb1; clear hb1)
    | (go_at_call 49; refine (compact_calls _ _ _ h50 ma11 (by rw [ml11]; decide)).mono ?_; rintro e w1 ⟨rfl, hb1⟩; replace hE := hE.below hb1; replace hB := hB.then hb1; replace h36 := h36.below hb1; clear hb1 h50)
    | (go_at_call 51; refine (contains_calls _ _ _ _ h36 (by rw [ml11]; decide)).mono ?_; rintro e w' ⟨rfl, rfl⟩)
    | (go_at_call 12; refine (reads_calls _ _).mono ?_; rintro e w' ⟨rfl, rfl⟩)
    | (go_at_call 22; refine (sendable_calls _ _ hE.s).mono ?_; rintro e w' ⟨rfl, rfl⟩)
    | (go_at_call 20; refine (global_calls _ _ _ hE.g).mono ?_; rintro e w' ⟨rfl, rfl⟩)
    | (go_at_call 15; refine (awake_calls _ hE.two).mono ?_; rintro e w1 ⟨rfl, hb1⟩; replace hE := hE.below hb1; replace hB := hB.then hb1; clear hb1))
  rw [rounds_succ]; go_wp2_with (first
    | (go_at_call 31; refine (name_calls _ _ hE.n).mono ?_; rintro e w' ⟨rfl, rfl⟩)
    | (go_at_call 29; refine (parse_calls _ _ hE.b).mono ?_; rintro e w' ⟨rfl, rfl⟩)
    | (go_at_call 36; refine (members_calls2 _ 6 ml11 _ hE.s hE.d).mono ?_; rintro e w1 ⟨a36, c36, rfl, h36, hb1⟩; replace hE := hE.below hb1; replace hB := hB.then hb1; clear hb1)
    | (go_at_call 48; refine (sorted_calls _ _ _ h36 ma11 (by rw [ml11]; decide)).mono ?_; rintro e w1 ⟨rfl, hb1⟩; replace hE := hE.below hb1; replace hB := hB.then hb1; replace h36 := h36.below hb1; clear hb1)
    | (go_at_call 50; refine (clone_calls2 _ _ 6 ml11 _ h36 (by decide) (by decide)).mono ?_; rintro e w1 ⟨a50, c50, rfl, h50, hb1⟩; replace hE := hE.below hb1; replace hB := hB.then hb1; replace h36 := h36.below hb1; clear hb1)
    | (go_at_call 49; refine (compact_calls _ _ _ h50 ma11 (by rw [ml11]; decide)).mono ?_; rintro e w1 ⟨rfl, hb1⟩; replace hE := hE.below hb1; replace hB := hB.then hb1; replace h36 := h36.below hb1; clear hb1 h50)
    | (go_at_call 51; refine (contains_calls _ _ _ _ h36 (by rw [ml11]; decide)).mono ?_; rintro e w' ⟨rfl, rfl⟩)
    | (go_at_call 12; refine (reads_calls _ _).mono ?_; rintro e w' ⟨rfl, rfl⟩)
    | (go_at_call 22; refine (sendable_calls _ _ hE.s).mono ?_; rintro e w' ⟨rfl, rfl⟩)
    | (go_at_call 20; refine (global_calls _ _ _ hE.g).mono ?_; rintro e w' ⟨rfl, rfl⟩)
    | (go_at_call 15; refine (awake_calls _ hE.two).mono ?_; rintro e w1 ⟨rfl, hb1⟩; replace hE := hE.below hb1; replace hB := hB.then hb1; clear hb1))
  rw [rounds_succ]; go_wp2_with (first
    | (go_at_call 31; refine (name_calls _ _ hE.n).mono ?_; rintro e w' ⟨rfl, rfl⟩)
    | (go_at_call 29; refine (parse_calls _ _ hE.b).mono ?_; rintro e w' ⟨rfl, rfl⟩)
    | (go_at_call 36; refine (members_calls2 _ 6 ml11 _ hE.s hE.d).mono ?_; rintro e w1 ⟨a36, c36, rfl, h36, hb1⟩; replace hE := hE.below hb1; replace hB := hB.then hb1; clear hb1)
    | (go_at_call 48; refine (sorted_calls _ _ _ h36 ma11 (by rw [ml11]; decide)).mono ?_; rintro e w1 ⟨rfl, hb1⟩; replace hE := hE.below hb1; replace hB := hB.then hb1; replace h36 := h36.below hb1; clear hb1)
    | (go_at_call 50; refine (clone_calls2 _ _ 6 ml11 _ h36 (by decide) (by decide)).mono ?_; rintro e w1 ⟨a50, c50, rfl, h50, hb1⟩; replace hE := hE.below hb1; replace hB := hB.then hb1; replace h36 := h36.below hb1; clear hb1)
    | (go_at_call 49; refine (compact_calls _ _ _ h50 ma11 (by rw [ml11]; decide)).mono ?_; rintro e w1 ⟨rfl, hb1⟩; replace hE := hE.below hb1; replace hB := hB.then hb1; replace h36 := h36.below hb1; clear hb1 h50)
    | (go_at_call 51; refine (contains_calls _ _ _ _ h36 (by rw [ml11]; decide)).mono ?_; rintro e w' ⟨rfl, rfl⟩)
    | (go_at_call 12; refine (reads_calls _ _).mono ?_; rintro e w' ⟨rfl, rfl⟩)
    | (go_at_call 22; refine (sendable_calls _ _ hE.s).mono ?_; rintro e w' ⟨rfl, rfl⟩)
    | (go_at_call 20; refine (global_calls _ _ _ hE.g).mono ?_; rintro e w' ⟨rfl, rfl⟩)
    | (go_at_call 15; refine (awake_calls _ hE.two).mono ?_; rintro e w1 ⟨rfl, hb1⟩; replace hE := hE.below hb1; replace hB := hB.then hb1; clear hb1))
  rw [rounds_succ]; go_wp2_with (first
    | (go_at_call 31; refine (name_calls _ _ hE.n).mono ?_; rintro e w' ⟨rfl, rfl⟩)
    | (go_at_call 29; refine (parse_calls _ _ hE.b).mono ?_; rintro e w' ⟨rfl, rfl⟩)
    | (go_at_call 36; refine (members_calls2 _ 6 ml11 _ hE.s hE.d).mono ?_; rintro e w1 ⟨a36, c36, rfl, h36, hb1⟩; replace hE := hE.below hb1; replace hB := hB.then hb1; clear hb1)
    | (go_at_call 48; refine (sorted_calls _ _ _ h36 ma11 (by rw [ml11]; decide)).mono ?_; rintro e w1 ⟨rfl, hb1⟩; replace hE := hE.below hb1; replace hB := hB.then hb1; replace h36 := h36.below hb1; clear hb1)
    | (go_at_call 50; refine (clone_calls2 _ _ 6 ml11 _ h36 (by decide) (by decide)).mono ?_; rintro e w1 ⟨a50, c50, rfl, h50, hb1⟩; replace hE := hE.below hb1; replace hB := hB.then hb1; replace h36 := h36.below hb1; clear hb1)
    | (go_at_call 49; refine (compact_calls _ _ _ h50 ma11 (by rw [ml11]; decide)).mono ?_; rintro e w1 ⟨rfl, hb1⟩; replace hE := hE.below hb1; replace hB := hB.then hb1; replace h36 := h36.below hb1; clear hb1 h50)
    | (go_at_call 51; refine (contains_calls _ _ _ _ h36 (by rw [ml11]; decide)).mono ?_; rintro e w' ⟨rfl, rfl⟩)
    | (go_at_call 12; refine (reads_calls _ _).mono ?_; rintro e w' ⟨rfl, rfl⟩)
    | (go_at_call 22; refine (sendable_calls _ _ hE.s).mono ?_; rintro e w' ⟨rfl, rfl⟩)
    | (go_at_call 20; refine (global_calls _ _ _ hE.g).mono ?_; rintro e w' ⟨rfl, rfl⟩)
    | (go_at_call 15; refine (awake_calls _ hE.two).mono ?_; rintro e w1 ⟨rfl, hb1⟩; replace hE := hE.below hb1; replace hB := hB.then hb1; clear hb1))
  go_ret
  exact ⟨rfl, hB⟩

theorem sets_core (n : Int) (h0 : 0 ≤ n) (h1 : n ≤ 255) (w0 w : World) (hB : Below w0.heap.size w0 w) (hE : ES w) :
    Calls Tryd.prog 8 #[.int .u8 n] w fun e w' => e = .returned (.bool true) ∧ Below w0.heap.size w0 w' := by
  have h : 1 + n % 11 = 1 ∨ 1 + n % 11 = 2 ∨ 1 + n % 11 = 3 ∨ 1 + n % 11 = 4 ∨ 1 + n % 11 = 5 ∨ 1 + n % 11 = 6 ∨ 1 + n % 11 = 7 ∨ 1 + n % 11 = 8 ∨ 1 + n % 11 = 9 ∨ 1 + n % 11 = 10 ∨ 1 + n % 11 = 11 := by omega
  rcases h with h | h | h | h | h | h | h | h | h | h | h
  · exact sets_1 n h h0 h1 w0 w hB hE
  · exact sets_2 n h h0 h1 w0 w hB hE
  · exact sets_3 n h h0 h1 w0 w hB hE
  · exact sets_4 n h h0 h1 w0 w hB hE
  · exact sets_5 n h h0 h1 w0 w hB hE
  · exact sets_6 n h h0 h1 w0 w hB hE
  · exact sets_7 n h h0 h1 w0 w hB hE
  · exact sets_8 n h h0 h1 w0 w hB hE
  · exact sets_9 n h h0 h1 w0 w hB hE
  · exact sets_10 n h h0 h1 w0 w hB hE
  · exact sets_11 n h h0 h1 w0 w hB hE
end Go.Proofs.YtlagofkcddhigaaDoor
