/- seek, all cases. -/
import Derived.Test.YtjnlfibcpkobaaaN
namespace Go.Proofs.Ytjnlfibcpkobaaa
open Go.RowKit Go.Sl Go.Sched

theorem seek_calls {base P g cap : Nat} {qs : List Value} {injV : Value} {s : St} {w : World} (h : OwnSt base P g cap qs injV s w) (i : Nat) (hi : i < s.ws.length) (choice : Int)
    (hn : s.ws.length ≤ 1000) (hq2 : (s.ws.getD i wk0).q.length ≤ 1000000) (l : Nat) (hl : (s.ws.getD i wk0).lk = l) (hl2 : l ≤ s.ws.length) :
    Calls Try.prog 59 #[.pointer (some ⟨P, 0, none⟩), .int .i64 i, .int .i64 choice] w fun e w' => e = .returned (evV (sk s i choice).2) ∧ (∃ qs' injV', OwnSt base P g cap qs' injV' (sk s i choice).1 w') ∧ Frm base P g w w' := by
  by_cases hq : (s.ws.getD i wk0).q = []
  · by_cases hj : s.inj = []
    · by_cases h1 : s.ws.length = 1
      · exact seek_one h i hi choice hq hj h1
      · by_cases hv : (s.ws.getD (victim s.ws.length i choice) wk0).q = []
        · exact seek_look h i hi choice hq hj (by omega) hn hv l hl hl2
        · exact seek_steal h i hi choice hq hj (by omega) hn hv
    · exact seek_inj h i hi choice hq hj
  · exact seek_own h i hi choice hq hq2
end Go.Proofs.Ytjnlfibcpkobaaa
