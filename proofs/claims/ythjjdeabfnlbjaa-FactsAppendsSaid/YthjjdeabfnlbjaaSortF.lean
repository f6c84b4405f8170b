/- slices.SortFunc on at most 12 facts, by their entries: the contract. -/
import Derived.Test.YthjjdeabfnlbjaaSort
namespace Go.Proofs.Ythjjdeabfnlbjaa
open Go Go.RowKit

def SomeInt (w : World) (e : Ending) (w' : World) : Prop := ∃ r : Int, e = .returned (.int .i64 r) ∧ w = w'
set_option maxRecDepth 100000 in
theorem len64_any (n : Nat) (w : World) (h : n ≤ 12) : Calls Try.prog 68 #[.int .u64 n] w (SomeInt w) := by
  have hc : n = 0 ∨ n = 1 ∨ n = 2 ∨ n = 3 ∨ n = 4 ∨ n = 5 ∨ n = 6 ∨ n = 7 ∨ n = 8 ∨ n = 9 ∨ n = 10 ∨ n = 11 ∨ n = 12 := by omega
  rcases hc with rfl | rfl | rfl | rfl | rfl | rfl | rfl | rfl | rfl | rfl | rfl | rfl | rfl
  all_goals
    go_enter Try.func68, Try.ntmps68
    go_wp2
    go_ret
    exact ⟨_, rfl, rfl⟩
theorem len_any (n : Nat) (w : World) (h : n ≤ 12) : Calls Try.prog 52 #[.int .u64 n] w (SomeInt w) := by
  go_enter Try.func52, Try.ntmps52
  go_wp2_with (first | (go_at_call 68; refine (len64_any n _ h).mono ?_; rintro e w' ⟨r, rfl, rfl⟩))
  go_ret
  exact ⟨_, rfl, rfl⟩
set_option maxRecDepth 100000 in
theorem pdq_any (l : List Fc) (base g n cap : Nat) (r : Int) (w : World) (hn : l.length = n) (h12 : n ≤ 12) (h : OF w base (.slice (some ⟨g, 0, none⟩) n cap) l) :
    Calls Try.prog 51 #[.slice (some ⟨g, 0, none⟩) n cap, .int .i64 0, .int .i64 n, .int .i64 r, .func (.func 38) #[] #[]] w (InsPost l base g n cap w) := by
  have HO := Lib.hid h; clear h
  go_enter Try.func51, Try.ntmps51
  go_wp2
  refine wp_loop_rounds 1 ?_
  rw [rounds_succ]
  go_wp2_with (first | (go_at_call 59; refine (ins_any l base g n cap _ hn h12 HO.out).mono ?_; rintro e w1 ⟨m, rfl, hp, hs, ho, hg⟩; have HP := Lib.hid hp; have HS := Lib.hid hs; have HO1 := Lib.hid ho; have HG := Lib.hid hg; clear hp hs ho hg))
  go_end0
  exact ⟨m, rfl, HP.out, HS.out, HO1.out, HG.out⟩
theorem sort_any (l : List Fc) (base g n cap : Nat) (w : World) (hn : l.length = n) (h12 : n ≤ 12) (h : OF w base (.slice (some ⟨g, 0, none⟩) n cap) l) :
    Calls Try.prog 37 #[.slice (some ⟨g, 0, none⟩) n cap, .func (.func 38) #[] #[]] w (InsPost l base g n cap w) := by
  have HO := Lib.hid h; clear h
  go_enter Try.func37, Try.ntmps37
  go_wp2_with (first | (go_at_call 52; refine (len_any n _ h12).mono ?_; rintro e w' ⟨r, rfl, rfl⟩) | (go_at_call 51; refine (pdq_any l base g n cap _ _ hn h12 HO.out).mono ?_; rintro e w1 ⟨m, rfl, hp, hs, ho, hg⟩; have HP := Lib.hid hp; have HS := Lib.hid hs; have HO1 := Lib.hid ho; have HG := Lib.hid hg; clear hp hs ho hg))
  go_end0
  exact ⟨m, rfl, HP.out, HS.out, HO1.out, HG.out⟩
end Go.Proofs.Ythjjdeabfnlbjaa
