/- BlockCopies, as the row hands it over. -/
import Derived.Test.YtdmkphalihdmlaaBlkCopies
namespace Go.Proofs.Ytdmkphalihdmlaa
open Go.RowKit

set_option maxRecDepth 100000 in
set_option maxHeartbeats 2000000 in
theorem copies_no (n : Int) (A B C : Option Addr) (la ca lb cb lc cc : Nat) (fuse : Int) (w : World) (h : n < 1 ∨ 1024 < n) :
    Calls Try.prog 7 #[.int .i64 n, .slice A la ca, .int .i64 fuse, .slice B lb cb, .slice C lc cc] w fun e w' => e = .returned (.bool true) ∧ Below w.heap.size w w' := by
  rcases h with h | h
  all_goals
    go_enter Try.func7, Try.ntmps7
    go_wp2_with fail
    refine (new_bad n w (by omega)).mono ?_
    rintro e w1 ⟨rfl, rfl⟩
    go_wp2_with fail
    refine (awake_any w).mono ?_
    rintro e w4 ⟨rfl, b4⟩
    go_wp2_with fail
    go_ret
    exact ⟨rfl, b4⟩

theorem copies_law (n : Int) (_ : (Lit.int .i64 n).wf = true) (A : Option Addr) (la ca : Nat) (za : List Int) {W : World} (ha : ArgInts .i64 W A la za) (hla : la * 8 ≤ 140737488351232) (fuse : Int) (hf : (Lit.int .i64 fuse).wf = true)
    (B : Option Addr) (lb cb : Nat) (zb : List Int) (hb : ArgInts .i64 W B lb zb) (hlb : lb * 8 ≤ 140737488351232) (C : Option Addr) (lc cc : Nat) (zc : List Int) (hc : ArgInts .i64 W C lc zc) (hlc : lc * 8 ≤ 140737488351232) :
    Calls Try.prog 7 #[.int .i64 n, .slice A la ca, .int .i64 fuse, .slice B lb cb, .slice C lc cc] W fun e w' => e = .returned (.bool true) ∧ Below W.heap.size W w' := by
  have := wf_i64 hf
  by_cases h : n < 1 ∨ 1024 < n
  · exact copies_no n A B C la ca lb cb lc cc fuse W h
  · exact copies_yes n A B C la ca lb cb lc cc za zb zc fuse W (by omega) (by omega) (by omega) ha hla hb hlb hc hlc

end Go.Proofs.Ytdmkphalihdmlaa
