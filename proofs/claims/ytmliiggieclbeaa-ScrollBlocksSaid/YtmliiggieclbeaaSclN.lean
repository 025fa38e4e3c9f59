/- ScrollBlocks: how many blocks a record takes: the walk. -/
import Derived.Test.YtmliiggieclbeaaSclM
import Derived.Test.YtmliiggieclbeaaSclA
namespace Go.Proofs.Ytmliiggieclbeaa
open Go.RowKit

set_option maxHeartbeats 400000 in
theorem rblocks_any (w : World) (A : Option Addr) (c : Nat) (l : List Int) (hl : l.length ≤ 9223372036854775000) :
    Calls Try.prog 12 #[.slice A l.length c] w fun e w' => e = .returned (.int .i64 (blks l)) ∧ w = w' := by
  have hb : ((l.length : Int) + 52).tdiv 53 = (blks l : Int) := by
    rw [Int.tdiv_eq_ediv_of_nonneg (by omega)]
    unfold blks
    omega
  go_enter Try.func12, Try.ntmps12
  go_wp2_with fail
  go_ret
  exact ⟨bv (by
    have : blks l ≤ l.length + 52 := by unfold blks; omega
    unfold wrap64; omega), rfl⟩

set_option maxRecDepth 100000 in
set_option maxHeartbeats 2000000 in
theorem blocks_law (n : Int) (_ : (Lit.int .i64 n).wf = true) (fill : Int) (_ : (Lit.int .i64 fill).wf = true) {W : World} :
    Calls Try.prog 3 #[.int .i64 n, .int .i64 fill] W fun e W' => e = .returned (.bool true) ∧ Below W.heap.size W W' := by
  have HREC := Lib.hid (record_any n fill W)
  have hle := recN_le n
  have hlen := recordL_length n fill
  generalize recordL n fill = r at *
  rw [← hlen] at hle HREC
  clear hlen
  have HB := Lib.hid (fun W A c => blocks_any W A c r (by omega))
  have HRB := Lib.hid (fun W A c => rblocks_any W A c r (by omega))
  have hb : blks r = (r.length + 52) / 53 := rfl
  have q1 : (r.length : Int) ≤ (blks r : Int) * 53 := by omega
  have q2 : ((blks r : Int) - 1) * 53 < (r.length : Int) + 1 := by omega
  have q3 : ((blks r : Int) == 0) = ((r.length : Int) == 0) := by
    by_cases h : r.length = 0
    · simp [hb, h]
    · rw [beq_eq_false_iff_ne.2 (show (r.length : Int) ≠ 0 by omega), beq_eq_false_iff_ne.2 (show (blks r : Int) ≠ 0 by omega)]
  have q4 : blks r ≤ 500 := by omega
  clear hb
  generalize blks r = m at *
  go_enter Try.func3, Try.ntmps3
  go_wp2_with fail
  refine HREC.out.mono ?_
  rintro e w1 ⟨rfl, b1, k1⟩
  clear k1
  go_wp2_with fail
  refine (HB.out _ _ _).mono ?_
  rintro e w2 ⟨rfl, rfl⟩
  go_wp2_with fail
  refine (HRB.out _ _ _).mono ?_
  rintro e w2 ⟨rfl, rfl⟩
  have HA := Lib.hid (awake_any w1)
  go_wp2_with fail
  refine HA.out.mono ?_
  rintro e w2 ⟨rfl, b2⟩
  go_wp2_with fail
  go_ret
  exact ⟨rfl, bel_next b1 b2⟩

end Go.Proofs.Ytmliiggieclbeaa
