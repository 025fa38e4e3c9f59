/- The law's record: what it answers. -/
import Derived.Test.YtmliiggieclbeaaDskA
namespace Go.Proofs.Ytmliiggieclbeaa
open Go.RowKit

/-- How many bytes a record has. -/
def recN (n : Int) : Nat := if n < 0 ∨ 500 < n then 60 else n.toNat
def recByte (fill : Int) (i : Nat) : Int := (fill + i * (fill.tmod 5 + 1)) % 256
def recordL (n fill : Int) : List Int := (List.range (recN n)).map (recByte fill)
theorem recordL_length (n fill : Int) : (recordL n fill).length = recN n := by simp [recordL]
theorem recN_le (n : Int) : recN n ≤ 500 := by unfold recN; split <;> omega

theorem recByte_range (fill : Int) (i : Nat) : 0 ≤ recByte fill i ∧ recByte fill i ≤ 255 := by unfold recByte; omega
/-- The round's number, as the walk writes it. -/
theorem rec_wrap (fill : Int) (i : Nat) : wrap64 (fill + wrap64 (↑i * wrap64 (fill.tmod 5 + 1))) % 256 = recByte fill i := by
  unfold recByte
  have h1 := Int.tmod_lt_of_pos fill (show (0 : Int) < 5 by omega)
  have h2 : -5 < fill.tmod 5 := by rw [Int.tmod_eq_emod]; split <;> omega
  have h3 : wrap64 (fill.tmod 5 + 1) = fill.tmod 5 + 1 := by unfold wrap64; omega
  rw [h3, wrap64_mod, Int.add_emod, wrap64_mod, ← Int.add_emod]
set_option maxHeartbeats 400000 in
theorem record_walk (m : Nat) (hm : m ≤ 500) (fill : Int) (w : World) :
    Calls Try.prog 10 #[.int .i64 m, .int .i64 fill] w fun e w' => e = .returned (.slice (some ⟨w.heap.size, 0, none⟩) m m) ∧ Below w.heap.size w w' ∧ Blk w' w.heap.size (ints .u8 ((List.range m).map (recByte fill))).toArray 5 := by
  have hmk := run_make_row' (P := Try.prog) 22 5 (.int .u8 0) 1 Try.underlying22 (by kernel_rfl) rfl .i64 .i64 m (by omega) (by omega)
  go_enter Try.func10, Try.ntmps10
  go_wp2
  go_loopw [6] (fun v wr => ∃ k : Nat, k ≤ m ∧ v = .int .i64 k ∧ Below w.heap.size w wr ∧ RowTo wr w.heap.size m k (recByte fill) 5) (fun v _ => m - (intOf v).toNat)
  case atStart =>
    exact ⟨0, Nat.zero_le _, rfl, (Below.refl _ _).alloc (Nat.le_refl _) _, ⟨_, Blk.new _ _ _, size_madeCells _ _, fun j hj => absurd hj (by omega)⟩⟩
  case round =>
    obtain ⟨k, hk, rfl, hb, hr⟩ := hrel
    by_cases hlt : k < m
    · obtain ⟨⟨x, hx⟩, hf⟩ := hr.cell hlt
      go_wp2
      go_roundw
      case rel => exact ⟨k + 1, by omega, by go_num, hb.setCell (Nat.le_refl _) _, hr.step hlt (rec_wrap fill k)⟩
      case measure => simp [intOf]; omega
    · go_wp2
      obtain rfl : k = m := by omega
      go_ret
      exact ⟨rfl, hb, hr.full⟩

set_option maxHeartbeats 400000 in
/-- A length that is none: 60. -/
theorem record_odd (n : Int) (hn : n < 0 ∨ 500 < n) (fill : Int) (w : World) :
    Calls Try.prog 10 #[.int .i64 n, .int .i64 fill] w fun e w' => e = .returned (.slice (some ⟨w.heap.size, 0, none⟩) 60 60) ∧ Below w.heap.size w w' ∧ Blk w' w.heap.size (ints .u8 ((List.range 60).map (recByte fill))).toArray 5 := by
  have hmk : ∀ W : World, (Instr.makeSlice 22 (.int .i64 60) (.int .i64 60)).run Try.prog W = .ok (.slice (some ⟨W.heap.size, 0, none⟩) 60 60) (W.alloc (.cells (madeCells #[.int .u8 0] 60) 5)) :=
    run_make_row' (P := Try.prog) 22 5 (.int .u8 0) 1 Try.underlying22 (by kernel_rfl) rfl .i64 .i64 60 (by omega) (by omega)
  rcases hn with hn | hn
  all_goals
    go_enter Try.func10, Try.ntmps10
    go_wp2
    go_loopw [6] (fun v wr => ∃ k : Nat, k ≤ 60 ∧ v = .int .i64 k ∧ Below w.heap.size w wr ∧ RowTo wr w.heap.size 60 k (recByte fill) 5) (fun v _ => 60 - (intOf v).toNat)
    case atStart =>
      exact ⟨0, Nat.zero_le _, rfl, (Below.refl _ _).alloc (Nat.le_refl _) _, ⟨_, Blk.new _ _ _, size_madeCells _ _, fun j hj => absurd hj (by omega)⟩⟩
    case round =>
      obtain ⟨k, hk, rfl, hb, hr⟩ := hrel
      by_cases hlt : k < 60
      · obtain ⟨⟨x, hx⟩, hf⟩ := hr.cell hlt
        go_wp2
        go_roundw
        case rel => exact ⟨k + 1, by omega, by go_num, hb.setCell (Nat.le_refl _) _, hr.step hlt (rec_wrap fill k)⟩
        case measure => simp [intOf]; omega
      · go_wp2
        obtain rfl : k = 60 := by omega
        go_ret
        exact ⟨rfl, hb, hr.full⟩

theorem record_any (n fill : Int) (w : World) :
    Calls Try.prog 10 #[.int .i64 n, .int .i64 fill] w fun e w' => e = .returned (.slice (some ⟨w.heap.size, 0, none⟩) (recN n) (recN n)) ∧ Below w.heap.size w w' ∧ Blk w' w.heap.size (ints .u8 (recordL n fill)).toArray 5 := by
  by_cases h : n < 0 ∨ 500 < n
  · have e : recN n = 60 := by unfold recN; rw [if_pos h]
    unfold recordL
    rw [e]
    exact record_odd n (by rcases h with h | h <;> omega) fill w
  · obtain ⟨m, rfl⟩ := Int.eq_ofNat_of_zero_le (show 0 ≤ n by omega)
    have e : recN m = m := by unfold recN; rw [if_neg h]; omega
    unfold recordL
    rw [e]
    exact record_walk m (by omega) fill w


end Go.Proofs.Ytmliiggieclbeaa
