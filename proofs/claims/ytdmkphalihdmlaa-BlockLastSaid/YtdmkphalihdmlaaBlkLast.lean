/- BlockLast: what is read of a block is what was written into it last: the walk. -/
import Derived.Test.YtdmkphalihdmlaaBlkD
namespace Go.Proofs.Ytdmkphalihdmlaa
open Go.RowKit

theorem made64 : madeCells #[.int .u8 0] 64 = (ints .u8 (List.replicate 64 0)).toArray := by kernel_rfl

structure LastInv (w wr : World) (n k i : Nat) (wb : Nat) (wl : List Int) (s : DS) : Prop where
  bel : Below w.heap.size w wr
  disk : DiskAt wr (w.heap.size + 1) w.heap.size s
  want : Blk wr wb (ints .u8 wl).toArray 5
  far : w.heap.size + 1 < wb
  wlen : wl.length = 64
  n_ : s.n = n
  off : s.off = false
  fuse : s.fuse = -1
  writes : s.writes = i
  same : s.c k = wl

set_option maxHeartbeats 1000000 in
theorem last_yes (n : Int) (at' : Int) (A : Option Addr) (len cap : Nat) (l : List Int) (w : World) (h1 : 1 ≤ n) (h2 : n ≤ 1024) (hl : ArgInts .i64 w A len l) (hlen : len * 8 ≤ 140737488351232) :
    Calls Try.prog 3 #[.int .i64 n, .slice A len cap, .int .i64 at'] w fun e w' => e = .returned (.bool true) ∧ Below w.heap.size w w' := by
  have hmk := make64
  go_enter Try.func3, Try.ntmps3
  go_wp2_with fail
  refine (new_yes n w h1 h2).mono ?_
  rintro e w1 ⟨rfl, b1, d1⟩
  go_wp2_with fail
  refine (place_any at' n w1 (by omega) (by omega)).mono ?_
  rintro e w2 ⟨rfl, rfl⟩
  have hk0 := Int.emod_nonneg at' (show n ≠ 0 by omega)
  have hk1 := Int.emod_lt_of_pos at' (show 0 < n by omega)
  generalize at' % n = k at *
  go_wp2_with fail
  go_loopw [10, 11] (fun v10 v11 wr => ∃ i : Nat, i ≤ len ∧ v11 = .int .i64 i ∧ ∃ wb wl s, v10 = .slice (some ⟨wb, 0, none⟩) 64 64 ∧ LastInv w wr n.toNat k.toNat i wb wl s) (fun _ v _ => len - (intOf v).toNat)
  case atStart =>
    have z1 := d1.lt
    have b2 : Below w1.heap.size w1 (w1.alloc (.cells (madeCells #[.int .u8 0] 64) 5)) := (Below.refl _ _).alloc (Nat.le_refl _) _
    refine ⟨0, Nat.zero_le _, rfl, w1.heap.size, List.replicate 64 0, DS.new n.toNat, rfl, bel_next b1 b2, d1.below b2, ?_, by omega, by simp, rfl, rfl, rfl, rfl, rfl⟩
    have := Blk.new w1 (madeCells #[.int .u8 0] 64) 5
    rw [made64] at this ⊢
    exact this
  case round =>
    obtain ⟨i, hi, rfl, wb, wl, s, rfl, hinv⟩ := hrel
    by_cases hlt : i < len
    · obtain ⟨x, rfl, hx⟩ := (hl.below hinv.bel).at_ i hlt
      have z0 := b1.size
      have zd := hinv.disk.lt
      have hn := hinv.n_
      go_wp2_with fail
      refine (place_any (l.getD i 0) n wr (by omega) (by omega)).mono ?_
      rintro e w2 ⟨rfl, rfl⟩
      have hj0 := Int.emod_nonneg (l.getD i 0) (show n ≠ 0 by omega)
      have hj1 := Int.emod_lt_of_pos (l.getD i 0) (show 0 < n by omega)
      generalize l.getD i 0 % n = j at *
      go_wp2_with fail
      refine (bytes64 _ wr).mono ?_
      rintro e w2 ⟨rfl, b2, k2⟩
      go_wp2_with fail
      refine (write_yes w2 _ _ _ (hinv.disk.below b2) j hj0 (by omega) wr.heap.size _ _ (bytes64_length _) k2 (by omega) hinv.off (by rw [hinv.fuse]; omega) (by rw [hinv.writes]; omega)).mono ?_
      rintro e w3 ⟨rfl, b3, d3⟩
      have B3 := bel_nextK (bel_next hinv.bel b2) b3 (fun k hk => by omega)
      have W3 := (hinv.want.below b2).kp b3 (by have := hinv.far; omega)
      have hfz : (s.put j (bytesL 64 (↑i + 1))).fuse = -1 := by show (if s.fuse = -1 then -1 else s.fuse - 1) = -1; rw [if_pos hinv.fuse]
      have hwr : (s.put j (bytesL 64 (↑i + 1))).writes = ((i + 1 : Nat) : Int) := by show s.writes + 1 = _; rw [hinv.writes]; omega
      by_cases e : j = k
      · have he : (j == k) = true := by simpa using e
        have hc : (s.put j (bytesL 64 (↑i + 1))).c k.toNat = bytesL 64 (↑i + 1) := by show (if k.toNat = j.toNat then _ else _) = _; rw [if_pos (by omega)]
        go_wp2_with fail
        refine (bytes64 _ w3).mono ?_
        rintro e w4 ⟨rfl, b4, k4⟩
        go_wp2_with fail
        go_roundw
        case rel => exact ⟨i + 1, by omega, by go_num, _, _, _, rfl, ⟨bel_next B3 b4, d3.below b4, k4, by have := b3.size; have := b2.size; omega, bytes64_length _, hn, hinv.off, hfz, hwr, hc⟩⟩
        case measure => simp [intOf]; omega
      · have he : (j == k) = false := by simpa using e
        have hc : (s.put j (bytesL 64 (↑i + 1))).c k.toNat = wl := by show (if k.toNat = j.toNat then _ else _) = _; rw [if_neg (by omega)]; exact hinv.same
        go_wp2_with fail
        go_roundw
        case rel => exact ⟨i + 1, by omega, by go_num, _, _, _, rfl, ⟨B3, d3, W3, hinv.far, hinv.wlen, hn, hinv.off, hfz, hwr, hc⟩⟩
        case measure => simp [intOf]; omega
    · have zd := hinv.disk.lt
      have hn := hinv.n_
      have hsame := hinv.same
      go_wp2_with fail
      refine (read_yes wr _ _ _ hinv.disk k hk0 (by omega)).mono ?_
      rintro e w2 ⟨rfl, b2, k2⟩
      rw [hsame] at k2
      go_wp2_with fail
      refine (same_yes _ _ wl _ _ w2 k2 (hinv.want.below b2) hinv.wlen).mono ?_
      rintro e w3 ⟨rfl, b3⟩
      go_wp2_with fail
      refine (awake_any w3).mono ?_
      rintro e w4 ⟨rfl, b4⟩
      go_wp2_with fail
      go_ret
      exact ⟨rfl, bel_next (bel_next (bel_next hinv.bel b2) (b3.below _)) b4⟩

set_option maxHeartbeats 1000000 in
theorem last_no (n : Int) (at' : Int) (A : Option Addr) (len cap : Nat) (w : World) (h : n < 1 ∨ 1024 < n) :
    Calls Try.prog 3 #[.int .i64 n, .slice A len cap, .int .i64 at'] w fun e w' => e = .returned (.bool true) ∧ Below w.heap.size w w' := by
  rcases h with h | h
  all_goals
    go_enter Try.func3, Try.ntmps3
    go_wp2_with fail
    refine (new_bad n w (by omega)).mono ?_
    rintro e w1 ⟨rfl, rfl⟩
    go_wp2_with fail
    refine (awake_any w).mono ?_
    rintro e w4 ⟨rfl, b4⟩
    go_wp2_with fail
    go_ret
    exact ⟨rfl, b4⟩

/-- As the row hands it over. -/
theorem last_law (n : Int) (_ : (Lit.int .i64 n).wf = true) (A : Option Addr) (len cap : Nat) (l : List Int) {W : World} (hl : ArgInts .i64 W A len l) (hlen : len * 8 ≤ 140737488351232) (at' : Int) (_ : (Lit.int .i64 at').wf = true) :
    Calls Try.prog 3 #[.int .i64 n, .slice A len cap, .int .i64 at'] W fun e w' => e = .returned (.bool true) ∧ Below W.heap.size W w' := by
  by_cases h : n < 1 ∨ 1024 < n
  · exact last_no n at' A len cap W h
  · exact last_yes n at' A len cap l W (by omega) (by omega) hl hlen

end Go.Proofs.Ytdmkphalihdmlaa
