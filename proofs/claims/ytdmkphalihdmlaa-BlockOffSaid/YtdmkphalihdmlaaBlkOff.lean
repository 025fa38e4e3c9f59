/- BlockOff: without power nothing is written, and no fuse burns; with power again all goes on: the walk. -/
import Derived.Test.YtdmkphalihdmlaaBlkD
namespace Go.Proofs.Ytdmkphalihdmlaa
open Go.RowKit

structure OnInv (w wr : World) (n i : Nat) (s : DS) : Prop where
  bel : Below w.heap.size w wr
  disk : DiskAt wr (w.heap.size + 1) w.heap.size s
  n_ : s.n = n
  off : s.off = false
  fuse : s.fuse = -1
  writes : s.writes = 1 + i
structure OffInv (w wr : World) (s : DS) : Prop where
  bel : Below w.heap.size w wr
  disk : DiskAt wr (w.heap.size + 1) w.heap.size s

set_option maxRecDepth 100000 in
set_option maxHeartbeats 2000000 in
theorem off_yes (n : Int) (A : Option Addr) (len cap : Nat) (l : List Int) (fuse at' : Int) (w : World) (h1 : 1 ≤ n) (h2 : n ≤ 1024) (hf2 : fuse ≤ 9223372036854775807) (hl : ArgInts .i64 w A len l) (hlen : len * 8 ≤ 140737488351232) :
    Calls Try.prog 6 #[.int .i64 n, .slice A len cap, .int .i64 fuse, .int .i64 at'] w fun e w' => e = .returned (.bool true) ∧ Below w.heap.size w w' := by
  obtain ⟨want, hwant⟩ : ∃ k : Int, Hid (k = if fuse < 0 then 1 else 21) := ⟨_, rfl⟩
  have main : ∀ s : DS, Hid (s = { (DS.new n.toNat).put (at' % n) (bytesL 64 5) with off := true, fuse := -1 }) → Calls Try.prog 6 #[.int .i64 n, .slice A len cap, .int .i64 fuse, .int .i64 at'] w fun e w' => e = .returned (.bool true) ∧ Below w.heap.size w w' := by
    intro s hs
    have hsn : s.n = n.toNat := by rw [hs.out]; rfl
    have hso : s.off = true := by rw [hs.out]
    have hsw : s.writes = 1 := by rw [hs.out]; rfl
    have hfe : Hid (s.fuseE fuse = want) := by
      show _ = _
      rw [hwant.out]; unfold DS.fuseE
      simp [hso]
    have hfs : Hid (s.fuseS fuse = s) := by
      show _ = _
      unfold DS.fuseS
      simp [hso]
    have hk0 := Int.emod_nonneg at' (show n ≠ 0 by omega)
    have hk1 := Int.emod_lt_of_pos at' (show 0 < n by omega)
    have hsc : Hid (s.c (at' % n).toNat = bytesL 64 5) := by
      show _ = _
      rw [hs.out]
      show (if (at' % n).toNat = (at' % n).toNat then _ else _) = _
      rw [if_pos rfl]
    have HW := Lib.hid hsw
    have HO := Lib.hid hso
    have HN := Lib.hid hsn
    clear hsw hso hsn
    by_cases hfz : fuse < 0
    all_goals
      try have hwl : want = 1 := by rw [hwant.out, if_pos hfz]
      try have hwl : want = 21 := by rw [hwant.out, if_neg hfz]
      subst hwl
      go_enter Try.func6, Try.ntmps6
      go_wp2_with fail
      refine (new_yes n w h1 h2).mono ?_
      rintro e w1 ⟨rfl, b1, d1⟩
      have z1 := d1.lt
      have zz1 := b1.size
      go_wp2_with fail
      refine (place_any at' n w1 (by omega) (by omega)).mono ?_
      rintro e w2 ⟨rfl, rfl⟩
      generalize at' % n = k at *
      go_wp2_with fail
      refine (bytes64 5 w1).mono ?_
      rintro e w2 ⟨rfl, b2, k2⟩
      go_wp2_with fail
      refine (write_yes w2 _ _ _ (d1.below b2) k hk0 (by simp only [DS.new]; omega) w1.heap.size _ _ (bytes64_length _) k2 (by omega) rfl (by simp [DS.new]) (by simp [DS.new])).mono ?_
      rintro e w3 ⟨rfl, b3, d3⟩
      go_wp2_with fail
      refine (cut_any w3 _ _ _ d3).mono ?_
      rintro e w4 ⟨rfl, b4, d4⟩
      rw [← hs.out] at d4
      have B4 := bel_nextK (bel_nextK (bel_next b1 b2) b3 (fun k hk => by omega)) b4 (fun k hk => by omega)
      clear hs
      go_wp2_with fail
      refine (on_any w4 _ _ _ d4).mono ?_
      rintro e w5 ⟨rfl, rfl⟩
      rw [HO.out]
      go_wp2_with fail
      refine (fuse_any w4 _ _ _ d4 fuse hf2).mono ?_
      rintro e w5 ⟨rfl, b5, d5⟩
      rw [hfe.out]
      rw [hfs.out] at d5
      have B5 := bel_nextK B4 b5 (fun k hk => by omega)
      go_wp2_with fail
      go_loopw [13] (fun v wr => ∃ i : Nat, i ≤ len ∧ v = .int .i64 i ∧ OffInv w wr s) (fun v _ => len - (intOf v).toNat)
      case atStart => exact ⟨0, Nat.zero_le _, rfl, B5, d5⟩
      case round =>
        clear d1 d3 d4 d5 k2 b5 b4 b3 b2
        obtain ⟨i, hi, rfl, hinv⟩ := hrel
        have zd := hinv.disk.lt
        by_cases hlt : i < len
        · obtain ⟨x, rfl, hx⟩ := (hl.below hinv.bel).at_ i hlt
          go_wp2_with fail
          refine (place_any (l.getD i 0) n wr (by omega) (by omega)).mono ?_
          rintro e w2 ⟨rfl, rfl⟩
          have hj0 := Int.emod_nonneg (l.getD i 0) (show n ≠ 0 by omega)
          have hj1 := Int.emod_lt_of_pos (l.getD i 0) (show 0 < n by omega)
          generalize l.getD i 0 % n = j at *
          go_wp2_with fail
          refine (bytes64 _ wr).mono ?_
          rintro e w2 ⟨rfl, b2, k2⟩
          go_wp2_with fail
          refine (write_at w2 _ _ _ (hinv.disk.below b2) j wr.heap.size _ _ (bytes64_length _) k2 (by omega) (by rw [HW.out]; omega)).mono ?_
          rintro e w3 ⟨rfl, b3, d3⟩
          have hgood : s.has j := ⟨hj0, by rw [HN.out]; omega⟩
          rw [show s.writeE j (bytesL 64 ↑i) = 21 by unfold DS.writeE; simp [hgood, bytes64_length, HO.out]]
          rw [show s.writeS j (bytesL 64 ↑i) = s by unfold DS.writeS; simp [hgood, bytes64_length, HO.out]] at d3
          have B3 := bel_nextK (bel_next hinv.bel b2) b3 (fun k hk => by omega)
          go_wp2_with fail
          go_roundw
          case rel => exact ⟨i + 1, by omega, by go_num, B3, d3⟩
          case measure => simp [intOf]; omega
        · go_wp2_with fail
          refine (read_yes wr _ _ _ hinv.disk k hk0 (by rw [HN.out]; omega)).mono ?_
          rintro e w2 ⟨rfl, b2, k2⟩
          rw [hsc.out] at k2
          go_wp2_with fail
          refine (bytes64 5 w2).mono ?_
          rintro e w3 ⟨rfl, b3, k3⟩
          go_wp2_with fail
          refine (same_yes _ _ (bytesL 64 5) _ _ w3 (k2.below b3) k3 (bytes64_length 5)).mono ?_
          rintro e w4 ⟨rfl, b4⟩
          have d4 := ((hinv.disk.below b2).below b3).below (b4.below _)
          go_wp2_with fail
          refine (writes_any w4 _ _ _ d4).mono ?_
          rintro e w5 ⟨rfl, rfl⟩
          rw [HW.out]
          go_wp2_with fail
          refine (on_any w4 _ _ _ d4).mono ?_
          rintro e w5 ⟨rfl, rfl⟩
          rw [HO.out]
          go_wp2_with fail
          refine (power_any w4 _ _ _ d4).mono ?_
          rintro e w5 ⟨rfl, b5, d5⟩
          have B5 := bel_nextK (bel_next (bel_next (bel_next hinv.bel b2) b3) (b4.below _)) b5 (fun k hk => by omega)
          have HI : OnInv w w5 n.toNat 0 { s with off := false, fuse := -1 } := ⟨B5, d5, HN.out, rfl, rfl, by show s.writes = _; rw [HW.out]; rfl⟩
          clear d4 d5 k2 k3 b5 b4 b3 b2
          go_wp2_with fail
          go_loopw [16] (fun v wr => ∃ i : Nat, i ≤ len ∧ v = .int .i64 i ∧ ∃ s, OnInv w wr n.toNat i s) (fun v _ => len - (intOf v).toNat)
          case atStart => exact ⟨0, Nat.zero_le _, rfl, _, HI⟩
          case round =>
            rename_i wr2
            obtain ⟨i2, hi2, rfl, s2, hinv2⟩ := hrel
            have zd2 := hinv2.disk.lt
            have hn2 := hinv2.n_
            by_cases hlt2 : i2 < len
            · obtain ⟨x, rfl, hx⟩ := (hl.below hinv2.bel).at_ i2 hlt2
              go_wp2_with fail
              refine (place_any (l.getD i2 0) n _ (by omega) (by omega)).mono ?_
              rintro e w2 ⟨rfl, rfl⟩
              have hj0 := Int.emod_nonneg (l.getD i2 0) (show n ≠ 0 by omega)
              have hj1 := Int.emod_lt_of_pos (l.getD i2 0) (show 0 < n by omega)
              generalize l.getD i2 0 % n = j at *
              go_wp2_with fail
              refine (bytes64 _ _).mono ?_
              rintro e w2 ⟨rfl, b2, k2⟩
              go_wp2_with fail
              refine (write_yes w2 _ _ _ (hinv2.disk.below b2) j hj0 (by omega) _ _ _ (bytes64_length _) k2 (by omega) hinv2.off (by rw [hinv2.fuse]; omega) (by rw [hinv2.writes]; omega)).mono ?_
              rintro e w3 ⟨rfl, b3, d3⟩
              have B3 := bel_nextK (bel_next hinv2.bel b2) b3 (fun k hk => by omega)
              have HI3 : OnInv w w3 n.toNat (i2 + 1) (s2.put j (bytesL 64 ↑i2)) := ⟨B3, d3, hn2, hinv2.off, by show (if s2.fuse = -1 then -1 else s2.fuse - 1) = -1; rw [if_pos hinv2.fuse], by show s2.writes + 1 = _; rw [hinv2.writes]; omega⟩
              go_wp2_with fail
              go_roundw
              case rel => exact ⟨i2 + 1, by omega, by go_num, _, HI3⟩
              case measure => simp [intOf]; omega
            · obtain rfl : i2 = len := by omega
              go_wp2_with fail
              refine (on_any _ _ _ _ hinv2.disk).mono ?_
              rintro e w5 ⟨rfl, rfl⟩
              rw [hinv2.off]
              go_wp2_with fail
              refine (writes_any _ _ _ _ hinv2.disk).mono ?_
              rintro e w5 ⟨rfl, rfl⟩
              rw [hinv2.writes]
              go_wp2_with fail
              refine (awake_any _).mono ?_
              rintro e w6 ⟨rfl, b6⟩
              go_wp2_with fail
              go_ret
              exact ⟨rfl, bel_next hinv2.bel b6⟩
  exact main _ rfl

set_option maxRecDepth 100000 in
set_option maxHeartbeats 2000000 in
theorem off_no (n : Int) (A : Option Addr) (len cap : Nat) (fuse at' : Int) (w : World) (h : n < 1 ∨ 1024 < n) :
    Calls Try.prog 6 #[.int .i64 n, .slice A len cap, .int .i64 fuse, .int .i64 at'] w fun e w' => e = .returned (.bool true) ∧ Below w.heap.size w w' := by
  rcases h with h | h
  all_goals
    go_enter Try.func6, Try.ntmps6
    go_wp2_with fail
    refine (new_bad n w (by omega)).mono ?_
    rintro e w1 ⟨rfl, rfl⟩
    go_wp2_with fail
    refine (awake_any w).mono ?_
    rintro e w4 ⟨rfl, b4⟩
    go_wp2_with fail
    go_ret
    exact ⟨rfl, b4⟩

/-- As the row hands it over. -/
theorem off_law (n : Int) (_ : (Lit.int .i64 n).wf = true) (A : Option Addr) (len cap : Nat) (l : List Int) {W : World} (hl : ArgInts .i64 W A len l) (hlen : len * 8 ≤ 140737488351232) (fuse : Int) (hf : (Lit.int .i64 fuse).wf = true) (at' : Int) (_ : (Lit.int .i64 at').wf = true) :
    Calls Try.prog 6 #[.int .i64 n, .slice A len cap, .int .i64 fuse, .int .i64 at'] W fun e w' => e = .returned (.bool true) ∧ Below W.heap.size W w' := by
  have := wf_i64 hf
  by_cases h : n < 1 ∨ 1024 < n
  · exact off_no n A len cap fuse at' W h
  · exact off_yes n A len cap l fuse at' W (by omega) (by omega) (by omega) hl hlen

end Go.Proofs.Ytdmkphalihdmlaa
