/- BlockFuses: behind a fuse just so many good writes are done: the walk. -/
import Derived.Test.YtdmkphalihdmlaaBlkD
import Derived.Deep.RegionHeld3
namespace Go.Proofs.Ytdmkphalihdmlaa
open Go.RowKit

structure FuseInv (w wr : World) (n : Nat) (fuse : Int) (i : Nat) (done : Int) (off : Bool) (s : DS) : Prop where
  bel : Below w.heap.size w wr
  disk : DiskAt wr (w.heap.size + 1) w.heap.size s
  n_ : s.n = n
  done0 : 0 ≤ done
  done1 : done ≤ i
  done2 : done ≤ fuse
  writes : s.writes = done
  off_ : s.off = off
  on_ : off = false → s.fuse = fuse - done

set_option maxRecDepth 100000 in
set_option maxHeartbeats 2000000 in
theorem fuses_yes (n fuse : Int) (A : Option Addr) (len cap : Nat) (l : List Int) (w : World) (h1 : 1 ≤ n) (h2 : n ≤ 1024) (hf : 0 ≤ fuse) (hf2 : fuse ≤ 9223372036854775807) (hl : ArgInts .i64 w A len l) (hlen : len * 8 ≤ 140737488351232) :
    Calls Try.prog 5 #[.int .i64 n, .int .i64 fuse, .slice A len cap] w fun e w' => e = .returned (.bool true) ∧ Below w.heap.size w w' := by
  go_enter Try.func5, Try.ntmps5
  go_wp2_with fail
  refine (new_yes n w h1 h2).mono ?_
  rintro e w1 ⟨rfl, b1, d1⟩
  go_wp2_with fail
  refine (fuse_any w1 _ _ _ d1 fuse hf2).mono ?_
  rintro e w2 ⟨rfl, b2, d2⟩
  rw [show (DS.new n.toNat).fuseE fuse = 0 by unfold DS.fuseE; rw [if_neg (by omega)]; rfl]
  rw [show (DS.new n.toNat).fuseS fuse = { DS.new n.toNat with fuse := fuse } by unfold DS.fuseS; rw [if_neg (by omega)]; rfl] at d2
  go_wp2_with fail
  go_loopw [9, 10, 11] (fun v9 v10 v11 wr => ∃ i : Nat, i ≤ len ∧ v11 = .int .i64 i ∧ ∃ done off s, v9 = .int .i64 done ∧ v10 = .bool off ∧ FuseInv w wr n.toNat fuse i done off s) (fun _ _ v _ => len - (intOf v).toNat)
  case atStart =>
    exact ⟨0, Nat.zero_le _, rfl, 0, false, _, rfl, rfl, bel_nextK b1 b2 (fun k hk => by omega), d2, rfl, by omega, by omega, hf, rfl, rfl, fun _ => by show fuse = _; omega⟩
  case round =>
    obtain ⟨i, hi, rfl, done, off, s, rfl, rfl, hinv⟩ := hrel
    have z0 := b1.size
    have zd := hinv.disk.lt
    have hn := hinv.n_
    have q0 := hinv.done0
    have q1 := hinv.done1
    have q2 := hinv.done2
    by_cases hlt : i < len
    · obtain ⟨x, rfl, hx⟩ := (hl.below hinv.bel).at_ i hlt
      obtain ⟨at', hat⟩ : ∃ n, Hid (l.getD i 0 = n) := ⟨_, rfl⟩
      rw [hat.out] at hx
      by_cases hg : 0 ≤ at' ∧ at' < n
      · obtain ⟨hg0, hg1⟩ := hg
        have hgood : s.has at' := ⟨hg0, by omega⟩
        cases off with
        | true =>
          go_wp2_with fail
          go_region_held3 (fun w' => w'.cell? (x.add i) = some (.int .i64 at')) ((first | assumption | exact cell_keep b2 hx | exact c3)) (first | (go_at_call 13; refine (bytes64 _ _).mono ?_; rintro e w2 ⟨rfl, b2', k2⟩; have b2 := below_undrew b2') | (go_at_call 12; refine (write_at w2 _ _ _ (hinv.disk.below b2) at' wr.heap.size _ _ (bytes64_length _) k2 (by omega) (by rw [hinv.writes]; omega)).mono ?_; rintro e w3 ⟨rfl, b3, d3⟩; have B3 := bel_nextK (bel_next hinv.bel b2) b3 (fun k hk => by omega); have c3 := (hl.below B3).cell hlt hat))
          rw [show s.writeE at' (bytesL 64 ↑i) = 21 by unfold DS.writeE; simp [hgood, bytes64_length, hinv.off_]]
          rw [show s.writeS at' (bytesL 64 ↑i) = s by unfold DS.writeS; simp [hgood, bytes64_length, hinv.off_]] at d3
          go_wp2_with fail
          refine (on_any w3 _ _ _ d3).mono ?_
          rintro e w4 ⟨rfl, rfl⟩
          rw [hinv.off_]
          go_wp2_with fail
          refine (writes_any w3 _ _ _ d3).mono ?_
          rintro e w4 ⟨rfl, rfl⟩
          rw [hinv.writes]
          go_wp2_with fail
          go_roundw
          case rel => exact ⟨i + 1, by omega, by go_num, _, _, _, rfl, rfl, B3, d3, hn, q0, by omega, q2, hinv.writes, hinv.off_, hinv.on_⟩
          case measure => simp [intOf]; omega
        | false =>
          have hon := hinv.on_ rfl
          by_cases hd : fuse ≤ done
          · go_wp2_with fail
            go_region_held3 (fun w' => w'.cell? (x.add i) = some (.int .i64 at')) ((first | assumption | exact cell_keep b2 hx | exact c3)) (first | (go_at_call 13; refine (bytes64 _ _).mono ?_; rintro e w2 ⟨rfl, b2', k2⟩; have b2 := below_undrew b2') | (go_at_call 12; refine (write_at w2 _ _ _ (hinv.disk.below b2) at' wr.heap.size _ _ (bytes64_length _) k2 (by omega) (by rw [hinv.writes]; omega)).mono ?_; rintro e w3 ⟨rfl, b3, d3⟩; have B3 := bel_nextK (bel_next hinv.bel b2) b3 (fun k hk => by omega); have c3 := (hl.below B3).cell hlt hat))
            have hf0 : s.fuse = 0 := by omega
            rw [show s.writeE at' (bytesL 64 ↑i) = 21 by unfold DS.writeE; simp [hgood, bytes64_length, hinv.off_, hf0]]
            rw [show s.writeS at' (bytesL 64 ↑i) = { s with off := true, fuse := -1 } by unfold DS.writeS; simp [hgood, bytes64_length, hinv.off_, hf0]] at d3
            clear hf0 hon
            go_wp2_with fail
            refine (on_any w3 _ _ _ d3).mono ?_
            rintro e w4 ⟨rfl, rfl⟩
            go_wp2_with fail
            refine (writes_any w3 _ _ _ d3).mono ?_
            rintro e w4 ⟨rfl, rfl⟩
            rw [hinv.writes]
            go_wp2_with fail
            go_roundw
            case rel => exact ⟨i + 1, by omega, by go_num, _, _, _, rfl, rfl, B3, d3, hn, q0, by omega, q2, hinv.writes, rfl, fun h => by cases h⟩
            case measure => simp [intOf]; omega
          · go_wp2_with fail
            go_region_held3 (fun w' => w'.cell? (x.add i) = some (.int .i64 at')) ((first | assumption | exact cell_keep b2 hx | exact c3)) (first | (go_at_call 13; refine (bytes64 _ _).mono ?_; rintro e w2 ⟨rfl, b2', k2⟩; have b2 := below_undrew b2') | (go_at_call 12; refine (write_at w2 _ _ _ (hinv.disk.below b2) at' wr.heap.size _ _ (bytes64_length _) k2 (by omega) (by rw [hinv.writes]; omega)).mono ?_; rintro e w3 ⟨rfl, b3, d3⟩; have B3 := bel_nextK (bel_next hinv.bel b2) b3 (fun k hk => by omega); have c3 := (hl.below B3).cell hlt hat))
            obtain ⟨e1, e2⟩ := DS.writeS_put hgood (bytes64_length ↑i) hinv.off_ (show s.fuse ≠ 0 by omega)
            rw [e2]
            rw [e1] at d3
            clear e1 e2 hon
            go_wp2_with fail
            refine (on_any w3 _ _ _ d3).mono ?_
            rintro e w4 ⟨rfl, rfl⟩
            rw [show (s.put at' (bytesL 64 ↑i)).off = false from hinv.off_]
            go_wp2_with fail
            refine (writes_any w3 _ _ _ d3).mono ?_
            rintro e w4 ⟨rfl, rfl⟩
            rw [show (s.put at' (bytesL 64 ↑i)).writes = done + 1 by show s.writes + 1 = _; rw [hinv.writes]]
            go_wp2_with fail
            go_roundw
            case rel => exact ⟨i + 1, by omega, by go_num, done + 1, _, _, rfl, rfl, B3, d3, hn, by omega, by omega, by omega, by show s.writes + 1 = _; rw [hinv.writes], hinv.off_, fun _ => by
              have := hinv.on_ rfl
              show (if s.fuse = -1 then -1 else s.fuse - 1) = _
              rw [if_neg (by omega)]; omega⟩
            case measure => simp [intOf]; omega
      · have hgood : ¬ s.has at' := fun h => hg ⟨h.1, by have := h.2; omega⟩
        have HG := Lib.hid hg
        clear hg
        rcases (show at' < 0 ∨ n ≤ at' by have := HG.out; omega) with hlo | hlo
        · go_wp2_with fail
          go_region_held3 (fun w' => w'.cell? (x.add i) = some (.int .i64 at')) ((first | assumption | exact cell_keep b2 hx | exact c3)) (first | (go_at_call 13; refine (bytes64 _ _).mono ?_; rintro e w2 ⟨rfl, b2', k2⟩; have b2 := below_undrew b2') | (go_at_call 12; refine (write_at w2 _ _ _ (hinv.disk.below b2) at' wr.heap.size _ _ (bytes64_length _) k2 (by omega) (by rw [hinv.writes]; omega)).mono ?_; rintro e w3 ⟨rfl, b3, d3⟩; have B3 := bel_nextK (bel_next hinv.bel b2) b3 (fun k hk => by omega); have c3 := (hl.below B3).cell hlt hat))
          rw [show s.writeE at' (bytesL 64 ↑i) = 20 by unfold DS.writeE; simp [hgood]]
          rw [show s.writeS at' (bytesL 64 ↑i) = s by unfold DS.writeS; simp [hgood]] at d3
          go_wp2_with fail
          refine (on_any w3 _ _ _ d3).mono ?_
          rintro e w4 ⟨rfl, rfl⟩
          rw [hinv.off_]
          go_wp2_with fail
          refine (writes_any w3 _ _ _ d3).mono ?_
          rintro e w4 ⟨rfl, rfl⟩
          rw [hinv.writes]
          go_wp2_with fail
          go_roundw
          case rel => exact ⟨i + 1, by omega, by go_num, _, _, _, rfl, rfl, B3, d3, hn, q0, by omega, q2, hinv.writes, hinv.off_, hinv.on_⟩
          case measure => simp [intOf]; omega
        · have hlo2 : 0 ≤ at' := by omega
          have hdn : decide (at' < n) = false := by simp; omega
          go_wp2_with fail
          go_region_held3 (fun w' => w'.cell? (x.add i) = some (.int .i64 at')) ((first | assumption | exact cell_keep b2 hx | exact c3)) (first | (go_at_call 13; refine (bytes64 _ _).mono ?_; rintro e w2 ⟨rfl, b2', k2⟩; have b2 := below_undrew b2') | (go_at_call 12; refine (write_at w2 _ _ _ (hinv.disk.below b2) at' wr.heap.size _ _ (bytes64_length _) k2 (by omega) (by rw [hinv.writes]; omega)).mono ?_; rintro e w3 ⟨rfl, b3, d3⟩; have B3 := bel_nextK (bel_next hinv.bel b2) b3 (fun k hk => by omega); have c3 := (hl.below B3).cell hlt hat))
          rw [show s.writeE at' (bytesL 64 ↑i) = 20 by unfold DS.writeE; simp [hgood]]
          rw [show s.writeS at' (bytesL 64 ↑i) = s by unfold DS.writeS; simp [hgood]] at d3
          go_wp2_with fail
          refine (on_any w3 _ _ _ d3).mono ?_
          rintro e w4 ⟨rfl, rfl⟩
          rw [hinv.off_]
          go_wp2_with fail
          refine (writes_any w3 _ _ _ d3).mono ?_
          rintro e w4 ⟨rfl, rfl⟩
          rw [hinv.writes]
          go_wp2_with fail
          go_roundw
          case rel => exact ⟨i + 1, by omega, by go_num, _, _, _, rfl, rfl, B3, d3, hn, q0, by omega, q2, hinv.writes, hinv.off_, hinv.on_⟩
          case measure => simp [intOf]; omega
    · go_wp2_with fail
      refine (power_any wr _ _ _ hinv.disk).mono ?_
      rintro e w2 ⟨rfl, b2, d2⟩
      go_wp2_with fail
      refine (on_any w2 _ _ _ d2).mono ?_
      rintro e w3 ⟨rfl, rfl⟩
      go_wp2_with fail
      refine (bytes64 1 w2).mono ?_
      rintro e w3 ⟨rfl, b3, k3⟩
      have zs := b2.size
      go_wp2_with fail
      refine (write_yes w3 _ _ _ (d2.below b3) 0 (by omega) (by show (0 : Int) < s.n; omega) w2.heap.size _ _ (bytes64_length _) k3 (by omega) rfl (by show (-1 : Int) ≠ 0; omega) (by show s.writes + 1 ≤ _; rw [hinv.writes]; omega)).mono ?_
      rintro e w4 ⟨rfl, b4, d4⟩
      go_wp2_with fail
      refine (writes_any w4 _ _ _ d4).mono ?_
      rintro e w5 ⟨rfl, rfl⟩
      rw [show (DS.put { s with off := false, fuse := -1 } 0 (bytesL 64 1)).writes = done + 1 by show s.writes + 1 = _; rw [hinv.writes]]
      go_wp2_with fail
      refine (awake_any w4).mono ?_
      rintro e w5 ⟨rfl, b5⟩
      go_wp2_with fail
      go_ret
      have B2 := bel_nextK hinv.bel b2 (fun k hk => by omega)
      exact ⟨rfl, bel_next (bel_nextK (bel_next B2 b3) b4 (fun k hk => by omega)) b5⟩

set_option maxRecDepth 100000 in
set_option maxHeartbeats 2000000 in
theorem fuses_neg (n fuse : Int) (A : Option Addr) (len cap : Nat) (w : World) (h1 : 1 ≤ n) (h2 : n ≤ 1024) (hf : fuse < 0) :
    Calls Try.prog 5 #[.int .i64 n, .int .i64 fuse, .slice A len cap] w fun e w' => e = .returned (.bool true) ∧ Below w.heap.size w w' := by
  go_enter Try.func5, Try.ntmps5
  go_wp2_with fail
  refine (new_yes n w h1 h2).mono ?_
  rintro e w1 ⟨rfl, b1, d1⟩
  go_wp2_with fail
  refine (fuse_any w1 _ _ _ d1 fuse (by omega)).mono ?_
  rintro e w2 ⟨rfl, b2, d2⟩
  rw [show (DS.new n.toNat).fuseE fuse = 1 by unfold DS.fuseE; rw [if_pos hf]]
  rw [show (DS.new n.toNat).fuseS fuse = DS.new n.toNat by unfold DS.fuseS; rw [if_pos hf]] at d2
  go_wp2_with fail
  refine (on_any w2 _ _ _ d2).mono ?_
  rintro e w3 ⟨rfl, rfl⟩
  go_wp2_with fail
  refine (awake_any w2).mono ?_
  rintro e w4 ⟨rfl, b4⟩
  go_wp2_with fail
  go_ret
  exact ⟨rfl, bel_next (bel_nextK b1 b2 (fun k hk => by omega)) b4⟩

set_option maxRecDepth 100000 in
set_option maxHeartbeats 2000000 in
theorem fuses_no (n fuse : Int) (A : Option Addr) (len cap : Nat) (w : World) (h : n < 1 ∨ 1024 < n) :
    Calls Try.prog 5 #[.int .i64 n, .int .i64 fuse, .slice A len cap] w fun e w' => e = .returned (.bool true) ∧ Below w.heap.size w w' := by
  rcases h with h | h
  all_goals
    go_enter Try.func5, Try.ntmps5
    go_wp2_with fail
    refine (new_bad n w (by omega)).mono ?_
    rintro e w1 ⟨rfl, rfl⟩
    go_wp2_with fail
    refine (awake_any w).mono ?_
    rintro e w4 ⟨rfl, b4⟩
    go_wp2_with fail
    go_ret
    exact ⟨rfl, b4⟩

/-- As the row hands it over. -/
theorem fuses_law (n : Int) (_ : (Lit.int .i64 n).wf = true) (fuse : Int) (hf : (Lit.int .i64 fuse).wf = true) (A : Option Addr) (len cap : Nat) (l : List Int) {W : World} (hl : ArgInts .i64 W A len l) (hlen : len * 8 ≤ 140737488351232) :
    Calls Try.prog 5 #[.int .i64 n, .int .i64 fuse, .slice A len cap] W fun e w' => e = .returned (.bool true) ∧ Below W.heap.size W w' := by
  have := wf_i64 hf
  by_cases h : n < 1 ∨ 1024 < n
  · exact fuses_no n fuse A len cap W h
  · by_cases h' : fuse < 0
    · exact fuses_neg n fuse A len cap W (by omega) (by omega) h'
    · exact fuses_yes n fuse A len cap l W (by omega) (by omega) (by omega) (by omega) hl hlen

end Go.Proofs.Ytdmkphalihdmlaa
