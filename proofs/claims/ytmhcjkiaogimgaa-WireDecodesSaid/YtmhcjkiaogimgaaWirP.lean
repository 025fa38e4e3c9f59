/- WirePacks: the walk. -/
import Derived.Test.YtmhcjkiaogimgaaWirO
import Derived.Test.YtmhcjkiaogimgaaWirK
namespace Go.Proofs.Ytmhcjkiaogimgaa
open Go.RowKit

theorem NoteD.packL_len (n : NoteD) : n.packL.length ≤ 10000 := by
  cases hok : n.ok with
  | false => rw [NoteD.packL, hok]; simp
  | true =>
    obtain ⟨hkind, _, ⟨o1, o2, o3, o4, o5, o6, o7⟩, h3, h5⟩ := NoteD.ok_parts hok
    rw [NoteD.packL, hok, if_pos rfl, NoteD.enc]
    have f1 := vb_length_i64 (okN_fit o1).2
    have f2 := vb_length_i64 (okN_fit o2).2
    have f3 := vb_length_i64 (okN_fit o3).2
    have f4 := vb_length_i64 (okN_fit o4).2
    have f5 := vb_length_i64 (okN_fit o5).2
    have f6 := vb_length_i64 (okN_fit o6).2
    have f7 := vb_length_i64 (okN_fit o7).2
    split
    · simp only [List.length_append, List.length_cons, List.length_nil]; omega
    · split
      · simp only [List.length_append, List.length_cons, List.length_nil]; omega
      · split
        · next h => have := EntryD.enc_length (EntryD.ok_fit (h3 h).2); simp only [List.length_append, List.length_cons, List.length_nil]; omega
        · split
          · next h => have := OpD.enc_length (OpD.ok_fit (h5 h)); simp only [List.length_append, List.length_cons, List.length_nil]; omega
          · simp only [List.length_append, List.length_cons, List.length_nil]; omega

set_option maxHeartbeats 2000000 in
theorem packs_law (n : NoteD) {W : World} : Calls Try.prog 5 #[.agg n.cells.toArray] W fun e w' => e = .returned (.bool true) ∧ Below W.heap.size W w' := by
  obtain ⟨xs, hxs⟩ : ∃ xs, xs = n.cells.toArray := ⟨_, rfl⟩
  have hA : ∀ V, V = W.alloc (.cells xs 51) → NoteAt V W.heap.size n ∧ Below W.heap.size W V := by rw [hxs]; exact nat_add n W
  rw [← hxs]
  clear hxs
  obtain ⟨V, hV⟩ : ∃ V, V = W.alloc (.cells xs 51) := ⟨_, rfl⟩
  obtain ⟨hN, hB⟩ := hA V hV
  have HV := Lib.hid hV
  clear hA hV
  have hlen : Hid (n.packL.length ≤ 9223372036854775807) := by have := n.packL_len; show _ ≤ _; omega
  go_enter Try.func5, Try.ntmps5
  go_upto_region 1 with fail
  rw [← HV.out]
  go_wp2_with (first | ((with_reducible refine wpList_load_note (op := ⟨_, Op.load 51 _, _, _, _, _⟩) rfl _ rfl _ _ ?_ hN ?_); rfl))
  refine (pack_any n _ ⟨rfl⟩ _).mono ?_
  rintro e w1 ⟨A, c, rfl, o1, b1⟩
  have hN1 := hN.below b1
  have r1 := rd_of_own o1
  have B1 := bel_next hB b1
  clear o1 b1 hN hB
  go_wp2_with (first | ((with_reducible refine wpList_load_note (op := ⟨_, Op.load 51 _, _, _, _, _⟩) rfl _ rfl _ _ ?_ hN1 ?_); rfl))
  refine (rpack_any n _ ⟨rfl⟩ _).mono ?_
  rintro e w2 ⟨A2, c2, rfl, o2, b2⟩
  have r2 := rd_of_own o2
  have r3 := r1.below b2
  have B2 := Lib.hid (bel_next B1 b2)
  clear o2 b2 r1 B1 hN1
  have hl := hlen.out
  clear hlen
  generalize n.packL = l at *
  generalize n.packE = E at *
  have hlen := Lib.hid hl
  clear hl
  go_wp2_with fail
  refine (same_any A A2 c c2 l l _ r3 r2 hlen.out hlen.out).mono ?_
  rintro e w3 ⟨rfl, d3⟩
  have B3 := Lib.hid (bel_next B2.out (d3.below _))
  clear d3
  go_wp2_with fail
  refine (awake_any _).mono ?_
  rintro e w4 ⟨rfl, b4⟩
  go_wp2_with fail
  go_ret
  exact ⟨rfl, bel_next B3.out b4⟩

end Go.Proofs.Ytmhcjkiaogimgaa
