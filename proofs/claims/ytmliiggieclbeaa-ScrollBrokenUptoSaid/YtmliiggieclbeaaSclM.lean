/- The laws' fresh disk, and awake. -/
import Derived.Test.YtmliiggieclbeaaSclL
namespace Go.Proofs.Ytmliiggieclbeaa
open Go.RowKit

def FreshPost (N : Nat) (w : World) (e : Ending) (w' : World) : Prop :=
  ∃ d g p, e = .returned (.tuple #[.pointer (some ⟨d, 0, none⟩), .pointer (some ⟨p, 0, none⟩), .bool true]) ∧ Live w' d g p (DS.fresh N) 1 0 [] ∧ Below w.heap.size w w' ∧ w.heap.size ≤ d ∧ w.heap.size ≤ g ∧ w.heap.size ≤ p

set_option maxRecDepth 100000 in
set_option maxHeartbeats 1000000 in
theorem fresh_any (w : World) (n : Int) (N : Nat) (hN : Hid (N = (3 + n % 97).toNat)) :
    Calls Try.prog 14 #[.int .i64 n] w (FreshPost N w) := by
  have h97 : 0 ≤ n % 97 ∧ n % 97 < 97 := ⟨Int.emod_nonneg _ (by decide), Int.emod_lt_of_pos _ (by decide)⟩
  have hNi : (N : Int) = 3 + n % 97 := by have := hN.out; omega
  have HP := Lib.hid (fun w => place_any n 97 w (by omega) (by omega))
  have HNI := Lib.hid hNi
  obtain ⟨m, hm⟩ : ∃ m, Hid (n % 97 = m) := ⟨_, rfl⟩
  rw [hm.out] at h97 hNi HP
  clear hNi
  go_enter Try.func14, Try.ntmps14
  go_wp2_with fail
  refine (HP.out w).mono ?_
  rintro e w1 ⟨rfl, rfl⟩
  have HN := Lib.hid (fun W => new_yes (3 + m) W (by omega) (by omega))
  go_wp2_with fail
  refine (HN.out w).mono ?_
  rintro e w1 ⟨rfl, b1, d1⟩
  have hNN : (3 + m).toNat = N := by have := HNI.out; have := hm.out; omega
  rw [hNN] at d1
  have hlo : 3 ≤ N := by omega
  have HF := Lib.hid (format_new w1 _ _ N d1 hlo)
  have hd1 := d1.lt
  clear d1 HN
  go_wp2_with fail
  refine HF.out.mono ?_
  rintro e w2 ⟨rfl, k2, d2⟩
  have hB2 : Below w.heap.size w w2 := bel_nextK b1 k2 (fun k hk => by omega)
  have HO := Lib.hid (open_live w2 _ _ _ 1 0 [] d2 (fresh_byd N) hlo (fresh_scroll N))
  have hz2 := k2.size
  clear d2 HF
  go_wp2_with fail
  refine HO.out.mono ?_
  rintro e w3 ⟨p, A, c, vs, rfl, hl, hp, _, _, b3⟩
  have HL := Lib.hid hl
  have HB3 := Lib.hid (bel_next hB2 b3)
  clear HO hl b3
  go_wp2_with fail
  go_ret3
  exact ⟨_, _, p, rfl, HL.out, HB3.out, by omega, by omega, by omega⟩

theorem rws_one {S : Nat → Prop} {w : World} {base A c : Nat} {vs : List Value} {r : List Int} (ho : w.ownsRow base 22 1 (.slice (some ⟨A, 0, none⟩) 1 c) 1 vs) (hr : Rws S w vs [r]) : ∃ g c2, w.cell? ⟨A, 0, none⟩ = some (.slice (some ⟨g, 0, none⟩) r.length c2) ∧ RowB w g r := by
  obtain ⟨g, c2, h1, _, _, h2⟩ := hr.at_ 0 r rfl
  obtain ⟨x, hx, _, hc⟩ := (RdV.of_own ho).at_ 0 _ h1
  cases hx
  exact ⟨g, c2, hc, h2⟩

set_option maxRecDepth 100000 in
set_option maxHeartbeats 4000000 in
theorem awake_any (w : World) : Calls Try.prog 13 #[] w fun e w' => e = .returned (.bool true) ∧ Below w.heap.size w w' := by
  go_enter Try.func13, Try.ntmps13
  go_wp2_with fail
  refine (new_yes 7 w (by omega) (by omega)).mono ?_
  rintro e w1 ⟨rfl, b1, d1⟩
  have HF := Lib.hid (format_new w1 _ _ 7 d1 (by omega))
  have hd1 := d1.lt
  clear d1
  go_wp2_with fail
  refine HF.out.mono ?_
  rintro e w2 ⟨rfl, k2, d2⟩
  have hB2 : Below w.heap.size w w2 := bel_nextK b1 k2 (fun k hk => by omega)
  have hz2 := k2.size
  have HO := Lib.hid (open_live w2 _ _ _ 1 0 [] d2 (fresh_byd 7) (by show 3 ≤ 7; omega) (fresh_scroll 7))
  clear d2 HF k2
  go_wp2_with fail
  refine HO.out.mono ?_
  rintro e w3 ⟨p, A, c, vs, rfl, hl, hp, _, _, b3⟩
  have hB3 := bel_next hB2 b3
  have HL := Lib.hid hl
  have HR := Lib.hid (room_any w3 p _ _ _ _ hl.disk hl.scr hl.le.2.1)
  clear HO hl
  go_wp2_with fail
  refine HR.out.mono ?_
  rintro e w4 ⟨rfl, dr4⟩
  rw [show halfN (DS.fresh 7).n - total [] = 3 from rfl]
  have hl4 := HL.out.below (dr4.below _)
  have hB4 := bel_next hB3 (dr4.below _)
  have hRow : RowB (w4.alloc (.cells #[.int .u8 7, .int .u8 8] 5)) w4.heap.size [7, 8] := RowB.of_blk (Blk.new w4 _ _)
  have hAl : Below w4.heap.size w4 (w4.alloc (.cells #[.int .u8 7, .int .u8 8] 5)) := (Below.refl _ _).alloc (Nat.le_refl _) _
  have HA : Hid (Calls Try.prog 16 #[.pointer (some ⟨p, 0, none⟩), .slice (some ⟨w4.heap.size, 0, none⟩) 2 2] (w4.alloc (.cells #[.int .u8 7, .int .u8 8] 5)) fun e w' => ∃ s', e = .returned (.int .i64 0) ∧ Live w' (w.heap.size + 1) w.heap.size p s' 1 0 [[7, 8]] ∧ s'.n = 7 ∧ Kp (DGP (w.heap.size + 1) w.heap.size p) (w4.alloc (.cells #[.int .u8 7, .int .u8 8] 5)) w') :=
    (append_live _ p _ _ w4.heap.size 2 (DS.fresh 7) 1 0 [] [7, 8] (hl4.below hAl) hRow (Nat.le_refl _) (by intro z hz; simp at hz; omega) ⟨by decide, by decide⟩ (by decide) (by show (0 : Int) + 1 + 8 ≤ _; decide)).mono (fun e w' ⟨E, s', he, hl, hk⟩ => by
      cases hl with
      | ok _ l ho ho' hf hgo => exact ⟨_, he, l, hgo.n, hk⟩
      | cut _ l hp ho' hgo => exact absurd ⟨rfl, rfl⟩ hp)
  have hpw : w.heap.size ≤ p := by have := hB2.size; omega
  clear hRow HR hl4
  go_wp2_with fail
  refine HA.out.mono ?_
  rintro e w5 ⟨s', rfl, hl5, hn7, hk5⟩
  have hB5 : Below w.heap.size w w5 := bel_nextK (bel_next hB4 hAl) hk5 (fun k hk => by rcases hk with h | h | h <;> omega)
  have hc1 : s'.c 1 = pieceL 1 0 0 [7, 8] := by
    have := hl5.on.rows.laid [] [7, 8] [] rfl 0 (by decide)
    rw [hn7] at this
    exact this
  have HRD := Lib.hid (read_yes w5 _ _ s' hl5.disk 1 (by omega) (by rw [hn7]; omega))
  have HL5 := Lib.hid hl5
  clear hl5 HA hk5
  go_wp2_with fail
  refine HRD.out.mono ?_
  rintro e w6 ⟨rfl, b6, k6⟩
  rw [show (1 : Int).toNat = 1 from rfl, hc1] at k6
  have hl6 := HL5.out.below b6
  have HO := Lib.hid (open_live w6 _ _ s' 1 0 [[7, 8]] hl6.disk hl6.byd (by rw [hn7]; omega) hl6.on)
  have HL6 := Lib.hid hl6
  clear hl6 HRD
  go_wp2_with fail
  refine HO.out.mono ?_
  rintro e w7 ⟨p2, A2, c2, vs2, rfl, hl7, hp2, ho7, hr7, b7⟩
  obtain ⟨ga, rfl, hca, _, hga⟩ := own_some ho7 (by decide)
  obtain ⟨g2, c3, hcell, hrow⟩ := rws_one ho7 hr7
  have hl7' := HL6.out.below b7
  have k7 := k6.below b7
  have e0 : w7.cell? ⟨w5.heap.size, 0, none⟩ = some (.int .u8 1) := by rw [k7.cell]; rfl
  have e11 : w7.cell? ⟨w5.heap.size, 11, none⟩ = some (.int .u8 7) := by rw [k7.cell]; rfl
  have hA7 : Below w7.heap.size w7 (w7.alloc (.cells #[.int .u8 7, .int .u8 8] 5)) := (Below.refl _ _).alloc (Nat.le_refl _) _
  have HSM : Hid (Calls Try.prog 25 #[.slice (some ⟨g2, 0, none⟩) 2 c3, .slice (some ⟨w7.heap.size, 0, none⟩) 2 2] (w7.alloc (.cells #[.int .u8 7, .int .u8 8] 5)) fun e w' => e = .returned (.bool true) ∧ Drawn (w7.alloc (.cells #[.int .u8 7, .int .u8 8] 5)) w') :=
    (same_any (some ⟨g2, 0, none⟩) (some ⟨w7.heap.size, 0, none⟩) c3 2 [7, 8] [7, 8] _ (hrow.below hA7).rd (Blk.new w7 _ _ : Blk _ _ (ints .u8 [7, 8]).toArray _).rdl (by decide) (by decide)).mono (fun e w' ⟨he, hd⟩ => ⟨by rw [he]; rfl, hd⟩)
  have HB7 := Lib.hid (bel_next (bel_next hB5 b6) b7)
  have HL7 := Lib.hid hl7'
  clear ho7 hr7 hrow hl7 hl7' k6 k7 b6 b7 HO
  go_wp2_with fail
  refine HSM.out.mono ?_
  rintro e w8 ⟨rfl, d8⟩
  have e0' : w8.cell? ⟨w5.heap.size, 0, none⟩ = some (.int .u8 1) := cell_keep (hA7.trans (d8.below _)) e0
  have e11' : w8.cell? ⟨w5.heap.size, 11, none⟩ = some (.int .u8 7) := cell_keep (hA7.trans (d8.below _)) e11
  have hl8 := HL7.out.below (bel_next hA7 (d8.below _))
  have hB8 := bel_next HB7.out (bel_next hA7 (d8.below _))
  have HR := Lib.hid (room_any w8 p _ _ _ _ hl8.disk hl8.scr hl8.le.2.1)
  clear hl8 HSM e0 e11 hcell d8
  go_wp2_with fail
  refine HR.out.mono ?_
  rintro e w9 ⟨rfl, d9⟩
  rw [show halfN s'.n - total [[7, 8]] = 2 by rw [hn7]; rfl]
  have hB9 := bel_next hB8 (d9.below _)
  go_wp2_with fail
  go_ret
  exact ⟨rfl, hB9⟩

end Go.Proofs.Ytmliiggieclbeaa
