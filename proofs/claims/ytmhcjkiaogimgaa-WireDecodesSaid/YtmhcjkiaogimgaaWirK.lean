/- The document's Pack: a note's bytes. -/
import Derived.Test.YtmhcjkiaogimgaaWirF2
import Derived.Test.YtmhcjkiaogimgaaWirI
import Derived.Test.YtmhcjkiaogimgaaWirJ
namespace Go.Proofs.Ytmhcjkiaogimgaa
open Go.RowKit

theorem RBox.note {w W wr : World} {n : NoteD} {A : Option Addr} {c : Nat} {l : List Int} (h : RBox w W n.cells.toArray 51 wr A c l) : NoteAt wr w.heap.size n := ⟨h.box⟩
theorem RBox.res {w W wr : World} {cs : Array Value} {t : TypeId} {A : Option Addr} {c n : Nat} {l l2 : List Int} (h : RBox w W cs t wr A c l) (hl : l = l2) (hn : l2.length = n) {e : Ending} (he : e = .returned (.tuple #[.slice A n c, .int .i64 0])) : OwnRes l2 0 w e wr := by
  subst hl; subst hn
  exact ⟨A, c, he, own_low h.row.own h.bel.size, bel_next h.bel h.row.bel⟩

set_option maxRecDepth 100000 in
set_option maxHeartbeats 8000000 in
theorem rpack_1 (n : NoteD) (xs : Array Value) (hx : IsNote xs n) (w : World) (hk : n.kind = 1) (hok : Hid (n.ok = true)) (hL : Hid (n.packL = n.enc)) (hE : Hid (n.packE = 0)) (f0 : Hid (0 ≤ n.epoch ∧ n.epoch ≤ 9223372036854775807)) : Calls Try.prog 20 #[.agg xs] w (OwnRes n.packL n.packE w) := by
  have hA : ∀ W, W = w.alloc (.cells xs 51) → NoteAt W w.heap.size n ∧ Below w.heap.size w W := by rw [hx.eq]; exact nat_add n w
  clear hx
  have hgt : ∀ W, W = w.alloc (.cells xs 51) → w.heap.size < W.heap.size := by rintro W rfl; simp
  obtain ⟨W, hW⟩ : ∃ W, W = w.alloc (.cells xs 51) := ⟨_, rfl⟩
  obtain ⟨hN, hB⟩ := hA W hW
  have hlt := hgt W hW
  have HW := Lib.hid hW
  clear hA hgt hW
  have HK := Lib.hid hk
  have henc : Hid ([(1 : Int)] ++ vb n.epoch = n.enc) := by show _ = _; rw [NoteD.enc, if_pos hk, hk]; simp
  have g0 : (vb n.epoch).length ≤ 9 := vb_length_i64 f0.out.2
  rw [hL.out, hE.out]
  clear hk
  go_enter Try.func20, Try.ntmps20
  go_upto_region 1 with fail
  rw [← HW.out]
  go_wp2_with (first | ((with_reducible refine wpList_load_note (op := ⟨_, Op.load 51 _, _, _, _, _⟩) rfl _ rfl _ _ ?_ hN ?_); rfl))
  refine (rplainNote_any n _ ⟨rfl⟩ _).mono ?_
  rintro e w1 ⟨rfl, b1⟩
  rw [hok.out]
  have hN1 := hN.below b1
  have B1 := bel_next hB b1
  have I0 : RBox w w1 n.cells.toArray 51 (w1.alloc (.cells #[.int .u8 1] 5)) (some ⟨w1.heap.size, 0, none⟩) 1 [(1 : Int)] := ⟨Row.lit (Below.refl _ _) (Nat.le_refl _) 1 _ rfl, B1, hN1.blk⟩
  have d0 := hN1.nums.1
  rw [HK.out] at d0
  obtain ⟨c0, c1, c2, c3, c4, c12, c13, c14⟩ := I0.note.nums
  rw [HK.out] at c0
  clear hN b1 hB
  have HN1 := Lib.hid hN1
  clear hN1
  go_wp2_with fail
  refine (rnumber_any n.epoch f0.out.2 _).mono ?_
  rintro e v0 ⟨A0, k0, rfl, o0, b0⟩
  obtain ⟨B0, m0, u0, r0, J0⟩ := I0.more o0 b0 (by simp only [List.length_append, List.length_singleton]; omega) 28 (1) _ rfl rfl
  clear o0 b0 c0 c1 c2 c3 c4 c12 c13 c14
  obtain ⟨c0, c1, c2, c3, c4, c12, c13, c14⟩ := J0.out.note.nums
  rw [HK.out] at c0
  go_wp2_with (at_builtin; (with_reducible refine wpList_append_run rfl _ _ _ _ rfl _ _ _ ?_ ?_ r0 ?_); rfl; rfl)
  go_ret2
  exact J0.out.res henc.out (by rw [← henc.out]; simp only [List.length_append, List.length_singleton]) rfl

set_option maxRecDepth 100000 in
set_option maxHeartbeats 8000000 in
theorem rpack_2 (n : NoteD) (xs : Array Value) (hx : IsNote xs n) (w : World) (hk : n.kind = 2) (hok : Hid (n.ok = true)) (hL : Hid (n.packL = n.enc)) (hE : Hid (n.packE = 0)) (f0 : Hid (0 ≤ n.epoch ∧ n.epoch ≤ 9223372036854775807)) (f1 : Hid (0 ≤ n.version ∧ n.version ≤ 9223372036854775807)) (f2 : Hid (0 ≤ n.next ∧ n.next ≤ 9223372036854775807)) : Calls Try.prog 20 #[.agg xs] w (OwnRes n.packL n.packE w) := by
  have hA : ∀ W, W = w.alloc (.cells xs 51) → NoteAt W w.heap.size n ∧ Below w.heap.size w W := by rw [hx.eq]; exact nat_add n w
  clear hx
  have hgt : ∀ W, W = w.alloc (.cells xs 51) → w.heap.size < W.heap.size := by rintro W rfl; simp
  obtain ⟨W, hW⟩ : ∃ W, W = w.alloc (.cells xs 51) := ⟨_, rfl⟩
  obtain ⟨hN, hB⟩ := hA W hW
  have hlt := hgt W hW
  have HW := Lib.hid hW
  clear hA hgt hW
  have HK := Lib.hid hk
  have henc : Hid ([(2 : Int)] ++ vb n.epoch ++ vb n.version ++ vb n.next = n.enc) := by show _ = _; rw [NoteD.enc, if_neg (by omega), if_pos hk, hk]; simp
  have g0 : (vb n.epoch).length ≤ 9 := vb_length_i64 f0.out.2
  have g1 : (vb n.version).length ≤ 9 := vb_length_i64 f1.out.2
  have g2 : (vb n.next).length ≤ 9 := vb_length_i64 f2.out.2
  rw [hL.out, hE.out]
  clear hk
  go_enter Try.func20, Try.ntmps20
  go_upto_region 1 with fail
  rw [← HW.out]
  go_wp2_with (first | ((with_reducible refine wpList_load_note (op := ⟨_, Op.load 51 _, _, _, _, _⟩) rfl _ rfl _ _ ?_ hN ?_); rfl))
  refine (rplainNote_any n _ ⟨rfl⟩ _).mono ?_
  rintro e w1 ⟨rfl, b1⟩
  rw [hok.out]
  have hN1 := hN.below b1
  have B1 := bel_next hB b1
  have I0 : RBox w w1 n.cells.toArray 51 (w1.alloc (.cells #[.int .u8 2] 5)) (some ⟨w1.heap.size, 0, none⟩) 1 [(2 : Int)] := ⟨Row.lit (Below.refl _ _) (Nat.le_refl _) 2 _ rfl, B1, hN1.blk⟩
  have d0 := hN1.nums.1
  rw [HK.out] at d0
  obtain ⟨c0, c1, c2, c3, c4, c12, c13, c14⟩ := I0.note.nums
  rw [HK.out] at c0
  clear hN b1 hB
  have HN1 := Lib.hid hN1
  clear hN1
  go_wp2_with fail
  refine (rnumber_any n.epoch f0.out.2 _).mono ?_
  rintro e v0 ⟨A0, k0, rfl, o0, b0⟩
  obtain ⟨B0, m0, u0, r0, J0⟩ := I0.more o0 b0 (by simp only [List.length_append, List.length_singleton]; omega) 28 (1) _ rfl rfl
  clear o0 b0 c0 c1 c2 c3 c4 c12 c13 c14
  obtain ⟨c0, c1, c2, c3, c4, c12, c13, c14⟩ := J0.out.note.nums
  rw [HK.out] at c0
  go_wp2_with (first | (at_builtin; (with_reducible refine wpList_append_run rfl _ _ _ _ rfl _ _ _ ?_ ?_ r0 ?_); rfl; rfl))
  refine (rnumber_any n.version f1.out.2 _).mono ?_
  rintro e v1 ⟨A1, k1, rfl, o1, b1⟩
  obtain ⟨B1, m1, u1, r1, J1⟩ := J0.out.more o1 b1 (by simp only [List.length_append, List.length_singleton]; omega) 28 (1 + (vb n.epoch).length) _ (by simp only [List.length_append, List.length_singleton]) rfl
  clear o1 b1 c0 c1 c2 c3 c4 c12 c13 c14 r0
  obtain ⟨c0, c1, c2, c3, c4, c12, c13, c14⟩ := J1.out.note.nums
  rw [HK.out] at c0
  go_wp2_with (first | (at_builtin; (with_reducible refine wpList_append_run rfl _ _ _ _ rfl _ _ _ ?_ ?_ r1 ?_); rfl; rfl))
  refine (rnumber_any n.next f2.out.2 _).mono ?_
  rintro e v2 ⟨A2, k2, rfl, o2, b2⟩
  obtain ⟨B2, m2, u2, r2, J2⟩ := J1.out.more o2 b2 (by simp only [List.length_append, List.length_singleton]; omega) 28 (1 + (vb n.epoch).length + (vb n.version).length) _ (by simp only [List.length_append, List.length_singleton]) rfl
  clear o2 b2 c0 c1 c2 c3 c4 c12 c13 c14 r1
  obtain ⟨c0, c1, c2, c3, c4, c12, c13, c14⟩ := J2.out.note.nums
  rw [HK.out] at c0
  go_wp2_with (at_builtin; (with_reducible refine wpList_append_run rfl _ _ _ _ rfl _ _ _ ?_ ?_ r2 ?_); rfl; rfl)
  go_ret2
  exact J2.out.res henc.out (by rw [← henc.out]; simp only [List.length_append, List.length_singleton]) rfl

set_option maxRecDepth 100000 in
set_option maxHeartbeats 8000000 in
theorem rpack_3 (n : NoteD) (xs : Array Value) (hx : IsNote xs n) (w : World) (hk : n.kind = 3) (hok : Hid (n.ok = true)) (hL : Hid (n.packL = n.enc)) (hE : Hid (n.packE = 0)) (hf : n.entry.fit) : Calls Try.prog 20 #[.agg xs] w (OwnRes n.packL n.packE w) := by
  have hA : ∀ W, W = w.alloc (.cells xs 51) → NoteAt W w.heap.size n ∧ Below w.heap.size w W := by rw [hx.eq]; exact nat_add n w
  clear hx
  have hgt : ∀ W, W = w.alloc (.cells xs 51) → w.heap.size < W.heap.size := by rintro W rfl; simp
  obtain ⟨W, hW⟩ : ∃ W, W = w.alloc (.cells xs 51) := ⟨_, rfl⟩
  obtain ⟨hN, hB⟩ := hA W hW
  have hlt := hgt W hW
  have HW := Lib.hid hW
  clear hA hgt hW
  have HK := Lib.hid hk
  have henc : Hid ([(3 : Int)] ++ n.entry.enc = n.enc) := by show _ = _; rw [NoteD.enc, if_neg (by omega), if_neg (by omega), if_pos hk, hk]; simp
  have ge := EntryD.enc_length hf
  have HF := Lib.hid hf
  clear hf
  rw [hL.out, hE.out]
  clear hk
  go_enter Try.func20, Try.ntmps20
  go_upto_region 1 with fail
  rw [← HW.out]
  go_wp2_with (first | ((with_reducible refine wpList_load_note (op := ⟨_, Op.load 51 _, _, _, _, _⟩) rfl _ rfl _ _ ?_ hN ?_); rfl))
  refine (rplainNote_any n _ ⟨rfl⟩ _).mono ?_
  rintro e w1 ⟨rfl, b1⟩
  rw [hok.out]
  have hN1 := hN.below b1
  have B1 := bel_next hB b1
  have I0 : RBox w w1 n.cells.toArray 51 (w1.alloc (.cells #[.int .u8 3] 5)) (some ⟨w1.heap.size, 0, none⟩) 1 [(3 : Int)] := ⟨Row.lit (Below.refl _ _) (Nat.le_refl _) 3 _ rfl, B1, hN1.blk⟩
  have d0 := hN1.nums.1
  rw [HK.out] at d0
  obtain ⟨c0, c1, c2, c3, c4, c12, c13, c14⟩ := I0.note.nums
  rw [HK.out] at c0
  clear hN b1 hB
  have HN1 := Lib.hid hN1
  clear hN1
  have hNx := I0.note
  go_wp2_with (first | ((with_reducible refine wpList_load_entry (op := ⟨_, Op.load 47 _, _, _, _, _⟩) rfl _ rfl _ _ ?_ hNx ?_); rfl))
  refine (rentry_any n.entry HF.out _).mono ?_
  rintro e v0 ⟨A0, k0, rfl, o0, b0⟩
  obtain ⟨B0, m0, u0, r0, J0⟩ := I0.more o0 b0 (by simp only [List.length_append, List.length_singleton]; omega) 28 (1) _ rfl rfl
  clear o0 b0 c0 c1 c2 c3 c4 c12 c13 c14 hNx
  obtain ⟨c0, c1, c2, c3, c4, c12, c13, c14⟩ := J0.out.note.nums
  rw [HK.out] at c0
  go_wp2_with (at_builtin; (with_reducible refine wpList_append_run rfl _ _ _ _ rfl _ _ _ ?_ ?_ r0 ?_); rfl; rfl)
  go_ret2
  exact J0.out.res henc.out (by rw [← henc.out]; simp only [List.length_append, List.length_singleton]) rfl

set_option maxRecDepth 100000 in
set_option maxHeartbeats 8000000 in
theorem rpack_4 (n : NoteD) (xs : Array Value) (hx : IsNote xs n) (w : World) (hk : n.kind = 4) (hok : Hid (n.ok = true)) (hL : Hid (n.packL = n.enc)) (hE : Hid (n.packE = 0)) (f0 : Hid (0 ≤ n.client ∧ n.client ≤ 9223372036854775807)) (f1 : Hid (0 ≤ n.seen.life ∧ n.seen.life ≤ 9223372036854775807)) (f2 : Hid (0 ≤ n.seen.seq ∧ n.seen.seq ≤ 9223372036854775807)) (f3 : Hid (0 ≤ n.seen.err ∧ n.seen.err ≤ 9223372036854775807)) : Calls Try.prog 20 #[.agg xs] w (OwnRes n.packL n.packE w) := by
  have hA : ∀ W, W = w.alloc (.cells xs 51) → NoteAt W w.heap.size n ∧ Below w.heap.size w W := by rw [hx.eq]; exact nat_add n w
  clear hx
  have hgt : ∀ W, W = w.alloc (.cells xs 51) → w.heap.size < W.heap.size := by rintro W rfl; simp
  obtain ⟨W, hW⟩ : ∃ W, W = w.alloc (.cells xs 51) := ⟨_, rfl⟩
  obtain ⟨hN, hB⟩ := hA W hW
  have hlt := hgt W hW
  have HW := Lib.hid hW
  clear hA hgt hW
  have HK := Lib.hid hk
  have henc : Hid ([(4 : Int)] ++ vb n.client ++ vb n.seen.life ++ vb n.seen.seq ++ vb n.seen.err = n.enc) := by show _ = _; rw [NoteD.enc, if_neg (by omega), if_neg (by omega), if_neg (by omega), if_neg (by omega), hk]; simp
  have g0 : (vb n.client).length ≤ 9 := vb_length_i64 f0.out.2
  have g1 : (vb n.seen.life).length ≤ 9 := vb_length_i64 f1.out.2
  have g2 : (vb n.seen.seq).length ≤ 9 := vb_length_i64 f2.out.2
  have g3 : (vb n.seen.err).length ≤ 9 := vb_length_i64 f3.out.2
  rw [hL.out, hE.out]
  clear hk
  go_enter Try.func20, Try.ntmps20
  go_upto_region 1 with fail
  rw [← HW.out]
  go_wp2_with (first | ((with_reducible refine wpList_load_note (op := ⟨_, Op.load 51 _, _, _, _, _⟩) rfl _ rfl _ _ ?_ hN ?_); rfl))
  refine (rplainNote_any n _ ⟨rfl⟩ _).mono ?_
  rintro e w1 ⟨rfl, b1⟩
  rw [hok.out]
  have hN1 := hN.below b1
  have B1 := bel_next hB b1
  have I0 : RBox w w1 n.cells.toArray 51 (w1.alloc (.cells #[.int .u8 4] 5)) (some ⟨w1.heap.size, 0, none⟩) 1 [(4 : Int)] := ⟨Row.lit (Below.refl _ _) (Nat.le_refl _) 4 _ rfl, B1, hN1.blk⟩
  have d0 := hN1.nums.1
  rw [HK.out] at d0
  obtain ⟨c0, c1, c2, c3, c4, c12, c13, c14⟩ := I0.note.nums
  rw [HK.out] at c0
  clear hN b1 hB
  have HN1 := Lib.hid hN1
  clear hN1
  go_wp2_with fail
  refine (rnumber_any n.client f0.out.2 _).mono ?_
  rintro e v0 ⟨A0, k0, rfl, o0, b0⟩
  obtain ⟨B0, m0, u0, r0, J0⟩ := I0.more o0 b0 (by simp only [List.length_append, List.length_singleton]; omega) 28 (1) _ rfl rfl
  clear o0 b0 c0 c1 c2 c3 c4 c12 c13 c14
  obtain ⟨c0, c1, c2, c3, c4, c12, c13, c14⟩ := J0.out.note.nums
  rw [HK.out] at c0
  go_wp2_with (first | (at_builtin; (with_reducible refine wpList_append_run rfl _ _ _ _ rfl _ _ _ ?_ ?_ r0 ?_); rfl; rfl))
  refine (rnumber_any n.seen.life f1.out.2 _).mono ?_
  rintro e v1 ⟨A1, k1, rfl, o1, b1⟩
  obtain ⟨B1, m1, u1, r1, J1⟩ := J0.out.more o1 b1 (by simp only [List.length_append, List.length_singleton]; omega) 28 (1 + (vb n.client).length) _ (by simp only [List.length_append, List.length_singleton]) rfl
  clear o1 b1 c0 c1 c2 c3 c4 c12 c13 c14 r0
  obtain ⟨c0, c1, c2, c3, c4, c12, c13, c14⟩ := J1.out.note.nums
  rw [HK.out] at c0
  go_wp2_with (first | (at_builtin; (with_reducible refine wpList_append_run rfl _ _ _ _ rfl _ _ _ ?_ ?_ r1 ?_); rfl; rfl))
  refine (rnumber_any n.seen.seq f2.out.2 _).mono ?_
  rintro e v2 ⟨A2, k2, rfl, o2, b2⟩
  obtain ⟨B2, m2, u2, r2, J2⟩ := J1.out.more o2 b2 (by simp only [List.length_append, List.length_singleton]; omega) 28 (1 + (vb n.client).length + (vb n.seen.life).length) _ (by simp only [List.length_append, List.length_singleton]) rfl
  clear o2 b2 c0 c1 c2 c3 c4 c12 c13 c14 r1
  obtain ⟨c0, c1, c2, c3, c4, c12, c13, c14⟩ := J2.out.note.nums
  rw [HK.out] at c0
  go_wp2_with (first | (at_builtin; (with_reducible refine wpList_append_run rfl _ _ _ _ rfl _ _ _ ?_ ?_ r2 ?_); rfl; rfl))
  refine (rnumber_any n.seen.err f3.out.2 _).mono ?_
  rintro e v3 ⟨A3, k3, rfl, o3, b3⟩
  obtain ⟨B3, m3, u3, r3, J3⟩ := J2.out.more o3 b3 (by simp only [List.length_append, List.length_singleton]; omega) 28 (1 + (vb n.client).length + (vb n.seen.life).length + (vb n.seen.seq).length) _ (by simp only [List.length_append, List.length_singleton]) rfl
  clear o3 b3 c0 c1 c2 c3 c4 c12 c13 c14 r2
  obtain ⟨c0, c1, c2, c3, c4, c12, c13, c14⟩ := J3.out.note.nums
  rw [HK.out] at c0
  go_wp2_with (at_builtin; (with_reducible refine wpList_append_run rfl _ _ _ _ rfl _ _ _ ?_ ?_ r3 ?_); rfl; rfl)
  go_ret2
  exact J3.out.res henc.out (by rw [← henc.out]; simp only [List.length_append, List.length_singleton]) rfl

set_option maxRecDepth 100000 in
set_option maxHeartbeats 8000000 in
theorem rpack_5 (n : NoteD) (xs : Array Value) (hx : IsNote xs n) (w : World) (hk : n.kind = 5) (hok : Hid (n.ok = true)) (hL : Hid (n.packL = n.enc)) (hE : Hid (n.packE = 0)) (f0 : Hid (0 ≤ n.client ∧ n.client ≤ 9223372036854775807)) (f1 : Hid (0 ≤ n.seen.life ∧ n.seen.life ≤ 9223372036854775807)) (f2 : Hid (0 ≤ n.seen.seq ∧ n.seen.seq ≤ 9223372036854775807)) (f3 : Hid (0 ≤ n.seen.err ∧ n.seen.err ≤ 9223372036854775807)) (hf : n.op.fit) : Calls Try.prog 20 #[.agg xs] w (OwnRes n.packL n.packE w) := by
  have hA : ∀ W, W = w.alloc (.cells xs 51) → NoteAt W w.heap.size n ∧ Below w.heap.size w W := by rw [hx.eq]; exact nat_add n w
  clear hx
  have hgt : ∀ W, W = w.alloc (.cells xs 51) → w.heap.size < W.heap.size := by rintro W rfl; simp
  obtain ⟨W, hW⟩ : ∃ W, W = w.alloc (.cells xs 51) := ⟨_, rfl⟩
  obtain ⟨hN, hB⟩ := hA W hW
  have hlt := hgt W hW
  have HW := Lib.hid hW
  clear hA hgt hW
  have HK := Lib.hid hk
  have henc : Hid ([(5 : Int)] ++ vb n.client ++ vb n.seen.life ++ vb n.seen.seq ++ vb n.seen.err ++ n.op.enc = n.enc) := by show _ = _; rw [NoteD.enc, if_neg (by omega), if_neg (by omega), if_neg (by omega), if_pos hk, hk]; simp
  have g0 : (vb n.client).length ≤ 9 := vb_length_i64 f0.out.2
  have g1 : (vb n.seen.life).length ≤ 9 := vb_length_i64 f1.out.2
  have g2 : (vb n.seen.seq).length ≤ 9 := vb_length_i64 f2.out.2
  have g3 : (vb n.seen.err).length ≤ 9 := vb_length_i64 f3.out.2
  have ge := OpD.enc_length hf
  have HF := Lib.hid hf
  clear hf
  rw [hL.out, hE.out]
  clear hk
  go_enter Try.func20, Try.ntmps20
  go_upto_region 1 with fail
  rw [← HW.out]
  go_wp2_with (first | ((with_reducible refine wpList_load_note (op := ⟨_, Op.load 51 _, _, _, _, _⟩) rfl _ rfl _ _ ?_ hN ?_); rfl))
  refine (rplainNote_any n _ ⟨rfl⟩ _).mono ?_
  rintro e w1 ⟨rfl, b1⟩
  rw [hok.out]
  have hN1 := hN.below b1
  have B1 := bel_next hB b1
  have I0 : RBox w w1 n.cells.toArray 51 (w1.alloc (.cells #[.int .u8 5] 5)) (some ⟨w1.heap.size, 0, none⟩) 1 [(5 : Int)] := ⟨Row.lit (Below.refl _ _) (Nat.le_refl _) 5 _ rfl, B1, hN1.blk⟩
  have d0 := hN1.nums.1
  rw [HK.out] at d0
  obtain ⟨c0, c1, c2, c3, c4, c12, c13, c14⟩ := I0.note.nums
  rw [HK.out] at c0
  clear hN b1 hB
  have HN1 := Lib.hid hN1
  clear hN1
  go_wp2_with fail
  refine (rnumber_any n.client f0.out.2 _).mono ?_
  rintro e v0 ⟨A0, k0, rfl, o0, b0⟩
  obtain ⟨B0, m0, u0, r0, J0⟩ := I0.more o0 b0 (by simp only [List.length_append, List.length_singleton]; omega) 28 (1) _ rfl rfl
  clear o0 b0 c0 c1 c2 c3 c4 c12 c13 c14
  obtain ⟨c0, c1, c2, c3, c4, c12, c13, c14⟩ := J0.out.note.nums
  rw [HK.out] at c0
  go_wp2_with (first | (at_builtin; (with_reducible refine wpList_append_run rfl _ _ _ _ rfl _ _ _ ?_ ?_ r0 ?_); rfl; rfl))
  refine (rnumber_any n.seen.life f1.out.2 _).mono ?_
  rintro e v1 ⟨A1, k1, rfl, o1, b1⟩
  obtain ⟨B1, m1, u1, r1, J1⟩ := J0.out.more o1 b1 (by simp only [List.length_append, List.length_singleton]; omega) 28 (1 + (vb n.client).length) _ (by simp only [List.length_append, List.length_singleton]) rfl
  clear o1 b1 c0 c1 c2 c3 c4 c12 c13 c14 r0
  obtain ⟨c0, c1, c2, c3, c4, c12, c13, c14⟩ := J1.out.note.nums
  rw [HK.out] at c0
  go_wp2_with (first | (at_builtin; (with_reducible refine wpList_append_run rfl _ _ _ _ rfl _ _ _ ?_ ?_ r1 ?_); rfl; rfl))
  refine (rnumber_any n.seen.seq f2.out.2 _).mono ?_
  rintro e v2 ⟨A2, k2, rfl, o2, b2⟩
  obtain ⟨B2, m2, u2, r2, J2⟩ := J1.out.more o2 b2 (by simp only [List.length_append, List.length_singleton]; omega) 28 (1 + (vb n.client).length + (vb n.seen.life).length) _ (by simp only [List.length_append, List.length_singleton]) rfl
  clear o2 b2 c0 c1 c2 c3 c4 c12 c13 c14 r1
  obtain ⟨c0, c1, c2, c3, c4, c12, c13, c14⟩ := J2.out.note.nums
  rw [HK.out] at c0
  go_wp2_with (first | (at_builtin; (with_reducible refine wpList_append_run rfl _ _ _ _ rfl _ _ _ ?_ ?_ r2 ?_); rfl; rfl))
  refine (rnumber_any n.seen.err f3.out.2 _).mono ?_
  rintro e v3 ⟨A3, k3, rfl, o3, b3⟩
  obtain ⟨B3, m3, u3, r3, J3⟩ := J2.out.more o3 b3 (by simp only [List.length_append, List.length_singleton]; omega) 28 (1 + (vb n.client).length + (vb n.seen.life).length + (vb n.seen.seq).length) _ (by simp only [List.length_append, List.length_singleton]) rfl
  clear o3 b3 c0 c1 c2 c3 c4 c12 c13 c14 r2
  obtain ⟨c0, c1, c2, c3, c4, c12, c13, c14⟩ := J3.out.note.nums
  rw [HK.out] at c0
  have hNx := J3.out.note
  go_wp2_with (first | (at_builtin; (with_reducible refine wpList_append_run rfl _ _ _ _ rfl _ _ _ ?_ ?_ r3 ?_); rfl; rfl) | ((with_reducible refine wpList_load_op (op := ⟨_, Op.load 23 _, _, _, _, _⟩) rfl _ rfl _ _ ?_ hNx ?_); rfl))
  refine (rop_any n.op HF.out _).mono ?_
  rintro e v4 ⟨A4, k4, rfl, o4, b4⟩
  obtain ⟨B4, m4, u4, r4, J4⟩ := J3.out.more o4 b4 (by simp only [List.length_append, List.length_singleton]; omega) 28 (1 + (vb n.client).length + (vb n.seen.life).length + (vb n.seen.seq).length + (vb n.seen.err).length) _ (by simp only [List.length_append, List.length_singleton]) rfl
  clear o4 b4 c0 c1 c2 c3 c4 c12 c13 c14 r3 hNx
  obtain ⟨c0, c1, c2, c3, c4, c12, c13, c14⟩ := J4.out.note.nums
  rw [HK.out] at c0
  go_wp2_with (at_builtin; (with_reducible refine wpList_append_run rfl _ _ _ _ rfl _ _ _ ?_ ?_ r4 ?_); rfl; rfl)
  go_ret2
  exact J4.out.res henc.out (by rw [← henc.out]; simp only [List.length_append, List.length_singleton]) rfl

set_option maxRecDepth 100000 in
set_option maxHeartbeats 8000000 in
theorem rpack_any (n : NoteD) (xs : Array Value) (hx : IsNote xs n) (w : World) : Calls Try.prog 20 #[.agg xs] w (OwnRes n.packL n.packE w) := by
  cases hok : n.ok with
  | false =>
    have hA : ∀ W, W = w.alloc (.cells xs 51) → NoteAt W w.heap.size n ∧ Below w.heap.size w W := by rw [hx.eq]; exact nat_add n w
    clear hx
    obtain ⟨W, hW⟩ : ∃ W, W = w.alloc (.cells xs 51) := ⟨_, rfl⟩
    obtain ⟨hN, hB⟩ := hA W hW
    have HW := Lib.hid hW
    clear hA hW
    have hL : Hid (n.packL = []) := by show _ = _; rw [NoteD.packL, hok]; rfl
    have hE : Hid (n.packE = 50) := by show _ = _; rw [NoteD.packE, hok]; rfl
    rw [hL.out, hE.out]
    go_enter Try.func20, Try.ntmps20
    go_upto_region 1 with fail
    rw [← HW.out]
    go_wp2_with (first | ((with_reducible refine wpList_load_note (op := ⟨_, Op.load 51 _, _, _, _, _⟩) rfl _ rfl _ _ ?_ hN ?_); rfl))
    refine (rplainNote_any n _ ⟨rfl⟩ _).mono ?_
    rintro e w1 ⟨rfl, b1⟩
    rw [hok]
    go_wp2_with fail
    go_ret2
    exact ⟨none, 0, rfl, own_none _ _ _ _, bel_next hB b1⟩
  | true =>
    obtain ⟨hkind, hnm, ⟨o1, o2, o3, o4, o5, o6, o7⟩, h3, h5⟩ := NoteD.ok_parts hok
    have hL : Hid (n.packL = n.enc) := by show _ = _; rw [NoteD.packL, hok]; rfl
    have hE : Hid (n.packE = 0) := by show _ = _; rw [NoteD.packE, hok]; rfl
    rcases (show n.kind = 1 ∨ n.kind = 2 ∨ n.kind = 3 ∨ n.kind = 4 ∨ n.kind = 5 by omega) with hk | hk | hk | hk | hk
    · exact rpack_1 n xs hx w hk hok hL hE (okN_fit o1)
    · exact rpack_2 n xs hx w hk hok hL hE (okN_fit o1) (okN_fit o2) (okN_fit o3)
    · exact rpack_3 n xs hx w hk hok hL hE (EntryD.ok_fit (h3 hk).2)
    · exact rpack_4 n xs hx w hk hok hL hE (okN_fit o4) (okN_fit o5) (okN_fit o6) (okN_fit o7)
    · exact rpack_5 n xs hx w hk hok hL hE (okN_fit o4) (okN_fit o5) (okN_fit o6) (okN_fit o7) (OpD.ok_fit (h5 hk))

end Go.Proofs.Ytmhcjkiaogimgaa
