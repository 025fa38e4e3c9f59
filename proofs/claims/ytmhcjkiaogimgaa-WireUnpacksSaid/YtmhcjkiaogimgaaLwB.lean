/- WireForth: the walk. -/
import Derived.Test.YtmhcjkiaogimgaaLwA
namespace Go.Proofs.Ytmhcjkiaogimgaa
open Go.RowKit

theorem ztwo (w : World) (n : NoteD) : NoteAt ((w.alloc (.cells #[.int .i64 0, .int .i64 0, .int .i64 0, .int .i64 0, .int .i64 0, .int .i64 0, .string ⟨#[]⟩, .bool false, .int .i64 0, .int .i64 0, .int .i64 0, .string ⟨#[]⟩, .int .i64 0, .int .i64 0, .int .i64 0, .int .i64 0, .int .i64 0, .string ⟨#[]⟩, .int .i64 0, .string ⟨#[]⟩, .int .i64 0, .string ⟨#[]⟩] 51)).setCells w.heap.size 0 n.cells) w.heap.size n ∧ Below w.heap.size w ((w.alloc (.cells #[.int .i64 0, .int .i64 0, .int .i64 0, .int .i64 0, .int .i64 0, .int .i64 0, .string ⟨#[]⟩, .bool false, .int .i64 0, .int .i64 0, .int .i64 0, .string ⟨#[]⟩, .int .i64 0, .int .i64 0, .int .i64 0, .int .i64 0, .int .i64 0, .string ⟨#[]⟩, .int .i64 0, .string ⟨#[]⟩, .int .i64 0, .string ⟨#[]⟩] 51)).setCells w.heap.size 0 n.cells) := by
  have hZ : NoteAt (w.alloc (.cells #[.int .i64 0, .int .i64 0, .int .i64 0, .int .i64 0, .int .i64 0, .int .i64 0, .string ⟨#[]⟩, .bool false, .int .i64 0, .int .i64 0, .int .i64 0, .string ⟨#[]⟩, .int .i64 0, .int .i64 0, .int .i64 0, .int .i64 0, .int .i64 0, .string ⟨#[]⟩, .int .i64 0, .string ⟨#[]⟩, .int .i64 0, .string ⟨#[]⟩] 51)) w.heap.size NoteD.zero := ⟨Blk.new w NoteD.zero.cells.toArray _⟩
  exact ⟨hZ.stored n, below_kp (bel_al (Below.refl _ _) _) (Kp.setCells (S := fun k => k = w.heap.size) _ rfl _ _ _ (Kp.refl _ _)) (by simp) (fun k hk => by omega)⟩

set_option maxRecDepth 100000 in
set_option maxHeartbeats 8000000 in
theorem forth_law (n : NoteD) (B : Option Addr) (len cap : Nat) (lb : List Int) {W : World} (hb : ArgInts .u8 W B len lb) (hlen : len * 1 ≤ 140737488351232) :
    Calls Try.prog 12 #[.agg n.cells.toArray, .slice B len cap] W fun e w' => e = .returned (.bool true) ∧ Below W.heap.size W w' := by
  have hll : lb.length = len := hb.length
  obtain ⟨xs, hxs⟩ : ∃ xs, xs = n.cells.toArray := ⟨_, rfl⟩
  have hA : ∀ V, V = W.alloc (.cells xs 51) → NoteAt V W.heap.size n ∧ Below W.heap.size W V := by rw [hxs]; exact nat_add n W
  rw [← hxs]
  clear hxs
  obtain ⟨V, hV⟩ : ∃ V, V = W.alloc (.cells xs 51) := ⟨_, rfl⟩
  obtain ⟨hN, hB⟩ := hA V hV
  have HV := Lib.hid hV
  clear hA hV
  have hRb := hb.rd.below hB
  have hIb := Lib.hid (isB_wf hb.wf)
  clear hb
  have hLL := Lib.hid hll
  clear hll
  go_enter Try.func12, Try.ntmps12
  go_upto_region 1 with fail
  rw [← HV.out]
  go_wp2_with (((with_reducible refine wpList_load_note (op := ⟨_, Op.load 51 _, _, _, _, _⟩) rfl _ rfl _ _ ?_ hN ?_); rfl))
  refine (pack_any n _ ⟨rfl⟩ _).mono ?_
  rintro e w1 ⟨A, c, rfl, o1, b1⟩
  have hN1 := hN.below b1
  have B1 := bel_next hB b1
  have hRb1 := hRb.below b1
  clear b1 hN hB hRb
  cases hok : n.ok with
  | false =>
    have hl0 : n.packL.length = 0 := by rw [NoteD.packL, hok]; rfl
    have he0 : n.packE = 50 := by rw [NoteD.packE, hok]; rfl
    rw [he0, hl0]
    clear hl0 he0 o1
    have HN1 := Lib.hid hN1
    clear hN1 hok
    go_wp2_with fail
    have B1' := Lib.hid B1
    clear B1
    have hlenT : len ≤ 140737488351232 := by omega
    rw [← hLL.out]
    refine (copyB_any B cap lb _ hRb1 (by rw [hLL.out]; exact hlenT)).mono ?_
    rintro e w4 ⟨A4, c4, rfl, o4, b4⟩
    have hA4 := Lib.hid (barg_own o4 hIb.out (by rw [hLL.out]; omega))
    have hRb4 := Lib.hid (hRb1.below b4)
    have B4 := Lib.hid (bel_next B1'.out b4)
    clear o4 b4 hRb1 B1'
    rw [hLL.out]
    go_wp2_with fail
    rw [← hLL.out]
    refine (unpack_any w4 A4 c4 lb hA4.out).mono ?_
    rintro e w5 ⟨rfl, b5⟩
    have hRb5 := Lib.hid (hRb4.out.below b5)
    have B5 := Lib.hid (bel_next B4.out b5)
    clear b5 hRb4 B4 hA4
    cases hu : unp lb with
    | none =>
      have hE : unpE lb = 50 := by unfold unpE; rw [hu]; rfl
      have hU : unpN lb = NoteD.zero := by unfold unpN; rw [hu]; rfl
      rw [hE, hU, hLL.out]
      clear hE hU hu
      obtain ⟨z1, z2⟩ := ztwo w5 NoteD.zero
      have hZ : NoteAt (w5.alloc (.cells #[.int .i64 0, .int .i64 0, .int .i64 0, .int .i64 0, .int .i64 0, .int .i64 0, .string ⟨#[]⟩, .bool false, .int .i64 0, .int .i64 0, .int .i64 0, .string ⟨#[]⟩, .int .i64 0, .int .i64 0, .int .i64 0, .int .i64 0, .int .i64 0, .string ⟨#[]⟩, .int .i64 0, .string ⟨#[]⟩, .int .i64 0, .string ⟨#[]⟩] 51)) w5.heap.size NoteD.zero := ⟨Blk.new w5 NoteD.zero.cells.toArray _⟩
      have B6 := Lib.hid (bel_next B5.out z2)
      clear z2
      go_upto_region 9 with (((with_reducible refine wpList_store_note (op := ⟨_, Op.store 51 _ _, _, _, _, _⟩) rfl _ _ rfl _ _ NoteD.zero ?_ ?_ hZ ?_); rfl; rfl))
      clear hZ
      generalize (w5.alloc (.cells #[.int .i64 0, .int .i64 0, .int .i64 0, .int .i64 0, .int .i64 0, .int .i64 0, .string ⟨#[]⟩, .bool false, .int .i64 0, .int .i64 0, .int .i64 0, .string ⟨#[]⟩, .int .i64 0, .int .i64 0, .int .i64 0, .int .i64 0, .int .i64 0, .string ⟨#[]⟩, .int .i64 0, .string ⟨#[]⟩, .int .i64 0, .string ⟨#[]⟩] 51)).setCells w5.heap.size 0 NoteD.zero.cells = w6 at *
      generalize w5.heap.size = g9 at *
      have heq : ∀ W' : World, (binOp .eql 51 (.agg NoteD.zero.cells.toArray) (.agg NoteD.zero.cells.toArray)).run Try.prog W' = .ok (.bool true) W' := fun W' => by
        have := eql_run (P := Try.prog) (w := W') rfl rfl (eq_note 9996 W' NoteD.zero NoteD.zero)
        simpa using this
      have hb0 := build0
      go_wp2_with (first | ((with_reducible refine wpList_load_note (op := ⟨_, Op.load 51 _, _, _, _, _⟩) rfl _ rfl _ _ ?_ z1 ?_); rfl) | ((with_reducible refine wpList_build_run (op := ⟨_, Op.build 51 _, _, _, _, _⟩) rfl _ _ rfl _ ?_ _ (hb0 _) ?_); (focus (first | (go_simp; done) | (go_simp; rfl)))))
      refine (awake_any _).mono ?_
      rintro e w7 ⟨rfl, b7⟩
      clear heq
      go_wp2_with fail
      go_ret
      exact ⟨rfl, bel_next B6.out b7⟩
    | some y =>
      have hE : unpE lb = 0 := by unfold unpE; rw [hu]; rfl
      have hU : unpN lb = y := by unfold unpN; rw [hu]; rfl
      rw [hE, hU, hLL.out]
      obtain ⟨hyok, hyenc⟩ := unp_back hIb.out hu
      have hPL : Hid (y.packL = lb) := by show _ = _; rw [NoteD.packL, hyok]; exact hyenc
      have hPE : Hid (y.packE = 0) := by show _ = _; rw [NoteD.packE, hyok]; rfl
      clear hE hU hu hyok hyenc
      obtain ⟨z1, z2⟩ := ztwo w5 y
      have hZ : NoteAt (w5.alloc (.cells #[.int .i64 0, .int .i64 0, .int .i64 0, .int .i64 0, .int .i64 0, .int .i64 0, .string ⟨#[]⟩, .bool false, .int .i64 0, .int .i64 0, .int .i64 0, .string ⟨#[]⟩, .int .i64 0, .int .i64 0, .int .i64 0, .int .i64 0, .int .i64 0, .string ⟨#[]⟩, .int .i64 0, .string ⟨#[]⟩, .int .i64 0, .string ⟨#[]⟩] 51)) w5.heap.size NoteD.zero := ⟨Blk.new w5 NoteD.zero.cells.toArray _⟩
      have B6 := Lib.hid (bel_next B5.out z2)
      have hRb6 := Lib.hid (hRb5.out.below z2)
      clear z2
      go_upto_region 9 with (((with_reducible refine wpList_store_note (op := ⟨_, Op.store 51 _ _, _, _, _, _⟩) rfl _ _ rfl _ _ y ?_ ?_ hZ ?_); rfl; rfl))
      clear hZ
      generalize (w5.alloc (.cells #[.int .i64 0, .int .i64 0, .int .i64 0, .int .i64 0, .int .i64 0, .int .i64 0, .string ⟨#[]⟩, .bool false, .int .i64 0, .int .i64 0, .int .i64 0, .string ⟨#[]⟩, .int .i64 0, .int .i64 0, .int .i64 0, .int .i64 0, .int .i64 0, .string ⟨#[]⟩, .int .i64 0, .string ⟨#[]⟩, .int .i64 0, .string ⟨#[]⟩] 51)).setCells w5.heap.size 0 y.cells = w6 at *
      generalize w5.heap.size = g9 at *
      go_wp2_with (((with_reducible refine wpList_load_note (op := ⟨_, Op.load 51 _, _, _, _, _⟩) rfl _ rfl _ _ ?_ z1 ?_); rfl))
      refine (pack_any y _ ⟨rfl⟩ _).mono ?_
      rintro e w7 ⟨A7, c7, rfl, o7, b7⟩
      rw [hPL.out] at o7
      rw [hPE.out, hPL.out, hLL.out]
      have r7 := Lib.hid (rd_of_own o7)
      have r8 := Lib.hid (hRb6.out.below b7)
      have B7 := Lib.hid (bel_next B6.out b7)
      clear o7 b7 z1
      go_wp2_with fail
      rw [← hLL.out]
      refine (same_any A7 B c7 cap lb lb _ r7.out r8.out (by rw [hLL.out]; omega) (by rw [hLL.out]; omega)).mono ?_
      rintro e w8 ⟨rfl, d8⟩
      have B8 := Lib.hid (bel_next B7.out (d8.below _))
      clear d8
      go_wp2_with fail
      refine (awake_any _).mono ?_
      rintro e w9 ⟨rfl, b9⟩
      go_wp2_with fail
      go_ret
      exact ⟨rfl, bel_next B8.out b9⟩
  | true =>
    have hl : n.packL = n.enc := by rw [NoteD.packL, hok]; rfl
    have he0 : n.packE = 0 := by rw [NoteD.packE, hok]; rfl
    rw [he0, hl]
    rw [hl] at o1
    have hA1 := Lib.hid (barg_own o1 (isB_note n) (by have := note424 hok; omega))
    have hpos : Hid (0 < n.enc.length) := by show _ < _; rw [NoteD.enc, List.length_append]; simp only [List.length_singleton]; omega
    have h424 := Lib.hid (note424 hok)
    have HU : Hid (unpN n.enc = n ∧ unpE n.enc = 0) := by
      refine ⟨?_, ?_⟩
      · unfold unpN; rw [unp_enc hok]; rfl
      · unfold unpE; rw [unp_enc hok]; rfl
    clear o1 hl he0
    have HN1 := Lib.hid hN1
    clear hN1
    obtain ⟨j, hj⟩ : ∃ j, Hid (j = n.enc.length) := ⟨_, rfl⟩
    have h1 := h424.out
    have h2 := hpos.out
    rw [← hj.out] at h1 h2
    rw [← hj.out]
    have i1 : decide ((j : Int) > 424) = false := decide_eq_false (by omega)
    have i2 : ((j : Int) == 0) = false := by rw [beq_eq_false_iff_ne]; omega
    have i3 : ¬ j = 0 := by omega
    have i4 : (j : Int) ≤ 424 := by omega
    clear h424 hpos h1
    go_wp2_with fail
    rw [hj.out]
    refine (unpack_any w1 A c n.enc hA1.out).mono ?_
    rintro e w2 ⟨rfl, b2⟩
    rw [HU.out.1, HU.out.2, ← hj.out]
    have hRb2 := hRb1.below b2
    have hN2 := HN1.out.below b2
    have B2 := bel_next B1 b2
    obtain ⟨z1, z2⟩ := ztwo w2 n
    have hN3 := hN2.below z2
    have hRb3 := hRb2.below z2
    have B3 := bel_next B2 z2
    have hZ : NoteAt (w2.alloc (.cells #[.int .i64 0, .int .i64 0, .int .i64 0, .int .i64 0, .int .i64 0, .int .i64 0, .string ⟨#[]⟩, .bool false, .int .i64 0, .int .i64 0, .int .i64 0, .string ⟨#[]⟩, .int .i64 0, .int .i64 0, .int .i64 0, .int .i64 0, .int .i64 0, .string ⟨#[]⟩, .int .i64 0, .string ⟨#[]⟩, .int .i64 0, .string ⟨#[]⟩] 51)) w2.heap.size NoteD.zero := ⟨Blk.new w2 NoteD.zero.cells.toArray _⟩
    clear b2 z2 hRb1 hRb2 hN2 B1 B2 HN1 hok
    go_upto_region 4 with (((with_reducible refine wpList_store_note (op := ⟨_, Op.store 51 _ _, _, _, _, _⟩) rfl _ _ rfl _ _ n ?_ ?_ hZ ?_); rfl; rfl))
    clear hZ
    generalize (w2.alloc (.cells #[.int .i64 0, .int .i64 0, .int .i64 0, .int .i64 0, .int .i64 0, .int .i64 0, .string ⟨#[]⟩, .bool false, .int .i64 0, .int .i64 0, .int .i64 0, .string ⟨#[]⟩, .int .i64 0, .int .i64 0, .int .i64 0, .int .i64 0, .int .i64 0, .string ⟨#[]⟩, .int .i64 0, .string ⟨#[]⟩, .int .i64 0, .string ⟨#[]⟩] 51)).setCells w2.heap.size 0 n.cells = w3 at *
    generalize w2.heap.size = g7 at *
    have hneq : ∀ W' : World, (binOp .neq 51 (.agg n.cells.toArray) (.agg n.cells.toArray)).run Try.prog W' = .ok (.bool false) W' := fun W' => by
      have := neq_run (P := Try.prog) (w := W') rfl rfl (eq_note 9996 W' n n)
      simpa using this
    have hRb1 := hRb3
    have B1 := B3
    clear hRb3 B3
    go_wp2_with (first | ((with_reducible refine wpList_load_note_g (op := ⟨some 28, Op.load 51 _, _, _, _, _⟩) _ rfl ?_ _ _ ?_ z1 ?_); rfl; rfl) | ((with_reducible refine wpList_load_note_g (op := ⟨some 29, Op.load 51 _, _, _, _, _⟩) _ rfl ?_ _ _ ?_ hN3 ?_); rfl; rfl))
    clear hneq z1 i1 i2 i3 i4 h2
    have B1' := Lib.hid B1
    clear B1
    have hlenT : len ≤ 140737488351232 := by omega
    rw [← hLL.out]
    refine (copyB_any B cap lb _ hRb1 (by rw [hLL.out]; exact hlenT)).mono ?_
    rintro e w4 ⟨A4, c4, rfl, o4, b4⟩
    have hA4 := Lib.hid (barg_own o4 hIb.out (by rw [hLL.out]; omega))
    have hRb4 := Lib.hid (hRb1.below b4)
    have B4 := Lib.hid (bel_next B1'.out b4)
    clear o4 b4 hRb1 B1'
    rw [hLL.out]
    go_wp2_with fail
    rw [← hLL.out]
    refine (unpack_any w4 A4 c4 lb hA4.out).mono ?_
    rintro e w5 ⟨rfl, b5⟩
    have hRb5 := Lib.hid (hRb4.out.below b5)
    have B5 := Lib.hid (bel_next B4.out b5)
    clear b5 hRb4 B4 hA4
    cases hu : unp lb with
    | none =>
      have hE : unpE lb = 50 := by unfold unpE; rw [hu]; rfl
      have hU : unpN lb = NoteD.zero := by unfold unpN; rw [hu]; rfl
      rw [hE, hU, hLL.out]
      clear hE hU hu
      obtain ⟨z1, z2⟩ := ztwo w5 NoteD.zero
      have hZ : NoteAt (w5.alloc (.cells #[.int .i64 0, .int .i64 0, .int .i64 0, .int .i64 0, .int .i64 0, .int .i64 0, .string ⟨#[]⟩, .bool false, .int .i64 0, .int .i64 0, .int .i64 0, .string ⟨#[]⟩, .int .i64 0, .int .i64 0, .int .i64 0, .int .i64 0, .int .i64 0, .string ⟨#[]⟩, .int .i64 0, .string ⟨#[]⟩, .int .i64 0, .string ⟨#[]⟩] 51)) w5.heap.size NoteD.zero := ⟨Blk.new w5 NoteD.zero.cells.toArray _⟩
      have B6 := Lib.hid (bel_next B5.out z2)
      clear z2
      go_upto_region 9 with (((with_reducible refine wpList_store_note (op := ⟨_, Op.store 51 _ _, _, _, _, _⟩) rfl _ _ rfl _ _ NoteD.zero ?_ ?_ hZ ?_); rfl; rfl))
      clear hZ
      generalize (w5.alloc (.cells #[.int .i64 0, .int .i64 0, .int .i64 0, .int .i64 0, .int .i64 0, .int .i64 0, .string ⟨#[]⟩, .bool false, .int .i64 0, .int .i64 0, .int .i64 0, .string ⟨#[]⟩, .int .i64 0, .int .i64 0, .int .i64 0, .int .i64 0, .int .i64 0, .string ⟨#[]⟩, .int .i64 0, .string ⟨#[]⟩, .int .i64 0, .string ⟨#[]⟩] 51)).setCells w5.heap.size 0 NoteD.zero.cells = w6 at *
      generalize w5.heap.size = g9 at *
      have heq : ∀ W' : World, (binOp .eql 51 (.agg NoteD.zero.cells.toArray) (.agg NoteD.zero.cells.toArray)).run Try.prog W' = .ok (.bool true) W' := fun W' => by
        have := eql_run (P := Try.prog) (w := W') rfl rfl (eq_note 9996 W' NoteD.zero NoteD.zero)
        simpa using this
      have hb0 := build0
      go_wp2_with (first | ((with_reducible refine wpList_load_note (op := ⟨_, Op.load 51 _, _, _, _, _⟩) rfl _ rfl _ _ ?_ z1 ?_); rfl) | ((with_reducible refine wpList_build_run (op := ⟨_, Op.build 51 _, _, _, _, _⟩) rfl _ _ rfl _ ?_ _ (hb0 _) ?_); (focus (first | (go_simp; done) | (go_simp; rfl)))))
      refine (awake_any _).mono ?_
      rintro e w7 ⟨rfl, b7⟩
      clear heq
      go_wp2_with fail
      go_ret
      exact ⟨rfl, bel_next B6.out b7⟩
    | some y =>
      have hE : unpE lb = 0 := by unfold unpE; rw [hu]; rfl
      have hU : unpN lb = y := by unfold unpN; rw [hu]; rfl
      rw [hE, hU, hLL.out]
      obtain ⟨hyok, hyenc⟩ := unp_back hIb.out hu
      have hPL : Hid (y.packL = lb) := by show _ = _; rw [NoteD.packL, hyok]; exact hyenc
      have hPE : Hid (y.packE = 0) := by show _ = _; rw [NoteD.packE, hyok]; rfl
      clear hE hU hu hyok hyenc
      obtain ⟨z1, z2⟩ := ztwo w5 y
      have hZ : NoteAt (w5.alloc (.cells #[.int .i64 0, .int .i64 0, .int .i64 0, .int .i64 0, .int .i64 0, .int .i64 0, .string ⟨#[]⟩, .bool false, .int .i64 0, .int .i64 0, .int .i64 0, .string ⟨#[]⟩, .int .i64 0, .int .i64 0, .int .i64 0, .int .i64 0, .int .i64 0, .string ⟨#[]⟩, .int .i64 0, .string ⟨#[]⟩, .int .i64 0, .string ⟨#[]⟩] 51)) w5.heap.size NoteD.zero := ⟨Blk.new w5 NoteD.zero.cells.toArray _⟩
      have B6 := Lib.hid (bel_next B5.out z2)
      have hRb6 := Lib.hid (hRb5.out.below z2)
      clear z2
      go_upto_region 9 with (((with_reducible refine wpList_store_note (op := ⟨_, Op.store 51 _ _, _, _, _, _⟩) rfl _ _ rfl _ _ y ?_ ?_ hZ ?_); rfl; rfl))
      clear hZ
      generalize (w5.alloc (.cells #[.int .i64 0, .int .i64 0, .int .i64 0, .int .i64 0, .int .i64 0, .int .i64 0, .string ⟨#[]⟩, .bool false, .int .i64 0, .int .i64 0, .int .i64 0, .string ⟨#[]⟩, .int .i64 0, .int .i64 0, .int .i64 0, .int .i64 0, .int .i64 0, .string ⟨#[]⟩, .int .i64 0, .string ⟨#[]⟩, .int .i64 0, .string ⟨#[]⟩] 51)).setCells w5.heap.size 0 y.cells = w6 at *
      generalize w5.heap.size = g9 at *
      go_wp2_with (((with_reducible refine wpList_load_note (op := ⟨_, Op.load 51 _, _, _, _, _⟩) rfl _ rfl _ _ ?_ z1 ?_); rfl))
      refine (pack_any y _ ⟨rfl⟩ _).mono ?_
      rintro e w7 ⟨A7, c7, rfl, o7, b7⟩
      rw [hPL.out] at o7
      rw [hPE.out, hPL.out, hLL.out]
      have r7 := Lib.hid (rd_of_own o7)
      have r8 := Lib.hid (hRb6.out.below b7)
      have B7 := Lib.hid (bel_next B6.out b7)
      clear o7 b7 z1
      go_wp2_with fail
      rw [← hLL.out]
      refine (same_any A7 B c7 cap lb lb _ r7.out r8.out (by rw [hLL.out]; omega) (by rw [hLL.out]; omega)).mono ?_
      rintro e w8 ⟨rfl, d8⟩
      have B8 := Lib.hid (bel_next B7.out (d8.below _))
      clear d8
      go_wp2_with fail
      refine (awake_any _).mono ?_
      rintro e w9 ⟨rfl, b9⟩
      go_wp2_with fail
      go_ret
      exact ⟨rfl, bel_next B8.out b9⟩
end Go.Proofs.Ytmhcjkiaogimgaa
