/- WireDecodes: the walk. -/
import Derived.Test.YtmhcjkiaogimgaaDrK
import Derived.Test.YtmhcjkiaogimgaaLwA
namespace Go.Proofs.Ytmhcjkiaogimgaa
open Go.RowKit

theorem dec_facts {l : List Int} (hb : isB l) : (decM l).same (decM l) = true ∧ (decM l).entries.length * 7 ≤ 9223372036854775807 ∧ (decM l).keys.length * 2 ≤ 9223372036854775807 := by
  unfold decM
  cases hd : dec l with
  | none => exact ⟨dzero_same, by decide, by decide⟩
  | some m =>
    obtain ⟨h1, h2, h3, h4⟩ := dec_back hb hd
    have hmv := mv_md h3 h4
    have hs := mv_same hmv hmv
    obtain ⟨_, _, _, _, _, p4, _, p6, _⟩ := MsgD.ok_parts h1
    refine ⟨?_, by show m.msg.entries.length * 7 ≤ _; omega, by show m.msg.keys.length * 2 ≤ _; omega⟩
    show m.msg.same m.msg = true
    simp only [MsgD.same]
    rw [hs]
    simp
set_option maxRecDepth 100000 in
set_option maxHeartbeats 8000000 in
theorem decodes_law (B : Option Addr) (len cap : Nat) (lb : List Int) {W : World} (hb : ArgInts .u8 W B len lb) (hds : DS W B cap lb) (hlenT : len ≤ 140737488351232) :
    Calls Try.prog 8 #[.slice B len cap] W fun e w' => e = .returned (.bool true) ∧ Below W.heap.size W w' := by
  have hll : lb.length = len := hb.length
  have hRb := hb.rd
  have hIb := Lib.hid (isB_wf hb.wf)
  clear hb
  have hLL := Lib.hid hll
  have HD := Lib.hid hds
  clear hll hds
  go_enter Try.func8, Try.ntmps8
  go_wp2_with fail
  rw [← hLL.out]
  refine (copyB_any B cap lb _ hRb (by rw [hLL.out]; exact hlenT)).mono ?_
  rintro e w4 ⟨A4, c4, rfl, o4, b4⟩
  have hA4 := Lib.hid (barg_own o4 hIb.out (by rw [hLL.out]; omega))
  have B4 := Lib.hid b4
  clear o4 b4 hRb
  rw [hLL.out]
  go_wp2_with fail
  rw [← hLL.out]
  refine (decode_any w4 A4 c4 lb hA4.out).mono ?_
  rintro e w5 ⟨ys, sx, rfl, ax, b5⟩
  have hys : ys = ((decM lb).cells sx).toArray := ax.is.eq
  subst hys
  have B5 := Lib.hid (bel_next B4.out b5)
  have HF := Lib.hid (dec_facts hIb.out)
  clear b5 B4 hA4
  rw [hLL.out]
  obtain ⟨m, hm⟩ : ∃ y, Hid (y = decM lb) := ⟨_, rfl⟩
  obtain ⟨E, hE⟩ : ∃ y, Hid (y = decE lb) := ⟨_, rfl⟩
  rw [← hm.out] at ax HF
  rw [← hm.out, ← hE.out]
  obtain ⟨z1, z2⟩ := mtwo w5 m sx
  have hz : Blk (w5.alloc (.cells #[.int .i64 0, .int .i64 0, .int .i64 0, .int .i64 0, .complex .f64 0 0, .int .i64 0, .int .i64 0, .int .i64 0, .int .i64 0, .string ⟨#[]⟩, .int .i64 0, .string ⟨#[]⟩, .int .i64 0, .string ⟨#[]⟩, .slice none 0 0, .slice none 0 0] 34)) w5.heap.size ((MsgD.new 0 0 0 0).cells NSL).toArray 34 := Blk.new w5 ZERO.toArray _
  have B6 := Lib.hid (bel_next B5.out z2)
  have AX := Lib.hid (ax.below z2)
  clear z2 ax
  go_upto_region 2 with (((with_reducible refine wpList_store_blk34 (op := ⟨_, Op.store 34 _ _, _, _, _, _⟩) rfl _ _ rfl _ _ m _ sx ?_ ?_ hz ?_); rfl; rfl))
  clear hz
  generalize (w5.alloc (.cells #[.int .i64 0, .int .i64 0, .int .i64 0, .int .i64 0, .complex .f64 0 0, .int .i64 0, .int .i64 0, .int .i64 0, .int .i64 0, .string ⟨#[]⟩, .int .i64 0, .string ⟨#[]⟩, .int .i64 0, .string ⟨#[]⟩, .slice none 0 0, .slice none 0 0] 34)).setCells w5.heap.size 0 (m.cells sx) = w6 at *
  generalize w5.heap.size = g5 at *
  have HZ1 := Lib.hid z1
  clear z1
  go_wp2_with fail
  rw [← hLL.out]
  refine (ddecode_any w6 B cap lb (HD.out.below B6.out)).mono ?_
  rintro e w7 ⟨yt, sy, rfl, ay, b7⟩
  have hyt : yt = ((decM lb).cells sy).toArray := ay.is.eq
  subst hyt
  have B7 := Lib.hid (bel_next B6.out b7)
  have z1 := HZ1.out.kp (S := fun _ => False) (Kp.of_below b7) (fun h => h)
  have AX2 := Lib.hid (AX.out.below b7)
  clear b7 B6 HZ1 AX
  rw [← hm.out] at ay
  rw [hLL.out, ← hm.out, ← hE.out]
  obtain ⟨y1, y2⟩ := mtwo w7 m sy
  have hz : Blk (w7.alloc (.cells #[.int .i64 0, .int .i64 0, .int .i64 0, .int .i64 0, .complex .f64 0 0, .int .i64 0, .int .i64 0, .int .i64 0, .int .i64 0, .string ⟨#[]⟩, .int .i64 0, .string ⟨#[]⟩, .int .i64 0, .string ⟨#[]⟩, .slice none 0 0, .slice none 0 0] 34)) w7.heap.size ((MsgD.new 0 0 0 0).cells NSL).toArray 34 := Blk.new w7 ZERO.toArray _
  have B8 := Lib.hid (bel_next B7.out y2)
  have AX := Lib.hid (AX2.out.below y2)
  have AY := Lib.hid (ay.below y2)
  have z1 := Lib.hid (z1.kp (S := fun _ => False) (Kp.of_below y2) (fun h => h))
  clear y2 ay AX2
  go_upto_region 3 with (((with_reducible refine wpList_store_blk34 (op := ⟨_, Op.store 34 _ _, _, _, _, _⟩) rfl _ _ rfl _ _ m _ sy ?_ ?_ hz ?_); rfl; rfl))
  clear hz
  generalize (w7.alloc (.cells #[.int .i64 0, .int .i64 0, .int .i64 0, .int .i64 0, .complex .f64 0 0, .int .i64 0, .int .i64 0, .int .i64 0, .int .i64 0, .string ⟨#[]⟩, .int .i64 0, .string ⟨#[]⟩, .int .i64 0, .string ⟨#[]⟩, .slice none 0 0, .slice none 0 0] 34)).setCells w7.heap.size 0 (m.cells sy) = w8 at *
  generalize w7.heap.size = g7 at *
  have z2 := z1.out
  clear z1
  go_wp2_with (first | ((with_reducible refine wpList_load_blk34_g (op := ⟨_, Op.load 34 _, _, _, _, _⟩) _ rfl ?_ _ _ _ ?_ y1 ?_); rfl; rfl) | ((with_reducible refine wpList_load_blk34_g (op := ⟨_, Op.load 34 _, _, _, _, _⟩) _ rfl ?_ _ _ _ ?_ z2 ?_); rfl; rfl))
  refine (sameMsg_any m m sx sy _ _ w8 AX.out AY.out HF.out.2.1 HF.out.2.2).mono ?_
  rw [HF.out.1]
  rintro e w9 ⟨rfl, b9⟩
  have B9 := Lib.hid (bel_next B8.out b9)
  clear b9 y1 z2
  go_wp2_with fail
  refine (awake_any _).mono ?_
  rintro e w10 ⟨rfl, b10⟩
  go_wp2_with fail
  go_ret
  exact ⟨rfl, bel_next B9.out b10⟩

end Go.Proofs.Ytmhcjkiaogimgaa
