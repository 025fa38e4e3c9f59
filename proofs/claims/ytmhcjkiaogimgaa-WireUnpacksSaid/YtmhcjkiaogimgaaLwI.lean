/- WireUnpacks: the walk. -/
import Derived.Test.YtmhcjkiaogimgaaLwB
import Derived.Test.YtmhcjkiaogimgaaDrH
namespace Go.Proofs.Ytmhcjkiaogimgaa
open Go.RowKit

set_option maxRecDepth 100000 in
set_option maxHeartbeats 8000000 in
theorem unpacks_law (B : Option Addr) (len cap : Nat) (lb : List Int) {W : World} (hb : ArgInts .u8 W B len lb) (hds : DS W B cap lb) (hlenT : len ≤ 140737488351232) :
    Calls Try.prog 11 #[.slice B len cap] W fun e w' => e = .returned (.bool true) ∧ Below W.heap.size W w' := by
  have hll : lb.length = len := hb.length
  have hRb := hb.rd
  have hIb := Lib.hid (isB_wf hb.wf)
  clear hb
  have hLL := Lib.hid hll
  have HD := Lib.hid hds
  clear hll hds
  go_enter Try.func11, Try.ntmps11
  go_wp2_with fail
  rw [← hLL.out]
  refine (copyB_any B cap lb _ hRb (by rw [hLL.out]; exact hlenT)).mono ?_
  rintro e w4 ⟨A4, c4, rfl, o4, b4⟩
  have hA4 := Lib.hid (barg_own o4 hIb.out (by rw [hLL.out]; omega))
  have B4 := Lib.hid b4
  clear o4 b4 hRb
  rw [hLL.out]
  go_wp2_with fail
  rw [← hLL.out]
  refine (unpack_any w4 A4 c4 lb hA4.out).mono ?_
  rintro e w5 ⟨rfl, b5⟩
  have B5 := Lib.hid (bel_next B4.out b5)
  clear b5 B4 hA4
  rw [hLL.out]
  obtain ⟨y, hy⟩ : ∃ y, Hid (y = unpN lb) := ⟨_, rfl⟩
  obtain ⟨E, hE⟩ : ∃ y, Hid (y = unpE lb) := ⟨_, rfl⟩
  rw [← hy.out, ← hE.out]
  obtain ⟨z1, z2⟩ := ztwo w5 y
  have hZ : NoteAt (w5.alloc (.cells #[.int .i64 0, .int .i64 0, .int .i64 0, .int .i64 0, .int .i64 0, .int .i64 0, .string ⟨#[]⟩, .bool false, .int .i64 0, .int .i64 0, .int .i64 0, .string ⟨#[]⟩, .int .i64 0, .int .i64 0, .int .i64 0, .int .i64 0, .int .i64 0, .string ⟨#[]⟩, .int .i64 0, .string ⟨#[]⟩, .int .i64 0, .string ⟨#[]⟩] 51)) w5.heap.size NoteD.zero := ⟨Blk.new w5 NoteD.zero.cells.toArray _⟩
  have B6 := Lib.hid (bel_next B5.out z2)
  clear z2
  go_upto_region 2 with (((with_reducible refine wpList_store_note (op := ⟨_, Op.store 51 _ _, _, _, _, _⟩) rfl _ _ rfl _ _ y ?_ ?_ hZ ?_); rfl; rfl))
  clear hZ
  generalize (w5.alloc (.cells #[.int .i64 0, .int .i64 0, .int .i64 0, .int .i64 0, .int .i64 0, .int .i64 0, .string ⟨#[]⟩, .bool false, .int .i64 0, .int .i64 0, .int .i64 0, .string ⟨#[]⟩, .int .i64 0, .int .i64 0, .int .i64 0, .int .i64 0, .int .i64 0, .string ⟨#[]⟩, .int .i64 0, .string ⟨#[]⟩, .int .i64 0, .string ⟨#[]⟩] 51)).setCells w5.heap.size 0 y.cells = w6 at *
  generalize w5.heap.size = g5 at *
  have HZ1 := Lib.hid z1
  clear z1
  go_wp2_with fail
  rw [← hLL.out]
  refine (dunpack_any w6 B cap lb (HD.out.below B6.out)).mono ?_
  rintro e w7 ⟨rfl, b7⟩
  have B7 := Lib.hid (bel_next B6.out b7)
  have z1 := HZ1.out.below b7
  clear b7 B6 HZ1
  rw [hLL.out, ← hy.out, ← hE.out]
  obtain ⟨y1, y2⟩ := ztwo w7 y
  have hZ : NoteAt (w7.alloc (.cells #[.int .i64 0, .int .i64 0, .int .i64 0, .int .i64 0, .int .i64 0, .int .i64 0, .string ⟨#[]⟩, .bool false, .int .i64 0, .int .i64 0, .int .i64 0, .string ⟨#[]⟩, .int .i64 0, .int .i64 0, .int .i64 0, .int .i64 0, .int .i64 0, .string ⟨#[]⟩, .int .i64 0, .string ⟨#[]⟩, .int .i64 0, .string ⟨#[]⟩] 51)) w7.heap.size NoteD.zero := ⟨Blk.new w7 NoteD.zero.cells.toArray _⟩
  have B8 := Lib.hid (bel_next B7.out y2)
  have z1 := Lib.hid (z1.below y2)
  clear y2
  go_upto_region 3 with (((with_reducible refine wpList_store_note (op := ⟨_, Op.store 51 _ _, _, _, _, _⟩) rfl _ _ rfl _ _ y ?_ ?_ hZ ?_); rfl; rfl))
  clear hZ
  generalize (w7.alloc (.cells #[.int .i64 0, .int .i64 0, .int .i64 0, .int .i64 0, .int .i64 0, .int .i64 0, .string ⟨#[]⟩, .bool false, .int .i64 0, .int .i64 0, .int .i64 0, .string ⟨#[]⟩, .int .i64 0, .int .i64 0, .int .i64 0, .int .i64 0, .int .i64 0, .string ⟨#[]⟩, .int .i64 0, .string ⟨#[]⟩, .int .i64 0, .string ⟨#[]⟩] 51)).setCells w7.heap.size 0 y.cells = w8 at *
  generalize w7.heap.size = g7 at *
  have z2 := z1.out
  clear z1
  have heq : ∀ W' : World, (binOp .eql 51 (.agg y.cells.toArray) (.agg y.cells.toArray)).run Try.prog W' = .ok (.bool true) W' := fun W' => by
    have := eql_run (P := Try.prog) (w := W') rfl rfl (eq_note 9996 W' y y)
    simpa using this
  go_wp2_with (first | ((with_reducible refine wpList_load_note_g (op := ⟨_, Op.load 51 _, _, _, _, _⟩) _ rfl ?_ _ _ ?_ y1 ?_); rfl; rfl) | ((with_reducible refine wpList_load_note_g (op := ⟨_, Op.load 51 _, _, _, _, _⟩) _ rfl ?_ _ _ ?_ z2 ?_); rfl; rfl))
  refine (awake_any _).mono ?_
  rintro e w9 ⟨rfl, b9⟩
  clear heq
  go_wp2_with fail
  go_ret
  exact ⟨rfl, bel_next B8.out b9⟩

end Go.Proofs.Ytmhcjkiaogimgaa
