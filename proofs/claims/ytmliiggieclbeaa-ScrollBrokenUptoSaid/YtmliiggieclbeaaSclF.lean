/- The scroll in memory: Room, Half, Generation, free. -/
import Derived.Test.YtmliiggieclbeaaSclE
import Derived.Test.YtmliiggieclbeaaMem2
namespace Go.Proofs.Ytmliiggieclbeaa
open Go.RowKit

/-- A scroll: its half, generation, how many records, how many blocks. -/
structure Scr where
  h : Nat
  gen : Nat
  num : Nat
  used : Nat
def ScrAt (w : World) (p d : Nat) (r : Scr) : Prop := Blk w p #[.pointer (some ⟨d, 0, none⟩), .int .i64 r.h, .int .i64 r.gen, .int .i64 r.num, .int .i64 r.used] 64
theorem ScrAt.kp {S : Nat → Prop} {w w' : World} {p d : Nat} {r : Scr} (h : ScrAt w p d r) (hk : Kp S w w') (hs : ¬ S p) : ScrAt w' p d r := Blk.kp h hk hs
theorem ScrAt.below {w w' : World} {p d : Nat} {r : Scr} (h : ScrAt w p d r) (hb : Below w.heap.size w w') : ScrAt w' p d r := Blk.below h hb
theorem ScrAt.drawn {w w' : World} {p d : Nat} {r : Scr} (h : ScrAt w p d r) (hb : Drawn w w') : ScrAt w' p d r := Blk.below h (hb.below _)
theorem DiskAt.drawn {w w' : World} {d g : Nat} {s : DS} (h : DiskAt w d g s) (hb : Drawn w w') : DiskAt w' d g s := h.below (hb.below _)
theorem ScrAt.cells {w : World} {p d : Nat} {r : Scr} (h : ScrAt w p d r) : w.cell? ⟨p, 0, none⟩ = some (.pointer (some ⟨d, 0, none⟩)) ∧ w.cell? ⟨p, 1, none⟩ = some (.int .i64 r.h) ∧ w.cell? ⟨p, 2, none⟩ = some (.int .i64 r.gen) ∧
    w.cell? ⟨p, 3, none⟩ = some (.int .i64 r.num) ∧ w.cell? ⟨p, 4, none⟩ = some (.int .i64 r.used) ∧ (∀ j, w.frozen? ⟨p, j, none⟩ = false) :=
  ⟨by rw [Blk.cell h]; rfl, by rw [Blk.cell h]; rfl, by rw [Blk.cell h]; rfl, by rw [Blk.cell h]; rfl, by rw [Blk.cell h]; rfl, fun j => Blk.frozen h j⟩
theorem halfN_le (n : Nat) (h : n ≤ 1024) : halfN n ≤ 512 := by unfold halfN; omega
theorem startN_le (n k : Nat) (h : n ≤ 1024) (hk : k ≤ 1) : startN n k ≤ 513 := by
  have := halfN_le n h
  unfold startN
  rcases (show k = 0 ∨ k = 1 by omega) with rfl | rfl <;> omega

set_option maxHeartbeats 400000 in
theorem room_any (w : World) (p d g : Nat) (s : DS) (r : Scr) (h : DiskAt w d g s) (hr : ScrAt w p d r) (hu : r.used ≤ halfN s.n) :
    Calls Try.prog 15 #[.pointer (some ⟨p, 0, none⟩)] w fun e w' => e = .returned (.int .i64 (halfN s.n - r.used : Nat)) ∧ Drawn w w' := by
  obtain ⟨c0, c1, c2, c3, c4, hf⟩ := hr.cells
  have hle := halfN_le s.n h.high
  have H : Hid (∀ n, DiskAt (w.drewN n) d g s) := fun n => h.drewN n
  have e : (((halfN s.n - r.used : Nat) : Nat) : Int) = (halfN s.n : Int) - (r.used : Int) := by omega
  have HE := Lib.hid e
  clear h hr e hf
  go_enter Try.func15, Try.ntmps15
  go_wp2_with fail
  go_quiet (first | (go_at_call 35; exact quiet_left (ssize_any _ d g s (H.out _))))
  go_wp2_with fail
  go_ret
  exact ⟨bv (by rw [HE.out]), (Drawn.refl _).drewN _⟩

set_option maxHeartbeats 400000 in
theorem free_any (w : World) (p d g : Nat) (s : DS) (r : Scr) (h : DiskAt w d g s) (hr : ScrAt w p d r) (hu : r.used ≤ halfN s.n) (hh : r.h ≤ 1) :
    Calls Try.prog 38 #[.pointer (some ⟨p, 0, none⟩)] w fun e w' => e = .returned (.int .i64 (startN s.n r.h + r.used : Nat)) ∧ Drawn w w' := by
  obtain ⟨c0, c1, c2, c3, c4, hf⟩ := hr.cells
  have hle := halfN_le s.n h.high
  have hst := startN_le s.n r.h h.high hh
  have H : Hid (∀ n, DiskAt (w.drewN n) d g s) := fun n => h.drewN n
  clear h hr hf
  go_enter Try.func38, Try.ntmps38
  go_wp2_with fail
  go_quiet (first | (go_at_call 52; exact quiet_left (sstart_any _ d g s (H.out _) r.h hh)))
  go_wp2_with fail
  go_ret
  exact ⟨bv (by rw [Int.natCast_add]), (Drawn.refl _).drewN _⟩

set_option maxHeartbeats 400000 in
theorem half_any (w : World) (p d g : Nat) (s : DS) (r : Scr) (h : DiskAt w d g s) (hr : ScrAt w p d r) :
    Calls Try.prog 28 #[.pointer (some ⟨p, 0, none⟩)] w fun e w' => e = .returned (.int .i64 (halfN s.n : Nat)) ∧ w = w' := by
  obtain ⟨c0, c1, c2, c3, c4, hf⟩ := hr.cells
  have H := Lib.hid h
  clear h hr hf
  go_enter Try.func28, Try.ntmps28
  go_wp2_with fail
  refine (ssize_any w d g s H.out).mono ?_
  rintro e w1 ⟨rfl, rfl⟩
  go_wp2_with fail
  go_ret
  exact ⟨rfl, rfl⟩

set_option maxHeartbeats 400000 in
theorem generation_any (w : World) (p d : Nat) (r : Scr) (hr : ScrAt w p d r) :
    Calls Try.prog 26 #[.pointer (some ⟨p, 0, none⟩)] w fun e w' => e = .returned (.int .i64 r.gen) ∧ w = w' := by
  obtain ⟨c0, c1, c2, c3, c4, hf⟩ := hr.cells
  clear hr hf
  go_enter Try.func26, Try.ntmps26
  go_wp2_with fail
  go_ret
  exact ⟨rfl, rfl⟩

end Go.Proofs.Ytmliiggieclbeaa
