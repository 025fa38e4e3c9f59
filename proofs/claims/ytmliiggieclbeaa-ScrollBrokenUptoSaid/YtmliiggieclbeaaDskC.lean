/- Read of a disk. -/
import Derived.Test.YtmliiggieclbeaaBlkB
import Derived.Maps.AppendAt
import Derived.Lib.SliceRun
namespace Go.Proofs.Ytmliiggieclbeaa
open Go.RowKit

def DS.readL (s : DS) (i : Int) : List Int := if s.has i then s.c i.toNat else []
def DS.readE (s : DS) (i : Int) : Int := if s.has i then 0 else 20

theorem make64 (W : World) : (Instr.makeSlice 22 (.int .i64 64) (.int .i64 64)).run Try.prog W = .ok (.slice (some ⟨W.heap.size, 0, none⟩) 64 64) (W.alloc (.cells (madeCells #[.int .u8 0] 64) 5)) :=
  run_make_row' (P := Try.prog) 22 5 (.int .u8 0) 1 Try.underlying22 (by kernel_rfl) rfl .i64 .i64 64 (by omega) (by omega) W

theorem DiskAt.rd {w : World} {d g : Nat} {s : DS} (h : DiskAt w d g s) {k : Nat} (hk : k < s.n) : Rd .u8 w (some ⟨g, k * 64, none⟩) (s.c k) := by
  obtain ⟨cs, hr, hsz, hs⟩ := h.row
  refine hr.rd _ (fun j hj => ?_)
  rw [h.len k hk] at hj
  rw [show k * 64 + j = 64 * k + j by omega]
  exact hs k hk j hj

theorem setMany_all (cs : Array Value) (vs : List Value) (h : vs.length = cs.size) : setMany cs 0 vs = vs.toArray := by
  apply Array.ext_getElem?
  intro j
  rw [setMany_get _ _ _ _ (by omega)]
  by_cases hj : j < vs.length
  · rw [if_pos (by omega)]; simp
  · rw [if_neg (by omega), Array.getElem?_eq_none (by omega), Array.getElem?_eq_none (by simpa using hj)]

theorem copy64 {w : World} {d g : Nat} {s : DS} (h : DiskAt w d g s) {k : Nat} (hk : k < s.n) (ty : TypeId) (c : Nat) :
    (Builtin.copy_ #[22, 22] ty #[.slice (some ⟨w.heap.size, 0, none⟩) 64 64, .slice (some ⟨g, k * 64, none⟩) 64 c]).run Try.prog (w.alloc (.cells (madeCells #[.int .u8 0] 64) 5)) = .ok (.int .i64 64) ((w.alloc (.cells (madeCells #[.int .u8 0] 64) 5)).setCells w.heap.size 0 (ints .u8 (s.c k))) := by
  have hlen := h.len k hk
  have hb := Blk.new w (madeCells #[.int .u8 0] 64) 5
  have hr := (h.rd hk).kp (S := fun _ => False) ((Kp.refl _ w).alloc (.cells (madeCells #[.int .u8 0] 64) 5)) (fun _ _ h => h)
  have := run_copy_cells (P := Try.prog) (w.alloc (.cells (madeCells #[.int .u8 0] 64) 5)) 22 22 ty 5 w.heap.size 0 64 64 ⟨g, k * 64, none⟩ 64 c (ints .u8 (s.c k)) Try.underlying22 (by kernel_rfl) (by rw [ints_length, hlen]; rfl)
    (fun j v hv => by
      have hj : j < (s.c k).length := by have := (List.getElem?_eq_some_iff.1 hv).1; rwa [ints_length] at this
      obtain ⟨x, hx, _, hc⟩ := hr.at_ j hj
      cases hx
      rw [hc, ← hv, ints_get _ _ _ hj])
    (fun j hj => by rw [ints_length, hlen] at hj; rw [hb.cell, Array.getElem?_eq_getElem (by rw [size_madeCells]; omega)]; rfl) (fun j hj => hb.frozen _) (ints_one _ _)
  rw [ints_length, hlen] at this
  exact this

set_option maxHeartbeats 400000 in
theorem read_ok (w : World) (d g : Nat) (s : DS) (h : DiskAt w d g s) (k : Nat) (hk : k < s.n) :
    Calls Try.prog 34 #[.pointer (some ⟨d, 0, none⟩), .int .i64 k] w fun e w' => e = .returned (.tuple #[.slice (some ⟨w.heap.size, 0, none⟩) 64 64, .int .i64 0]) ∧ Below w.heap.size w w' ∧ Blk w' w.heap.size (ints .u8 (s.c k)).toArray 5 := by
  obtain ⟨cap, hc, h0, h1, h2, h3, hfz⟩ := h.cells
  have hlt := h.lt
  have hcp := copy64 h hk
  have hmk := make64
  have hend : Below w.heap.size w ((w.alloc (.cells (madeCells #[.int .u8 0] 64) 5)).setCells w.heap.size 0 (ints .u8 (s.c k))) ∧ Blk ((w.alloc (.cells (madeCells #[.int .u8 0] 64) 5)).setCells w.heap.size 0 (ints .u8 (s.c k))) w.heap.size (ints .u8 (s.c k)).toArray 5 := by
    refine ⟨(Kp.setCells (S := fun k => k = w.heap.size) w.heap.size rfl _ _ _ ((Kp.refl _ w).alloc _)).below (fun k hk => by omega), ?_⟩
    have := (Blk.new w (madeCells #[.int .u8 0] 64) 5).setCells (ints .u8 (s.c k)) 0
    rwa [setMany_all _ _ (by rw [ints_length, h.len k hk, size_madeCells])] at this
  have HE := Lib.hid hend
  have H := Lib.hid h
  clear h hend
  go_enter Try.func34, Try.ntmps34
  go_wp2_with (go_at_call 50; refine (has_any w d g s H.out k).mono ?_; rintro e w' ⟨rfl, rfl⟩; rw [decide_eq_true (show (0 : Int) ≤ k ∧ (k : Int) < s.n by omega)])
  go_ret2
  exact ⟨rfl, HE.out⟩

theorem read_bad (w : World) (d g : Nat) (s : DS) (h : DiskAt w d g s) (i : Int) (hi : ¬ s.has i) :
    Calls Try.prog 34 #[.pointer (some ⟨d, 0, none⟩), .int .i64 i] w fun e w' => e = .returned (.tuple #[.slice none 0 0, .int .i64 20]) ∧ w = w' := by
  have H := Lib.hid h
  have HI := Lib.hid hi
  clear h hi
  go_enter Try.func34, Try.ntmps34
  go_wp2_with (go_at_call 50; refine (has_any w d g s H.out i).mono ?_; rintro e w' ⟨rfl, rfl⟩; rw [decide_eq_false (show ¬ (0 ≤ i ∧ i < s.n) from HI.out)])
  go_ret2
  exact ⟨rfl, rfl⟩

end Go.Proofs.Ytmliiggieclbeaa
