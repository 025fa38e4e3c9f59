/- Read and Copy of a disk. -/
import Derived.Test.YtdmkphalihdmlaaBlkB
import Derived.Maps.AppendAt
import Derived.Lib.SliceRun
namespace Go.Proofs.Ytdmkphalihdmlaa
open Go.RowKit

def DS.readL (s : DS) (i : Int) : List Int := if s.has i then s.c i.toNat else []
def DS.readE (s : DS) (i : Int) : Int := if s.has i then 0 else 20

theorem make64 (W : World) : (Instr.makeSlice 29 (.int .i64 64) (.int .i64 64)).run Try.prog W = .ok (.slice (some ⟨W.heap.size, 0, none⟩) 64 64) (W.alloc (.cells (madeCells #[.int .u8 0] 64) 5)) :=
  run_make_row' (P := Try.prog) 29 5 (.int .u8 0) 1 Try.underlying29 (by kernel_rfl) rfl .i64 .i64 64 (by omega) (by omega) W

theorem DiskAt.rd {w : World} {d g : Nat} {s : DS} (h : DiskAt w d g s) {k : Nat} (hk : k < s.n) : Rd .u8 w (some ⟨g, k * 64, none⟩) (s.c k) := by
  obtain ⟨cs, hr, hsz, hs⟩ := h.row
  refine hr.rd _ (fun j hj => ?_)
  rw [h.len k hk] at hj
  rw [show k * 64 + j = 64 * k + j by omega]
  exact hs k hk j hj

theorem setMany_all (cs : Array Value) (vs : List Value) (h : vs.length = cs.size) : setMany cs 0 vs = vs.toArray := by
  apply Array.ext_getElem?
  intro j
  rw [setMany_get _ _ _ _ (by omega)]
  by_cases hj : j < vs.length
  · rw [if_pos (by omega)]; simp
  · rw [if_neg (by omega), Array.getElem?_eq_none (by omega), Array.getElem?_eq_none (by simpa using hj)]

theorem copy64 {w : World} {d g : Nat} {s : DS} (h : DiskAt w d g s) {k : Nat} (hk : k < s.n) (ty : TypeId) (c : Nat) :
    (Builtin.copy_ #[29, 29] ty #[.slice (some ⟨w.heap.size, 0, none⟩) 64 64, .slice (some ⟨g, k * 64, none⟩) 64 c]).run Try.prog (w.alloc (.cells (madeCells #[.int .u8 0] 64) 5)) = .ok (.int .i64 64) ((w.alloc (.cells (madeCells #[.int .u8 0] 64) 5)).setCells w.heap.size 0 (ints .u8 (s.c k))) := by
  have hlen := h.len k hk
  have hb := Blk.new w (madeCells #[.int .u8 0] 64) 5
  have hr := (h.rd hk).kp (S := fun _ => False) ((Kp.refl _ w).alloc (.cells (madeCells #[.int .u8 0] 64) 5)) (fun _ _ h => h)
  have := run_copy_cells (P := Try.prog) (w.alloc (.cells (madeCells #[.int .u8 0] 64) 5)) 29 29 ty 5 w.heap.size 0 64 64 ⟨g, k * 64, none⟩ 64 c (ints .u8 (s.c k)) Try.underlying29 (by kernel_rfl) (by rw [ints_length, hlen]; rfl)
    (fun j v hv => by
      have hj : j < (s.c k).length := by have := (List.getElem?_eq_some_iff.1 hv).1; rwa [ints_length] at this
      obtain ⟨x, hx, _, hc⟩ := hr.at_ j hj
      cases hx
      rw [hc, ← hv, ints_get _ _ _ hj])
    (fun j hj => by rw [ints_length, hlen] at hj; rw [hb.cell, Array.getElem?_eq_getElem (by rw [size_madeCells]; omega)]; rfl) (fun j hj => hb.frozen _) (ints_one _ _)
  rw [ints_length, hlen] at this
  exact this

set_option maxHeartbeats 400000 in
theorem read_ok (w : World) (d g : Nat) (s : DS) (h : DiskAt w d g s) (k : Nat) (hk : k < s.n) :
    Calls Try.prog 14 #[.pointer (some ⟨d, 0, none⟩), .int .i64 k] w fun e w' => e = .returned (.tuple #[.slice (some ⟨w.heap.size, 0, none⟩) 64 64, .int .i64 0]) ∧ Below w.heap.size w w' ∧ Blk w' w.heap.size (ints .u8 (s.c k)).toArray 5 := by
  obtain ⟨cap, hc, h0, h1, h2, h3, hfz⟩ := h.cells
  have hlt := h.lt
  have hcp := copy64 h hk
  have hmk := make64
  have hend : Below w.heap.size w ((w.alloc (.cells (madeCells #[.int .u8 0] 64) 5)).setCells w.heap.size 0 (ints .u8 (s.c k))) ∧ Blk ((w.alloc (.cells (madeCells #[.int .u8 0] 64) 5)).setCells w.heap.size 0 (ints .u8 (s.c k))) w.heap.size (ints .u8 (s.c k)).toArray 5 := by
    refine ⟨(Kp.setCells (S := fun k => k = w.heap.size) w.heap.size rfl _ _ _ ((Kp.refl _ w).alloc _)).below (fun k hk => by omega), ?_⟩
    have := (Blk.new w (madeCells #[.int .u8 0] 64) 5).setCells (ints .u8 (s.c k)) 0
    rwa [setMany_all _ _ (by rw [ints_length, h.len k hk, size_madeCells])] at this
  have HE := Lib.hid hend
  have H := Lib.hid h
  clear h hend
  go_enter Try.func14, Try.ntmps14
  go_wp2_with (go_at_call 33; refine (has_any w d g s H.out k).mono ?_; rintro e w' ⟨rfl, rfl⟩; rw [decide_eq_true (show (0 : Int) ≤ k ∧ (k : Int) < s.n by omega)])
  go_ret2
  exact ⟨rfl, HE.out⟩

theorem read_bad (w : World) (d g : Nat) (s : DS) (h : DiskAt w d g s) (i : Int) (hi : ¬ s.has i) :
    Calls Try.prog 14 #[.pointer (some ⟨d, 0, none⟩), .int .i64 i] w fun e w' => e = .returned (.tuple #[.slice none 0 0, .int .i64 20]) ∧ w = w' := by
  have H := Lib.hid h
  have HI := Lib.hid hi
  clear h hi
  go_enter Try.func14, Try.ntmps14
  go_wp2_with (go_at_call 33; refine (has_any w d g s H.out i).mono ?_; rintro e w' ⟨rfl, rfl⟩; rw [decide_eq_false (show ¬ (0 ≤ i ∧ i < s.n) from HI.out)])
  go_ret2
  exact ⟨rfl, rfl⟩

/-- What a copied row holds. -/
structure RowOf (w : World) (g : Nat) (n : Nat) (c : Nat → List Int) : Prop where
  ex : ∃ cs, Blk w g cs 67 ∧ 64 * n ≤ cs.size ∧ ∀ i, i < n → ∀ j, j < 64 → cs[64 * i + j]? = some (.int .u8 ((c i).getD j 0))

theorem clone_run {w : World} {d g : Nat} {s : DS} (h : DiskAt w d g s) (ty : TypeId) (cap : Nat) :
    ∃ g' cap' w', (Builtin.append_ #[63, 63] ty #[.slice (some ⟨w.heap.size, 0, none⟩) 0 0, .slice (some ⟨g, 0, none⟩) s.n cap]).run Try.prog (w.alloc (.cells #[] 67)) = .ok (.slice (some ⟨g', 0, none⟩) s.n cap') w' ∧
      w.heap.size ≤ g' ∧ s.n ≤ cap' ∧ Below w.heap.size w w' ∧ RowOf w' g' s.n s.c := by
  obtain ⟨cs, hrow, hsz, hs⟩ := h.row
  obtain ⟨i, hi, hzz⟩ := Option.map_eq_some_iff.1 zero64
  simp only [Prod.mk.injEq] at hzz
  obtain ⟨hz, hsize, hby⟩ := hzz
  obtain ⟨z, hz1, hz2⟩ := Option.map_eq_some_iff.1 hz
  have hlow := h.low
  have hhigh := h.high
  have hget : ∀ j u, ((cs.extract 0 (s.n * 64)).toList)[j]? = some u → j < s.n * 64 ∧ cs[j]? = some u := by
    intro j u hj
    simp only [Array.getElem?_toList, Array.getElem?_extract, Nat.sub_zero, Nat.zero_add] at hj
    split at hj
    · exact ⟨by omega, hj⟩
    · cases hj
  have hown := World.ownsRow_lit (base := w.heap.size) (e := 67) (size := 64) w #[] 0 (Nat.le_refl _) (by simp [maxLen]) rfl
  obtain ⟨v', w', hr, hown', hg, _, hat⟩ := run_append_own_at (P := Try.prog) (w.alloc (.cells #[] 67)) w.heap.size 63 ty 67 i z 64 64 Try.underlying63 hi hz1 hsize hby (by rw [hz2]; rfl) (by omega)
    (.slice (some ⟨w.heap.size, 0, none⟩) 0 0) 0 [] hown ⟨g, 0, none⟩ s.n cap ((cs.extract 0 (s.n * 64)).toList) (by simp; omega)
    (fun j u hj => by
      obtain ⟨hj1, hj2⟩ := hget j u hj
      rw [Addr.add_mid, Nat.zero_add, (hrow.alloc _).cell]; exact hj2)
    (fun u hu => by
      obtain ⟨j, hj⟩ := List.getElem?_of_mem hu
      obtain ⟨hj1, hj2⟩ := hget j u hj
      have := hs (j / 64) (by omega) (j % 64) (by omega)
      rw [show 64 * (j / 64) + j % 64 = j by omega, hj2] at this
      cases this; rfl)
    (by simp only [maxLen]; omega) (by omega) (by simp)
  obtain ⟨hlen, hv⟩ := hown'
  simp only [Nat.zero_add] at hv hr
  rcases hv with ⟨_, h0⟩ | ⟨g', cap', cur, rfl, hge, hblk, hcap, _, hcur, htake⟩
  · omega
  · refine ⟨g', cap', w', hr, hge, hcap, ((Below.refl w.heap.size w).alloc (Nat.le_refl _) (.cells #[] 67)).grown hg (by simp) (fun k hk => by simp [Value.ownBlock] at hk; omega), ⟨cur, hblk, by rw [hcur]; have := Nat.mul_le_mul_right 64 hcap; omega, fun i hi j hj => ?_⟩⟩
    have e : cur.toList[64 * i + j]? = (cs.extract 0 (s.n * 64)).toList[64 * i + j]? := by
      have := congrArg (fun l => l[64 * i + j]?) htake
      simp only [List.nil_append] at this
      rw [List.getElem?_take, if_pos (by omega)] at this
      exact this
    rw [← Array.getElem?_toList, e]
    simp only [Array.getElem?_toList, Array.getElem?_extract, Nat.sub_zero, Nat.zero_add]
    rw [if_pos (by omega)]
    exact hs i hi j hj

set_option maxHeartbeats 400000 in
theorem clone_any (w : World) (d g : Nat) (s : DS) (h : DiskAt w d g s) (cap : Nat) (hcap : s.n ≤ cap) :
    Calls Try.prog 35 #[.slice (some ⟨g, 0, none⟩) s.n cap] w fun e w' => ∃ g' cap', e = .returned (.slice (some ⟨g', 0, none⟩) s.n cap') ∧ w.heap.size ≤ g' ∧ s.n ≤ cap' ∧ Below w.heap.size w w' ∧ RowOf w' g' s.n s.c := by
  obtain ⟨g', cap', w1, hr, r1, r2, r3, r4⟩ := clone_run h 63 cap
  have heq : ∀ W : World, (binOp .eql 63 (.slice (some ⟨g, 0, none⟩) s.n cap) (.slice none 0 0)).run Try.prog W = .ok (.bool false) W := fun W => Lib.run_eql_slice_nil (P := Try.prog) W _ _ _ _ _ _ _ Try.underlying63
  have HF := Lib.hid (And.intro r1 (And.intro r2 (And.intro r3 r4)))
  clear h r1 r2 r3 r4
  go_enter Try.func35, Try.ntmps35
  go_wp2_with (at_builtin; refine wpList_append_run rfl _ _ _ _ rfl _ _ _ rfl rfl hr ?_)
  go_ret
  exact ⟨g', cap', rfl, HF.out⟩

set_option maxHeartbeats 400000 in
theorem copy_any (w : World) (d g : Nat) (s : DS) (h : DiskAt w d g s) :
    Calls Try.prog 23 #[.pointer (some ⟨d, 0, none⟩)] w fun e w' => ∃ d' g', e = .returned (.pointer (some ⟨d', 0, none⟩)) ∧ w.heap.size ≤ d' ∧ w.heap.size ≤ g' ∧ Below w.heap.size w w' ∧ DiskAt w' d' g' s := by
  obtain ⟨cap, hc, h0, h1, h2, h3, hfz⟩ := h.cells
  have hlt := h.lt
  have H := Lib.hid h
  clear h
  go_enter Try.func23, Try.ntmps23
  go_wp2_with fail
  have hW : Below w.heap.size w (w.alloc (.cells #[.slice (some ⟨g, 0, none⟩) s.n cap, .bool s.off, .int .i64 s.fuse, .int .i64 s.writes] 65)) := (Below.refl _ _).alloc (Nat.le_refl _) _
  have hN := Blk.new w #[.slice (some ⟨g, 0, none⟩) s.n cap, .bool s.off, .int .i64 s.fuse, .int .i64 s.writes] 65
  refine (clone_any _ d g s (H.out.below hW) cap hc).mono ?_
  rintro e w1 ⟨g', cap', rfl, r1, r2, r3, r4⟩
  have hsz : (w.alloc (.cells #[.slice (some ⟨g, 0, none⟩) s.n cap, .bool s.off, .int .i64 s.fuse, .int .i64 s.writes] 65)).heap.size = w.heap.size + 1 := by simp
  have hN1 := hN.kp (S := fun _ => False) (Kp.of_below r3) (fun h => h)
  have hz1 : w.heap.size < w1.heap.size := hN1.lt
  have k0 := hN1.cell 0
  have kf := hN1.frozen 0
  simp only [hsz] at r1
  have hfin : Below w.heap.size w (w1.setCell ⟨w.heap.size, 0, none⟩ (.slice (some ⟨g', 0, none⟩) s.n cap')) ∧ DiskAt (w1.setCell ⟨w.heap.size, 0, none⟩ (.slice (some ⟨g', 0, none⟩) s.n cap')) w.heap.size g' s := by
    have hB : Below w.heap.size w w1 := hW.trans (r3.mono (by simp))
    refine ⟨hB.setCell (Nat.le_refl _) _, ⟨cap', r2, ?_⟩, ?_, by omega, H.out.low, H.out.high, H.out.fuse0, H.out.fuse1, H.out.wr0, H.out.wr1, H.out.len⟩
    · simpa using hN1.set 0 (.slice (some ⟨g', 0, none⟩) s.n cap')
    · obtain ⟨cs, hb, h64, hcs⟩ := r4.ex
      exact ⟨cs, hb.other _ _ (by show g' ≠ w.heap.size; omega), h64, hcs⟩
  have HF := Lib.hid hfin
  clear hN hN1 r2 r3 r4 hW hfin
  simp at k0
  go_wp2
  go_ret
  exact ⟨_, _, rfl, Nat.le_refl _, by omega, HF.out⟩

end Go.Proofs.Ytdmkphalihdmlaa
