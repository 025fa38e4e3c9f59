/- The scroll's piece: one block of a record. -/
import Derived.Test.YtmliiggieclbeaaSclI
namespace Go.Proofs.Ytmliiggieclbeaa
open Go.RowKit

theorem first_list (gen num k n : Int) (q : Int) : (((setMany (setMany (madeCells #[.int .u8 0] 64) 0 (ints .u8 (fourL gen))) 4 (ints .u8 (fourL num))).setIfInBounds 8 (.int .u8 k)).setIfInBounds 9 (.int .u8 n)).setIfInBounds 10 (.int .u8 q) =
    ((ints .u8 (fourL gen ++ (fourL num ++ [k, n, q]))) ++ List.replicate 53 (Value.int .u8 0)).toArray := by
  show setMany (setMany (setMany (setMany (setMany (madeCells #[.int .u8 0] 64) 0 (ints .u8 (fourL gen))) 4 (ints .u8 (fourL num))) 8 [.int .u8 k]) 9 [.int .u8 n]) 10 [.int .u8 q] = _
  apply Array.toList_inj.1
  rw [setMany_list _ _ _ (by simp [setMany_size, size_madeCells]), setMany_list _ _ _ (by simp [setMany_size, size_madeCells]), setMany_list _ _ _ (by simp [setMany_size, size_madeCells]), setMany_list _ _ _ (by simp [setMany_size, size_madeCells, ints, fourL]), setMany_list _ _ _ (by simp [size_madeCells, ints, fourL]), zeros64]
  rfl
theorem piece_cells (gen num k : Nat) (r : List Int) : setMany ((ints .u8 (fourL gen ++ (fourL num ++ [(k : Int) % 256, (blks r : Int) % 256, ((heldL r k).length : Int) % 256]))) ++ List.replicate 53 (Value.int .u8 0)).toArray 11 (ints .u8 (heldL r k)) = (ints .u8 (pieceL gen num k r)).toArray := by
  have hl := held_le r k
  have h11 : (ints .u8 (fourL gen ++ (fourL num ++ [(k : Int) % 256, (blks r : Int) % 256, ((heldL r k).length : Int) % 256]))).length = 11 := rfl
  apply Array.toList_inj.1
  rw [setMany_list _ _ _ (by simp [ints, fourL]; omega)]
  rw [List.take_append_of_le_length (by rw [h11]; omega), List.take_of_length_le (by rw [h11]; omega), ints_length, ← List.drop_drop, List.drop_append_of_le_length (by rw [h11]; omega), List.drop_of_length_le (l := ints .u8 _) (by rw [h11]; omega), List.nil_append, List.drop_replicate]
  simp [pieceL, ints, fourL]

set_option maxRecDepth 100000 in
set_option maxHeartbeats 2000000 in
theorem piece_any (w : World) (gen num k b0 c : Nat) (r : List Int) (hr : RowB w b0 r) (hc : r.length ≤ c) (hk : k < blks r) (hg : goodR r) :
    Calls Try.prog 39 #[.int .i64 gen, .int .i64 num, .int .i64 k, .slice (some ⟨b0, 0, none⟩) r.length c] w fun e w' => e = .returned (.slice (some ⟨w.heap.size, 0, none⟩) 64 64) ∧ Below w.heap.size w w' ∧ Blk w' w.heap.size (ints .u8 (pieceL gen num k r)).toArray 5 := by
  have hmk := make64
  have hN := Blk.new w (madeCells #[.int .u8 0] 64) 5
  have hlt := hr.lt
  have hb8 := (good_blks hg).2
  have hgl := hg.2
  have hll := held_le r k
  have hlen := held_len r k
  have hpos := held_pos hk
  obtain ⟨n, hn⟩ : ∃ n, Hid ((heldL r k).length = n) := ⟨_, rfl⟩
  rw [hn.out] at hll hlen hpos
  have h53 : 53 * k < r.length := by unfold blks at hk; omega
  have m1 : IntKind.i64.wrap (((k : Int) + 1) * 53) = ((k : Int) + 1) * 53 := by rw [IntKind.wrap_i64]; omega
  have m2 : IntKind.i64.wrap ((k : Int) * 53) = (k : Int) * 53 := by rw [IntKind.wrap_i64]; omega
  have HN := Lib.hid hN
  have HR := Lib.hid hr
  have HBLK : Hid (∀ W, Calls Try.prog 11 #[.slice (some ⟨b0, 0, none⟩) r.length c] W fun e w' => e = .returned (.int .i64 (blks r : Int)) ∧ W = w') := fun W => blocks_any W (some ⟨b0, 0, none⟩) c r (by omega)
  clear hN hr
  go_enter Try.func39, Try.ntmps39
  go_wp2_with fail
  refine (put4_any _ w.heap.size 0 64 64 _ _ gen HN.out (by rw [size_madeCells]; omega) (by omega)).mono ?_
  rintro e w1 ⟨rfl, hk1, hB1⟩
  have HB1 := Lib.hid hB1
  clear hB1
  go_wp2_with fail
  refine (put4_any w1 w.heap.size 4 60 60 _ _ num HB1.out (by rw [setMany_size, size_madeCells]; omega) (by omega)).mono ?_
  rintro e w2 ⟨rfl, hk2, hB2⟩
  have HB2 := Lib.hid hB2
  have hcell : ∀ j, j < 64 → (∃ u, w2.cell? ⟨w.heap.size, j, none⟩ = some u) ∧ w2.frozen? ⟨w.heap.size, j, none⟩ = false := fun j hj =>
    ⟨⟨_, by rw [hB2.cell, Array.getElem?_eq_getElem (by rw [setMany_size, setMany_size, size_madeCells]; omega)]⟩, hB2.frozen _⟩
  obtain ⟨⟨u8, hu8⟩, f8⟩ := hcell 8 (by omega)
  obtain ⟨⟨u9, hu9⟩, f9⟩ := hcell 9 (by omega)
  obtain ⟨⟨u10, hu10⟩, f10⟩ := hcell 10 (by omega)
  clear hB2 hcell
  have hE : (r.length : Int) < ((k : Int) + 1) * 53 ∨ (r.length : Int) = ((k : Int) + 1) * 53 ∨ ((k : Int) + 1) * 53 < (r.length : Int) := by omega
  have hend : ∀ W, W = ((w2.setCell ⟨w.heap.size, 8, none⟩ (.int .u8 (k : Int))).setCell ⟨w.heap.size, 9, none⟩ (.int .u8 (blks r : Int))).setCell ⟨w.heap.size, 10, none⟩ (.int .u8 (n : Int)) →
      ∃ W2, (Builtin.copy_ #[22, 22] 3 #[.slice (some ⟨w.heap.size, 11, none⟩) 53 53, .slice (some ⟨b0, k * 53, none⟩) n n]).run Try.prog W = .ok (.int .i64 n) W2 ∧ Below w.heap.size w W2 ∧ Blk W2 w.heap.size (ints .u8 (pieceL gen num k r)).toArray 5 := by
    intro W hW
    have hA : Kp (fun k => k = w.heap.size) w (w.alloc (.cells (madeCells #[.int .u8 0] 64) 5)) := (Kp.refl _ w).alloc _
    have hB : Kp (fun k => k = w.heap.size) w W := by
      rw [hW]
      exact ((((hA.trans hk1).trans hk2).setCell (p := ⟨w.heap.size, 8, none⟩) rfl _).setCell (p := ⟨w.heap.size, 9, none⟩) rfl _).setCell (p := ⟨w.heap.size, 10, none⟩) rfl _
    have hblk : Blk W w.heap.size ((ints .u8 (fourL gen ++ (fourL num ++ [(k : Int), (blks r : Int), (n : Int)]))) ++ List.replicate 53 (Value.int .u8 0)).toArray 5 := by
      have := ((HB2.out.set 8 (.int .u8 (k : Int))).set 9 (.int .u8 (blks r : Int))).set 10 (.int .u8 (n : Int))
      rw [first_list] at this
      rw [hW]
      exact this
    have hrd : Rd .u8 W (some ⟨b0, 0, none⟩) r := (HR.out.rd).kp hB (fun x hx => by cases hx; show ¬ b0 = _; omega)
    have hnl : (ints .u8 (heldL r k)).length = n := by rw [ints_length, hn.out]
    have := run_copy_cells (P := Try.prog) W 22 22 3 5 w.heap.size 11 53 53 ⟨b0, k * 53, none⟩ n n (ints .u8 (heldL r k)) Try.underlying22 (by kernel_rfl) (by rw [hnl]; exact (Nat.min_eq_left hll).symm)
      (fun j v hv => by
        have hj : j < n := by have := (List.getElem?_eq_some_iff.1 hv).1; rwa [hnl] at this
        obtain ⟨x, hx, _, hcx⟩ := hrd.at_ (k * 53 + j) (by omega)
        cases hx
        rw [Addr.add_mid, Nat.zero_add] at hcx
        rw [Addr.add_mid, hcx, ← hv, ints_get _ _ _ (by rw [hn.out]; exact hj)]
        congr 2
        simp [heldL, List.getD_eq_getElem?_getD, List.getElem?_take, show j < 53 by omega, Nat.mul_comm])
      (fun j hj => by rw [hnl] at hj; rw [hblk.cell, Array.getElem?_eq_getElem (by simp [ints, fourL]; omega)]; rfl) (fun j _ => hblk.frozen _) (ints_one _ _)
    rw [hnl] at this
    refine ⟨_, this, (Kp.setCells (S := fun k => k = w.heap.size) w.heap.size rfl _ _ _ hB).below (fun k hk => by omega), ?_⟩
    have hc := hblk.setCells (ints .u8 (heldL r k)) 11
    have e := piece_cells gen num k r
    rw [hn.out, show (k : Int) % 256 = k by omega, show (blks r : Int) % 256 = blks r by omega, show (n : Int) % 256 = n by omega] at e
    rw [e] at hc
    exact hc
  have HEND := Lib.hid hend
  clear hend hk1 hk2
  rcases hE with hE | hE | hE
  · have hx : r.length - k * 53 = n := by omega
    clear hlen
    go_wp2_with fail
    refine (HBLK.out _).mono ?_
    rintro e w3 ⟨rfl, rfl⟩
    go_upto_region 7 with fail
    obtain ⟨W, hW⟩ : ∃ W, W = ((w2.setCell ⟨w.heap.size, 8, none⟩ (.int .u8 (k : Int))).setCell ⟨w.heap.size, 9, none⟩ (.int .u8 (blks r : Int))).setCell ⟨w.heap.size, 10, none⟩ (.int .u8 (n : Int)) := ⟨_, rfl⟩
    rw [← hW]
    obtain ⟨W2, hcp, hbel, hbk⟩ := HEND.out W hW
    have HF := Lib.hid (And.intro hbel hbk)
    clear hW hbel hbk HEND
    go_wp2_with fail
    go_ret
    exact ⟨rfl, HF.out⟩
  all_goals
    have hx : (k + 1) * 53 - k * 53 = n := by omega
    clear hlen
    go_wp2_with fail
    refine (HBLK.out _).mono ?_
    rintro e w3 ⟨rfl, rfl⟩
    go_upto_region 7 with fail
    obtain ⟨W, hW⟩ : ∃ W, W = ((w2.setCell ⟨w.heap.size, 8, none⟩ (.int .u8 (k : Int))).setCell ⟨w.heap.size, 9, none⟩ (.int .u8 (blks r : Int))).setCell ⟨w.heap.size, 10, none⟩ (.int .u8 (n : Int)) := ⟨_, rfl⟩
    rw [← hW]
    obtain ⟨W2, hcp, hbel, hbk⟩ := HEND.out W hW
    have HF := Lib.hid (And.intro hbel hbk)
    clear hW hbel hbk HEND
    go_wp2_with fail
    go_ret
    exact ⟨rfl, HF.out⟩

end Go.Proofs.Ytmliiggieclbeaa
