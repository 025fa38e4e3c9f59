/- The scroll's numbers in bytes: put4, get4; a half's size and start; how many pieces. -/
import Derived.Test.YtmliiggieclbeaaDskD
import Derived.Test.YtmliiggieclbeaaSclS
import Derived.Test.YtmliiggieclbeaaSclB
namespace Go.Proofs.Ytmliiggieclbeaa
open Go.RowKit

theorem fourL_take (x : Int) : (fourL x).take 0 = [] ∧ (fourL x).take 1 = [x % 256] ∧ (fourL x).take 2 = [x % 256, x / 256 % 256] ∧ (fourL x).take 3 = [x % 256, x / 256 % 256, x / 65536 % 256] ∧ (fourL x).take 4 = fourL x := ⟨rfl, rfl, rfl, rfl, rfl⟩
set_option maxHeartbeats 400000 in
theorem put4_any (w : World) (b o n c : Nat) (cs : Array Value) (t : TypeId) (x : Int) (hb : Blk w b cs t) (ho : o + 4 ≤ cs.size) (hn : 4 ≤ n) :
    Calls Try.prog 53 #[.slice (some ⟨b, o, none⟩) n c, .int .i64 x] w fun e w' => e = .returned (.tuple #[]) ∧ Kp (fun k => k = b) w w' ∧ Blk w' b (setMany cs o (ints .u8 (fourL x))) t := by
  have HB := Lib.hid hb
  clear hb
  go_enter Try.func53, Try.ntmps53
  go_wp2_with fail
  go_loopw [4, 5] (fun _ v wr => ∃ k : Nat, k ≤ 4 ∧ v = .int .i64 k ∧ Kp (fun k => k = b) w wr ∧ Hid (Blk wr b (setMany cs o (ints .u8 ((fourL x).take k))) t)) (fun _ v _ => 4 - (intOf v).toNat)
  case atStart => exact ⟨0, by omega, rfl, Kp.refl _ _, HB⟩
  case round =>
    obtain ⟨k, hk, rfl, hkp, hB⟩ := hrel
    have hcell : ∀ j, j < 4 → (∃ u, wr.cell? ⟨b, o + j, none⟩ = some u) ∧ wr.frozen? ⟨b, o + j, none⟩ = false := fun j hj =>
      ⟨⟨_, by rw [hB.out.cell, Array.getElem?_eq_getElem (by rw [setMany_size]; omega)]⟩, hB.out.frozen _⟩
    rcases (show k = 0 ∨ k = 1 ∨ k = 2 ∨ k = 3 ∨ k = 4 by omega) with rfl | rfl | rfl | rfl | rfl
    · obtain ⟨⟨u, hu⟩, hf⟩ := hcell 0 (by omega)
      simp only [Nat.add_zero] at hu hf
      have HC := Lib.hid hcell
      clear hcell
      go_wp2_with fail
      go_roundw
      case rel => exact ⟨1, by omega, by go_num, hkp.setCell (p := ⟨b, o, none⟩) rfl _, hB.out.set o _⟩
      case measure => simp [intOf]
    · obtain ⟨⟨u, hu⟩, hf⟩ := hcell 1 (by omega)
      have HC := Lib.hid hcell
      clear hcell
      go_wp2_with fail
      go_roundw
      case rel => exact ⟨2, by omega, by go_num, hkp.setCell (p := ⟨b, o + 1, none⟩) rfl _, hB.out.set (o + 1) _⟩
      case measure => simp [intOf]
    · obtain ⟨⟨u, hu⟩, hf⟩ := hcell 2 (by omega)
      have HC := Lib.hid hcell
      clear hcell
      go_wp2_with fail
      go_roundw
      case rel => exact ⟨3, by omega, by go_num, hkp.setCell (p := ⟨b, o + 2, none⟩) rfl _, hB.out.set (o + 2) _⟩
      case measure => simp [intOf]
    · obtain ⟨⟨u, hu⟩, hf⟩ := hcell 3 (by omega)
      have HC := Lib.hid hcell
      clear hcell
      go_wp2_with fail
      go_roundw
      case rel => exact ⟨4, by omega, by go_num, hkp.setCell (p := ⟨b, o + 3, none⟩) rfl _, hB.out.set (o + 3) _⟩
      case measure => simp [intOf]
    · clear hcell
      go_wp2_with fail
      go_end0
      exact ⟨rfl, hkp, hB.out⟩

set_option maxHeartbeats 400000 in
theorem get4_any (w : World) (b o n c : Nat) (l : List Int) (hr : Rd .u8 w (some ⟨b, o, none⟩) l) (hb : isBy l) (hl : l.length = n) (hn : 4 ≤ n) :
    Calls Try.prog 54 #[.slice (some ⟨b, o, none⟩) n c] w fun e w' => e = .returned (.int .i64 (four l 0)) ∧ Drawn w w' := by
  have hc : ∀ j, j < n → w.cell? ⟨b, o + j, none⟩ = some (.int .u8 (l.getD j 0)) := fun j hj => by
    obtain ⟨x, e, _, h⟩ := hr.at_ j (by omega)
    cases e
    rwa [Addr.add_mid] at h
  have h0 : w.cell? ⟨b, o, none⟩ = some (.int .u8 (l.getD 0 0)) := hc 0 (by omega)
  have h1 := hc 1 (by omega)
  have h2 := hc 2 (by omega)
  have h3 := hc 3 (by omega)
  have b0 := hb.get 0
  have b1 := hb.get 1
  have b2 := hb.get 2
  have b3 := hb.get 3
  have HR := Lib.hid (get4_bits b0 b1 b2 b3)
  have HF : Hid (four l 0 = l.getD 0 0 + 256 * l.getD 1 0 + 65536 * l.getD 2 0 + 16777216 * l.getD 3 0) := rfl
  have n0 : 0 < n := by omega
  have n1 : 1 < n := by omega
  have n2 : 2 < n := by omega
  have n3 : 3 < n := by omega
  have HC := Lib.hid hc
  have HRD := Lib.hid hr
  clear hc hr
  generalize l.getD 0 0 = p0 at *
  generalize l.getD 1 0 = p1 at *
  generalize l.getD 2 0 = p2 at *
  generalize l.getD 3 0 = p3 at *
  have w0 : IntKind.i64.wrap p0 = p0 := by rw [IntKind.wrap_i64]; omega
  have w1 : IntKind.i64.wrap p1 = p1 := by rw [IntKind.wrap_i64]; omega
  have w2 : IntKind.i64.wrap p2 = p2 := by rw [IntKind.wrap_i64]; omega
  have w3 : IntKind.i64.wrap p3 = p3 := by rw [IntKind.wrap_i64]; omega
  have s1 : IntKind.i64.wrap (p1 * 256) = p1 * 256 := by rw [IntKind.wrap_i64]; omega
  have s2 : IntKind.i64.wrap (p2 * 65536) = p2 * 65536 := by rw [IntKind.wrap_i64]; omega
  have s3 : IntKind.i64.wrap (p3 * 16777216) = p3 * 16777216 := by rw [IntKind.wrap_i64]; omega
  go_enter Try.func54, Try.ntmps54
  go_wp2_with fail
  go_quiet (fail)
  go_wp2_with fail
  go_ret
  exact ⟨bv (HR.out.trans HF.out.symm), (Drawn.refl _).drewN _⟩

theorem half_int (n : Nat) (h : 1 ≤ n) : ((n : Int) - 1).tdiv 2 = (halfN n : Int) := by
  rw [Int.tdiv_eq_ediv_of_nonneg (by omega)]
  unfold halfN
  omega
set_option maxHeartbeats 400000 in
theorem ssize_any (w : World) (d g : Nat) (s : DS) (h : DiskAt w d g s) :
    Calls Try.prog 35 #[.pointer (some ⟨d, 0, none⟩)] w fun e w' => e = .returned (.int .i64 (halfN s.n)) ∧ w = w' := by
  have hlo := h.low
  have hhi := h.high
  have hh := half_int s.n hlo
  go_enter Try.func35, Try.ntmps35
  go_wp2_with fail
  refine (size_any w d g s h).mono ?_
  rintro e w1 ⟨rfl, rfl⟩
  go_wp2_with fail
  go_ret
  exact ⟨bv (by
    have : halfN s.n ≤ 512 := by unfold halfN; omega
    unfold wrap64; omega), rfl⟩
set_option maxHeartbeats 400000 in
theorem sstart_any (w : World) (d g : Nat) (s : DS) (h : DiskAt w d g s) (k : Nat) (hk : k ≤ 1) :
    Calls Try.prog 52 #[.pointer (some ⟨d, 0, none⟩), .int .i64 k] w fun e w' => e = .returned (.int .i64 (startN s.n k)) ∧ w = w' := by
  have hhi := h.high
  have hle : halfN s.n ≤ 512 := by unfold halfN; omega
  have hst : (startN s.n k : Int) = 1 + (k : Int) * (halfN s.n : Int) := by unfold startN; push_cast; rfl
  have HS := Lib.hid hst
  have HH := Lib.hid h
  clear hst
  go_enter Try.func52, Try.ntmps52
  go_wp2_with fail
  refine (ssize_any w d g s HH.out).mono ?_
  rintro e w1 ⟨rfl, rfl⟩
  go_wp2_with fail
  go_ret
  refine ⟨bv ?_, rfl⟩
  rw [HS.out]
  rcases (show k = 0 ∨ k = 1 by omega) with rfl | rfl <;> simp [wrap64] <;> omega

theorem blks_int (l : List Int) : ((l.length : Int) + 53 - 1).tdiv 53 = (blks l : Int) := by
  rw [Int.tdiv_eq_ediv_of_nonneg (by omega)]
  unfold blks
  omega
set_option maxHeartbeats 400000 in
theorem blocks_any (w : World) (A : Option Addr) (c : Nat) (l : List Int) (hl : l.length ≤ 9223372036854775000) :
    Calls Try.prog 11 #[.slice A l.length c] w fun e w' => e = .returned (.int .i64 (blks l)) ∧ w = w' := by
  have hb := blks_int l
  go_enter Try.func11, Try.ntmps11
  go_wp2_with fail
  go_ret
  exact ⟨bv (by
    have : blks l ≤ l.length + 52 := by unfold blks; omega
    unfold wrap64; omega), rfl⟩
instance (l : List Int) : Decidable (goodR l) := inferInstanceAs (Decidable (_ ∧ _))
set_option maxHeartbeats 400000 in
theorem good_any (w : World) (A : Option Addr) (c : Nat) (l : List Int) (hl : l.length ≤ 9223372036854775000) :
    Calls Try.prog 36 #[.slice A l.length c] w fun e w' => e = .returned (.bool (decide (goodR l))) ∧ w = w' := by
  have hg : goodR l ↔ 0 < l.length ∧ l.length ≤ 424 := Iff.rfl
  have HG := Lib.hid hg
  clear hg
  by_cases h : 0 < l.length
  · go_enter Try.func36, Try.ntmps36
    go_wp2_with fail
    go_ret
    exact ⟨bb (decide_eq_decide.2 (by rw [HG.out]; omega)), rfl⟩
  · go_enter Try.func36, Try.ntmps36
    go_wp2_with fail
    go_ret
    exact ⟨bb (decide_eq_false (by rw [HG.out]; omega)).symm, rfl⟩

end Go.Proofs.Ytmliiggieclbeaa
