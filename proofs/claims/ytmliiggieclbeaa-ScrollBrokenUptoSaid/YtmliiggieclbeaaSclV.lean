/- The laws' records: so many, each one a little other. -/
import Derived.Test.YtmliiggieclbeaaSclU
namespace Go.Proofs.Ytmliiggieclbeaa
open Go.RowKit

theorem recordL_by (n fill : Int) : isBy (recordL n fill) := by
  intro z hz
  obtain ⟨i, _, rfl⟩ := List.mem_map.1 hz
  have := recByte_range fill i
  omega
/-- m records from a filling on. -/
def recsL (len fill : Int) (m : Nat) : List (List Int) := (List.range m).map fun (i : Nat) => recordL len (wrap64 (fill + (i : Int)))
theorem recsL_length (len fill : Int) (m : Nat) : (recsL len fill m).length = m := by simp [recsL]
theorem recsL_snoc (len fill : Int) (m : Nat) : recsL len fill (m + 1) = recsL len fill m ++ [recordL len (wrap64 (fill + (m : Int)))] := by simp [recsL, List.range_succ]
theorem recsL_row {len fill : Int} {m : Nat} {r : List Int} (h : r ∈ recsL len fill m) : isBy r ∧ r.length = recN len := by
  obtain ⟨i, _, rfl⟩ := List.mem_map.1 h
  exact ⟨recordL_by _ _, recordL_length _ _⟩
/-- How many: at most 300. -/
def manyN (many : Int) : Nat := (min many 300).toNat
def RecsPost (len fill many : Int) (w : World) (e : Ending) (w' : World) : Prop :=
  ∃ A c m, m = manyN many ∧ e = .returned (.slice A m c) ∧ RowList w.heap.size (fun k => w.heap.size ≤ k) w' A c (recsL len fill m) ∧ Below w.heap.size w w'

set_option maxRecDepth 100000 in
set_option maxHeartbeats 2000000 in
theorem records_any (w : World) (kind n len fill many : Int) :
    Calls Try.prog 27 #[.agg #[.int .i64 kind, .int .i64 n, .int .i64 len, .int .i64 fill, .int .i64 many]] w (RecsPost len fill many w) := by
  have hm0 : (manyN many : Int) ≤ 300 := by unfold manyN; omega
  have hm1 : ∀ i : Nat, i < manyN many ↔ (i : Int) < many ∧ (i : Int) < 300 := fun i => by unfold manyN; omega
  have HM1 := Lib.hid hm1
  obtain ⟨M, hM⟩ : ∃ M, Hid (manyN many = M) := ⟨_, rfl⟩
  rw [hM.out] at hm0
  have hbx := Blk.new w #[.int .i64 kind, .int .i64 n, .int .i64 len, .int .i64 fill, .int .i64 many] 34
  have HBX := Lib.hid hbx
  clear hm1 hbx
  go_enter Try.func27, Try.ntmps27
  go_wp2_with fail
  go_loopw [3, 4] (fun v3 v4 wr => ∃ (i : Nat) (A : Option Addr) (c : Nat), i ≤ M ∧ v4 = .int .i64 i ∧ v3 = .slice A i c ∧ Hid (Blk wr w.heap.size #[.int .i64 kind, .int .i64 n, .int .i64 len, .int .i64 fill, .int .i64 many] 34) ∧ Hid (RowList w.heap.size (fun k => w.heap.size ≤ k) wr A c (recsL len fill i)) ∧ Below w.heap.size w wr) (fun _ v _ => M - (intOf v).toNat)
  case atStart => exact ⟨0, none, 0, Nat.zero_le _, rfl, rfl, HBX, Lib.hid (RowList.nil _ _ _), (Below.refl _ _).alloc (Nat.le_refl _) _⟩
  case round =>
    obtain ⟨i, A, c, hi, rfl, rfl, hb, hr, hbel⟩ := hrel
    have e2 : wr.cell? ⟨w.heap.size, 2, none⟩ = some (.int .i64 len) := by rw [hb.out.cell]; rfl
    have e3 : wr.cell? ⟨w.heap.size, 3, none⟩ = some (.int .i64 fill) := by rw [hb.out.cell]; rfl
    have e4 : wr.cell? ⟨w.heap.size, 4, none⟩ = some (.int .i64 many) := by rw [hb.out.cell]; rfl
    have hsz := hbel.size
    by_cases hlt : i < M
    · obtain ⟨q1, q2⟩ := (HM1.out i).1 (by rw [hM.out]; exact hlt)
      have HREC := Lib.hid (record_any len (wrap64 (fill + (i : Int))) wr)
      have hsn := recsL_snoc len fill i
      have hle := recN_le len
      have hlen := recordL_length len (wrap64 (fill + (i : Int)))
      have HSN := Lib.hid hsn
      clear hsn
      generalize recordL len (wrap64 (fill + (i : Int))) = r at *
      rw [← hlen] at HREC hle
      clear hlen
      go_wp2_with fail
      refine HREC.out.mono ?_
      rintro e w2 ⟨rfl, b2, k2⟩
      have hb2 := bel_next hbel b2
      obtain ⟨A3, c3, W3, hrun, hrl, hkr, hbb⟩ := push_row w2 w.heap.size A c (recsL len fill i) (fun k => w.heap.size ≤ k) (hr.out.below b2) wr.heap.size r.length r (RowB.of_blk k2) (Nat.le_refl _) hsz (by rw [recsL_length]; omega) hb2.size
      rw [recsL_length] at hrun
      have HALL : Hid (Blk W3 w.heap.size #[.int .i64 kind, .int .i64 n, .int .i64 len, .int .i64 fill, .int .i64 many] 34 ∧ RowList w.heap.size (fun k => w.heap.size ≤ k) W3 A3 c3 (recsL len fill (i + 1))) := ⟨hkr.blk (hb.out.below b2) (by decide), by rw [HSN.out]; exact hrl⟩
      have hB3 := hbb _ hb2
      clear hrl hkr hbb k2 HREC
      go_wp2_with (first | (at_builtin; (with_reducible refine wpList_append_run rfl _ _ _ _ rfl _ _ _ ?_ ?_ hrun ?_); rfl; rfl))
      go_roundw
      case rel => exact ⟨i + 1, A3, c3, by omega, by go_num, rfl, HALL.out.1, HALL.out.2, hB3⟩
      case measure => simp [intOf]; omega
    · have hiM : i = M := by omega
      subst hiM
      have hno : ¬ ((i : Int) < many ∧ (i : Int) < 300) := fun h => by have := (HM1.out i).2 h; rw [hM.out] at this; omega
      have HNO := Lib.hid hno
      clear hno
      by_cases q1 : (i : Int) < many
      · have q2 : ¬ (i : Int) < 300 := fun h => HNO.out ⟨q1, h⟩
        go_wp2_with fail
        go_ret
        exact ⟨A, c, i, hM.out.symm, rfl, hr.out, hbel⟩
      · go_wp2_with fail
        go_ret
        exact ⟨A, c, i, hM.out.symm, rfl, hr.out, hbel⟩

end Go.Proofs.Ytmliiggieclbeaa
