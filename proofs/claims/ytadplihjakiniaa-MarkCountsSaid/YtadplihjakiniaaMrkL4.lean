/- MarkCounts: the walk. -/
import Derived.Test.YtadplihjakiniaaMrkL2
namespace Go.Proofs.Ytadplihjakiniaa
open Go.RowKit

theorem tmod_wrap {v n : Int} (h0 : 0 < n) (hn : n ≤ 4294967296) (h : v.tmod n < 0) : wrap64 (v.tmod n + n) = v % n := by
  have h1 := Int.tmod_lt_of_pos v h0
  have h3 : v.tmod n + n = v % n := by
    rw [Int.tmod_eq_emod] at h ⊢
    have := Int.emod_nonneg v (show n ≠ 0 by omega)
    split at h
    · omega
    · rename_i hc
      rw [if_neg hc]; omega
  rw [h3]
  have := Int.emod_nonneg v (show n ≠ 0 by omega)
  have := Int.emod_lt_of_pos v h0
  unfold wrap64; omega
theorem tmod_pos {v n : Int} (h0 : 0 < n) (h : 0 ≤ v.tmod n) : v.tmod n = v % n := by
  rw [Int.tmod_eq_emod] at h ⊢
  have := Int.emod_nonneg v (show n ≠ 0 by omega)
  have := Int.emod_lt_of_pos v h0
  have e : (n.natAbs : Int) = n := by omega
  split <;> simp_all <;> omega
set_option maxHeartbeats 400000 in
theorem place_any (v n : Int) (w : World) (h0 : 0 < n) (hn : n ≤ 4294967296) :
    Calls Try.prog 30 #[.int .i64 v, .int .i64 n] w fun e w' => e = .returned (.int .i64 (v % n)) ∧ w = w' := by
  go_enter Try.func30, Try.ntmps30
  go_wp2
  · go_ret
    rename_i h
    exact ⟨bv (tmod_wrap h0 hn h), rfl⟩
  · go_ret
    rename_i h
    exact ⟨bv (tmod_pos h0 h), rfl⟩

set_option maxRecDepth 100000 in
set_option maxHeartbeats 2000000 in
theorem counts_law (epoch : Int) (_ : (Lit.int .i64 epoch).wf = true) (number : Int) (_ : (Lit.int .i64 number).wf = true) (n : Int) (_ : (Lit.int .i64 n).wf = true) {W : World} :
    Calls Try.prog 9 #[.int .i64 epoch, .int .i64 number, .int .i64 n] W fun r w' => r = .returned (.bool true) ∧ Below W.heap.size W w' := by
  go_enter Try.func9, Try.ntmps9
  go_wp2_with fail
  refine (place_any epoch 1000 W (by omega) (by omega)).mono ?_
  rintro r w1 ⟨rfl, rfl⟩
  have e0 := Int.emod_nonneg epoch (show (1000 : Int) ≠ 0 by omega)
  have e1 := Int.emod_lt_of_pos epoch (show (0 : Int) < 1000 by omega)
  generalize epoch % 1000 = ez at *
  obtain ⟨e, rfl⟩ := Int.eq_ofNat_of_zero_le e0
  go_wp2_with fail
  refine (place_any number 1000 W (by omega) (by omega)).mono ?_
  rintro r w1 ⟨rfl, rfl⟩
  have n0 := Int.emod_nonneg number (show (1000 : Int) ≠ 0 by omega)
  have n1 := Int.emod_lt_of_pos number (show (0 : Int) < 1000 by omega)
  generalize number % 1000 = nz at *
  obtain ⟨c, rfl⟩ := Int.eq_ofNat_of_zero_le n0
  go_wp2_with fail
  refine (at_yes (by omega) (by omega) (by omega) (by omega) W).mono ?_
  rintro r w1 ⟨rfl, rfl⟩
  have hm : MV (FloatKind.f64.nearest e) (FloatKind.f64.nearest c) e c := mv_near (by omega) (by omega)
  generalize FloatKind.f64.nearest e = ma at *
  generalize FloatKind.f64.nearest c = mb at *
  go_wp2_with fail
  refine (place_any n 300 W (by omega) (by omega)).mono ?_
  rintro r w1 ⟨rfl, rfl⟩
  have k0 := Int.emod_nonneg n (show (300 : Int) ≠ 0 by omega)
  have k1 := Int.emod_lt_of_pos n (show (0 : Int) < 300 by omega)
  generalize n % 300 = kz at *
  obtain ⟨k, rfl⟩ := Int.eq_ofNat_of_zero_le k0
  go_wp2_with fail
  go_loop [10, 11] (fun v10 v11 => ∃ i : Nat, i ≤ k ∧ v11 = .int .i64 i ∧ ∃ x y, v10 = .complex .f64 x y ∧ MV x y e (c + i)) (fun _ v => k - (intOf v).toNat)
  case atStart => exact ⟨0, Nat.zero_le _, rfl, ma, mb, rfl, hm⟩
  case round =>
    obtain ⟨i, hi, rfl, x, y, rfl, hx⟩ := hrel
    by_cases hlt : i < k
    · go_wp2_with fail
      refine (next_yes hx (by omega) W).mono ?_
      rintro r w1 ⟨x2, y2, rfl, hx2, rfl⟩
      have hg1 : gapN e c e (c + i + 1) = (i : Int) + 1 := by unfold gapN; rw [if_pos ⟨rfl, by omega⟩]; omega
      have hg2 : gapB e c e (c + i + 1) = true := by unfold gapB; simp; omega
      have hx1 := hx.hn
      have hx21 := hx2.hn
      obtain ⟨sx, sy, hsub, vx, vy⟩ := sub_run hx2.re hx.re hx2.im hx.im (by omega) (by omega) 22
      rw [Int.sub_self] at vx
      rw [show ((c + i + 1 : Nat) : Int) - ((c + i : Nat) : Int) = 1 by omega] at vy
      have o1 := ord_eq vx val_zero
      have o2 := ord_eq vy val_one
      clear vx vy hx1 hx21
      go_wp2_with fail
      refine (gap_yes hm hx2 W).mono ?_
      rintro r w1 ⟨rfl, rfl⟩
      rw [hg1, hg2]
      clear hg1 hg2
      go_wp2_with fail
      refine (epoch_yes hx2 W).mono ?_
      rintro r w1 ⟨rfl, rfl⟩
      go_wp2_with fail
      refine (epoch_yes hm W).mono ?_
      rintro r w1 ⟨rfl, rfl⟩
      go_wp2_with fail
      go_round
      case rel => exact ⟨i + 1, by omega, by go_num, x2, y2, rfl, hx2⟩
      case measure => simp [intOf]; omega
    · obtain rfl : i = k := by omega
      have hg1 : ∀ q, gapB e q (e + 1) 0 = false := fun q => by unfold gapB; simp
      have hg2 : ∀ q, gapB (e + 1) 0 e q = false := fun q => by unfold gapB; simp
      have HG1 := Lib.hid hg1
      have HG2 := Lib.hid hg2
      clear hg1 hg2
      go_wp2_with fail
      refine (restart_yes hx (by omega) W).mono ?_
      rintro r w1 ⟨x2, y2, rfl, hx2, rfl⟩
      go_wp2_with fail
      refine (gap_yes hx hx2 W).mono ?_
      rintro r w1 ⟨rfl, rfl⟩
      rw [HG1.out]
      go_wp2_with fail
      refine (gap_yes hx2 hm W).mono ?_
      rintro r w1 ⟨rfl, rfl⟩
      rw [HG2.out]
      go_wp2_with fail
      refine (epoch_yes hx2 W).mono ?_
      rintro r w1 ⟨rfl, rfl⟩
      go_wp2_with fail
      refine (epoch_yes hm W).mono ?_
      rintro r w1 ⟨rfl, rfl⟩
      go_wp2_with fail
      refine (number_yes hx2 W).mono ?_
      rintro r w1 ⟨rfl, rfl⟩
      go_wp2_with fail
      refine (number_yes hx W).mono ?_
      rintro r w1 ⟨rfl, rfl⟩
      go_wp2_with fail
      refine (number_yes hm W).mono ?_
      rintro r w1 ⟨rfl, rfl⟩
      go_wp2_with fail
      refine (awake_any W).mono ?_
      rintro r w1 ⟨rfl, rfl⟩
      go_wp2_with fail
      go_ret
      exact ⟨rfl, Below.refl _ _⟩

end Go.Proofs.Ytadplihjakiniaa
