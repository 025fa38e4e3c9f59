/- WireNumbers: how a number is written; the walk. -/
import Derived.Test.YtmhcjkiaogimgaaWirO
namespace Go.Proofs.Ytmhcjkiaogimgaa
open Go.RowKit

def bn (v : Int) : NoteD := ⟨1, v, 0, 0, 0, EntryD.zero, SeenD.zero, OpD.zero⟩
theorem bn_ok (v : Int) : (bn v).ok = okN v := by
  simp [NoteD.ok, bn, NoteD.named, NoteD.nums, okIn, SeenD.zero, show okN 0 = true from rfl]
theorem bn_yes {v : Int} (h : okN v = true) : (bn v).packL = 1 :: vb v ∧ (bn v).packE = 0 := by
  constructor
  · rw [NoteD.packL, bn_ok, h, if_pos rfl, NoteD.enc, if_pos (show (bn v).kind = 1 from rfl)]; rfl
  · rw [NoteD.packE, bn_ok, h]; rfl
theorem bn_no {v : Int} (h : okN v = false) : (bn v).packL = [] ∧ (bn v).packE = 50 := by
  constructor
  · rw [NoteD.packL, bn_ok, h]; rfl
  · rw [NoteD.packE, bn_ok, h]; rfl

theorem pow_succ128 (k : Nat) : (128 : Int) ^ (k + 1) = 128 ^ k * 128 := Int.pow_succ ..
theorem pow_pos128 (k : Nat) : (0 : Int) < 128 ^ k := Int.pow_pos (by omega)
theorem vb_at : ∀ (k : Nat) (v : Int), 0 ≤ v → k < (vb v).length →
    (k + 1 < (vb v).length ∧ (vb v).getD k 0 = v / 128 ^ k % 128 + 128) ∨ (k + 1 = (vb v).length ∧ (vb v).getD k 0 = v / 128 ^ k ∧ v / 128 ^ k ≤ 127)
  | 0, v, h0, hk => by
    by_cases hb : 127 < v
    · left
      rw [vb_big hb]
      refine ⟨by have := vb_pos (v / 128); simp; omega, ?_⟩
      simp
    · right
      rw [vb_small (by omega)]
      refine ⟨rfl, ?_, by simp; omega⟩
      simp
      omega
  | k + 1, v, h0, hk => by
    by_cases hb : 127 < v
    · rw [vb_big hb] at hk ⊢
      rw [List.length_cons] at hk
      have h1 := vb_at k (v / 128) (by omega) (by omega)
      have e : v / 128 / 128 ^ k = v / 128 ^ (k + 1) := by
        rw [Int.ediv_ediv_of_nonneg (by omega), Int.mul_comm, ← pow_succ128]
      rw [e] at h1
      rw [List.length_cons, List.getD_cons_succ]
      rcases h1 with ⟨h2, h3⟩ | ⟨h2, h3, h4⟩
      · exact .inl ⟨by omega, h3⟩
      · exact .inr ⟨by omega, h3, h4⟩
    · rw [vb_small (by omega)] at hk
      simp at hk
theorem vb_lt (k : Nat) : ∀ v : Int, 0 ≤ v → (vb v).length = k → v < 128 ^ k := by
  induction k with
  | zero => intro v _ h; have := vb_pos v; omega
  | succ k ih =>
    intro v h0 h
    by_cases hb : 127 < v
    · rw [vb_big hb, List.length_cons] at h
      have := ih (v / 128) (by omega) (by omega)
      rw [pow_succ128]
      omega
    · have := pow_pos128 k
      rw [pow_succ128]
      omega
theorem vb_mono (k : Nat) : ∀ v u : Int, 0 ≤ v → v ≤ u → (vb u).length = k → (vb v).length ≤ k := by
  intro v u h0 h1 h
  have h2 := vb_lt k u (by omega) h
  have h3 := vb_pos u
  obtain ⟨j, rfl⟩ : ∃ j, k = j + 1 := ⟨k - 1, by omega⟩
  exact vb_length_le j v (by omega)
theorem vb_last {v : Int} (h0 : 0 ≤ v) {k : Nat} (hk : (vb v).length = k + 2) : (vb v).getD (k + 1) 0 ≠ 0 := by
  rcases vb_at (k + 1) v h0 (by omega) with ⟨h1, h2⟩ | ⟨_, h2, _⟩
  · omega
  · rw [h2]
    intro hz
    have hp := pow_pos128 (k + 1)
    have : v < 128 ^ (k + 1) := by
      rcases Int.lt_or_le v (128 ^ (k + 1)) with h | h
      · exact h
      · have := Int.ediv_le_ediv hp h
        rw [Int.ediv_self (by omega), hz] at this
        omega
    have := vb_length_le k v this
    omega

theorem ofInt_u8 (a : Nat) (ha : a < 256) : (BitVec.ofInt 8 (a : Int)).toNat = a := by
  rw [BitVec.ofInt_natCast, BitVec.toNat_ofNat]; exact Nat.mod_eq_of_lt (by omega)
theorem and_127u (x : Int) (h0 : 0 ≤ x) (h : x ≤ 255) : bits .and .u8 x 127 = x % 128 := by
  obtain ⟨a, rfl⟩ := Int.eq_ofNat_of_zero_le h0
  show IntKind.u8.wrap ((BitVec.ofInt 8 (a : Int) &&& BitVec.ofInt 8 ((127 : Nat) : Int)).toNat : Int) = _
  rw [BitVec.toNat_and, ofInt_u8 a (by omega), ofInt_u8 127 (by omega), show a &&& 127 = a % 128 from Nat.and_two_pow_sub_one_eq_mod a 7, u8_wrap]
  omega

theorem own_addr {w : World} {base n c : Nat} {e : TypeId} {size : Nat} {A : Option Addr} {vs : List Value} (h : w.ownsRow base e size (.slice A n c) n vs) (hn : 0 < n) : ∃ g, A = some ⟨g, 0, none⟩ := by
  obtain ⟨_, ⟨h1, h2⟩ | ⟨g, cap, cur, h1, _⟩⟩ := h
  · omega
  · injection h1 with h1
    exact ⟨g, h1⟩
theorem rd_at {k : IntKind} {w : World} {g : Nat} {l : List Int} (h : Rd k w (some ⟨g, 0, none⟩) l) (j : Nat) (hj : j < l.length) : w.cell? ⟨g, j, none⟩ = some (.int k (l.getD j 0)) := by
  obtain ⟨x, hx, _, hc⟩ := h.at_ j hj
  injection hx with hx
  subst hx
  rwa [Addr.add_mid, Nat.zero_add] at hc

set_option maxRecDepth 100000 in
set_option maxHeartbeats 8000000 in
theorem numbers_law (v : Int) (_ : (Lit.int .i64 v).wf = true) (u : Int) (_ : (Lit.int .i64 u).wf = true) {W : World} : Calls Try.prog 7 #[.int .i64 v, .int .i64 u] W fun e w' => e = .returned (.bool true) ∧ Below W.heap.size W w' := by
  cases hv : okN v with
  | false =>
    obtain ⟨l1, e1⟩ := bn_no hv
    have hv' : v < 0 ∨ 1099511627776 < v := by simp [okN] at hv; omega
    cases hu : okN u with
    | false =>
      obtain ⟨l2, e2⟩ := bn_no hu
      have hu' : u < 0 ∨ 1099511627776 < u := by simp [okN] at hu; omega
      rcases hv' with h1 | h1
      all_goals
        rcases hu' with h2 | h2
        all_goals
          go_enter Try.func7, Try.ntmps7
          go_wp2_with fail
          refine (pack_any (bn v) _ ⟨rfl⟩ _).mono ?_
          rintro e w1 ⟨A, c, rfl, o1, b1⟩
          rw [l1] at o1
          rw [l1, e1]
          have r1 := rd_of_own o1
          clear o1
          go_wp2_with fail
          refine (pack_any (bn u) _ ⟨rfl⟩ _).mono ?_
          rintro e w2 ⟨A2, c2, rfl, o2, b2⟩
          rw [l2, e2]
          have r2 := r1.below b2
          have B2 := Lib.hid (bel_next b1 b2)
          clear o2 b2 b1 r1

          simp only [List.length_nil]
          clear r2 l1 l2 e1 e2
          go_wp2_with fail
          refine (awake_any _).mono ?_
          rintro e w4 ⟨rfl, b4⟩
          go_wp2_with fail
          go_ret
          exact ⟨by first | rfl | exact bb (by simp; omega), bel_next B2.out b4⟩
    | true =>
      obtain ⟨l2, e2⟩ := bn_yes hu
      have hu' : 0 ≤ u ∧ u ≤ 1099511627776 := okN_le hu
      rcases hv' with h1 | h1
      all_goals
        go_enter Try.func7, Try.ntmps7
        go_wp2_with fail
        refine (pack_any (bn v) _ ⟨rfl⟩ _).mono ?_
        rintro e w1 ⟨A, c, rfl, o1, b1⟩
        rw [l1] at o1
        rw [l1, e1]
        have r1 := rd_of_own o1
        clear o1
        go_wp2_with fail
        refine (pack_any (bn u) _ ⟨rfl⟩ _).mono ?_
        rintro e w2 ⟨A2, c2, rfl, o2, b2⟩
        rw [l2, e2]
        have r2 := r1.below b2
        have B2 := Lib.hid (bel_next b1 b2)
        clear o2 b2 b1 r1

        simp only [List.length_cons]
        clear r2 l1 l2 e1 e2
        go_wp2_with fail
        refine (awake_any _).mono ?_
        rintro e w4 ⟨rfl, b4⟩
        go_wp2_with fail
        go_ret
        exact ⟨by first | rfl | exact bb (by simp; omega), bel_next B2.out b4⟩
  | true =>
    obtain ⟨l1, e1⟩ := bn_yes hv
    have hv' : 0 ≤ v ∧ v ≤ 1099511627776 := okN_le hv
    cases hu : okN u with
    | false =>
      obtain ⟨l2, e2⟩ := bn_no hu
      have hu' : u < 0 ∨ 1099511627776 < u := by simp [okN] at hu; omega
      rcases hu' with h2 | h2
      all_goals
        go_enter Try.func7, Try.ntmps7
        go_wp2_with fail
        refine (pack_any (bn v) _ ⟨rfl⟩ _).mono ?_
        rintro e w1 ⟨A, c, rfl, o1, b1⟩
        rw [l1] at o1
        rw [l1, e1]
        have r1 := rd_of_own o1
        clear o1
        go_wp2_with fail
        refine (pack_any (bn u) _ ⟨rfl⟩ _).mono ?_
        rintro e w2 ⟨A2, c2, rfl, o2, b2⟩
        rw [l2, e2]
        have r2 := r1.below b2
        have B2 := Lib.hid (bel_next b1 b2)
        clear o2 b2 b1 r1

        simp only [List.length_nil]
        clear r2 l1 l2 e1 e2
        go_wp2_with fail
        refine (awake_any _).mono ?_
        rintro e w4 ⟨rfl, b4⟩
        go_wp2_with fail
        go_ret
        exact ⟨by first | rfl | exact bb (by simp; omega), bel_next B2.out b4⟩
    | true =>
      obtain ⟨l2, e2⟩ := bn_yes hu
      have hu' : 0 ≤ u ∧ u ≤ 1099511627776 := okN_le hu
      have L1 : (1 :: vb v).length = (vb v).length + 1 := rfl
      have L2 : (1 :: vb u).length = (vb u).length + 1 := rfl
      have hat : Hid (∀ k, k < (vb v).length → (k + 1 < (vb v).length ∧ (vb v).getD k 0 = v / 128 ^ k % 128 + 128) ∨ (k + 1 = (vb v).length ∧ (vb v).getD k 0 = v / 128 ^ k ∧ v / 128 ^ k ≤ 127)) := fun k hk => vb_at k v hv'.1 hk
      have hmono : Hid (v ≤ u → (vb v).length ≤ (vb u).length) := fun h => vb_mono _ v u hv'.1 h rfl
      have hlt := Lib.hid (vb_lt _ v hv'.1 rfl)
      have hlast : Hid (∀ k, (vb v).length = k + 2 → (vb v).getD (k + 1) 0 ≠ 0) := fun k hk => vb_last hv'.1 hk
      have hl6 : (vb v).length ≤ 6 := vb_length_le 5 v (by omega)
      have hl1 := vb_pos v
      have hm6 : (vb u).length ≤ 6 := vb_length_le 5 u (by omega)
      clear hv hu
      go_enter Try.func7, Try.ntmps7
      go_wp2_with fail
      refine (pack_any (bn v) _ ⟨rfl⟩ _).mono ?_
      rintro e w1 ⟨A, c, rfl, o1, b1⟩
      rw [l1] at o1
      rw [l1, e1]
      obtain ⟨g, rfl⟩ := own_addr o1 (by rw [L1]; omega)
      have r1 := rd_of_own o1
      clear o1
      go_wp2_with fail
      refine (pack_any (bn u) _ ⟨rfl⟩ _).mono ?_
      rintro e w2 ⟨A2, c2, rfl, o2, b2⟩
      rw [l2, e2]
      have r2 := r1.below b2
      have B2 := Lib.hid (bel_next b1 b2)
      clear o2 b2 b1 r1

      obtain ⟨n, hn⟩ : ∃ n, n = (vb v).length := ⟨_, rfl⟩
      obtain ⟨m, hm⟩ : ∃ m, m = (vb u).length := ⟨_, rfl⟩
      rw [← hn] at hl6 hl1
      rw [← hm] at hm6
      rw [L2, ← hn, ← hm]
      have R := Lib.hid r2
      have HN := Lib.hid hn
      have HM := Lib.hid hm
      clear hn hm L1 L2 l1 l2 e1 e2 r2
      go_wp2_with fail
      go_loopw [9, 10, 11] (fun v9 v10 v11 wr => ∃ (k : Nat) (b un : Int), k ≤ n ∧ v11 = .int .i64 ((k : Int) + 1) ∧ v9 = .int .i64 b ∧ v10 = .int .i64 un ∧ Hid (b = v % 128 ^ k) ∧ Hid (un = 128 ^ k) ∧ wr = w2) (fun _ _ v _ => n + 1 - (intOf v).toNat)
      case atStart => exact ⟨0, 0, 1, Nat.zero_le _, rfl, rfl, rfl, by show _ = _; simp, by show _ = _; rfl, by trivial⟩
      case round =>
        obtain ⟨k, b, un, hk, rfl, rfl, rfl, hb, hun, rfl⟩ := hrel
        by_cases hkn : k < n
        · have hc := rd_at R.out (k + 1) (by rw [List.length_cons, ← HN.out]; omega)
          rw [List.getD_cons_succ] at hc
          rcases hat.out k (by rw [← HN.out]; exact hkn) with ⟨h1, h2⟩ | ⟨h1, h2, h3⟩
          · rw [← HN.out] at h1
            generalize (vb v).getD k 0 = y at *
            have hk6 : k = 0 ∨ k = 1 ∨ k = 2 ∨ k = 3 ∨ k = 4 ∨ k = 5 := by omega
            clear hat hlast hmono hlt HN HM
            rcases hk6 with rfl | rfl | rfl | rfl | rfl | rfl
            · obtain rfl : un = 1 := by rw [hun.out]; rfl
              have hy0 : 0 ≤ y := by omega
              have hy1 : y ≤ 255 := by omega
              have hyc : 128 ≤ y := by omega
              have hand := and_127u y hy0 hy1
              have hb0 : 0 ≤ b := by have := hb.out; omega
              have hb1 : b < 1 := by have := hb.out; omega
              obtain ⟨p, hp⟩ : ∃ p, p = y % 128 := ⟨_, rfl⟩
              rw [← hp] at hand
              have hp0 : 0 ≤ p := by omega
              have hp1 : p ≤ 127 := by omega
              have hb' : Hid (b + p * 1 = v % 128 ^ 1) := by have := hb.out; show _ = _; omega
              have hu2 : Hid ((128 : Int) = 128 ^ 1) := by show _ = _; rfl
              clear hp hb hun h2 
              simp only [Nat.reduceAdd] at hc h1
              have hi1 : (1 : Int) < (n : Int) := by omega
              go_wp2_with fail
              refine ⟨⟨1, b + p * 1, 128, by omega, by first | rfl | simp, by first | rfl | simp, rfl, hb', hu2, by trivial⟩, ?_⟩
              simp [intOf] <;> omega
            · obtain rfl : un = 128 := by rw [hun.out]; rfl
              have hy0 : 0 ≤ y := by omega
              have hy1 : y ≤ 255 := by omega
              have hyc : 128 ≤ y := by omega
              have hand := and_127u y hy0 hy1
              have hb0 : 0 ≤ b := by have := hb.out; omega
              have hb1 : b < 128 := by have := hb.out; omega
              obtain ⟨p, hp⟩ : ∃ p, p = y % 128 := ⟨_, rfl⟩
              rw [← hp] at hand
              have hp0 : 0 ≤ p := by omega
              have hp1 : p ≤ 127 := by omega
              have hb' : Hid (b + p * 128 = v % 128 ^ 2) := by have := hb.out; show _ = _; omega
              have hu2 : Hid ((16384 : Int) = 128 ^ 2) := by show _ = _; rfl
              clear hp hb hun h2 
              simp only [Nat.reduceAdd] at hc h1
              have hi1 : (2 : Int) < (n : Int) := by omega
              go_wp2_with fail
              refine ⟨⟨2, b + p * 128, 16384, by omega, by first | rfl | simp, by first | rfl | simp, rfl, hb', hu2, by trivial⟩, ?_⟩
              simp [intOf] <;> omega
            · obtain rfl : un = 16384 := by rw [hun.out]; rfl
              have hy0 : 0 ≤ y := by omega
              have hy1 : y ≤ 255 := by omega
              have hyc : 128 ≤ y := by omega
              have hand := and_127u y hy0 hy1
              have hb0 : 0 ≤ b := by have := hb.out; omega
              have hb1 : b < 16384 := by have := hb.out; omega
              obtain ⟨p, hp⟩ : ∃ p, p = y % 128 := ⟨_, rfl⟩
              rw [← hp] at hand
              have hp0 : 0 ≤ p := by omega
              have hp1 : p ≤ 127 := by omega
              have hb' : Hid (b + p * 16384 = v % 128 ^ 3) := by have := hb.out; show _ = _; omega
              have hu2 : Hid ((2097152 : Int) = 128 ^ 3) := by show _ = _; rfl
              clear hp hb hun h2 
              simp only [Nat.reduceAdd] at hc h1
              have hi1 : (3 : Int) < (n : Int) := by omega
              go_wp2_with fail
              refine ⟨⟨3, b + p * 16384, 2097152, by omega, by first | rfl | simp, by first | rfl | simp, rfl, hb', hu2, by trivial⟩, ?_⟩
              simp [intOf] <;> omega
            · obtain rfl : un = 2097152 := by rw [hun.out]; rfl
              have hy0 : 0 ≤ y := by omega
              have hy1 : y ≤ 255 := by omega
              have hyc : 128 ≤ y := by omega
              have hand := and_127u y hy0 hy1
              have hb0 : 0 ≤ b := by have := hb.out; omega
              have hb1 : b < 2097152 := by have := hb.out; omega
              obtain ⟨p, hp⟩ : ∃ p, p = y % 128 := ⟨_, rfl⟩
              rw [← hp] at hand
              have hp0 : 0 ≤ p := by omega
              have hp1 : p ≤ 127 := by omega
              have hb' : Hid (b + p * 2097152 = v % 128 ^ 4) := by have := hb.out; show _ = _; omega
              have hu2 : Hid ((268435456 : Int) = 128 ^ 4) := by show _ = _; rfl
              clear hp hb hun h2 
              simp only [Nat.reduceAdd] at hc h1
              have hi1 : (4 : Int) < (n : Int) := by omega
              go_wp2_with fail
              refine ⟨⟨4, b + p * 2097152, 268435456, by omega, by first | rfl | simp, by first | rfl | simp, rfl, hb', hu2, by trivial⟩, ?_⟩
              simp [intOf] <;> omega
            · obtain rfl : un = 268435456 := by rw [hun.out]; rfl
              have hy0 : 0 ≤ y := by omega
              have hy1 : y ≤ 255 := by omega
              have hyc : 128 ≤ y := by omega
              have hand := and_127u y hy0 hy1
              have hb0 : 0 ≤ b := by have := hb.out; omega
              have hb1 : b < 268435456 := by have := hb.out; omega
              obtain ⟨p, hp⟩ : ∃ p, p = y % 128 := ⟨_, rfl⟩
              rw [← hp] at hand
              have hp0 : 0 ≤ p := by omega
              have hp1 : p ≤ 127 := by omega
              have hb' : Hid (b + p * 268435456 = v % 128 ^ 5) := by have := hb.out; show _ = _; omega
              have hu2 : Hid ((34359738368 : Int) = 128 ^ 5) := by show _ = _; rfl
              clear hp hb hun h2 
              simp only [Nat.reduceAdd] at hc h1
              have hi1 : (5 : Int) < (n : Int) := by omega
              go_wp2_with fail
              refine ⟨⟨5, b + p * 268435456, 34359738368, by omega, by first | rfl | simp, by first | rfl | simp, rfl, hb', hu2, by trivial⟩, ?_⟩
              simp [intOf] <;> omega
            · omega
          · rw [← HN.out] at h1
            generalize (vb v).getD k 0 = y at *
            have hk6 : k = 0 ∨ k = 1 ∨ k = 2 ∨ k = 3 ∨ k = 4 ∨ k = 5 := by omega
            clear hat hlast hmono hlt HN HM
            rcases hk6 with rfl | rfl | rfl | rfl | rfl | rfl
            · obtain rfl : un = 1 := by rw [hun.out]; rfl
              have hy0 : 0 ≤ y := by omega
              have hy1 : y ≤ 255 := by omega
              have hyc : y < 128 := by omega
              have hand := and_127u y hy0 hy1
              have hb0 : 0 ≤ b := by have := hb.out; omega
              have hb1 : b < 1 := by have := hb.out; omega
              obtain ⟨p, hp⟩ : ∃ p, p = y % 128 := ⟨_, rfl⟩
              rw [← hp] at hand
              have hp0 : 0 ≤ p := by omega
              have hp1 : p ≤ 127 := by omega
              have hb' : Hid (b + p * 1 = v % 128 ^ 1) := by have := hb.out; show _ = _; omega
              have hu2 : Hid ((128 : Int) = 128 ^ 1) := by show _ = _; rfl
              clear hp hb hun h2 h3
              simp only [Nat.reduceAdd] at hc h1
              subst h1
              go_wp2_with fail
              refine ⟨⟨1, b + p * 1, 128, by omega, by first | rfl | simp, by first | rfl | simp, rfl, hb', hu2, by trivial⟩, ?_⟩
              simp [intOf] <;> omega
            · obtain rfl : un = 128 := by rw [hun.out]; rfl
              have hy0 : 0 ≤ y := by omega
              have hy1 : y ≤ 255 := by omega
              have hyc : y < 128 := by omega
              have hand := and_127u y hy0 hy1
              have hb0 : 0 ≤ b := by have := hb.out; omega
              have hb1 : b < 128 := by have := hb.out; omega
              obtain ⟨p, hp⟩ : ∃ p, p = y % 128 := ⟨_, rfl⟩
              rw [← hp] at hand
              have hp0 : 0 ≤ p := by omega
              have hp1 : p ≤ 127 := by omega
              have hb' : Hid (b + p * 128 = v % 128 ^ 2) := by have := hb.out; show _ = _; omega
              have hu2 : Hid ((16384 : Int) = 128 ^ 2) := by show _ = _; rfl
              clear hp hb hun h2 h3
              simp only [Nat.reduceAdd] at hc h1
              subst h1
              go_wp2_with fail
              refine ⟨⟨2, b + p * 128, 16384, by omega, by first | rfl | simp, by first | rfl | simp, rfl, hb', hu2, by trivial⟩, ?_⟩
              simp [intOf] <;> omega
            · obtain rfl : un = 16384 := by rw [hun.out]; rfl
              have hy0 : 0 ≤ y := by omega
              have hy1 : y ≤ 255 := by omega
              have hyc : y < 128 := by omega
              have hand := and_127u y hy0 hy1
              have hb0 : 0 ≤ b := by have := hb.out; omega
              have hb1 : b < 16384 := by have := hb.out; omega
              obtain ⟨p, hp⟩ : ∃ p, p = y % 128 := ⟨_, rfl⟩
              rw [← hp] at hand
              have hp0 : 0 ≤ p := by omega
              have hp1 : p ≤ 127 := by omega
              have hb' : Hid (b + p * 16384 = v % 128 ^ 3) := by have := hb.out; show _ = _; omega
              have hu2 : Hid ((2097152 : Int) = 128 ^ 3) := by show _ = _; rfl
              clear hp hb hun h2 h3
              simp only [Nat.reduceAdd] at hc h1
              subst h1
              go_wp2_with fail
              refine ⟨⟨3, b + p * 16384, 2097152, by omega, by first | rfl | simp, by first | rfl | simp, rfl, hb', hu2, by trivial⟩, ?_⟩
              simp [intOf] <;> omega
            · obtain rfl : un = 2097152 := by rw [hun.out]; rfl
              have hy0 : 0 ≤ y := by omega
              have hy1 : y ≤ 255 := by omega
              have hyc : y < 128 := by omega
              have hand := and_127u y hy0 hy1
              have hb0 : 0 ≤ b := by have := hb.out; omega
              have hb1 : b < 2097152 := by have := hb.out; omega
              obtain ⟨p, hp⟩ : ∃ p, p = y % 128 := ⟨_, rfl⟩
              rw [← hp] at hand
              have hp0 : 0 ≤ p := by omega
              have hp1 : p ≤ 127 := by omega
              have hb' : Hid (b + p * 2097152 = v % 128 ^ 4) := by have := hb.out; show _ = _; omega
              have hu2 : Hid ((268435456 : Int) = 128 ^ 4) := by show _ = _; rfl
              clear hp hb hun h2 h3
              simp only [Nat.reduceAdd] at hc h1
              subst h1
              go_wp2_with fail
              refine ⟨⟨4, b + p * 2097152, 268435456, by omega, by first | rfl | simp, by first | rfl | simp, rfl, hb', hu2, by trivial⟩, ?_⟩
              simp [intOf] <;> omega
            · obtain rfl : un = 268435456 := by rw [hun.out]; rfl
              have hy0 : 0 ≤ y := by omega
              have hy1 : y ≤ 255 := by omega
              have hyc : y < 128 := by omega
              have hand := and_127u y hy0 hy1
              have hb0 : 0 ≤ b := by have := hb.out; omega
              have hb1 : b < 268435456 := by have := hb.out; omega
              obtain ⟨p, hp⟩ : ∃ p, p = y % 128 := ⟨_, rfl⟩
              rw [← hp] at hand
              have hp0 : 0 ≤ p := by omega
              have hp1 : p ≤ 127 := by omega
              have hb' : Hid (b + p * 268435456 = v % 128 ^ 5) := by have := hb.out; show _ = _; omega
              have hu2 : Hid ((34359738368 : Int) = 128 ^ 5) := by show _ = _; rfl
              clear hp hb hun h2 h3
              simp only [Nat.reduceAdd] at hc h1
              subst h1
              go_wp2_with fail
              refine ⟨⟨5, b + p * 268435456, 34359738368, by omega, by first | rfl | simp, by first | rfl | simp, rfl, hb', hu2, by trivial⟩, ?_⟩
              simp [intOf] <;> omega
            · obtain rfl : un = 34359738368 := by rw [hun.out]; rfl
              have hy0 : 0 ≤ y := by omega
              have hy1 : y ≤ 255 := by omega
              have hyc : y < 128 := by omega
              have hand := and_127u y hy0 hy1
              have hb0 : 0 ≤ b := by have := hb.out; omega
              have hb1 : b < 34359738368 := by have := hb.out; omega
              obtain ⟨p, hp⟩ : ∃ p, p = y % 128 := ⟨_, rfl⟩
              rw [← hp] at hand
              have hp0 : 0 ≤ p := by omega
              have hp1 : p ≤ 127 := by omega
              have hb' : Hid (b + p * 34359738368 = v % 128 ^ 6) := by have := hb.out; show _ = _; omega
              have hu2 : Hid ((4398046511104 : Int) = 128 ^ 6) := by show _ = _; rfl
              clear hp hb hun h2 h3
              simp only [Nat.reduceAdd] at hc h1
              subst h1
              go_wp2_with fail
              refine ⟨⟨6, b + p * 34359738368, 4398046511104, by omega, by first | rfl | simp, by first | rfl | simp, rfl, hb', hu2, by trivial⟩, ?_⟩
              simp [intOf] <;> omega

        · have hke : k = n := by omega
          rw [hke] at hb
          have hbv : b = v := by
            have := hlt.out
            rw [← HN.out] at this
            rw [hb.out]
            exact Int.emod_eq_of_lt hv'.1 this
          rw [hbv, hke]
          clear hb hun hbv hke hk hkn
          by_cases hvu : u < v
          · skip
            by_cases h1n : n = 1
            · have e1 : ((n : Int) + 1 == 2) = true := by simp; omega
              clear hat hlast hmono hlt
              go_wp2_with fail
              refine (awake_any _).mono ?_
              rintro e w4 ⟨rfl, b4⟩
              go_wp2_with fail
              go_ret
              exact ⟨rfl, bel_next B2.out b4⟩
            · have e1 : ((n : Int) + 1 == 2) = false := by simp; omega
              obtain ⟨j, hj⟩ : ∃ j, n = j + 2 := ⟨n - 2, by omega⟩
              have hz := hlast.out j (by rw [← HN.out, hj])
              have hc := rd_at R.out n (by rw [List.length_cons, ← HN.out]; omega)
              rw [hj, List.getD_cons_succ, ← hj] at hc
              generalize (vb v).getD (j + 1) 0 = y at *
              have hz' : (y != 0) = true := by simpa using hz
              clear hj hz
              clear hat hlast hmono hlt
              go_wp2_with fail
              refine (awake_any _).mono ?_
              rintro e w4 ⟨rfl, b4⟩
              go_wp2_with fail
              go_ret
              exact ⟨rfl, bel_next B2.out b4⟩

          · have hnm : n ≤ m := by
              have := hmono.out (by omega)
              rwa [← HN.out, ← HM.out] at this
            by_cases h1n : n = 1
            · have e1 : ((n : Int) + 1 == 2) = true := by simp; omega
              clear hat hlast hmono hlt
              go_wp2_with fail
              refine (awake_any _).mono ?_
              rintro e w4 ⟨rfl, b4⟩
              go_wp2_with fail
              go_ret
              exact ⟨rfl, bel_next B2.out b4⟩
            · have e1 : ((n : Int) + 1 == 2) = false := by simp; omega
              obtain ⟨j, hj⟩ : ∃ j, n = j + 2 := ⟨n - 2, by omega⟩
              have hz := hlast.out j (by rw [← HN.out, hj])
              have hc := rd_at R.out n (by rw [List.length_cons, ← HN.out]; omega)
              rw [hj, List.getD_cons_succ, ← hj] at hc
              generalize (vb v).getD (j + 1) 0 = y at *
              have hz' : (y != 0) = true := by simpa using hz
              clear hj hz
              clear hat hlast hmono hlt
              go_wp2_with fail
              refine (awake_any _).mono ?_
              rintro e w4 ⟨rfl, b4⟩
              go_wp2_with fail
              go_ret
              exact ⟨rfl, bel_next B2.out b4⟩

end Go.Proofs.Ytmhcjkiaogimgaa
