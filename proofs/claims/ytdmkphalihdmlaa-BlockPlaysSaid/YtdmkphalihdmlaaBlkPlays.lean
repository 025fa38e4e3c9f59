/- BlockPlays: the walk. -/
import Derived.Test.YtdmkphalihdmlaaBlkJ
import Derived.Deep.DeepCutAuto
namespace Go.Proofs.Ytdmkphalihdmlaa
open Go.RowKit

set_option maxRecDepth 100000 in
set_option maxHeartbeats 2000000 in
theorem plays_no (n : Int) (A : Option Addr) (len cap : Nat) (w : World) (h : n < 1 ∨ 1024 < n) :
    Calls Try.prog 8 #[.int .i64 n, .slice A len cap] w fun e w' => e = .returned (.bool true) ∧ Below w.heap.size w w' := by
  go_enter Try.func8, Try.ntmps8
  go_wp2_with fail
  refine (new_bad n w (by omega)).mono ?_
  rintro e w1 ⟨rfl, rfl⟩
  go_wp2_with fail
  refine (docnew_bad n w (by omega)).mono ?_
  rintro e w1 ⟨rfl, rfl⟩
  go_wp2_with fail
  refine (awake_any w).mono ?_
  rintro e w4 ⟨rfl, b4⟩
  go_wp2_with fail
  go_ret
  exact ⟨rfl, b4⟩

/-- The script's call, in a variable of its own. -/
structure XBox (w : World) (b : Nat) (K At Ln Fl : Int) : Prop where
  blk : Blk w b #[.int .i64 K, .int .i64 At, .int .i64 Ln, .int .i64 Fl] 52
theorem XBox.cells {w : World} {b : Nat} {K At Ln Fl : Int} (h : XBox w b K At Ln Fl) : w.cell? ⟨b, 0, none⟩ = some (.int .i64 K) ∧ w.cell? ⟨b, 1, none⟩ = some (.int .i64 At) ∧ w.cell? ⟨b, 2, none⟩ = some (.int .i64 Ln) ∧ w.cell? ⟨b, 3, none⟩ = some (.int .i64 Fl) :=
  ⟨by rw [h.blk.cell]; rfl, by rw [h.blk.cell]; rfl, by rw [h.blk.cell]; rfl, by rw [h.blk.cell]; rfl⟩

theorem XBox.keep {w w' : World} {b : Nat} {K At Ln Fl : Int} (h : XBox w b K At Ln Fl) (hk : w'.heap[b]? = w.heap[b]?) : XBox w' b K At Ln Fl := ⟨hk.trans h.blk⟩
theorem XBox.below {w w' : World} {b : Nat} {K At Ln Fl : Int} (h : XBox w b K At Ln Fl) (hb : Below w.heap.size w w') : XBox w' b K At Ln Fl := ⟨h.blk.below hb⟩
abbrev XS (X : Nat) (At Ln Fl : Int) (w' : World) : Prop := w'.cell? ⟨X, 1, none⟩ = some (.int .i64 At) ∧ w'.cell? ⟨X, 2, none⟩ = some (.int .i64 Ln) ∧ w'.cell? ⟨X, 3, none⟩ = some (.int .i64 Fl)
theorem XBox.xs {w : World} {b : Nat} {K At Ln Fl : Int} (h : XBox w b K At Ln Fl) : XS b At Ln Fl w := h.cells.2

set_option maxRecDepth 100000 in
set_option maxHeartbeats 4000000 in
theorem plays_yes (n : Int) (A : Option Addr) (len cap : Nat) (f : Nat → Nat → Int) (w : World) (h1 : 1 ≤ n) (h2 : n ≤ 1024) (hl : ArgRows 4 w A len f) (hlen : len * 32 ≤ 140737488351232) :
    Calls Try.prog 8 #[.int .i64 n, .slice A len cap] w fun e w' => e = .returned (.bool true) ∧ Below w.heap.size w w' := by
  go_enter Try.func8, Try.ntmps8
  go_wp2_with fail
  refine (new_yes n w h1 h2).mono ?_
  rintro e w1 ⟨rfl, b1, d1⟩
  go_wp2_with fail
  refine (docnew_ok w.heap.size n w1 h1 h2).mono ?_
  rintro e w2 ⟨rfl, b2, d2⟩
  have z1 := d1.lt
  have HP0 : PInv w w2 0 (w.heap.size + 1) w.heap.size w1.heap.size none (DS.new n.toNat) (DD.new n) none 0 none 0 0 :=
    ⟨bel_next b1 b2, ⟨d1.below b2, d2, Match.new n (by omega)⟩, by omega, ⟨[], [], own_none _ _ _ _, own_none _ _ _ _, fun j x y hx => by simp at hx⟩, by simp [DD.new]⟩
  clear b1 b2 d1 d2
  go_wp2_with fail
  go_loopw [5, 7, 9, 10, 11] (fun v5 v7 v9 v10 v11 wr => ∃ (i d g p : Nat) (r : Option Nat) (s : DS) (D : DD) (A' : Option Addr) (c : Nat) (B : Option Addr) (e m : Nat), i ≤ len ∧ v11 = .int .i64 i ∧ v5 = .pointer (some ⟨d, 0, none⟩) ∧ v7 = .pointer (some ⟨p, 0, none⟩) ∧
    v9 = .slice A' m c ∧ v10 = .slice B m e ∧ PInv w wr i d g p r s D A' c B e m) (fun _ _ _ _ v _ => len - (intOf v).toNat)
  case atStart => exact ⟨0, _, _, _, _, _, _, _, _, _, _, _, Nat.zero_le _, rfl, rfl, rfl, rfl, rfl, HP0⟩
  case round =>
    clear HP0 z1
    obtain ⟨i, d, g, p, r, s, D, A', c, B, e, m, hi, rfl, rfl, rfl, rfl, rfl, hinv⟩ := hrel
    by_cases hlt : i < len
    · obtain ⟨b, o, rfl, hbl, hcs⟩ := (hl.below hinv.bel).at_ i hlt
      have k0 := hcs 0 (by omega)
      have k1 := hcs 1 (by omega)
      have k2 := hcs 2 (by omega)
      have k3 := hcs 3 (by omega)
      rw [Nat.add_zero] at k0
      obtain ⟨K, hK⟩ : ∃ x, Hid (f i 0 = x) := ⟨_, rfl⟩
      obtain ⟨At, hAt⟩ : ∃ x, Hid (f i 1 = x) := ⟨_, rfl⟩
      obtain ⟨Ln, hLn⟩ : ∃ x, Hid (f i 2 = x) := ⟨_, rfl⟩
      obtain ⟨Fl, hFl⟩ : ∃ x, Hid (f i 3 = x) := ⟨_, rfl⟩
      have wAt := wf_i64 (hl.wf i 1 hlt (by omega))
      rw [hK.out] at k0
      rw [hAt.out] at k1 wAt
      rw [hLn.out] at k2
      rw [hFl.out] at k3
      rw [← Nat.add_assoc] at k1 k2 k3
      clear hcs
      have hin1 : (0 : Int) ≤ (i : Int) := by omega
      have HI0 : PInv w (wr.alloc (.cells #[.int .i64 K, .int .i64 At, .int .i64 Ln, .int .i64 Fl] 52)) i d g p r s D A' c B e m := hinv.below ((Below.refl _ _).alloc (Nat.le_refl _) _)
      have HX0 : XBox (wr.alloc (.cells #[.int .i64 K, .int .i64 At, .int .i64 Ln, .int .i64 Fl] 52)) wr.heap.size K At Ln Fl := ⟨Blk.new _ _ _⟩
      obtain ⟨l1, l2, l3, l4⟩ := hinv.both.lt
      clear hinv
      go_wp2_with fail
      generalize hW : wr.alloc (.cells #[.int .i64 K, .int .i64 At, .int .i64 Ln, .int .i64 Fl] 52) = W1 at *
      have lX : wr.heap.size < W1.heap.size := by rw [← hW]; simp
      clear hW
      refine (place_any K 6 W1 (by omega) (by omega)).mono ?_
      rintro e2 w2 ⟨rfl, rfl⟩
      have hk0 := Int.emod_nonneg K (show (6 : Int) ≠ 0 by omega)
      have hk1 := Int.emod_lt_of_pos K (show (0 : Int) < 6 by omega)
      obtain ⟨X, hX⟩ : ∃ X, X = wr.heap.size := ⟨_, rfl⟩
      rw [← hX] at HX0 lX l1 l2 l3 l4 ⊢
      generalize K % 6 = K6 at *
      clear hX k0 k1 k2 k3 hl hbl hK hAt hLn hFl
      have hX1 : X ≠ d := by omega
      have hX2 : X ≠ g := by omega
      have hX3 : X ≠ p := by omega
      have hX4 : Hid (r ≠ some X) := fun h => by have := l4 X h; omega
      have ci : i + 1 ≤ 4398046511104 := by omega
      have HL4 := Lib.hid l4
      clear l4
      obtain ⟨x1, x2, x3, x4⟩ := HX0.cells
      have s0 : XS X At Ln Fl W1 := ⟨x2, x3, x4⟩
      rcases (show K6 = 0 ∨ K6 = 1 ∨ K6 = 2 ∨ K6 = 3 ∨ K6 = 4 ∨ K6 = 5 by omega) with rfl | rfl | rfl | rfl | rfl | rfl
      · have T0 : True := trivial
        go_wp2_with fail
        go_region_held3 (fun w' => XS X At Ln Fl w') ((first | assumption | exact s0 | exact s2 | exact s3 | exact s4 | exact s5)) (first | (go_at_call 13; have _t := T0; refine (bytes_any Ln Fl _).mono ?_; rintro e2 w2 ⟨rfl, b2', k2⟩; have b2 := below_undrew b2'; have HI2 := HI0.below b2; have HX2 := HX0.below b2; have s2 := HX2.xs; have z2 := b2.size; clear _t T0) | (go_at_call 12; refine (write_bytes HI2 (by omega) W1.heap.size (by omega) Ln Fl k2 At).mono ?_; rintro e2 w3 ⟨rfl, M3, kk3⟩; have HX3 := HX2.keep (kk3 X (by omega) hX1 hX2); have s3 := HX3.xs; have z3 := M3.kp.size; have T1 : True := trivial) | (go_at_call 13; have _t := T1; refine (bytes_any Ln Fl _).mono ?_; rintro e2 w4 ⟨rfl, b4, k4⟩; have M4 := M3.below b4; have HX4 := HX3.below b4; have s4 := HX4.xs; have z4 := b4.size; clear _t T1) | (go_at_call 26; refine (docwrite_bytes At Ln Fl M4 ci w3.heap.size (by omega) k4).mono ?_; rintro e2 w5 ⟨rfl, ⟨r', HI⟩, kk5⟩; have HX5 := HX4.keep (kk5 X (by omega) hX3 hX4.out); have s5 := HX5.xs))
        clear HI0 HX0 s0 x1 x2 x3 x4 HI2 HX2 s2 M3 HX3 s3 M4 HX4 s4 HX5 s5 kk3 kk5 k2 k4 b2 b2' b4
        obtain ⟨A0, cc, c1', c2'⟩ := HI.cells
        have HQ := Lib.hid HI
        clear HI
        go_wp2_with fail
        go_quiet (first | (go_at_call 19; exact HQ.out.on _) | (go_at_call 20; exact HQ.out.wr _))
        go_wp2_with fail
        go_roundw
        case rel => exact ⟨i + 1, _, _, _, _, _, _, _, _, _, _, _, by omega, by go_num, rfl, rfl, rfl, rfl, HQ.out.below ((Drawn.refl _).drewN _ |>.below _)⟩
        case measure => simp [intOf]; omega
      · go_wp2_with fail
        refine (read_any W1 d g s HI0.both.disk At).mono ?_
        obtain ⟨hm1, hm2⟩ := HI0.both.mat.read At
        obtain ⟨L, hL⟩ : ∃ L, Hid (L = s.readL At) := ⟨_, rfl⟩
        obtain ⟨E, hE⟩ : ∃ E, Hid (E = s.readE At) := ⟨_, rfl⟩
        have hll : L.length ≤ 64 := by rw [hL.out]; exact readL_le HI0.both.disk At
        rw [← hL.out, ← hE.out]
        rw [← hL.out] at hm1
        rw [← hE.out] at hm2
        have R2 : Hid (∀ w2, Below W1.heap.size W1 w2 → Calls Try.prog 27 #[.pointer (some ⟨p, 0, none⟩), .int .i64 At] w2 (DocRead w2 L E)) := fun w2 hb2 => by
          have := docread_any w2 _ p r D ((HI0.both.below hb2).doc) (by have := HI0.cnt; omega) At
          rwa [hm1, hm2] at this
        clear hm1 hm2
        rintro e2 w2 ⟨A1, k1, rfl, b2, r2⟩
        have HX2 := HX0.below b2
        obtain ⟨y1, y2, y3, y4⟩ := HX2.cells
        go_wp2_with fail
        refine (R2.out w2 b2).mono ?_
        rintro e2 w3 ⟨A2, k2, rfl, b3, r3⟩
        go_wp2_with fail
        refine (same_any A1 A2 k1 k2 L L w3 (r2.below b3) r3 (by omega) (by omega)).mono ?_
        rintro e2 w4 ⟨rfl, e4⟩
        rw [decide_eq_true (rfl : L = L)]
        have HJ := HI0.below (bel_next (bel_next b2 b3) (e4.below _))
        have HI : PInv w w4 (i + 1) d g p r s D A' c B e m := HJ.turn (S := fun _ => False) (Kp.refl _ _) (fun _ h => h.elim) HJ.both (.inl rfl) (by omega) (Nat.le_succ_of_le HJ.cnt.2)
        clear HI0 HX0 s0 x1 x2 x3 x4 HJ HX2 y1 y2 y3 y4 R2 r2 r3 b2 b3 e4
        obtain ⟨A0, cc, c1', c2'⟩ := HI.cells
        have HQ := Lib.hid HI
        clear HI
        go_wp2_with fail
        go_quiet (first | (go_at_call 19; exact HQ.out.on _) | (go_at_call 20; exact HQ.out.wr _))
        go_wp2_with fail
        go_roundw
        case rel => exact ⟨i + 1, _, _, _, _, _, _, _, _, _, _, _, by omega, by go_num, rfl, rfl, rfl, rfl, HQ.out.below ((Drawn.refl _).drewN _ |>.below _)⟩
        case measure => simp [intOf]; omega
      · have hmf := HI0.both.mat.fuse_ At
        go_wp2_with fail
        go_region_held3 (fun w' => w'.cell? ⟨X, 1, none⟩ = some (.int .i64 At)) ((first | assumption | exact s0.1 | exact s2 | exact s3)) (first | (go_at_call 18; refine (fuse_any _ d g s (HI0.below ((Drawn.refl _).drew.below _)).both.disk At wAt.2).mono ?_; rintro e2 w2 ⟨rfl, kp2, d2⟩; have M2 := (HI0.below ((Drawn.refl _).drew.below _)).mid kp2 (fun k hk => .inl hk) d2; have s2 := (kp2.cell (p := ⟨X, 1, none⟩) (show X < W1.heap.size by omega) (show ¬ X = d by omega)).trans x2) | (go_at_call 28; refine (docfuse_any _ _ p r D M2.doc At wAt.2).mono ?_; rintro e2 w3 ⟨rfl, kp3, d3⟩; have s3 := (kp3.cell (p := ⟨X, 1, none⟩) (Nat.lt_of_lt_of_le (show X < W1.heap.size by omega) kp2.size) (show ¬ X = p by omega)).trans s2))
        have HI := M2.fin kp3 (fun k hk => .inl hk) d3 hmf.2 (.inl rfl) (by rw [DD.fuseS_len]; exact Nat.le_succ_of_le HI0.cnt.2)
        clear M2 d2 d3 kp2 kp3 HI0 HX0 s0 x1 x2 x3 x4 s2 s3 hmf
        obtain ⟨A0, cc, c1', c2'⟩ := HI.cells
        have HQ := Lib.hid HI
        clear HI
        go_wp2_with fail
        go_quiet (first | (go_at_call 19; exact HQ.out.on _) | (go_at_call 20; exact HQ.out.wr _))
        go_wp2_with fail
        go_roundw
        case rel => exact ⟨i + 1, _, _, _, _, _, _, _, _, _, _, _, by omega, by go_num, rfl, rfl, rfl, rfl, HQ.out.below ((Drawn.refl _).drewN _ |>.below _)⟩
        case measure => simp [intOf]; omega
      · go_wp2_with fail
        refine (cut_any W1 d g s HI0.both.disk).mono ?_
        rintro e2 w2 ⟨rfl, kp2, d2⟩
        have M2 := HI0.mid kp2 (fun k hk => .inl hk) d2
        go_wp2_with fail
        refine (doccut_any w2 _ p r D M2.doc).mono ?_
        rintro e2 w3 ⟨rfl, kp3, d3⟩
        have HI := M2.fin kp3 (fun k hk => .inl hk) d3 HI0.both.mat.cut (.inl rfl) (Nat.le_succ_of_le HI0.cnt.2)
        clear M2 d2 d3 kp2 kp3 HI0 HX0 s0 x1 x2 x3 x4
        obtain ⟨A0, cc, c1', c2'⟩ := HI.cells
        have HQ := Lib.hid HI
        clear HI
        go_wp2_with fail
        go_quiet (first | (go_at_call 19; exact HQ.out.on _) | (go_at_call 20; exact HQ.out.wr _))
        go_wp2_with fail
        go_roundw
        case rel => exact ⟨i + 1, _, _, _, _, _, _, _, _, _, _, _, by omega, by go_num, rfl, rfl, rfl, rfl, HQ.out.below ((Drawn.refl _).drewN _ |>.below _)⟩
        case measure => simp [intOf]; omega
      · go_wp2_with fail
        refine (power_any W1 d g s HI0.both.disk).mono ?_
        rintro e2 w2 ⟨rfl, kp2, d2⟩
        have M2 := HI0.mid kp2 (fun k hk => .inl hk) d2
        go_wp2_with fail
        refine (docpower_any w2 _ p r D M2.doc).mono ?_
        rintro e2 w3 ⟨rfl, kp3, d3⟩
        have HI := M2.fin kp3 (fun k hk => .inl hk) d3 HI0.both.mat.power (.inl rfl) (Nat.le_succ_of_le HI0.cnt.2)
        clear M2 d2 d3 kp2 kp3 HI0 HX0 s0 x1 x2 x3 x4
        obtain ⟨A0, cc, c1', c2'⟩ := HI.cells
        have HQ := Lib.hid HI
        clear HI
        go_wp2_with fail
        go_quiet (first | (go_at_call 19; exact HQ.out.on _) | (go_at_call 20; exact HQ.out.wr _))
        go_wp2_with fail
        go_roundw
        case rel => exact ⟨i + 1, _, _, _, _, _, _, _, _, _, _, _, by omega, by go_num, rfl, rfl, rfl, rfl, HQ.out.below ((Drawn.refl _).drewN _ |>.below _)⟩
        case measure => simp [intOf]; omega
      · go_wp2_with fail
        refine (copy_any W1 d g s HI0.both.disk).mono ?_
        rintro e2 w2 ⟨d2, g2, rfl, r1, r2, b2, q2⟩
        have HI2 := HI0.below b2
        have HX2 := HX0.below b2
        go_wp2_with fail
        refine (doccopy_any w2 _ p r D HI2.both.doc HI2.bel.size (by have := HI2.cnt; omega)).mono ?_
        rintro e2 w3 ⟨p2, r3, rfl, r4, r5, b3, q3⟩
        have z2 := b2.size
        have HI3 := HI2.below b3
        have HX3 := HX2.below b3
        have BN : Both w w3 d2 g2 p2 r3 s D := ⟨q2.below b3, q3, HI0.both.mat⟩
        obtain ⟨y1, y2, y3, y4⟩ := HX3.cells
        have hz0 := HI0.bel.size
        have hr4 : ∀ k, r = some k → k < W1.heap.size := fun k hk => Nat.lt_trans (HL4.out k hk) (by omega)
        have HSw := Lib.hid (HI0.swap (bel_next b2 b3) BN r1 r2 (by omega) (fun k hk => by have := r5 k hk; omega) HI0.cnt.2)
        have HR5 := Lib.hid r5
        have HR4 := Lib.hid hr4
        clear HI0 HX0 s0 x1 x2 x3 x4 HI2 HX2 q2 q3 b2 b3 r5 hr4
        by_cases hev : At.tmod 2 = 0
        · have hevb : (At.tmod 2 == 0) = true := by simp [hev]
          have HC : Cop w w3 d2 g2 p2 r3 (.pointer (some ⟨d, 0, none⟩)) (.pointer (some ⟨p, 0, none⟩)) :=
            ⟨d, g, p, r, s, D, rfl, rfl, HI3.both, by omega, by omega, by omega, fun k hk hk' => by have := HR5.out k hk; have := HR4.out k hk'; omega⟩
          have HIa := HSw.out
          obtain ⟨A2, c2, w4, B2, e4, w5, hr1, hr2, hpush⟩ := HIa.push (by have := HIa.cnt; omega) _ _ rfl rfl HC
          have HI := hpush.fin
          clear HC HIa HI3 HX3 BN hpush hev
          go_wp2_with (at_builtin; first | (refine wpList_append_run rfl _ _ _ _ rfl _ _ _ rfl rfl hr1 ?_) | (refine wpList_append_run rfl _ _ _ _ rfl _ _ _ rfl rfl hr2 ?_))
          obtain ⟨A0, cc, c1', c2'⟩ := HI.cells
          have HQ := Lib.hid HI
          clear HI
          go_wp2_with fail
          go_quiet (first | (go_at_call 19; exact HQ.out.on _) | (go_at_call 20; exact HQ.out.wr _))
          go_wp2_with fail
          go_roundw
          case rel => exact ⟨i + 1, _, _, _, _, _, _, _, _, _, _, _, by omega, by go_num, rfl, rfl, rfl, rfl, HQ.out.below ((Drawn.refl _).drewN _ |>.below _)⟩
          case measure => simp [intOf]; omega
        · have hevb : (At.tmod 2 == 0) = false := by simp [hev]
          have HC : Cop w w3 d g p r (.pointer (some ⟨d2, 0, none⟩)) (.pointer (some ⟨p2, 0, none⟩)) :=
            ⟨d2, g2, p2, r3, s, D, rfl, rfl, BN, by omega, by omega, by omega, fun k hk hk' => by have := HR5.out k hk'; have := HR4.out k hk; omega⟩
          obtain ⟨A2, c2, w4, B2, e4, w5, hr1, hr2, hpush⟩ := HI3.push (by have := HI3.cnt; omega) _ _ rfl rfl HC
          have HI := hpush.fin
          clear HC HI3 HX3 BN hpush hev
          go_wp2_with (at_builtin; first | (refine wpList_append_run rfl _ _ _ _ rfl _ _ _ rfl rfl hr1 ?_) | (refine wpList_append_run rfl _ _ _ _ rfl _ _ _ rfl rfl hr2 ?_))
          obtain ⟨A0, cc, c1', c2'⟩ := HI.cells
          have HQ := Lib.hid HI
          clear HI
          go_wp2_with fail
          go_quiet (first | (go_at_call 19; exact HQ.out.on _) | (go_at_call 20; exact HQ.out.wr _))
          go_wp2_with fail
          go_roundw
          case rel => exact ⟨i + 1, _, _, _, _, _, _, _, _, _, _, _, by omega, by go_num, rfl, rfl, rfl, rfl, HQ.out.below ((Drawn.refl _).drewN _ |>.below _)⟩
          case measure => simp [intOf]; omega
    · obtain rfl : i = len := by omega
      have hcnt := hinv.cnt
      clear hl
      go_wp2_with fail
      go_loopw [19] (fun v wr => ∃ j : Nat, j ≤ m ∧ v = .int .i64 j ∧ PInv w wr i d g p r s D A' c B e m) (fun v _ => m - (intOf v).toNat)
      case atStart => exact ⟨0, Nat.zero_le _, rfl, hinv⟩
      case round =>
        clear hinv
        obtain ⟨j, hj, rfl, hinv⟩ := hrel
        by_cases hlt2 : j < m
        · obtain ⟨xs, ys, o1, o2, hc⟩ := hinv.rows
          have l1 := o1.1
          have l2 := o2.1
          obtain ⟨ga, rfl, _⟩ := own_some o1 (by omega)
          obtain ⟨gb, rfl, _⟩ := own_some o2 (by omega)
          have ex : xs[j]? = some (xs[j]'(by omega)) := List.getElem?_eq_getElem (by omega)
          have ey : ys[j]? = some (ys[j]'(by omega)) := List.getElem?_eq_getElem (by omega)
          obtain ⟨d', g', p', r', s', D', q1, q2, hB, _⟩ := (hc j _ _ ex ey).ex
          rw [q1] at ex
          rw [q2] at ey
          have k1 := (o1.cellAt j (by omega)).trans ex
          have k2 := (o2.cellAt j (by omega)).trans ey
          have HI0 := Lib.hid hinv
          have HB := Lib.hid hB
          have s0 : wr.drew.cell? ⟨ga, j, none⟩ = some (.pointer (some ⟨d', 0, none⟩)) ∧ wr.drew.cell? ⟨gb, j, none⟩ = some (.pointer (some ⟨p', 0, none⟩)) := ⟨k1, k2⟩
          have lga := World.block_lt_of_cell? wr _ k1
          have lgb := World.block_lt_of_cell? wr _ k2
          have hj0 : (0 : Int) ≤ (j : Int) := by omega
          clear hinv o1 o2 hc ex ey q1 q2 l1 l2 hB
          go_wp2_with fail
          go_region_held3 (fun w' => w'.cell? ⟨ga, j, none⟩ = some (.pointer (some ⟨d', 0, none⟩)) ∧ w'.cell? ⟨gb, j, none⟩ = some (.pointer (some ⟨p', 0, none⟩))) ((first | exact s0 | exact s1)) (first | (go_at_call 32; refine (like_any w _ d' g' p' r' s' D' (HB.out.below ((Drawn.refl _).drew.below _))).mono ?_; rintro e2 w2 ⟨rfl, b2'⟩; have b2 := below_undrew b2'; have s1 : w2.cell? ⟨ga, j, none⟩ = some (.pointer (some ⟨d', 0, none⟩)) ∧ w2.cell? ⟨gb, j, none⟩ = some (.pointer (some ⟨p', 0, none⟩)) := ⟨cell_keep b2 k1, cell_keep b2 k2⟩) | fail)
          have HI := HI0.out.below b2
          clear s0 s1 k1 k2 b2 b2'
          go_wp2_with fail
          go_roundw
          case rel => exact ⟨j + 1, by omega, by go_num, HI⟩
          case measure => simp [intOf]; omega
        · obtain rfl : j = m := by omega
          go_wp2_with fail
          refine (like_any w _ d g p r s D hinv.both).mono ?_
          rintro e2 w2 ⟨rfl, b2⟩
          go_wp2_with fail
          refine (awake_any w2).mono ?_
          rintro e2 w3 ⟨rfl, b3⟩
          go_wp2_with fail
          go_ret
          exact ⟨rfl, bel_next (hinv.below b2).bel b3⟩

/-- As the row hands it over. -/
theorem plays_law (n : Int) (_ : (Lit.int .i64 n).wf = true) (A : Option Addr) (len cap : Nat) (f : Nat → Nat → Int) {W : World} (hl : ArgRows 4 W A len f) (hlen : len * 32 ≤ 140737488351232) :
    Calls Try.prog 8 #[.int .i64 n, .slice A len cap] W fun e w' => e = .returned (.bool true) ∧ Below W.heap.size W w' := by
  by_cases h : n < 1 ∨ 1024 < n
  · exact plays_no n A len cap W h
  · exact plays_yes n A len cap f W (by omega) (by omega) hl hlen

end Go.Proofs.Ytdmkphalihdmlaa
