/- BlockCopies: a copy stands like the first one; from then on what is done to one is not seen in the other: the walk. -/
import Derived.Test.YtdmkphalihdmlaaBlkD
import Derived.Deep.DeepCutAuto
namespace Go.Proofs.Ytdmkphalihdmlaa
open Go.RowKit

/-- What block k holds behind i writes, the j-th into the place that l names, of the bytes from base + j on. -/
def wrote (l : List Int) (n base : Int) (c0 : Nat → List Int) : Nat → Nat → List Int
  | 0, k => c0 k
  | i + 1, k => if k = (l.getD i 0 % n).toNat then bytesL 64 (base + i) else wrote l n base c0 i k
def blank : Nat → List Int := fun _ => List.replicate 64 0

/-- How a disk behind a fuse stands, when a of i writes were done. -/
def Burn (fuse : Int) (i : Nat) (a : Int) (s : DS) : Prop :=
  0 ≤ a ∧ a ≤ i ∧ ((fuse < 0 ∧ a = i ∧ s.off = false ∧ s.fuse = -1) ∨ (0 ≤ fuse ∧ a ≤ fuse ∧ ((s.off = false ∧ a = i ∧ s.fuse = fuse - a) ∨ (s.off = true ∧ a = fuse))))
theorem Burn.step {fuse : Int} {i : Nat} {a : Int} {s : DS} (h : Burn fuse i a s) {j : Int} (hj : s.has j) {l : List Int} (hl : l.length = 64) :
    (s.writeE j l = 0 ∧ s.writeS j l = s.put j l ∧ Burn fuse (i + 1) (a + 1) (s.put j l)) ∨ (s.writeE j l = 21 ∧ (s.writeS j l).c = s.c ∧ (s.writeS j l).n = s.n ∧ (s.writeS j l).writes = s.writes ∧ Burn fuse (i + 1) a (s.writeS j l)) := by
  obtain ⟨h0, h1, h2⟩ := h
  rcases h2 with ⟨hf, ha, ho, hs⟩ | ⟨hf, ha, h2⟩
  · obtain ⟨e1, e2⟩ := DS.writeS_put hj hl ho (show s.fuse ≠ 0 by omega)
    exact .inl ⟨e2, e1, by omega, by omega, .inl ⟨hf, by omega, ho, by show (if s.fuse = -1 then -1 else s.fuse - 1) = -1; rw [if_pos hs]⟩⟩
  · rcases h2 with ⟨ho, hi, hs⟩ | ⟨ho, hi⟩
    · by_cases hz : s.fuse = 0
      · refine .inr ⟨?_, ?_⟩
        · unfold DS.writeE; simp [hj, hl, ho, hz]
        · have e : s.writeS j l = { s with off := true, fuse := -1 } := by unfold DS.writeS; simp [hj, hl, ho, hz]
          rw [e]
          exact ⟨rfl, rfl, rfl, by omega, by omega, .inr ⟨hf, ha, .inr ⟨rfl, by omega⟩⟩⟩
      · obtain ⟨e1, e2⟩ := DS.writeS_put hj hl ho hz
        exact .inl ⟨e2, e1, by omega, by omega, .inr ⟨hf, by omega, .inl ⟨ho, by omega, by show (if s.fuse = -1 then -1 else s.fuse - 1) = _; rw [if_neg (by omega)]; omega⟩⟩⟩
    · refine .inr ⟨?_, ?_⟩
      · unfold DS.writeE; simp [hj, hl, ho]
      · have e : s.writeS j l = s := by unfold DS.writeS; simp [hj, hl, ho]
        rw [e]
        exact ⟨rfl, rfl, rfl, h0, by omega, .inr ⟨hf, ha, .inr ⟨ho, hi⟩⟩⟩

structure CInv1 (w wr : World) (n : Int) (l : List Int) (i : Nat) (s : DS) : Prop where
  bel : Below w.heap.size w wr
  disk : DiskAt wr (w.heap.size + 1) w.heap.size s
  n_ : s.n = n.toNat
  off : s.off = false
  fuse : s.fuse = -1
  writes : s.writes = i
  c : ∀ k, s.c k = wrote l n 0 blank i k

/-- Both disks. d: the first one's blocks are w.heap.size + 1 and w.heap.size. -/
structure CInv2 (w wr : World) (dc gc : Nat) (n : Int) (fuse : Int) (len i j : Nat) (a b : Int) (c0 : Nat → List Int) (lt : List Int) (s sc : DS) : Prop where
  bel : Below w.heap.size w wr
  disk : DiskAt wr (w.heap.size + 1) w.heap.size s
  copy : DiskAt wr dc gc sc
  fd : w.heap.size + 1 < dc
  fg : w.heap.size + 1 < gc
  n_ : s.n = n.toNat
  nc : sc.n = n.toNat
  writes : s.writes = len + a
  wc : sc.writes = len + b
  burn : Burn fuse i a s
  bc : Burn fuse j b sc
  c : ∀ k, sc.c k = wrote lt n 200 c0 b.toNat k

theorem fuse_burn {s : DS} {fuse : Int} (ho : s.off = false) (hf : s.fuse = -1) : (s.fuseS fuse).n = s.n ∧ (s.fuseS fuse).off = false ∧ (s.fuseS fuse).writes = s.writes ∧ (s.fuseS fuse).c = s.c ∧ Burn fuse 0 0 (s.fuseS fuse) := by
  by_cases h : fuse < 0
  · have e : s.fuseS fuse = s := by unfold DS.fuseS; rw [if_pos h]
    rw [e]
    exact ⟨rfl, ho, rfl, rfl, by omega, by omega, .inl ⟨h, rfl, ho, hf⟩⟩
  · have e : s.fuseS fuse = { s with fuse := fuse } := by unfold DS.fuseS; rw [if_neg h, if_neg (by simp [ho])]
    rw [e]
    exact ⟨rfl, ho, rfl, rfl, by omega, by omega, .inr ⟨by omega, by omega, .inl ⟨ho, rfl, by show fuse = _; omega⟩⟩⟩

/-- What the numbers of done writes come to. -/
theorem burn_end {fuse a : Int} {i : Nat} {s : DS} (h : Burn fuse i a s) : 0 ≤ a ∧ a ≤ i ∧ (fuse < 0 → a = i) ∧ (0 ≤ fuse → a ≤ fuse ∧ (a < fuse → a = i)) := by
  obtain ⟨h0, h1, h2⟩ := h
  refine ⟨h0, h1, fun h => ?_, fun h => ?_⟩
  · rcases h2 with h2 | h2
    · exact h2.2.1
    · omega
  · rcases h2 with h2 | ⟨_, h3, h4 | h4⟩
    · omega
    · exact ⟨h3, fun _ => h4.2.1⟩
    · exact ⟨h3, fun h => by omega⟩

/-- While the copy is read: nothing old has turned, the copy stands. -/
structure CInv3 (w wr : World) (dc gc : Nat) (sc : DS) : Prop where
  bel : Below w.heap.size w wr
  copy : DiskAt wr dc gc sc
/-- .. and what is wanted so far. -/
structure CInv4 (w wr : World) (dc gc : Nat) (sc : DS) (wb : Nat) (wl : List Int) : Prop where
  bel : Below w.heap.size w wr
  copy : DiskAt wr dc gc sc
  want : Blk wr wb (ints .u8 wl).toArray 5
theorem made64 : madeCells #[.int .u8 0] 64 = (ints .u8 (List.replicate 64 0)).toArray := by kernel_rfl

set_option maxRecDepth 100000 in
set_option maxHeartbeats 4000000 in
theorem copies_yes (n : Int) (A B C : Option Addr) (la ca lb cb lc cc : Nat) (za zb zc : List Int) (fuse : Int) (w : World) (h1 : 1 ≤ n) (h2 : n ≤ 1024) (hf2 : fuse ≤ 9223372036854775807)
    (ha : ArgInts .i64 w A la za) (hla : la * 8 ≤ 140737488351232) (hb : ArgInts .i64 w B lb zb) (hlb : lb * 8 ≤ 140737488351232) (hc : ArgInts .i64 w C lc zc) (hlc : lc * 8 ≤ 140737488351232) :
    Calls Try.prog 7 #[.int .i64 n, .slice A la ca, .int .i64 fuse, .slice B lb cb, .slice C lc cc] w fun e w' => e = .returned (.bool true) ∧ Below w.heap.size w w' := by
  go_enter Try.func7, Try.ntmps7
  go_wp2_with fail
  refine (new_yes n w h1 h2).mono ?_
  rintro e w1 ⟨rfl, b1, d1⟩
  go_wp2_with fail
  go_loopw [13] (fun v wr => ∃ i : Nat, i ≤ la ∧ v = .int .i64 i ∧ ∃ s, CInv1 w wr n za i s) (fun v _ => la - (intOf v).toNat)
  case atStart => exact ⟨0, Nat.zero_le _, rfl, _, b1, d1, rfl, rfl, rfl, rfl, fun k => rfl⟩
  case round =>
    clear d1
    obtain ⟨i, hi, rfl, s, hinv⟩ := hrel
    have zd := hinv.disk.lt
    have hn := hinv.n_
    by_cases hlt : i < la
    · obtain ⟨x, rfl, hx⟩ := (ha.below hinv.bel).at_ i hlt
      go_wp2_with fail
      refine (place_any (za.getD i 0) n wr (by omega) (by omega)).mono ?_
      rintro e w2 ⟨rfl, rfl⟩
      have hj0 := Int.emod_nonneg (za.getD i 0) (show n ≠ 0 by omega)
      have hj1 := Int.emod_lt_of_pos (za.getD i 0) (show 0 < n by omega)
      obtain ⟨j, hj⟩ : ∃ j, Hid (za.getD i 0 % n = j) := ⟨_, rfl⟩
      rw [hj.out] at hj0 hj1 ⊢
      go_wp2_with fail
      refine (bytes64 _ wr).mono ?_
      rintro e w2 ⟨rfl, b2, k2⟩
      go_wp2_with fail
      refine (write_yes w2 _ _ _ (hinv.disk.below b2) j hj0 (by omega) _ _ _ (bytes64_length _) k2 (by omega) hinv.off (by rw [hinv.fuse]; omega) (by rw [hinv.writes]; omega)).mono ?_
      rintro e w3 ⟨rfl, b3, d3⟩
      have B3 := bel_nextK (bel_next hinv.bel b2) b3 (fun k hk => by omega)
      have HI3 : CInv1 w w3 n za (i + 1) (s.put j (bytesL 64 ↑i)) := ⟨B3, d3, hn, hinv.off, by show (if s.fuse = -1 then -1 else s.fuse - 1) = -1; rw [if_pos hinv.fuse], by show s.writes + 1 = _; rw [hinv.writes]; omega,
        fun k => by show (if k = j.toNat then _ else _) = (if k = (za.getD i 0 % n).toNat then _ else _); rw [hj.out, hinv.c k, Int.zero_add]⟩
      go_wp2_with fail
      go_roundw
      case rel => exact ⟨i + 1, by omega, by go_num, _, HI3⟩
      case measure => simp [intOf]; omega
    · obtain rfl : i = la := by omega
      go_wp2_with fail
      refine (fuse_any wr _ _ _ hinv.disk fuse hf2).mono ?_
      rintro e w2 ⟨rfl, b2, d2⟩
      go_wp2_with fail
      refine (copy_any w2 _ _ _ d2).mono ?_
      rintro e w3 ⟨dc, gc, rfl, r1, r2, b3, d3⟩
      have zs := b2.size
      have B3 := bel_next (bel_nextK hinv.bel b2 (fun k hk => by omega)) b3
      have D3 := d2.below b3
      obtain ⟨q1, q2, q3, q4, q5⟩ := fuse_burn (fuse := fuse) hinv.off hinv.fuse
      generalize s.fuseS fuse = s2 at *
      have HI : CInv2 w w3 dc gc n fuse i 0 0 0 0 (wrote za n 0 blank i) zc s2 s2 := ⟨B3, D3, d3, by have := b2.size; omega, by have := b2.size; omega, by rw [q1, hn], by rw [q1, hn], by rw [q3, hinv.writes]; omega, by rw [q3, hinv.writes]; omega, q5, q5, fun k => by rw [q4, hinv.c k]; rfl⟩
      have Q1 : Hid (s2.n = n.toNat) := HI.n_
      have Q3 : Hid (s2.writes = i) := by show _ = _; rw [q3, hinv.writes]
      have Q2 : Hid (s2.off = false) := q2
      have hn2 : ((s2.n : Int) != n) = false := by rw [Q1.out]; simp; omega
      clear q1 q2 q3 q4 q5 hinv d2
      go_wp2_with fail
      refine (size_any w3 _ _ _ d3).mono ?_
      rintro e w4 ⟨rfl, rfl⟩
      go_wp2_with fail
      refine (on_any w3 _ _ _ d3).mono ?_
      rintro e w4 ⟨rfl, rfl⟩
      rw [Q2.out]
      go_wp2_with fail
      refine (on_any w3 _ _ _ D3).mono ?_
      rintro e w4 ⟨rfl, rfl⟩
      rw [Q2.out]
      go_wp2_with fail
      refine (writes_any w3 _ _ _ d3).mono ?_
      rintro e w4 ⟨rfl, rfl⟩
      rw [Q3.out]
      go_wp2_with fail
      refine (writes_any w3 _ _ _ D3).mono ?_
      rintro e w4 ⟨rfl, rfl⟩
      rw [Q3.out]
      clear Q1 Q2 Q3 d3 D3 hn2 hn
      clear b1 b2 b3 B3 r1 r2 zs zd
      go_upto_region 13 with fail
      go_cut [100] from 26 (fun v w' => v = .bool (decide (0 ≤ fuse ∧ fuse < (lb : Int) + lc)) ∧ w' = w3)
      case first =>
        by_cases hf0 : 0 ≤ fuse
        · by_cases hf1 : fuse < (lb : Int) + lc
          all_goals
            go_wp2_with fail
            go_meet
            exact ⟨by simp [hf0, hf1], rfl⟩
        · have hd : decide (0 ≤ fuse) = false := decide_eq_false hf0
          go_wp2_with fail
          go_meet
          exact ⟨by simp; omega, rfl⟩
      case rest =>
      obtain ⟨rfl, rfl⟩ := hcut
      obtain ⟨p, hp⟩ : ∃ p, Hid (decide (0 ≤ fuse ∧ fuse < (lb : Int) + lc) = p) := ⟨_, rfl⟩
      rw [hp.out]
      go_upto_if 100 with fail
      obtain ⟨left, HL⟩ : ∃ left : Int, Hid (left = if p = true then fuse else (lb : Int) + lc) := ⟨_, rfl⟩
      go_cut [15] from 26 (fun v w' => v = .int .i64 left ∧ w' = wc)
      case first =>
        cases p
        all_goals
          have hl0 := HL.out
          simp only [if_true, Bool.false_eq_true, if_false] at hl0
          subst hl0
          go_wp2_with fail
          go_meet
          exact ⟨rfl, rfl⟩
      case rest =>
      obtain ⟨rfl, rfl⟩ := hcut
      have HL2 : Hid ((fuse < 0 ∧ left = (lb : Int) + lc) ∨ (0 ≤ fuse ∧ left ≤ fuse ∧ left ≤ (lb : Int) + lc ∧ (left = fuse ∨ left = (lb : Int) + lc))) := by
        show _ ∨ _
        have h1 := HL.out
        have h2 := hp.out
        cases p
        · have := of_decide_eq_false h2
          simp at h1
          omega
        · have := of_decide_eq_true h2
          simp at h1
          omega
      have HL3 : left ≤ (lb : Int) + lc := by have := HL2.out; omega
      clear HL hp
      go_wp2_with fail
      go_loopw [16, 17] (fun v16 v17 wr => ∃ i2 : Nat, i2 ≤ lb ∧ v17 = .int .i64 i2 ∧ ∃ a s, v16 = .int .i64 a ∧ CInv2 w wr dc gc n fuse i i2 0 a 0 (wrote za n 0 blank i) zc s s2) (fun _ v _ => lb - (intOf v).toNat)
      case atStart => exact ⟨0, Nat.zero_le _, rfl, 0, _, rfl, HI⟩
      case round =>
        clear HI
        obtain ⟨i2, hi2, rfl, a, s, rfl, hinv⟩ := hrel
        have zd := hinv.disk.lt
        have zc2 := hinv.copy.lt
        have hn := hinv.n_
        have hfd := hinv.fd
        have hfg := hinv.fg
        obtain ⟨ea0, ea1, _, _⟩ := burn_end hinv.burn
        by_cases hlt2 : i2 < lb
        · obtain ⟨x, rfl, hx⟩ := (hb.below hinv.bel).at_ i2 hlt2
          go_wp2_with fail
          refine (place_any (zb.getD i2 0) n _ (by omega) (by omega)).mono ?_
          rintro e w4 ⟨rfl, rfl⟩
          have hj0 := Int.emod_nonneg (zb.getD i2 0) (show n ≠ 0 by omega)
          have hj1 := Int.emod_lt_of_pos (zb.getD i2 0) (show 0 < n by omega)
          generalize zb.getD i2 0 % n = j at *
          go_wp2_with fail
          refine (bytes64 _ _).mono ?_
          rintro e w4 ⟨rfl, b4, k4⟩
          go_wp2_with fail
          refine (write_at w4 _ _ _ (hinv.disk.below b4) j _ _ _ (bytes64_length _) k4 (by omega) (by rw [hinv.writes]; omega)).mono ?_
          rintro e w5 ⟨rfl, b5, d5⟩
          have B5 := bel_nextK (bel_next hinv.bel b4) b5 (fun k hk => by omega)
          have C5 := (hinv.copy.below b4).kp b5 (by omega) (by omega)
          rcases hinv.burn.step (j := j) ⟨hj0, by omega⟩ (bytes64_length (100 + ↑i2)) with ⟨e1, e2, e3⟩ | ⟨e1, e2, e3, e4, e5⟩
          · rw [e1]
            rw [e2] at d5
            have HI5 : CInv2 w w5 dc gc n fuse i (i2 + 1) 0 (a + 1) 0 (wrote za n 0 blank i) zc (s.put j (bytesL 64 (100 + ↑i2))) s2 := ⟨B5, d5, C5, hfd, hfg, hn, hinv.nc, by show s.writes + 1 = _; rw [hinv.writes]; omega, hinv.wc, e3, hinv.bc, hinv.c⟩
            clear e1 e2 e3 d5 C5 hinv k4 b4 b5
            go_wp2_with fail
            go_roundw
            case rel => exact ⟨i2 + 1, by omega, by go_num, _, _, rfl, HI5⟩
            case measure => simp [intOf]; omega
          · rw [e1]
            have HI5 : CInv2 w w5 dc gc n fuse i (i2 + 1) 0 a 0 (wrote za n 0 blank i) zc (s.writeS j (bytesL 64 (100 + ↑i2))) s2 := ⟨B5, d5, C5, hfd, hfg, by rw [e3, hn], hinv.nc, by rw [e4, hinv.writes], hinv.wc, e5, hinv.bc, hinv.c⟩
            clear e1 e2 e3 e4 e5 d5 C5 hinv k4 b4 b5
            go_wp2_with fail
            go_roundw
            case rel => exact ⟨i2 + 1, by omega, by go_num, _, _, rfl, HI5⟩
            case measure => simp [intOf]; omega
        · obtain rfl : i2 = lb := by omega
          have HJ : CInv2 w wr dc gc n fuse i i2 0 a 0 (wrote za n 0 blank i) zc s s2 := hinv
          clear hinv
          go_wp2_with fail
          go_loopw [18, 19] (fun v18 v19 wr => ∃ i3 : Nat, i3 ≤ lc ∧ v19 = .int .i64 i3 ∧ ∃ b sc, v18 = .int .i64 b ∧ CInv2 w wr dc gc n fuse i i2 i3 a b (wrote za n 0 blank i) zc s sc) (fun _ v _ => lc - (intOf v).toNat)
          case atStart => exact ⟨0, Nat.zero_le _, rfl, 0, _, rfl, HJ⟩
          case round =>
            clear HJ zd zc2
            obtain ⟨i3, hi3, rfl, b, sc, rfl, hinv⟩ := hrel
            have zd := hinv.disk.lt
            have zc2 := hinv.copy.lt
            have hnc := hinv.nc
            obtain ⟨eb0, eb1, _, _⟩ := burn_end hinv.bc
            by_cases hlt3 : i3 < lc
            · obtain ⟨x, rfl, hx⟩ := (hc.below hinv.bel).at_ i3 hlt3
              go_wp2_with fail
              refine (place_any (zc.getD i3 0) n _ (by omega) (by omega)).mono ?_
              rintro e w4 ⟨rfl, rfl⟩
              have hj0 := Int.emod_nonneg (zc.getD i3 0) (show n ≠ 0 by omega)
              have hj1 := Int.emod_lt_of_pos (zc.getD i3 0) (show 0 < n by omega)
              obtain ⟨j, hj⟩ : ∃ j, Hid (zc.getD i3 0 % n = j) := ⟨_, rfl⟩
              rw [hj.out] at hj0 hj1 ⊢
              go_wp2_with fail
              refine (bytes64 _ _).mono ?_
              rintro e w4 ⟨rfl, b4, k4⟩
              go_wp2_with fail
              refine (write_at w4 _ _ _ (hinv.copy.below b4) j _ _ _ (bytes64_length _) k4 (by omega) (by rw [hinv.wc]; omega)).mono ?_
              rintro e w5 ⟨rfl, b5, d5⟩
              have B5 := bel_nextK (bel_next hinv.bel b4) b5 (fun k hk => by omega)
              have C5 := (hinv.disk.below b4).kp b5 (by omega) (by omega)
              rcases hinv.bc.step (j := j) ⟨hj0, by omega⟩ (bytes64_length (200 + ↑i3)) with ⟨e1, e2, e3⟩ | ⟨e1, e2, e3, e4, e5⟩
              · rw [e1]
                rw [e2] at d5
                have hbi : b.toNat = i3 := by
                  rcases hinv.bc.2.2 with ⟨_, h, _⟩ | ⟨_, _, ⟨_, h, _⟩ | ⟨h, h'⟩⟩
                  · omega
                  · omega
                  · exfalso
                    have : sc.writeE j (bytesL 64 (200 + ↑i3)) = 21 := by unfold DS.writeE; simp [show sc.has j from ⟨hj0, by omega⟩, bytes64_length, h]
                    omega
                have HI5 : CInv2 w w5 dc gc n fuse i i2 (i3 + 1) a (b + 1) (wrote za n 0 blank i) zc s (sc.put j (bytesL 64 (200 + ↑i3))) := ⟨B5, C5, d5, hfd, hfg, hn, hinv.nc, hinv.writes, by show sc.writes + 1 = _; rw [hinv.wc]; omega, hinv.burn, e3,
                  fun k => by
                    rw [show (b + 1).toNat = i3 + 1 by omega]
                    show (if k = j.toNat then _ else _) = (if k = (zc.getD i3 0 % n).toNat then _ else _)
                    rw [hj.out, hinv.c k, hbi]⟩
                clear e1 e2 e3 d5 C5 hinv k4 b4 b5 hbi
                go_wp2_with fail
                go_roundw
                case rel => exact ⟨i3 + 1, by omega, by go_num, _, _, rfl, HI5⟩
                case measure => simp [intOf]; omega
              · rw [e1]
                have HI5 : CInv2 w w5 dc gc n fuse i i2 (i3 + 1) a b (wrote za n 0 blank i) zc s (sc.writeS j (bytesL 64 (200 + ↑i3))) := ⟨B5, C5, d5, hfd, hfg, hn, by rw [e3]; exact hinv.nc, hinv.writes, by rw [e4, hinv.wc], hinv.burn, e5, fun k => by rw [e2]; exact hinv.c k⟩
                clear e1 e2 e3 e4 e5 d5 C5 hinv k4 b4 b5
                go_wp2_with fail
                go_roundw
                case rel => exact ⟨i3 + 1, by omega, by go_num, _, _, rfl, HI5⟩
                case measure => simp [intOf]; omega
            · obtain rfl : i3 = lc := by omega
              obtain ⟨wx, rfl⟩ : ∃ wx : World, wx = wr := ⟨_, rfl⟩
              go_upto_region 27 with fail
              go_cut [189] from 26 (fun v w' => v = .bool false ∧ w' = wx)
              case first => as_aux_lemma =>
                obtain ⟨_, _, ea2, ea3⟩ := burn_end hinv.burn
                obtain ⟨_, _, eb2, eb3⟩ := burn_end hinv.bc
                have g1 := HL2.out
                have hfa : fuse < 0 ∨ (0 ≤ fuse ∧ a ≤ fuse ∧ (a < fuse → a = i2)) := by
                  rcases Int.lt_or_le fuse 0 with h | h
                  · exact .inl h
                  · exact .inr ⟨h, ea3 h⟩
                have hfb : fuse < 0 ∨ (0 ≤ fuse ∧ b ≤ fuse ∧ (b < fuse → b = i3)) := by
                  rcases Int.lt_or_le fuse 0 with h | h
                  · exact .inl h
                  · exact .inr ⟨h, eb3 h⟩
                have X1 : a ≤ left := by omega
                have X2 : b ≤ left := by omega
                have X3 : a < left → a = i2 := by omega
                have X4 : b < left → b = i3 := by omega
                have W1 := Lib.hid hinv.writes
                have W2 := Lib.hid hinv.wc
                clear ea2 ea3 eb2 eb3 g1 hfa hfb
                by_cases hA : a < left <;> by_cases hB : b < left
                all_goals
                  try have X5 := X3 hA
                  try have X6 := X4 hB
                  try have Y5 : (i2 : Int) ≤ a := by omega
                  try have Y6 : (i3 : Int) ≤ b := by omega
                  clear X3 X4
                  try clear X5
                  try clear X6
                  go_wp2_with fail
                  refine (writes_any _ _ _ _ hinv.disk).mono ?_
                  rintro e w4 ⟨rfl, rfl⟩
                  rw [W1.out]
                  go_wp2_with fail
                  refine (writes_any _ _ _ _ hinv.copy).mono ?_
                  rintro e w4 ⟨rfl, rfl⟩
                  rw [W2.out]
                  go_wp2_with fail
                  go_meet
                  exact ⟨by simp; omega, rfl⟩
              case rest => as_aux_lemma =>
                obtain ⟨rfl, rfl⟩ := hcut
                have HC : CInv3 w wc dc gc sc := ⟨hinv.bel, hinv.copy⟩
                have HCC : Hid (∀ k, sc.c k = wrote zc n 200 (wrote za n 0 blank i) b.toNat k) := hinv.c
                have HNC : Hid (sc.n = n.toNat) := hnc
                have hmk := make64
                clear hinv hnc zd zc2 hn
                go_wp2_with fail
                go_loopw [20] (fun v wr => ∃ k : Nat, k ≤ 20 ∧ v = .int .i64 k ∧ CInv3 w wr dc gc sc) (fun v _ => 20 - (intOf v).toNat)
                case atStart => exact ⟨0, by omega, rfl, HC⟩
                case round =>
                  obtain ⟨k, hk, rfl, hinv⟩ := hrel
                  obtain ⟨wo, rfl⟩ : ∃ wo : World, wo = wr := ⟨_, rfl⟩
                  by_cases hkn : (k : Int) < n
                  · by_cases hk20 : k < 20
                    · have hd20 : decide ((k : Int) < 20) = true := decide_eq_true (by omega)
                      have hw0 : CInv4 w (wo.alloc (.cells (madeCells #[.int .u8 0] 64) 5)) dc gc sc wo.heap.size (wrote za n 0 blank 0 k) := by
                        have b2 : Below wo.heap.size wo (wo.alloc (.cells (madeCells #[.int .u8 0] 64) 5)) := (Below.refl _ _).alloc (Nat.le_refl _) _
                        refine ⟨bel_next hinv.bel b2, hinv.copy.below b2, ?_⟩
                        have := Blk.new wo (madeCells #[.int .u8 0] 64) 5
                        rw [made64] at this ⊢
                        exact this
                      go_wp2_with fail
                      go_loopw [21, 22] (fun v21 v22 wr => ∃ i4 : Nat, i4 ≤ i ∧ v22 = .int .i64 i4 ∧ ∃ wb, v21 = .slice (some ⟨wb, 0, none⟩) 64 64 ∧ CInv4 w wr dc gc sc wb (wrote za n 0 blank i4 k)) (fun _ v _ => i - (intOf v).toNat)
                      case atStart => exact ⟨0, Nat.zero_le _, rfl, _, rfl, hw0⟩
                      case round =>
                        clear hw0
                        obtain ⟨i4, hi4, rfl, wb, rfl, hin⟩ := hrel
                        by_cases hlt4 : i4 < i
                        · obtain ⟨x, rfl, hx⟩ := (ha.below hin.bel).at_ i4 hlt4
                          go_wp2_with fail
                          refine (place_any (za.getD i4 0) n _ (by omega) (by omega)).mono ?_
                          rintro e w4 ⟨rfl, rfl⟩
                          have hj0 := Int.emod_nonneg (za.getD i4 0) (show n ≠ 0 by omega)
                          have hwr : wrote za n 0 blank (i4 + 1) k = if k = (za.getD i4 0 % n).toNat then bytesL 64 (0 + i4) else wrote za n 0 blank i4 k := rfl
                          generalize za.getD i4 0 % n = j at *
                          by_cases hjk : j = (k : Int)
                          · have hb1 : (j == (k : Int)) = true := by simpa using hjk
                            rw [if_pos (by omega), Int.zero_add] at hwr
                            have HWR := Lib.hid hwr
                            clear hwr hjk
                            go_wp2_with fail
                            refine (bytes64 _ _).mono ?_
                            rintro e w4 ⟨rfl, b4, k4⟩
                            rw [← HWR.out] at k4
                            have HI5 : CInv4 w w4 dc gc sc _ (wrote za n 0 blank (i4 + 1) k) := ⟨bel_next hin.bel b4, hin.copy.below b4, k4⟩
                            clear hin b4 k4
                            go_wp2_with fail
                            go_roundw
                            case rel => exact ⟨i4 + 1, by omega, by go_num, _, rfl, HI5⟩
                            case measure => simp [intOf]; omega
                          · have hb1 : (j == (k : Int)) = false := by simpa using hjk
                            rw [if_neg (by omega)] at hwr
                            have HI5 : CInv4 w wr dc gc sc wb (wrote za n 0 blank (i4 + 1) k) := by rw [hwr]; exact hin
                            clear hwr hjk hin
                            go_wp2_with fail
                            go_roundw
                            case rel => exact ⟨i4 + 1, by omega, by go_num, _, rfl, HI5⟩
                            case measure => simp [intOf]; omega
                        · obtain rfl : i4 = i := by omega
                          obtain ⟨wp, rfl⟩ : ∃ wp : World, wp = wr := ⟨_, rfl⟩
                          go_wp2_with fail
                          go_loopw [21, 23] (fun v21 v23 wr => ∃ i5 : Nat, (i5 : Int) ≤ b ∧ v23 = .int .i64 i5 ∧ ∃ wb, v21 = .slice (some ⟨wb, 0, none⟩) 64 64 ∧ CInv4 w wr dc gc sc wb (wrote zc n 200 (wrote za n 0 blank i4) i5 k)) (fun _ v _ => b.toNat - (intOf v).toNat)
                          case atStart => exact ⟨0, by omega, rfl, _, rfl, hin⟩
                          case round =>
                            clear hin
                            obtain ⟨i5, hi5, rfl, wb, rfl, hin⟩ := hrel
                            by_cases hlt5 : (i5 : Int) < b
                            · obtain ⟨x, rfl, hx⟩ := (hc.below hin.bel).at_ i5 (by omega)
                              go_wp2_with fail
                              refine (place_any (zc.getD i5 0) n _ (by omega) (by omega)).mono ?_
                              rintro e w4 ⟨rfl, rfl⟩
                              have hj0 := Int.emod_nonneg (zc.getD i5 0) (show n ≠ 0 by omega)
                              have hwr : wrote zc n 200 (wrote za n 0 blank i4) (i5 + 1) k = if k = (zc.getD i5 0 % n).toNat then bytesL 64 (200 + i5) else wrote zc n 200 (wrote za n 0 blank i4) i5 k := rfl
                              generalize zc.getD i5 0 % n = j at *
                              by_cases hjk : j = (k : Int)
                              · have hb1 : (j == (k : Int)) = true := by simpa using hjk
                                rw [if_pos (by omega)] at hwr
                                have HWR := Lib.hid hwr
                                clear hwr hjk
                                go_wp2_with fail
                                refine (bytes64 _ _).mono ?_
                                rintro e w4 ⟨rfl, b4, k4⟩
                                rw [← HWR.out] at k4
                                have HI5 : CInv4 w w4 dc gc sc _ (wrote zc n 200 (wrote za n 0 blank i4) (i5 + 1) k) := ⟨bel_next hin.bel b4, hin.copy.below b4, k4⟩
                                clear hin b4 k4
                                go_wp2_with fail
                                go_roundw
                                case rel => exact ⟨i5 + 1, by omega, by go_num, _, rfl, HI5⟩
                                case measure => simp [intOf]; omega
                              · have hb1 : (j == (k : Int)) = false := by simpa using hjk
                                rw [if_neg (by omega)] at hwr
                                have HI5 : CInv4 w wr dc gc sc wb (wrote zc n 200 (wrote za n 0 blank i4) (i5 + 1) k) := by rw [hwr]; exact hin
                                clear hwr hjk hin
                                go_wp2_with fail
                                go_roundw
                                case rel => exact ⟨i5 + 1, by omega, by go_num, _, rfl, HI5⟩
                                case measure => simp [intOf]; omega
                            · have hbk : b.toNat = i5 := by omega
                              have hck := HCC.out k
                              rw [hbk] at hck
                              have hln : (sc.c k).length = 64 := hin.copy.len k (by rw [HNC.out]; omega)
                              have HC2 := Lib.hid hck
                              clear hck hbk
                              go_wp2_with fail
                              refine (read_yes _ _ _ _ hin.copy k (by omega) (by rw [HNC.out]; omega)).mono ?_
                              rintro e w4 ⟨rfl, b4, k4⟩
                              rw [Int.toNat_natCast] at k4
                              have hwant := hin.want
                              rw [← HC2.out] at hwant
                              go_wp2_with fail
                              refine (same_yes _ _ (sc.c k) _ _ w4 k4 (hwant.below b4) hln).mono ?_
                              rintro e w5 ⟨rfl, b5⟩
                              have HI6 : CInv3 w w5 dc gc sc := ⟨bel_next (bel_next hin.bel b4) (b5.below _), (hin.copy.below b4).below (b5.below _)⟩
                              clear hin k4 b4 b5 hwant hln
                              go_wp2_with fail
                              go_roundw
                              case rel => exact ⟨k + 1, by omega, by go_num, HI6⟩
                              case measure => simp [intOf]; omega
                    · have hd20 : decide ((k : Int) < 20) = false := decide_eq_false (by omega)
                      go_wp2_with fail
                      refine (awake_any _).mono ?_
                      rintro e w6 ⟨rfl, b6⟩
                      go_wp2_with fail
                      go_ret
                      exact ⟨rfl, bel_next hinv.bel b6⟩
                  · have hdn : decide ((k : Int) < n) = false := decide_eq_false hkn
                    go_wp2_with fail
                    refine (awake_any _).mono ?_
                    rintro e w6 ⟨rfl, b6⟩
                    go_wp2_with fail
                    go_ret
                    exact ⟨rfl, bel_next hinv.bel b6⟩

end Go.Proofs.Ytdmkphalihdmlaa
