/- The scroll's next generation and half; Format. -/
import Derived.Test.YtmliiggieclbeaaSclD
namespace Go.Proofs.Ytmliiggieclbeaa
open Go.RowKit

def NextPost (s : DS) (w : World) (e : Ending) (w' : World) : Prop := ∃ G k : Nat, e = .returned (.tuple #[.int .i64 G, .int .i64 k]) ∧ NextOf s.c s.n G k ∧ Below w.heap.size w w'
theorem maxG_top {c : Nat → List Int} (hb : ∀ k, isBy (c k)) {s g0 : Nat} (h0 : g0 ≤ 4294967295) (k : Nat) : maxG c s g0 k ≤ 4294967295 :=
  maxG_le h0 k (fun i _ => by have := four_nat (hb (s + i)) 0; omega)
/-- A block that is read has a number at its front. -/
theorem get4_read {w1 : World} {b : Nat} {l : List Int} {t : TypeId} (k1 : Blk w1 b (ints .u8 l).toArray t) (hb : isBy l) (hl : l.length = 64) :
    Calls Try.prog 54 #[.slice (some ⟨b, 0, none⟩) 64 64] w1 fun e w' => e = .returned (.int .i64 (((four l 0).toNat : Nat) : Int)) ∧ Drawn w1 w' := by
  rw [Int.toNat_of_nonneg (four_nat hb 0).1]
  exact get4_any w1 b 0 64 64 l k1.rdl hb hl (by omega)

set_option maxRecDepth 100000 in
set_option maxHeartbeats 1000000 in
theorem next_any (w : World) (d g : Nat) (s : DS) (h : DiskAt w d g s) (hB : ByD s) :
    Calls Try.prog 48 #[.pointer (some ⟨d, 0, none⟩)] w (NextPost s w) := by
  have hlow := h.low
  have hhi := h.high
  have H := Lib.hid h
  have HB := Lib.hid hB
  have HBY : Hid (∀ k, isBy (s.c k)) := fun k => (hB k).1
  clear h hB
  go_enter Try.func48, Try.ntmps48
  go_wp2_with fail
  refine (named_any w d g s H.out HB.out).mono ?_
  rintro e w1 ⟨G, k, b, rfl, hN, b1⟩
  rcases hN with @⟨g0, h0, hd⟩ | hd
  · have hg2 := hd.g2
    have hh1 := hd.h1
    have HD := Lib.hid hd
    clear hd
    rcases (show h0 = 0 ∨ h0 = 1 by omega) with rfl | rfl
    · go_wp2_with fail
      refine (ssize_any w1 d g s (H.out.below b1)).mono ?_
      rintro e w2 ⟨rfl, rfl⟩
      have hHn : Hid (halfN s.n ≤ 512) := by show _ ≤ _; unfold halfN; omega
      have hHl := hHn.out
      go_wp2_with fail
      go_loopw [2, 5, 6, 7, 20] (fun v2 _ _ _ v wr => ∃ i : Nat, i ≤ halfN s.n ∧ v = .int .i64 i ∧ v2 = .int .i64 (maxG s.c (startN s.n 1) g0 i : Nat) ∧ Below w.heap.size w wr) (fun _ _ _ _ v _ => halfN s.n - (intOf v).toNat)
      case atStart => exact ⟨0, by omega, rfl, by first | rfl | simp [maxG], b1⟩
      case round =>
        obtain ⟨i, hi, rfl, rfl, hb⟩ := hrel
        by_cases hlt : i < halfN s.n
        · have HST : Hid (startN s.n 1 + i < s.n) := (half_in (n := s.n) (h := 1) (by omega) hlt).1
          have hmx : Hid (maxG s.c (startN s.n 1) g0 (i + 1) = max (maxG s.c (startN s.n 1) g0 i) (four (s.c (startN s.n 1 + i)) 0).toNat) := rfl
          have hM := maxG_top HBY.out (s := startN s.n 1) (g0 := g0) (by omega) i
          have HBs := HB.out (startN s.n 1 + i)
          have hfo : (four (s.c (startN s.n 1 + i)) 0).toNat < 4294967296 := by have := four_nat HBs.1 0; omega
          have HBK := Lib.hid HBs
          clear HBs
          have hr : ∀ w2, DiskAt w2 d g s → Calls Try.prog 34 #[.pointer (some ⟨d, 0, none⟩), .int .i64 ((startN s.n 1 : Nat) + (i : Nat) : Int)] w2 fun e w' => e = .returned (.tuple #[.slice (some ⟨w2.heap.size, 0, none⟩) 64 64, .int .i64 0]) ∧ Below w2.heap.size w2 w' ∧ Blk w' w2.heap.size (ints .u8 (s.c (startN s.n 1 + i))).toArray 5 := fun w2 hd => by
            have := read_ok w2 d g s hd (startN s.n 1 + i) HST.out
            rwa [Int.natCast_add] at this
          have HR := Lib.hid hr
          have hstl : startN s.n 1 ≤ 513 := by unfold startN; omega
          have HSS := Lib.hid (fun w2 hd => sstart_any w2 d g s hd 1 (by omega))
          have HG : Hid (∀ (w1 : World) (b : Nat), Blk w1 b (ints .u8 (s.c (startN s.n 1 + i))).toArray 5 → Calls Try.prog 54 #[.slice (some ⟨b, 0, none⟩) 64 64] w1 fun e w' => e = .returned (.int .i64 ((four (s.c (startN s.n 1 + i)) 0).toNat : Nat)) ∧ Drawn w1 w') := fun w1 b hb => get4_read hb HBK.out.1 HBK.out.2
          clear hr
          generalize maxG s.c (startN s.n 1) g0 i = M at *
          generalize (four (s.c (startN s.n 1 + i)) 0).toNat = x at *
          go_wp2_with fail
          refine (HSS.out wr (H.out.below hb)).mono ?_
          rintro e w3 ⟨rfl, rfl⟩
          go_wp2_with fail
          refine (HR.out wr (H.out.below hb)).mono ?_
          rintro e w3 ⟨rfl, b3, k3⟩
          go_wp2_with fail
          refine (HG.out w3 _ k3).mono ?_
          rintro e w4 ⟨rfl, d4⟩
          have hb4 := bel_next (bel_next hb b3) (d4.below _)
          clear k3
          rcases (show (M : Int) < x ∨ (M : Int) = x ∨ (x : Int) < M by omega) with hq | hq | hq
          all_goals
            go_wp2_with fail
            go_roundw
            case rel => exact ⟨i + 1, by omega, by go_num, congrArg (Value.int .i64) (by rw [hmx.out]; omega), hb4⟩
            case measure => simp [intOf]; omega
        · have hi' : i = halfN s.n := by omega
          have hM := maxG_top HBY.out (s := startN s.n 1) (g0 := g0) (by omega) i
          have HN : NextOf s.c s.n (maxG s.c (startN s.n 1) g0 i + 1) 1 := by rw [hi']; exact .yes HD.out
          have HN' := Lib.hid HN
          clear HN hi'
          generalize maxG s.c (startN s.n 1) g0 i = M at *
          go_wp2_with fail
          go_ret2
          exact ⟨M + 1, 1, by first | rfl | (simp [wrap64]; omega), HN'.out, hb⟩
    · go_wp2_with fail
      refine (ssize_any w1 d g s (H.out.below b1)).mono ?_
      rintro e w2 ⟨rfl, rfl⟩
      have hHn : Hid (halfN s.n ≤ 512) := by show _ ≤ _; unfold halfN; omega
      have hHl := hHn.out
      go_wp2_with fail
      go_loopw [2, 5, 6, 7, 20] (fun v2 _ _ _ v wr => ∃ i : Nat, i ≤ halfN s.n ∧ v = .int .i64 i ∧ v2 = .int .i64 (maxG s.c (startN s.n 0) g0 i : Nat) ∧ Below w.heap.size w wr) (fun _ _ _ _ v _ => halfN s.n - (intOf v).toNat)
      case atStart => exact ⟨0, by omega, rfl, by first | rfl | simp [maxG], b1⟩
      case round =>
        obtain ⟨i, hi, rfl, rfl, hb⟩ := hrel
        by_cases hlt : i < halfN s.n
        · have HST : Hid (startN s.n 0 + i < s.n) := (half_in (n := s.n) (h := 0) (by omega) hlt).1
          have hmx : Hid (maxG s.c (startN s.n 0) g0 (i + 1) = max (maxG s.c (startN s.n 0) g0 i) (four (s.c (startN s.n 0 + i)) 0).toNat) := rfl
          have hM := maxG_top HBY.out (s := startN s.n 0) (g0 := g0) (by omega) i
          have HBs := HB.out (startN s.n 0 + i)
          have hfo : (four (s.c (startN s.n 0 + i)) 0).toNat < 4294967296 := by have := four_nat HBs.1 0; omega
          have HBK := Lib.hid HBs
          clear HBs
          have hr : ∀ w2, DiskAt w2 d g s → Calls Try.prog 34 #[.pointer (some ⟨d, 0, none⟩), .int .i64 ((startN s.n 0 : Nat) + (i : Nat) : Int)] w2 fun e w' => e = .returned (.tuple #[.slice (some ⟨w2.heap.size, 0, none⟩) 64 64, .int .i64 0]) ∧ Below w2.heap.size w2 w' ∧ Blk w' w2.heap.size (ints .u8 (s.c (startN s.n 0 + i))).toArray 5 := fun w2 hd => by
            have := read_ok w2 d g s hd (startN s.n 0 + i) HST.out
            rwa [Int.natCast_add] at this
          have HR := Lib.hid hr
          have hstl : startN s.n 0 ≤ 513 := by unfold startN; omega
          have HSS := Lib.hid (fun w2 hd => sstart_any w2 d g s hd 0 (by omega))
          have HG : Hid (∀ (w1 : World) (b : Nat), Blk w1 b (ints .u8 (s.c (startN s.n 0 + i))).toArray 5 → Calls Try.prog 54 #[.slice (some ⟨b, 0, none⟩) 64 64] w1 fun e w' => e = .returned (.int .i64 ((four (s.c (startN s.n 0 + i)) 0).toNat : Nat)) ∧ Drawn w1 w') := fun w1 b hb => get4_read hb HBK.out.1 HBK.out.2
          clear hr
          generalize maxG s.c (startN s.n 0) g0 i = M at *
          generalize (four (s.c (startN s.n 0 + i)) 0).toNat = x at *
          go_wp2_with fail
          refine (HSS.out wr (H.out.below hb)).mono ?_
          rintro e w3 ⟨rfl, rfl⟩
          go_wp2_with fail
          refine (HR.out wr (H.out.below hb)).mono ?_
          rintro e w3 ⟨rfl, b3, k3⟩
          go_wp2_with fail
          refine (HG.out w3 _ k3).mono ?_
          rintro e w4 ⟨rfl, d4⟩
          have hb4 := bel_next (bel_next hb b3) (d4.below _)
          clear k3
          rcases (show (M : Int) < x ∨ (M : Int) = x ∨ (x : Int) < M by omega) with hq | hq | hq
          all_goals
            go_wp2_with fail
            go_roundw
            case rel => exact ⟨i + 1, by omega, by go_num, congrArg (Value.int .i64) (by rw [hmx.out]; omega), hb4⟩
            case measure => simp [intOf]; omega
        · have hi' : i = halfN s.n := by omega
          have hM := maxG_top HBY.out (s := startN s.n 0) (g0 := g0) (by omega) i
          have HN : NextOf s.c s.n (maxG s.c (startN s.n 0) g0 i + 1) 0 := by rw [hi']; exact .yes HD.out
          have HN' := Lib.hid HN
          clear HN hi'
          generalize maxG s.c (startN s.n 0) g0 i = M at *
          go_wp2_with fail
          go_ret2
          exact ⟨M + 1, 0, by first | rfl | (simp [wrap64]; omega), HN'.out, hb⟩
  · have HD := Lib.hid hd
    clear hd
    go_wp2_with fail
    refine (ssize_any w1 d g s (H.out.below b1)).mono ?_
    rintro e w2 ⟨rfl, rfl⟩
    have hHn : Hid (halfN s.n ≤ 512) := by show _ ≤ _; unfold halfN; omega
    have hHl := hHn.out
    go_wp2_with fail
    go_loopw [2, 5, 6, 7, 20] (fun v2 _ _ _ v wr => ∃ i : Nat, i ≤ halfN s.n ∧ v = .int .i64 i ∧ v2 = .int .i64 (maxG s.c (startN s.n 0) 0 i : Nat) ∧ Below w.heap.size w wr) (fun _ _ _ _ v _ => halfN s.n - (intOf v).toNat)
    case atStart => exact ⟨0, by omega, rfl, by first | rfl | simp [maxG], b1⟩
    case round =>
      obtain ⟨i, hi, rfl, rfl, hb⟩ := hrel
      by_cases hlt : i < halfN s.n
      · have HST : Hid (startN s.n 0 + i < s.n) := (half_in (n := s.n) (h := 0) (by omega) hlt).1
        have hmx : Hid (maxG s.c (startN s.n 0) 0 (i + 1) = max (maxG s.c (startN s.n 0) 0 i) (four (s.c (startN s.n 0 + i)) 0).toNat) := rfl
        have hM := maxG_top HBY.out (s := startN s.n 0) (g0 := 0) (by omega) i
        have HBs := HB.out (startN s.n 0 + i)
        have hfo : (four (s.c (startN s.n 0 + i)) 0).toNat < 4294967296 := by have := four_nat HBs.1 0; omega
        have HBK := Lib.hid HBs
        clear HBs
        have hr : ∀ w2, DiskAt w2 d g s → Calls Try.prog 34 #[.pointer (some ⟨d, 0, none⟩), .int .i64 ((startN s.n 0 : Nat) + (i : Nat) : Int)] w2 fun e w' => e = .returned (.tuple #[.slice (some ⟨w2.heap.size, 0, none⟩) 64 64, .int .i64 0]) ∧ Below w2.heap.size w2 w' ∧ Blk w' w2.heap.size (ints .u8 (s.c (startN s.n 0 + i))).toArray 5 := fun w2 hd => by
          have := read_ok w2 d g s hd (startN s.n 0 + i) HST.out
          rwa [Int.natCast_add] at this
        have HR := Lib.hid hr
        have hstl : startN s.n 0 ≤ 513 := by unfold startN; omega
        have HSS := Lib.hid (fun w2 hd => sstart_any w2 d g s hd 0 (by omega))
        have HG : Hid (∀ (w1 : World) (b : Nat), Blk w1 b (ints .u8 (s.c (startN s.n 0 + i))).toArray 5 → Calls Try.prog 54 #[.slice (some ⟨b, 0, none⟩) 64 64] w1 fun e w' => e = .returned (.int .i64 ((four (s.c (startN s.n 0 + i)) 0).toNat : Nat)) ∧ Drawn w1 w') := fun w1 b hb => get4_read hb HBK.out.1 HBK.out.2
        clear hr
        generalize maxG s.c (startN s.n 0) 0 i = M at *
        generalize (four (s.c (startN s.n 0 + i)) 0).toNat = x at *
        go_wp2_with fail
        refine (HSS.out wr (H.out.below hb)).mono ?_
        rintro e w3 ⟨rfl, rfl⟩
        go_wp2_with fail
        refine (HR.out wr (H.out.below hb)).mono ?_
        rintro e w3 ⟨rfl, b3, k3⟩
        go_wp2_with fail
        refine (HG.out w3 _ k3).mono ?_
        rintro e w4 ⟨rfl, d4⟩
        have hb4 := bel_next (bel_next hb b3) (d4.below _)
        clear k3
        rcases (show (M : Int) < x ∨ (M : Int) = x ∨ (x : Int) < M by omega) with hq | hq | hq
        all_goals
          go_wp2_with fail
          go_roundw
          case rel => exact ⟨i + 1, by omega, by go_num, congrArg (Value.int .i64) (by rw [hmx.out]; omega), hb4⟩
          case measure => simp [intOf]; omega
      · have hi' : i = halfN s.n := by omega
        have hM := maxG_top HBY.out (s := startN s.n 0) (g0 := 0) (by omega) i
        have HN : NextOf s.c s.n (maxG s.c (startN s.n 0) 0 i + 1) 0 := by rw [hi']; exact .no HD.out
        have HN' := Lib.hid HN
        clear HN hi'
        generalize maxG s.c (startN s.n 0) 0 i = M at *
        go_wp2_with fail
        go_ret2
        exact ⟨M + 1, 0, by first | rfl | (simp [wrap64]; omega), HN'.out, hb⟩

set_option maxRecDepth 100000 in
set_option maxHeartbeats 1000000 in
theorem format_ok (w : World) (d g : Nat) (s : DS) (h : DiskAt w d g s) (hB : ByD s) (hn : 3 ≤ s.n) (hG : ∀ G k, NextOf s.c s.n G k → G ≤ 1073741824) (ho : s.off = false) (hf : s.fuse ≠ 0) (hw : s.writes + 1 ≤ 4611686018427387904) :
    Calls Try.prog 33 #[.pointer (some ⟨d, 0, none⟩)] w fun e w' => ∃ G k, e = .returned (.int .i64 0) ∧ NextOf s.c s.n G k ∧ Kp (fun k => k = d ∨ k = g) w w' ∧ DiskAt w' d g (s.put 0 (hdL (G : Nat) (k : Nat))) := by
  have H := Lib.hid h
  have HB := Lib.hid hB
  have HF := Lib.hid (And.intro ho (And.intro hf hw))
  have hlt := h.lt
  clear h hB ho hf hw
  go_enter Try.func33, Try.ntmps33
  go_wp2_with fail
  refine (size_any w d g s H.out).mono ?_
  rintro e w1 ⟨rfl, rfl⟩
  go_wp2_with fail
  refine (next_any w d g s H.out HB.out).mono ?_
  rintro e w1 ⟨G, k, rfl, hN, b1⟩
  have hle := hG G k hN
  have HN := Lib.hid hN
  clear hN
  go_wp2_with fail
  refine (header_any w1 G k).mono ?_
  rintro e w2 ⟨rfl, b2, k2⟩
  have hz := b1.size
  have hd2 := H.out.below (bel_next b1 b2)
  have HC := Lib.hid (write_yes w2 d g s hd2 0 (by omega) (by have := hn; omega) _ _ _ (hd_len _ _) k2 (by omega) HF.out.1 HF.out.2.1 HF.out.2.2)
  clear k2 hd2
  go_wp2_with fail
  refine HC.out.mono ?_
  rintro e w3 ⟨rfl, hk3, hd3⟩
  go_wp2_with fail
  go_ret
  exact ⟨G, k, rfl, HN.out, (Kp.of_below (bel_next b1 b2)).trans (hk3.mono (fun _ h _ => h)), hd3⟩

end Go.Proofs.Ytmliiggieclbeaa
