/- The document's Unpack. -/
import Derived.Test.YtmhcjkiaogimgaaDrG
import Derived.Test.YtmhcjkiaogimgaaWirK
namespace Go.Proofs.Ytmhcjkiaogimgaa
open Go.RowKit

set_option maxRecDepth 100000 in
set_option maxHeartbeats 16000000 in
theorem dunpack_any (w : World) (A : Option Addr) (c : Nat) (l : List Int) (h : DS w A c l) :
    Calls Try.prog 28 #[.slice A l.length c] w fun e w' => e = .returned (.tuple #[.agg (unpN l).cells.toArray, .int .i64 (unpE l)]) ∧ Below w.heap.size w w' := by
  have HA : Hid (∀ W, W = w.alloc (.cells NoteD.zero.cells.toArray 51) → NoteAt W w.heap.size NoteD.zero ∧ Below w.heap.size w W ∧ W.heap.size = w.heap.size + 1) := by
    rintro W rfl
    exact ⟨⟨Blk.new _ _ _⟩, bel_al (Below.refl _ _) _, by simp⟩
  obtain ⟨m, hm⟩ : ∃ m, Hid (m = l.length) := ⟨_, rfl⟩
  have HD := Lib.hid h
  have H := Lib.hid h
  clear h
  rw [← hm.out]
  go_enter Try.func28, Try.ntmps28
  go_upto_region 1 with fail
  obtain ⟨V, hV⟩ : ∃ V, V = w.alloc (.cells NoteD.zero.cells.toArray 51) := ⟨_, rfl⟩
  obtain ⟨N0, hB, hsz⟩ := HA.out V hV
  rw [zero_cells] at hV
  rw [← hV]
  clear hV HA
  have b1 := Blk.new V #[.slice A m c, .bool true] 99
  replace N0 := N0.below (w' := V.alloc (.cells #[.slice A m c, .bool true] 99)) (bel_al (Below.refl _ _) _)
  replace hB := bel_next hB (bel_al (Below.refl _ _) (.cells #[.slice A m c, .bool true] 99))
  have hs2 : (V.alloc (.cells #[.slice A m c, .bool true] 99)).heap.size = V.heap.size + 1 := by simp
  rw [hsz] at b1 hs2
  have HB1 := Lib.hid b1
  have HN0 := Lib.hid N0
  have HBW := Lib.hid hB
  clear b1 N0 hB
  go_upto_region 2 with fail
  try rw [hsz]
  generalize V.alloc (.cells #[.slice A m c, .bool true] 99) = V1 at *
  have hZ : NoteAt (V1.alloc (.cells #[.int .i64 0, .int .i64 0, .int .i64 0, .int .i64 0, .int .i64 0, .int .i64 0, .string ⟨#[]⟩, .bool false, .int .i64 0, .int .i64 0, .int .i64 0, .string ⟨#[]⟩, .int .i64 0, .int .i64 0, .int .i64 0, .int .i64 0, .int .i64 0, .string ⟨#[]⟩, .int .i64 0, .string ⟨#[]⟩, .int .i64 0, .string ⟨#[]⟩] 51)) V1.heap.size NoteD.zero := ⟨Blk.new V1 NoteD.zero.cells.toArray _⟩
  have b1 := HB1.out.alloc (.cells #[.int .i64 0, .int .i64 0, .int .i64 0, .int .i64 0, .int .i64 0, .int .i64 0, .string ⟨#[]⟩, .bool false, .int .i64 0, .int .i64 0, .int .i64 0, .string ⟨#[]⟩, .int .i64 0, .int .i64 0, .int .i64 0, .int .i64 0, .int .i64 0, .string ⟨#[]⟩, .int .i64 0, .string ⟨#[]⟩, .int .i64 0, .string ⟨#[]⟩] 51)
  have N0 := HN0.out.below (w' := V1.alloc (.cells #[.int .i64 0, .int .i64 0, .int .i64 0, .int .i64 0, .int .i64 0, .int .i64 0, .string ⟨#[]⟩, .bool false, .int .i64 0, .int .i64 0, .int .i64 0, .string ⟨#[]⟩, .int .i64 0, .int .i64 0, .int .i64 0, .int .i64 0, .int .i64 0, .string ⟨#[]⟩, .int .i64 0, .string ⟨#[]⟩, .int .i64 0, .string ⟨#[]⟩] 51)) (bel_al (Below.refl _ _) _)
  have hB := bel_next HBW.out (bel_al (Below.refl _ _) (.cells #[.int .i64 0, .int .i64 0, .int .i64 0, .int .i64 0, .int .i64 0, .int .i64 0, .string ⟨#[]⟩, .bool false, .int .i64 0, .int .i64 0, .int .i64 0, .string ⟨#[]⟩, .int .i64 0, .int .i64 0, .int .i64 0, .int .i64 0, .int .i64 0, .string ⟨#[]⟩, .int .i64 0, .string ⟨#[]⟩, .int .i64 0, .string ⟨#[]⟩] 51))
  rw [hs2] at hZ
  clear HB1 HN0 HBW
  have HB1 := Lib.hid b1
  have HN0 := Lib.hid N0
  have HN := Lib.hid hZ
  have HBW := Lib.hid hB
  clear b1 N0 hZ hB
  go_upto_region 3 with fail
  try rw [hs2]
  generalize V1.alloc (.cells #[.int .i64 0, .int .i64 0, .int .i64 0, .int .i64 0, .int .i64 0, .int .i64 0, .string ⟨#[]⟩, .bool false, .int .i64 0, .int .i64 0, .int .i64 0, .string ⟨#[]⟩, .int .i64 0, .int .i64 0, .int .i64 0, .int .i64 0, .int .i64 0, .string ⟨#[]⟩, .int .i64 0, .string ⟨#[]⟩, .int .i64 0, .string ⟨#[]⟩] 51) = W3 at *
  obtain ⟨g0, hg0⟩ : ∃ g, w.heap.size = g := ⟨_, rfl⟩
  have HG0 := Lib.hid hg0
  generalize hg1 : w.heap.size + 1 = g1 at *
  generalize hg2 : g1 + 1 = g2 at *
  rw [hg0] at HN0 ⊢
  have hn01 : g0 ≠ g1 := by omega
  have hn02 : g0 ≠ g2 := by omega
  have hn12 : g1 ≠ g2 := by omega
  have HGE : Hid (w.heap.size ≤ g0 ∧ w.heap.size ≤ g1 ∧ w.heap.size ≤ g2) := by show _ ∧ _; omega
  clear hg0 hg1 hg2 hsz hs2
  have b1 := HB1.out
  have N0 := HN0.out
  have N := HN.out
  have hB := HBW.out
  clear HB1 HN0 HN HBW
  have a0 : W3.cell? ⟨g1, 0, none⟩ = some (.slice A m c) := (b1.cell 0).trans rfl
  have a1 : W3.cell? ⟨g1, 1, none⟩ = some (.bool true) := (b1.cell 1).trans rfl
  have Hb1 := Lib.hid b1
  have HN := Lib.hid N
  have HN0 := Lib.hid N0
  have HBW := Lib.hid hB
  clear b1 N N0 hB
  go_wp2_with fail
  rw [hm.out]
  refine (dbyte_any w W3 HBW.out A c l true HD.out).mono ?_
  rintro e w4 ⟨v0, A0, s0, c0, ok0, rfl, _, hD, hbel, rd0⟩
  obtain ⟨n0, hn0⟩ : ∃ m, Hid (m = s0.length) := ⟨_, rfl⟩
  rw [← hn0.out, ← hm.out]
  have HD0 := Lib.hid hD
  have b1 := Hb1.out.kp (S := fun _ => False) (Kp.of_below hbel) (fun h => h)
  have N := HN.out.below hbel
  have N0 := HN0.out.below hbel
  have hB := bel_next HBW.out hbel
  clear Hb1 HN HN0 HBW hbel hD a0 a1
  have a0 : w4.cell? ⟨g1, 0, none⟩ = some (.slice A m c) := (b1.cell 0).trans rfl
  have a1 : w4.cell? ⟨g1, 1, none⟩ = some (.bool true) := (b1.cell 1).trans rfl
  have fa0 := b1.frozen 0
  have fa1 := b1.frozen 1
  have ⟨d0, hd0⟩ : ∃ v, w4.cell? ⟨g2, 0, none⟩ = some v := ⟨_, (N.blk.cell 0).trans rfl⟩
  have fd0 := N.blk.frozen 0
  have Hb1 := Lib.hid b1
  have HN := Lib.hid N
  have HN0 := Lib.hid N0
  have HBW := Lib.hid hB
  clear b1 N N0 hB
  go_upto_region 4 with fail
  have b1 : Blk (((w4.setCell ⟨g2, 0, none⟩ (.int .i64 v0)).setCell ⟨g1, 0, none⟩ (.slice A0 n0 c0)).setCell ⟨g1, 1, none⟩ (.bool ok0)) g1 #[.slice A0 n0 c0, .bool ok0] 99 := (Blk.setCells_other hn12 [.int .i64 v0] 0 Hb1.out).setCells [.slice A0 n0 c0, .bool ok0] 0
  have N : NoteAt (((w4.setCell ⟨g2, 0, none⟩ (.int .i64 v0)).setCell ⟨g1, 0, none⟩ (.slice A0 n0 c0)).setCell ⟨g1, 1, none⟩ (.bool ok0)) g2 ⟨v0, 0, 0, 0, 0, EntryD.zero, SeenD.zero, OpD.zero⟩ := ⟨Blk.setCells_other (Ne.symm hn12) [.slice A0 n0 c0, .bool ok0] 0 (HN.out.blk.setCells [.int .i64 v0] 0)⟩
  have N0 : NoteAt (((w4.setCell ⟨g2, 0, none⟩ (.int .i64 v0)).setCell ⟨g1, 0, none⟩ (.slice A0 n0 c0)).setCell ⟨g1, 1, none⟩ (.bool ok0)) g0 NoteD.zero := ⟨Blk.setCells_other hn01 [.slice A0 n0 c0, .bool ok0] 0 (Blk.setCells_other hn02 [.int .i64 v0] 0 HN0.out.blk)⟩
  have hB : Below w.heap.size w (((w4.setCell ⟨g2, 0, none⟩ (.int .i64 v0)).setCell ⟨g1, 0, none⟩ (.slice A0 n0 c0)).setCell ⟨g1, 1, none⟩ (.bool ok0)) := bel_sets (bel_sets HBW.out HGE.out.2.2 0 [.int .i64 v0]) HGE.out.2.1 0 [.slice A0 n0 c0, .bool ok0]
  clear Hb1 HN HN0 HBW a0 a1 fa0 fa1 hd0 fd0
  generalize ((w4.setCell ⟨g2, 0, none⟩ (.int .i64 v0)).setCell ⟨g1, 0, none⟩ (.slice A0 n0 c0)).setCell ⟨g1, 1, none⟩ (.bool ok0) = X25 at *
  have k9 : X25.cell? ⟨g2, 0, none⟩ = some (.int .i64 v0) := (N.blk.cell 0).trans rfl
  by_cases h1 : v0 = 1
  · subst h1
    have a0 : X25.cell? ⟨g1, 0, none⟩ = some (.slice A0 n0 c0) := (b1.cell 0).trans rfl
    have a1 : X25.cell? ⟨g1, 1, none⟩ = some (.bool ok0) := (b1.cell 1).trans rfl
    have Hb1 := Lib.hid b1
    have HN := Lib.hid N
    have HN0 := Lib.hid N0
    have HBW := Lib.hid hB
    clear b1 N N0 hB
    go_wp2_with fail
    rw [hn0.out]
    refine (dnum_any w X25 HBW.out A0 c0 s0 ok0 HD0.out).mono ?_
    rintro e w5 ⟨v1, A1, s1, c1, ok1, rfl, _, hD, hbel, rd1⟩
    obtain ⟨n1, hn1⟩ : ∃ m, Hid (m = s1.length) := ⟨_, rfl⟩
    rw [← hn1.out, ← hn0.out]
    have HD1 := Lib.hid hD
    have b1 := Hb1.out.kp (S := fun _ => False) (Kp.of_below hbel) (fun h => h)
    have N := HN.out.below hbel
    have N0 := HN0.out.below hbel
    have hB := bel_next HBW.out hbel
    clear Hb1 HN HN0 HBW hbel hD a0 a1
    clear HD0
    have a0 : w5.cell? ⟨g1, 0, none⟩ = some (.slice A0 n0 c0) := (b1.cell 0).trans rfl
    have a1 : w5.cell? ⟨g1, 1, none⟩ = some (.bool ok0) := (b1.cell 1).trans rfl
    have fa0 := b1.frozen 0
    have fa1 := b1.frozen 1
    have ⟨d1, hd1⟩ : ∃ v, w5.cell? ⟨g2, 1, none⟩ = some v := ⟨_, (N.blk.cell 1).trans rfl⟩
    have fd1 := N.blk.frozen 1
    have Hb1 := Lib.hid b1
    have HN := Lib.hid N
    have HN0 := Lib.hid N0
    have HBW := Lib.hid hB
    clear b1 N N0 hB
    go_upto_region 21 with fail
    have b1 : Blk (((w5.setCell ⟨g2, 1, none⟩ (.int .i64 v1)).setCell ⟨g1, 0, none⟩ (.slice A1 n1 c1)).setCell ⟨g1, 1, none⟩ (.bool ok1)) g1 #[.slice A1 n1 c1, .bool ok1] 99 := (Blk.setCells_other hn12 [.int .i64 v1] 1 Hb1.out).setCells [.slice A1 n1 c1, .bool ok1] 0
    have N : NoteAt (((w5.setCell ⟨g2, 1, none⟩ (.int .i64 v1)).setCell ⟨g1, 0, none⟩ (.slice A1 n1 c1)).setCell ⟨g1, 1, none⟩ (.bool ok1)) g2 ⟨1, v1, 0, 0, 0, EntryD.zero, SeenD.zero, OpD.zero⟩ := ⟨Blk.setCells_other (Ne.symm hn12) [.slice A1 n1 c1, .bool ok1] 0 (HN.out.blk.setCells [.int .i64 v1] 1)⟩
    have N0 : NoteAt (((w5.setCell ⟨g2, 1, none⟩ (.int .i64 v1)).setCell ⟨g1, 0, none⟩ (.slice A1 n1 c1)).setCell ⟨g1, 1, none⟩ (.bool ok1)) g0 NoteD.zero := ⟨Blk.setCells_other hn01 [.slice A1 n1 c1, .bool ok1] 0 (Blk.setCells_other hn02 [.int .i64 v1] 1 HN0.out.blk)⟩
    have hB : Below w.heap.size w (((w5.setCell ⟨g2, 1, none⟩ (.int .i64 v1)).setCell ⟨g1, 0, none⟩ (.slice A1 n1 c1)).setCell ⟨g1, 1, none⟩ (.bool ok1)) := bel_sets (bel_sets HBW.out HGE.out.2.2 1 [.int .i64 v1]) HGE.out.2.1 0 [.slice A1 n1 c1, .bool ok1]
    clear Hb1 HN HN0 HBW a0 a1 fa0 fa1 hd1 fd1
    generalize ((w5.setCell ⟨g2, 1, none⟩ (.int .i64 v1)).setCell ⟨g1, 0, none⟩ (.slice A1 n1 c1)).setCell ⟨g1, 1, none⟩ (.bool ok1) = X26 at *
    clear k9
    have k9 : X26.cell? ⟨g2, 0, none⟩ = some (.int .i64 1) := (N.blk.cell 0).trans rfl
    have RD : Hid (Read (gnote dnum dtxt) (some l) ⟨1, v1, 0, 0, 0, EntryD.zero, SeenD.zero, OpD.zero⟩ (stOf ok1 s1)) := rd0.bind (rd1.bind (Read.ret _ _))
    have HU := Lib.hid (unp_doc H.out.isb RD.out)
    clear RD
    obtain ⟨n, hn⟩ : ∃ n : NoteD, n = ⟨1, v1, 0, 0, 0, EntryD.zero, SeenD.zero, OpD.zero⟩ := ⟨_, rfl⟩
    rw [← hn] at HU N
    clear hn
    have N2 := N
    have Hb1 := Lib.hid b1
    have HN := Lib.hid N
    have HN0 := Lib.hid N0
    have HBW := Lib.hid hB
    clear b1 N N0 hB
    go_wp2_with (((with_reducible refine wpList_load_note (op := ⟨_, Op.load 51 _, _, _, _, _⟩) rfl _ rfl _ _ ?_ N2 ?_); rfl))
    refine (rpack_any n _ ⟨rfl⟩ _).mono ?_
    rintro e w20 ⟨A7, c7, rfl, o7, b20⟩
    have b1 := Hb1.out.kp (S := fun _ => False) (Kp.of_below b20) (fun h => h)
    have N := HN.out.below b20
    have N0 := HN0.out.below b20
    have HBW := Lib.hid (bel_next HBW.out b20)
    clear Hb1 HN HN0 N2 b20
    have a0 : w20.cell? ⟨g1, 0, none⟩ = some (.slice A1 n1 c1) := (b1.cell 0).trans rfl
    have a1 : w20.cell? ⟨g1, 1, none⟩ = some (.bool ok1) := (b1.cell 1).trans rfl
    have hb0 := build0
    clear b1
    cases ok1 with
    | false =>
      have hu : Hid (unp l = none) := by show _ = _; rw [HU.out, if_neg]; rintro ⟨h, _⟩; simp [stOf] at h
      have hE : unpE l = 50 := by unfold unpE; rw [hu.out]; rfl
      have hU : unpN l = NoteD.zero := by unfold unpN; rw [hu.out]; rfl
      have HF := Lib.hid (note_fin (fn := Try.f28) (Q := fun e w' => e = .returned (.tuple #[.agg (unpN l).cells.toArray, .int .i64 (unpE l)]) ∧ Below w.heap.size w w') rfl N0 NoteD.zero 50 ⟨by rw [hE, hU], below_kp HBW.out (Kp.setCells (S := fun k => k = g0) _ rfl _ _ _ (Kp.refl _ _)) HBW.out.size (fun k hk => by have := HGE.out.1; omega)⟩)
      clear hE hU
      clear HU
      go_wp2_with (first | ((with_reducible refine wpList_build_run (op := ⟨_, Op.build 51 _, _, _, _, _⟩) rfl _ _ rfl _ ?_ _ (hb0 _) ?_); (focus (first | (go_simp; done) | (go_simp; rfl)))) | ((with_reducible refine wpList_store_note (op := ⟨_, Op.store 51 _ _, _, _, _, _⟩) rfl _ _ rfl _ _ NoteD.zero ?_ ?_ N0 ?_); rfl; rfl))
      exact HF.out _ (by rfl) (by rfl)
    | true =>
      by_cases hlt : 0 < n1
      · have hi : decide ((n1 : Int) > 0) = true := decide_eq_true (by omega)
        have hu : Hid (unp l = none) := by show _ = _; rw [HU.out, if_neg]; rintro ⟨h, _⟩; have := hn1.out; simp [stOf] at h; rw [h] at this; simp at this; omega
        have hE : unpE l = 50 := by unfold unpE; rw [hu.out]; rfl
        have hU : unpN l = NoteD.zero := by unfold unpN; rw [hu.out]; rfl
        have HF := Lib.hid (note_fin (fn := Try.f28) (Q := fun e w' => e = .returned (.tuple #[.agg (unpN l).cells.toArray, .int .i64 (unpE l)]) ∧ Below w.heap.size w w') rfl N0 NoteD.zero 50 ⟨by rw [hE, hU], below_kp HBW.out (Kp.setCells (S := fun k => k = g0) _ rfl _ _ _ (Kp.refl _ _)) HBW.out.size (fun k hk => by have := HGE.out.1; omega)⟩)
        clear hE hU
        have i3 : ¬ n1 = 0 := by omega
        clear HU
        go_wp2_with (first | ((with_reducible refine wpList_build_run (op := ⟨_, Op.build 51 _, _, _, _, _⟩) rfl _ _ rfl _ ?_ _ (hb0 _) ?_); (focus (first | (go_simp; done) | (go_simp; rfl)))) | ((with_reducible refine wpList_store_note (op := ⟨_, Op.store 51 _ _, _, _, _, _⟩) rfl _ _ rfl _ _ NoteD.zero ?_ ?_ N0 ?_); rfl; rfl))
        exact HF.out _ (by rfl) (by rfl)
      · have hz : s1 = [] := List.length_eq_zero_iff.1 (by rw [← hn1.out]; omega)
        obtain rfl : n1 = 0 := by omega
        cases hok : n.ok with
        | false =>
          have hu : Hid (unp l = none) := by show _ = _; rw [HU.out, if_neg]; rintro ⟨_, h, _⟩; rw [hok] at h; cases h
          have hE : unpE l = 50 := by unfold unpE; rw [hu.out]; rfl
          have hU : unpN l = NoteD.zero := by unfold unpN; rw [hu.out]; rfl
          have HF := Lib.hid (note_fin (fn := Try.f28) (Q := fun e w' => e = .returned (.tuple #[.agg (unpN l).cells.toArray, .int .i64 (unpE l)]) ∧ Below w.heap.size w w') rfl N0 NoteD.zero 50 ⟨by rw [hE, hU], below_kp HBW.out (Kp.setCells (S := fun k => k = g0) _ rfl _ _ _ (Kp.refl _ _)) HBW.out.size (fun k hk => by have := HGE.out.1; omega)⟩)
          clear hE hU
          have he0 : n.packE = 50 := by rw [NoteD.packE, hok]; rfl
          rw [he0]
          clear HU he0 hok hz hlt o7
          go_wp2_with (first | ((with_reducible refine wpList_build_run (op := ⟨_, Op.build 51 _, _, _, _, _⟩) rfl _ _ rfl _ ?_ _ (hb0 _) ?_); (focus (first | (go_simp; done) | (go_simp; rfl)))) | ((with_reducible refine wpList_store_note (op := ⟨_, Op.store 51 _ _, _, _, _, _⟩) rfl _ _ rfl _ _ NoteD.zero ?_ ?_ N0 ?_); rfl; rfl))
          exact HF.out _ (by rfl) (by rfl)
        | true =>
          have he0 : n.packE = 0 := by rw [NoteD.packE, hok]; rfl
          have hl : n.packL = n.enc := by rw [NoteD.packL, hok]; rfl
          have hpl := n.packL_len
          rw [hl] at o7 hpl
          rw [he0, hl]
          have r7 := Lib.hid (rd_of_own o7)
          have r8 := Lib.hid (HD.out.rd.below HBW.out)
          have hUU : Hid (unp l = if l = n.enc then some n else none) := by show _ = _; rw [HU.out]; simp [stOf, hz, hok]
          have HH : Hid (n.enc.length ≤ 9223372036854775807 ∧ l.length ≤ 9223372036854775807) := by have := H.out.len; show _ ∧ _; omega
          have HN := Lib.hid N
          have HN0 := Lib.hid N0
          clear HU he0 hl hpl o7 hok hz hlt N N0
          go_wp2_with fail
          rw [hm.out]
          refine (dsame_any A A7 c c7 l n.enc _ r8.out r7.out HH.out.2 HH.out.1).mono ?_
          rintro e w21 ⟨rfl, d21⟩
          have N0 := HN0.out.below (d21.below _)
          have N := HN.out.below (d21.below _)
          have B2 := Lib.hid (bel_next HBW.out (d21.below _))
          clear HN HN0 r7 r8 HH a0 a1 d21
          by_cases heq : l = n.enc
          · have hu : Hid (unp l = some n) := by show _ = _; rw [hUU.out, if_pos heq]
            have hE : unpE l = 0 := by unfold unpE; rw [hu.out]; rfl
            have hU : unpN l = n := by unfold unpN; rw [hu.out]; rfl
            have HF := Lib.hid (note_fin (fn := Try.f28) (Q := fun e w' => e = .returned (.tuple #[.agg (unpN l).cells.toArray, .int .i64 (unpE l)]) ∧ Below w.heap.size w w') rfl N0 n 0 ⟨by rw [hE, hU], below_kp B2.out (Kp.setCells (S := fun k => k = g0) _ rfl _ _ _ (Kp.refl _ _)) B2.out.size (fun k hk => by have := HGE.out.1; omega)⟩)
            clear hE hU
            rw [decide_eq_true heq]
            clear hUU heq
            go_wp2_with (first | ((with_reducible refine wpList_load_note (op := ⟨_, Op.load 51 _, _, _, _, _⟩) rfl _ rfl _ _ ?_ N ?_); rfl) | ((with_reducible refine wpList_store_note (op := ⟨_, Op.store 51 _ _, _, _, _, _⟩) rfl _ _ rfl _ _ n ?_ ?_ N0 ?_); rfl; rfl))
            exact HF.out _ (by rfl) (by rfl)
          · have hu : Hid (unp l = none) := by show _ = _; rw [hUU.out, if_neg heq]
            have hE : unpE l = 50 := by unfold unpE; rw [hu.out]; rfl
            have hU : unpN l = NoteD.zero := by unfold unpN; rw [hu.out]; rfl
            have HF := Lib.hid (note_fin (fn := Try.f28) (Q := fun e w' => e = .returned (.tuple #[.agg (unpN l).cells.toArray, .int .i64 (unpE l)]) ∧ Below w.heap.size w w') rfl N0 NoteD.zero 50 ⟨by rw [hE, hU], below_kp B2.out (Kp.setCells (S := fun k => k = g0) _ rfl _ _ _ (Kp.refl _ _)) B2.out.size (fun k hk => by have := HGE.out.1; omega)⟩)
            clear hE hU
            rw [decide_eq_false heq]
            clear hUU heq
            go_wp2_with (first | ((with_reducible refine wpList_build_run (op := ⟨_, Op.build 51 _, _, _, _, _⟩) rfl _ _ rfl _ ?_ _ (hb0 _) ?_); (focus (first | (go_simp; done) | (go_simp; rfl)))) | ((with_reducible refine wpList_store_note (op := ⟨_, Op.store 51 _ _, _, _, _, _⟩) rfl _ _ rfl _ _ NoteD.zero ?_ ?_ N0 ?_); rfl; rfl))
            exact HF.out _ (by rfl) (by rfl)
  by_cases h2 : v0 = 2
  · subst h2
    have a0 : X25.cell? ⟨g1, 0, none⟩ = some (.slice A0 n0 c0) := (b1.cell 0).trans rfl
    have a1 : X25.cell? ⟨g1, 1, none⟩ = some (.bool ok0) := (b1.cell 1).trans rfl
    have Hb1 := Lib.hid b1
    have HN := Lib.hid N
    have HN0 := Lib.hid N0
    have HBW := Lib.hid hB
    clear b1 N N0 hB
    go_wp2_with fail
    rw [hn0.out]
    refine (dnum_any w X25 HBW.out A0 c0 s0 ok0 HD0.out).mono ?_
    rintro e w5 ⟨v1, A1, s1, c1, ok1, rfl, _, hD, hbel, rd1⟩
    obtain ⟨n1, hn1⟩ : ∃ m, Hid (m = s1.length) := ⟨_, rfl⟩
    rw [← hn1.out, ← hn0.out]
    have HD1 := Lib.hid hD
    have b1 := Hb1.out.kp (S := fun _ => False) (Kp.of_below hbel) (fun h => h)
    have N := HN.out.below hbel
    have N0 := HN0.out.below hbel
    have hB := bel_next HBW.out hbel
    clear Hb1 HN HN0 HBW hbel hD a0 a1
    clear HD0
    have a0 : w5.cell? ⟨g1, 0, none⟩ = some (.slice A0 n0 c0) := (b1.cell 0).trans rfl
    have a1 : w5.cell? ⟨g1, 1, none⟩ = some (.bool ok0) := (b1.cell 1).trans rfl
    have fa0 := b1.frozen 0
    have fa1 := b1.frozen 1
    have ⟨d1, hd1⟩ : ∃ v, w5.cell? ⟨g2, 1, none⟩ = some v := ⟨_, (N.blk.cell 1).trans rfl⟩
    have fd1 := N.blk.frozen 1
    have Hb1 := Lib.hid b1
    have HN := Lib.hid N
    have HN0 := Lib.hid N0
    have HBW := Lib.hid hB
    clear b1 N N0 hB
    go_upto_region 9 with fail
    have b1 : Blk (((w5.setCell ⟨g2, 1, none⟩ (.int .i64 v1)).setCell ⟨g1, 0, none⟩ (.slice A1 n1 c1)).setCell ⟨g1, 1, none⟩ (.bool ok1)) g1 #[.slice A1 n1 c1, .bool ok1] 99 := (Blk.setCells_other hn12 [.int .i64 v1] 1 Hb1.out).setCells [.slice A1 n1 c1, .bool ok1] 0
    have N : NoteAt (((w5.setCell ⟨g2, 1, none⟩ (.int .i64 v1)).setCell ⟨g1, 0, none⟩ (.slice A1 n1 c1)).setCell ⟨g1, 1, none⟩ (.bool ok1)) g2 ⟨2, v1, 0, 0, 0, EntryD.zero, SeenD.zero, OpD.zero⟩ := ⟨Blk.setCells_other (Ne.symm hn12) [.slice A1 n1 c1, .bool ok1] 0 (HN.out.blk.setCells [.int .i64 v1] 1)⟩
    have N0 : NoteAt (((w5.setCell ⟨g2, 1, none⟩ (.int .i64 v1)).setCell ⟨g1, 0, none⟩ (.slice A1 n1 c1)).setCell ⟨g1, 1, none⟩ (.bool ok1)) g0 NoteD.zero := ⟨Blk.setCells_other hn01 [.slice A1 n1 c1, .bool ok1] 0 (Blk.setCells_other hn02 [.int .i64 v1] 1 HN0.out.blk)⟩
    have hB : Below w.heap.size w (((w5.setCell ⟨g2, 1, none⟩ (.int .i64 v1)).setCell ⟨g1, 0, none⟩ (.slice A1 n1 c1)).setCell ⟨g1, 1, none⟩ (.bool ok1)) := bel_sets (bel_sets HBW.out HGE.out.2.2 1 [.int .i64 v1]) HGE.out.2.1 0 [.slice A1 n1 c1, .bool ok1]
    clear Hb1 HN HN0 HBW a0 a1 fa0 fa1 hd1 fd1
    generalize ((w5.setCell ⟨g2, 1, none⟩ (.int .i64 v1)).setCell ⟨g1, 0, none⟩ (.slice A1 n1 c1)).setCell ⟨g1, 1, none⟩ (.bool ok1) = X26 at *
    have a0 : X26.cell? ⟨g1, 0, none⟩ = some (.slice A1 n1 c1) := (b1.cell 0).trans rfl
    have a1 : X26.cell? ⟨g1, 1, none⟩ = some (.bool ok1) := (b1.cell 1).trans rfl
    have Hb1 := Lib.hid b1
    have HN := Lib.hid N
    have HN0 := Lib.hid N0
    have HBW := Lib.hid hB
    clear b1 N N0 hB
    go_wp2_with fail
    rw [hn1.out]
    refine (dnum_any w X26 HBW.out A1 c1 s1 ok1 HD1.out).mono ?_
    rintro e w6 ⟨v2, A2, s2, c2, ok2, rfl, _, hD, hbel, rd2⟩
    obtain ⟨n2, hn2⟩ : ∃ m, Hid (m = s2.length) := ⟨_, rfl⟩
    rw [← hn2.out, ← hn1.out]
    have HD2 := Lib.hid hD
    have b1 := Hb1.out.kp (S := fun _ => False) (Kp.of_below hbel) (fun h => h)
    have N := HN.out.below hbel
    have N0 := HN0.out.below hbel
    have hB := bel_next HBW.out hbel
    clear Hb1 HN HN0 HBW hbel hD a0 a1
    clear HD1
    have a0 : w6.cell? ⟨g1, 0, none⟩ = some (.slice A1 n1 c1) := (b1.cell 0).trans rfl
    have a1 : w6.cell? ⟨g1, 1, none⟩ = some (.bool ok1) := (b1.cell 1).trans rfl
    have fa0 := b1.frozen 0
    have fa1 := b1.frozen 1
    have ⟨d2, hd2⟩ : ∃ v, w6.cell? ⟨g2, 2, none⟩ = some v := ⟨_, (N.blk.cell 2).trans rfl⟩
    have fd2 := N.blk.frozen 2
    have Hb1 := Lib.hid b1
    have HN := Lib.hid N
    have HN0 := Lib.hid N0
    have HBW := Lib.hid hB
    clear b1 N N0 hB
    go_upto_region 10 with fail
    have b1 : Blk (((w6.setCell ⟨g2, 2, none⟩ (.int .i64 v2)).setCell ⟨g1, 0, none⟩ (.slice A2 n2 c2)).setCell ⟨g1, 1, none⟩ (.bool ok2)) g1 #[.slice A2 n2 c2, .bool ok2] 99 := (Blk.setCells_other hn12 [.int .i64 v2] 2 Hb1.out).setCells [.slice A2 n2 c2, .bool ok2] 0
    have N : NoteAt (((w6.setCell ⟨g2, 2, none⟩ (.int .i64 v2)).setCell ⟨g1, 0, none⟩ (.slice A2 n2 c2)).setCell ⟨g1, 1, none⟩ (.bool ok2)) g2 ⟨2, v1, v2, 0, 0, EntryD.zero, SeenD.zero, OpD.zero⟩ := ⟨Blk.setCells_other (Ne.symm hn12) [.slice A2 n2 c2, .bool ok2] 0 (HN.out.blk.setCells [.int .i64 v2] 2)⟩
    have N0 : NoteAt (((w6.setCell ⟨g2, 2, none⟩ (.int .i64 v2)).setCell ⟨g1, 0, none⟩ (.slice A2 n2 c2)).setCell ⟨g1, 1, none⟩ (.bool ok2)) g0 NoteD.zero := ⟨Blk.setCells_other hn01 [.slice A2 n2 c2, .bool ok2] 0 (Blk.setCells_other hn02 [.int .i64 v2] 2 HN0.out.blk)⟩
    have hB : Below w.heap.size w (((w6.setCell ⟨g2, 2, none⟩ (.int .i64 v2)).setCell ⟨g1, 0, none⟩ (.slice A2 n2 c2)).setCell ⟨g1, 1, none⟩ (.bool ok2)) := bel_sets (bel_sets HBW.out HGE.out.2.2 2 [.int .i64 v2]) HGE.out.2.1 0 [.slice A2 n2 c2, .bool ok2]
    clear Hb1 HN HN0 HBW a0 a1 fa0 fa1 hd2 fd2
    generalize ((w6.setCell ⟨g2, 2, none⟩ (.int .i64 v2)).setCell ⟨g1, 0, none⟩ (.slice A2 n2 c2)).setCell ⟨g1, 1, none⟩ (.bool ok2) = X27 at *
    have a0 : X27.cell? ⟨g1, 0, none⟩ = some (.slice A2 n2 c2) := (b1.cell 0).trans rfl
    have a1 : X27.cell? ⟨g1, 1, none⟩ = some (.bool ok2) := (b1.cell 1).trans rfl
    have Hb1 := Lib.hid b1
    have HN := Lib.hid N
    have HN0 := Lib.hid N0
    have HBW := Lib.hid hB
    clear b1 N N0 hB
    go_wp2_with fail
    rw [hn2.out]
    refine (dnum_any w X27 HBW.out A2 c2 s2 ok2 HD2.out).mono ?_
    rintro e w7 ⟨v3, A3, s3, c3, ok3, rfl, _, hD, hbel, rd3⟩
    obtain ⟨n3, hn3⟩ : ∃ m, Hid (m = s3.length) := ⟨_, rfl⟩
    rw [← hn3.out, ← hn2.out]
    have HD3 := Lib.hid hD
    have b1 := Hb1.out.kp (S := fun _ => False) (Kp.of_below hbel) (fun h => h)
    have N := HN.out.below hbel
    have N0 := HN0.out.below hbel
    have hB := bel_next HBW.out hbel
    clear Hb1 HN HN0 HBW hbel hD a0 a1
    clear HD2
    have a0 : w7.cell? ⟨g1, 0, none⟩ = some (.slice A2 n2 c2) := (b1.cell 0).trans rfl
    have a1 : w7.cell? ⟨g1, 1, none⟩ = some (.bool ok2) := (b1.cell 1).trans rfl
    have fa0 := b1.frozen 0
    have fa1 := b1.frozen 1
    have ⟨d3, hd3⟩ : ∃ v, w7.cell? ⟨g2, 3, none⟩ = some v := ⟨_, (N.blk.cell 3).trans rfl⟩
    have fd3 := N.blk.frozen 3
    have Hb1 := Lib.hid b1
    have HN := Lib.hid N
    have HN0 := Lib.hid N0
    have HBW := Lib.hid hB
    clear b1 N N0 hB
    go_upto_region 21 with fail
    have b1 : Blk (((w7.setCell ⟨g2, 3, none⟩ (.int .i64 v3)).setCell ⟨g1, 0, none⟩ (.slice A3 n3 c3)).setCell ⟨g1, 1, none⟩ (.bool ok3)) g1 #[.slice A3 n3 c3, .bool ok3] 99 := (Blk.setCells_other hn12 [.int .i64 v3] 3 Hb1.out).setCells [.slice A3 n3 c3, .bool ok3] 0
    have N : NoteAt (((w7.setCell ⟨g2, 3, none⟩ (.int .i64 v3)).setCell ⟨g1, 0, none⟩ (.slice A3 n3 c3)).setCell ⟨g1, 1, none⟩ (.bool ok3)) g2 ⟨2, v1, v2, v3, 0, EntryD.zero, SeenD.zero, OpD.zero⟩ := ⟨Blk.setCells_other (Ne.symm hn12) [.slice A3 n3 c3, .bool ok3] 0 (HN.out.blk.setCells [.int .i64 v3] 3)⟩
    have N0 : NoteAt (((w7.setCell ⟨g2, 3, none⟩ (.int .i64 v3)).setCell ⟨g1, 0, none⟩ (.slice A3 n3 c3)).setCell ⟨g1, 1, none⟩ (.bool ok3)) g0 NoteD.zero := ⟨Blk.setCells_other hn01 [.slice A3 n3 c3, .bool ok3] 0 (Blk.setCells_other hn02 [.int .i64 v3] 3 HN0.out.blk)⟩
    have hB : Below w.heap.size w (((w7.setCell ⟨g2, 3, none⟩ (.int .i64 v3)).setCell ⟨g1, 0, none⟩ (.slice A3 n3 c3)).setCell ⟨g1, 1, none⟩ (.bool ok3)) := bel_sets (bel_sets HBW.out HGE.out.2.2 3 [.int .i64 v3]) HGE.out.2.1 0 [.slice A3 n3 c3, .bool ok3]
    clear Hb1 HN HN0 HBW a0 a1 fa0 fa1 hd3 fd3
    generalize ((w7.setCell ⟨g2, 3, none⟩ (.int .i64 v3)).setCell ⟨g1, 0, none⟩ (.slice A3 n3 c3)).setCell ⟨g1, 1, none⟩ (.bool ok3) = X28 at *
    clear k9
    have k9 : X28.cell? ⟨g2, 0, none⟩ = some (.int .i64 2) := (N.blk.cell 0).trans rfl
    have RD : Hid (Read (gnote dnum dtxt) (some l) ⟨2, v1, v2, v3, 0, EntryD.zero, SeenD.zero, OpD.zero⟩ (stOf ok3 s3)) := rd0.bind (rd1.bind (rd2.bind (rd3.bind (Read.ret _ _))))
    have HU := Lib.hid (unp_doc H.out.isb RD.out)
    clear RD
    obtain ⟨n, hn⟩ : ∃ n : NoteD, n = ⟨2, v1, v2, v3, 0, EntryD.zero, SeenD.zero, OpD.zero⟩ := ⟨_, rfl⟩
    rw [← hn] at HU N
    clear hn
    have N2 := N
    have Hb1 := Lib.hid b1
    have HN := Lib.hid N
    have HN0 := Lib.hid N0
    have HBW := Lib.hid hB
    clear b1 N N0 hB
    go_wp2_with (((with_reducible refine wpList_load_note (op := ⟨_, Op.load 51 _, _, _, _, _⟩) rfl _ rfl _ _ ?_ N2 ?_); rfl))
    refine (rpack_any n _ ⟨rfl⟩ _).mono ?_
    rintro e w20 ⟨A7, c7, rfl, o7, b20⟩
    have b1 := Hb1.out.kp (S := fun _ => False) (Kp.of_below b20) (fun h => h)
    have N := HN.out.below b20
    have N0 := HN0.out.below b20
    have HBW := Lib.hid (bel_next HBW.out b20)
    clear Hb1 HN HN0 N2 b20
    have a0 : w20.cell? ⟨g1, 0, none⟩ = some (.slice A3 n3 c3) := (b1.cell 0).trans rfl
    have a1 : w20.cell? ⟨g1, 1, none⟩ = some (.bool ok3) := (b1.cell 1).trans rfl
    have hb0 := build0
    clear b1
    cases ok3 with
    | false =>
      have hu : Hid (unp l = none) := by show _ = _; rw [HU.out, if_neg]; rintro ⟨h, _⟩; simp [stOf] at h
      have hE : unpE l = 50 := by unfold unpE; rw [hu.out]; rfl
      have hU : unpN l = NoteD.zero := by unfold unpN; rw [hu.out]; rfl
      have HF := Lib.hid (note_fin (fn := Try.f28) (Q := fun e w' => e = .returned (.tuple #[.agg (unpN l).cells.toArray, .int .i64 (unpE l)]) ∧ Below w.heap.size w w') rfl N0 NoteD.zero 50 ⟨by rw [hE, hU], below_kp HBW.out (Kp.setCells (S := fun k => k = g0) _ rfl _ _ _ (Kp.refl _ _)) HBW.out.size (fun k hk => by have := HGE.out.1; omega)⟩)
      clear hE hU
      clear HU
      go_wp2_with (first | ((with_reducible refine wpList_build_run (op := ⟨_, Op.build 51 _, _, _, _, _⟩) rfl _ _ rfl _ ?_ _ (hb0 _) ?_); (focus (first | (go_simp; done) | (go_simp; rfl)))) | ((with_reducible refine wpList_store_note (op := ⟨_, Op.store 51 _ _, _, _, _, _⟩) rfl _ _ rfl _ _ NoteD.zero ?_ ?_ N0 ?_); rfl; rfl))
      exact HF.out _ (by rfl) (by rfl)
    | true =>
      by_cases hlt : 0 < n3
      · have hi : decide ((n3 : Int) > 0) = true := decide_eq_true (by omega)
        have hu : Hid (unp l = none) := by show _ = _; rw [HU.out, if_neg]; rintro ⟨h, _⟩; have := hn3.out; simp [stOf] at h; rw [h] at this; simp at this; omega
        have hE : unpE l = 50 := by unfold unpE; rw [hu.out]; rfl
        have hU : unpN l = NoteD.zero := by unfold unpN; rw [hu.out]; rfl
        have HF := Lib.hid (note_fin (fn := Try.f28) (Q := fun e w' => e = .returned (.tuple #[.agg (unpN l).cells.toArray, .int .i64 (unpE l)]) ∧ Below w.heap.size w w') rfl N0 NoteD.zero 50 ⟨by rw [hE, hU], below_kp HBW.out (Kp.setCells (S := fun k => k = g0) _ rfl _ _ _ (Kp.refl _ _)) HBW.out.size (fun k hk => by have := HGE.out.1; omega)⟩)
        clear hE hU
        have i3 : ¬ n3 = 0 := by omega
        clear HU
        go_wp2_with (first | ((with_reducible refine wpList_build_run (op := ⟨_, Op.build 51 _, _, _, _, _⟩) rfl _ _ rfl _ ?_ _ (hb0 _) ?_); (focus (first | (go_simp; done) | (go_simp; rfl)))) | ((with_reducible refine wpList_store_note (op := ⟨_, Op.store 51 _ _, _, _, _, _⟩) rfl _ _ rfl _ _ NoteD.zero ?_ ?_ N0 ?_); rfl; rfl))
        exact HF.out _ (by rfl) (by rfl)
      · have hz : s3 = [] := List.length_eq_zero_iff.1 (by rw [← hn3.out]; omega)
        obtain rfl : n3 = 0 := by omega
        cases hok : n.ok with
        | false =>
          have hu : Hid (unp l = none) := by show _ = _; rw [HU.out, if_neg]; rintro ⟨_, h, _⟩; rw [hok] at h; cases h
          have hE : unpE l = 50 := by unfold unpE; rw [hu.out]; rfl
          have hU : unpN l = NoteD.zero := by unfold unpN; rw [hu.out]; rfl
          have HF := Lib.hid (note_fin (fn := Try.f28) (Q := fun e w' => e = .returned (.tuple #[.agg (unpN l).cells.toArray, .int .i64 (unpE l)]) ∧ Below w.heap.size w w') rfl N0 NoteD.zero 50 ⟨by rw [hE, hU], below_kp HBW.out (Kp.setCells (S := fun k => k = g0) _ rfl _ _ _ (Kp.refl _ _)) HBW.out.size (fun k hk => by have := HGE.out.1; omega)⟩)
          clear hE hU
          have he0 : n.packE = 50 := by rw [NoteD.packE, hok]; rfl
          rw [he0]
          clear HU he0 hok hz hlt o7
          go_wp2_with (first | ((with_reducible refine wpList_build_run (op := ⟨_, Op.build 51 _, _, _, _, _⟩) rfl _ _ rfl _ ?_ _ (hb0 _) ?_); (focus (first | (go_simp; done) | (go_simp; rfl)))) | ((with_reducible refine wpList_store_note (op := ⟨_, Op.store 51 _ _, _, _, _, _⟩) rfl _ _ rfl _ _ NoteD.zero ?_ ?_ N0 ?_); rfl; rfl))
          exact HF.out _ (by rfl) (by rfl)
        | true =>
          have he0 : n.packE = 0 := by rw [NoteD.packE, hok]; rfl
          have hl : n.packL = n.enc := by rw [NoteD.packL, hok]; rfl
          have hpl := n.packL_len
          rw [hl] at o7 hpl
          rw [he0, hl]
          have r7 := Lib.hid (rd_of_own o7)
          have r8 := Lib.hid (HD.out.rd.below HBW.out)
          have hUU : Hid (unp l = if l = n.enc then some n else none) := by show _ = _; rw [HU.out]; simp [stOf, hz, hok]
          have HH : Hid (n.enc.length ≤ 9223372036854775807 ∧ l.length ≤ 9223372036854775807) := by have := H.out.len; show _ ∧ _; omega
          have HN := Lib.hid N
          have HN0 := Lib.hid N0
          clear HU he0 hl hpl o7 hok hz hlt N N0
          go_wp2_with fail
          rw [hm.out]
          refine (dsame_any A A7 c c7 l n.enc _ r8.out r7.out HH.out.2 HH.out.1).mono ?_
          rintro e w21 ⟨rfl, d21⟩
          have N0 := HN0.out.below (d21.below _)
          have N := HN.out.below (d21.below _)
          have B2 := Lib.hid (bel_next HBW.out (d21.below _))
          clear HN HN0 r7 r8 HH a0 a1 d21
          by_cases heq : l = n.enc
          · have hu : Hid (unp l = some n) := by show _ = _; rw [hUU.out, if_pos heq]
            have hE : unpE l = 0 := by unfold unpE; rw [hu.out]; rfl
            have hU : unpN l = n := by unfold unpN; rw [hu.out]; rfl
            have HF := Lib.hid (note_fin (fn := Try.f28) (Q := fun e w' => e = .returned (.tuple #[.agg (unpN l).cells.toArray, .int .i64 (unpE l)]) ∧ Below w.heap.size w w') rfl N0 n 0 ⟨by rw [hE, hU], below_kp B2.out (Kp.setCells (S := fun k => k = g0) _ rfl _ _ _ (Kp.refl _ _)) B2.out.size (fun k hk => by have := HGE.out.1; omega)⟩)
            clear hE hU
            rw [decide_eq_true heq]
            clear hUU heq
            go_wp2_with (first | ((with_reducible refine wpList_load_note (op := ⟨_, Op.load 51 _, _, _, _, _⟩) rfl _ rfl _ _ ?_ N ?_); rfl) | ((with_reducible refine wpList_store_note (op := ⟨_, Op.store 51 _ _, _, _, _, _⟩) rfl _ _ rfl _ _ n ?_ ?_ N0 ?_); rfl; rfl))
            exact HF.out _ (by rfl) (by rfl)
          · have hu : Hid (unp l = none) := by show _ = _; rw [hUU.out, if_neg heq]
            have hE : unpE l = 50 := by unfold unpE; rw [hu.out]; rfl
            have hU : unpN l = NoteD.zero := by unfold unpN; rw [hu.out]; rfl
            have HF := Lib.hid (note_fin (fn := Try.f28) (Q := fun e w' => e = .returned (.tuple #[.agg (unpN l).cells.toArray, .int .i64 (unpE l)]) ∧ Below w.heap.size w w') rfl N0 NoteD.zero 50 ⟨by rw [hE, hU], below_kp B2.out (Kp.setCells (S := fun k => k = g0) _ rfl _ _ _ (Kp.refl _ _)) B2.out.size (fun k hk => by have := HGE.out.1; omega)⟩)
            clear hE hU
            rw [decide_eq_false heq]
            clear hUU heq
            go_wp2_with (first | ((with_reducible refine wpList_build_run (op := ⟨_, Op.build 51 _, _, _, _, _⟩) rfl _ _ rfl _ ?_ _ (hb0 _) ?_); (focus (first | (go_simp; done) | (go_simp; rfl)))) | ((with_reducible refine wpList_store_note (op := ⟨_, Op.store 51 _ _, _, _, _, _⟩) rfl _ _ rfl _ _ NoteD.zero ?_ ?_ N0 ?_); rfl; rfl))
            exact HF.out _ (by rfl) (by rfl)
  by_cases h3 : v0 = 3
  · subst h3
    have a0 : X25.cell? ⟨g1, 0, none⟩ = some (.slice A0 n0 c0) := (b1.cell 0).trans rfl
    have a1 : X25.cell? ⟨g1, 1, none⟩ = some (.bool ok0) := (b1.cell 1).trans rfl
    have Hb1 := Lib.hid b1
    have HN := Lib.hid N
    have HN0 := Lib.hid N0
    have HBW := Lib.hid hB
    clear b1 N N0 hB
    go_wp2_with fail
    rw [hn0.out]
    refine (dentry_any w X25 HBW.out A0 c0 s0 ok0 HD0.out).mono ?_
    rintro e w5 ⟨⟨⟨kd, kn⟩, ng, ⟨nid, nk, nm, nt⟩⟩, A1, s1, c1, ok1, he, _, hD, hbel, rd1⟩
    have he : e = .returned (.tuple #[.agg #[.int .i64 kd, .string kn, .bool ng, .int .i64 nid, .int .i64 nk, .int .i64 nm, .string nt], .agg #[.slice A1 s1.length c1, .bool ok1]]) := he
    subst he
    obtain ⟨n1, hn1⟩ : ∃ m, Hid (m = s1.length) := ⟨_, rfl⟩
    rw [← hn1.out, ← hn0.out]
    have HD1 := Lib.hid hD
    have b1 := Hb1.out.kp (S := fun _ => False) (Kp.of_below hbel) (fun h => h)
    have N := HN.out.below hbel
    have N0 := HN0.out.below hbel
    have hB := bel_next HBW.out hbel
    clear Hb1 HN HN0 HBW hbel hD a0 a1
    clear HD0
    have a0 : w5.cell? ⟨g1, 0, none⟩ = some (.slice A0 n0 c0) := (b1.cell 0).trans rfl
    have a1 : w5.cell? ⟨g1, 1, none⟩ = some (.bool ok0) := (b1.cell 1).trans rfl
    have fa0 := b1.frozen 0
    have fa1 := b1.frozen 1
    have ⟨d5, hd5⟩ : ∃ v, w5.cell? ⟨g2, 5, none⟩ = some v := ⟨_, (N.blk.cell 5).trans rfl⟩
    have fd5 := N.blk.frozen 5
    have ⟨d6, hd6⟩ : ∃ v, w5.cell? ⟨g2, 6, none⟩ = some v := ⟨_, (N.blk.cell 6).trans rfl⟩
    have fd6 := N.blk.frozen 6
    have ⟨d7, hd7⟩ : ∃ v, w5.cell? ⟨g2, 7, none⟩ = some v := ⟨_, (N.blk.cell 7).trans rfl⟩
    have fd7 := N.blk.frozen 7
    have ⟨d8, hd8⟩ : ∃ v, w5.cell? ⟨g2, 8, none⟩ = some v := ⟨_, (N.blk.cell 8).trans rfl⟩
    have fd8 := N.blk.frozen 8
    have ⟨d9, hd9⟩ : ∃ v, w5.cell? ⟨g2, 9, none⟩ = some v := ⟨_, (N.blk.cell 9).trans rfl⟩
    have fd9 := N.blk.frozen 9
    have ⟨d10, hd10⟩ : ∃ v, w5.cell? ⟨g2, 10, none⟩ = some v := ⟨_, (N.blk.cell 10).trans rfl⟩
    have fd10 := N.blk.frozen 10
    have ⟨d11, hd11⟩ : ∃ v, w5.cell? ⟨g2, 11, none⟩ = some v := ⟨_, (N.blk.cell 11).trans rfl⟩
    have fd11 := N.blk.frozen 11
    have Hb1 := Lib.hid b1
    have HN := Lib.hid N
    have HN0 := Lib.hid N0
    have HBW := Lib.hid hB
    clear b1 N N0 hB
    go_upto_region 21 with fail
    have b1 : Blk (((((((((w5.setCell ⟨g2, 5, none⟩ (.int .i64 kd)).setCell ⟨g2, 6, none⟩ (.string kn)).setCell ⟨g2, 7, none⟩ (.bool ng)).setCell ⟨g2, 8, none⟩ (.int .i64 nid)).setCell ⟨g2, 9, none⟩ (.int .i64 nk)).setCell ⟨g2, 10, none⟩ (.int .i64 nm)).setCell ⟨g2, 11, none⟩ (.string nt)).setCell ⟨g1, 0, none⟩ (.slice A1 n1 c1)).setCell ⟨g1, 1, none⟩ (.bool ok1)) g1 #[.slice A1 n1 c1, .bool ok1] 99 := (Blk.setCells_other hn12 [.int .i64 kd, .string kn, .bool ng, .int .i64 nid, .int .i64 nk, .int .i64 nm, .string nt] 5 Hb1.out).setCells [.slice A1 n1 c1, .bool ok1] 0
    have N : NoteAt (((((((((w5.setCell ⟨g2, 5, none⟩ (.int .i64 kd)).setCell ⟨g2, 6, none⟩ (.string kn)).setCell ⟨g2, 7, none⟩ (.bool ng)).setCell ⟨g2, 8, none⟩ (.int .i64 nid)).setCell ⟨g2, 9, none⟩ (.int .i64 nk)).setCell ⟨g2, 10, none⟩ (.int .i64 nm)).setCell ⟨g2, 11, none⟩ (.string nt)).setCell ⟨g1, 0, none⟩ (.slice A1 n1 c1)).setCell ⟨g1, 1, none⟩ (.bool ok1)) g2 ⟨3, 0, 0, 0, 0, ⟨⟨kd, kn⟩, ng, ⟨nid, nk, nm, nt⟩⟩, SeenD.zero, OpD.zero⟩ := ⟨Blk.setCells_other (Ne.symm hn12) [.slice A1 n1 c1, .bool ok1] 0 (HN.out.blk.setCells [.int .i64 kd, .string kn, .bool ng, .int .i64 nid, .int .i64 nk, .int .i64 nm, .string nt] 5)⟩
    have N0 : NoteAt (((((((((w5.setCell ⟨g2, 5, none⟩ (.int .i64 kd)).setCell ⟨g2, 6, none⟩ (.string kn)).setCell ⟨g2, 7, none⟩ (.bool ng)).setCell ⟨g2, 8, none⟩ (.int .i64 nid)).setCell ⟨g2, 9, none⟩ (.int .i64 nk)).setCell ⟨g2, 10, none⟩ (.int .i64 nm)).setCell ⟨g2, 11, none⟩ (.string nt)).setCell ⟨g1, 0, none⟩ (.slice A1 n1 c1)).setCell ⟨g1, 1, none⟩ (.bool ok1)) g0 NoteD.zero := ⟨Blk.setCells_other hn01 [.slice A1 n1 c1, .bool ok1] 0 (Blk.setCells_other hn02 [.int .i64 kd, .string kn, .bool ng, .int .i64 nid, .int .i64 nk, .int .i64 nm, .string nt] 5 HN0.out.blk)⟩
    have hB : Below w.heap.size w (((((((((w5.setCell ⟨g2, 5, none⟩ (.int .i64 kd)).setCell ⟨g2, 6, none⟩ (.string kn)).setCell ⟨g2, 7, none⟩ (.bool ng)).setCell ⟨g2, 8, none⟩ (.int .i64 nid)).setCell ⟨g2, 9, none⟩ (.int .i64 nk)).setCell ⟨g2, 10, none⟩ (.int .i64 nm)).setCell ⟨g2, 11, none⟩ (.string nt)).setCell ⟨g1, 0, none⟩ (.slice A1 n1 c1)).setCell ⟨g1, 1, none⟩ (.bool ok1)) := bel_sets (bel_sets HBW.out HGE.out.2.2 5 [.int .i64 kd, .string kn, .bool ng, .int .i64 nid, .int .i64 nk, .int .i64 nm, .string nt]) HGE.out.2.1 0 [.slice A1 n1 c1, .bool ok1]
    clear Hb1 HN HN0 HBW a0 a1 fa0 fa1 hd5 fd5 hd6 fd6 hd7 fd7 hd8 fd8 hd9 fd9 hd10 fd10 hd11 fd11
    generalize ((((((((w5.setCell ⟨g2, 5, none⟩ (.int .i64 kd)).setCell ⟨g2, 6, none⟩ (.string kn)).setCell ⟨g2, 7, none⟩ (.bool ng)).setCell ⟨g2, 8, none⟩ (.int .i64 nid)).setCell ⟨g2, 9, none⟩ (.int .i64 nk)).setCell ⟨g2, 10, none⟩ (.int .i64 nm)).setCell ⟨g2, 11, none⟩ (.string nt)).setCell ⟨g1, 0, none⟩ (.slice A1 n1 c1)).setCell ⟨g1, 1, none⟩ (.bool ok1) = X26 at *
    clear k9
    have k9 : X26.cell? ⟨g2, 0, none⟩ = some (.int .i64 3) := (N.blk.cell 0).trans rfl
    have RD : Hid (Read (gnote dnum dtxt) (some l) ⟨3, 0, 0, 0, 0, ⟨⟨kd, kn⟩, ng, ⟨nid, nk, nm, nt⟩⟩, SeenD.zero, OpD.zero⟩ (stOf ok1 s1)) := rd0.bind (rd1.bind (Read.ret _ _))
    have HU := Lib.hid (unp_doc H.out.isb RD.out)
    clear RD
    obtain ⟨n, hn⟩ : ∃ n : NoteD, n = ⟨3, 0, 0, 0, 0, ⟨⟨kd, kn⟩, ng, ⟨nid, nk, nm, nt⟩⟩, SeenD.zero, OpD.zero⟩ := ⟨_, rfl⟩
    rw [← hn] at HU N
    clear hn
    have N2 := N
    have Hb1 := Lib.hid b1
    have HN := Lib.hid N
    have HN0 := Lib.hid N0
    have HBW := Lib.hid hB
    clear b1 N N0 hB
    go_wp2_with (((with_reducible refine wpList_load_note (op := ⟨_, Op.load 51 _, _, _, _, _⟩) rfl _ rfl _ _ ?_ N2 ?_); rfl))
    refine (rpack_any n _ ⟨rfl⟩ _).mono ?_
    rintro e w20 ⟨A7, c7, rfl, o7, b20⟩
    have b1 := Hb1.out.kp (S := fun _ => False) (Kp.of_below b20) (fun h => h)
    have N := HN.out.below b20
    have N0 := HN0.out.below b20
    have HBW := Lib.hid (bel_next HBW.out b20)
    clear Hb1 HN HN0 N2 b20
    have a0 : w20.cell? ⟨g1, 0, none⟩ = some (.slice A1 n1 c1) := (b1.cell 0).trans rfl
    have a1 : w20.cell? ⟨g1, 1, none⟩ = some (.bool ok1) := (b1.cell 1).trans rfl
    have hb0 := build0
    clear b1
    cases ok1 with
    | false =>
      have hu : Hid (unp l = none) := by show _ = _; rw [HU.out, if_neg]; rintro ⟨h, _⟩; simp [stOf] at h
      have hE : unpE l = 50 := by unfold unpE; rw [hu.out]; rfl
      have hU : unpN l = NoteD.zero := by unfold unpN; rw [hu.out]; rfl
      have HF := Lib.hid (note_fin (fn := Try.f28) (Q := fun e w' => e = .returned (.tuple #[.agg (unpN l).cells.toArray, .int .i64 (unpE l)]) ∧ Below w.heap.size w w') rfl N0 NoteD.zero 50 ⟨by rw [hE, hU], below_kp HBW.out (Kp.setCells (S := fun k => k = g0) _ rfl _ _ _ (Kp.refl _ _)) HBW.out.size (fun k hk => by have := HGE.out.1; omega)⟩)
      clear hE hU
      clear HU
      go_wp2_with (first | ((with_reducible refine wpList_build_run (op := ⟨_, Op.build 51 _, _, _, _, _⟩) rfl _ _ rfl _ ?_ _ (hb0 _) ?_); (focus (first | (go_simp; done) | (go_simp; rfl)))) | ((with_reducible refine wpList_store_note (op := ⟨_, Op.store 51 _ _, _, _, _, _⟩) rfl _ _ rfl _ _ NoteD.zero ?_ ?_ N0 ?_); rfl; rfl))
      exact HF.out _ (by rfl) (by rfl)
    | true =>
      by_cases hlt : 0 < n1
      · have hi : decide ((n1 : Int) > 0) = true := decide_eq_true (by omega)
        have hu : Hid (unp l = none) := by show _ = _; rw [HU.out, if_neg]; rintro ⟨h, _⟩; have := hn1.out; simp [stOf] at h; rw [h] at this; simp at this; omega
        have hE : unpE l = 50 := by unfold unpE; rw [hu.out]; rfl
        have hU : unpN l = NoteD.zero := by unfold unpN; rw [hu.out]; rfl
        have HF := Lib.hid (note_fin (fn := Try.f28) (Q := fun e w' => e = .returned (.tuple #[.agg (unpN l).cells.toArray, .int .i64 (unpE l)]) ∧ Below w.heap.size w w') rfl N0 NoteD.zero 50 ⟨by rw [hE, hU], below_kp HBW.out (Kp.setCells (S := fun k => k = g0) _ rfl _ _ _ (Kp.refl _ _)) HBW.out.size (fun k hk => by have := HGE.out.1; omega)⟩)
        clear hE hU
        have i3 : ¬ n1 = 0 := by omega
        clear HU
        go_wp2_with (first | ((with_reducible refine wpList_build_run (op := ⟨_, Op.build 51 _, _, _, _, _⟩) rfl _ _ rfl _ ?_ _ (hb0 _) ?_); (focus (first | (go_simp; done) | (go_simp; rfl)))) | ((with_reducible refine wpList_store_note (op := ⟨_, Op.store 51 _ _, _, _, _, _⟩) rfl _ _ rfl _ _ NoteD.zero ?_ ?_ N0 ?_); rfl; rfl))
        exact HF.out _ (by rfl) (by rfl)
      · have hz : s1 = [] := List.length_eq_zero_iff.1 (by rw [← hn1.out]; omega)
        obtain rfl : n1 = 0 := by omega
        cases hok : n.ok with
        | false =>
          have hu : Hid (unp l = none) := by show _ = _; rw [HU.out, if_neg]; rintro ⟨_, h, _⟩; rw [hok] at h; cases h
          have hE : unpE l = 50 := by unfold unpE; rw [hu.out]; rfl
          have hU : unpN l = NoteD.zero := by unfold unpN; rw [hu.out]; rfl
          have HF := Lib.hid (note_fin (fn := Try.f28) (Q := fun e w' => e = .returned (.tuple #[.agg (unpN l).cells.toArray, .int .i64 (unpE l)]) ∧ Below w.heap.size w w') rfl N0 NoteD.zero 50 ⟨by rw [hE, hU], below_kp HBW.out (Kp.setCells (S := fun k => k = g0) _ rfl _ _ _ (Kp.refl _ _)) HBW.out.size (fun k hk => by have := HGE.out.1; omega)⟩)
          clear hE hU
          have he0 : n.packE = 50 := by rw [NoteD.packE, hok]; rfl
          rw [he0]
          clear HU he0 hok hz hlt o7
          go_wp2_with (first | ((with_reducible refine wpList_build_run (op := ⟨_, Op.build 51 _, _, _, _, _⟩) rfl _ _ rfl _ ?_ _ (hb0 _) ?_); (focus (first | (go_simp; done) | (go_simp; rfl)))) | ((with_reducible refine wpList_store_note (op := ⟨_, Op.store 51 _ _, _, _, _, _⟩) rfl _ _ rfl _ _ NoteD.zero ?_ ?_ N0 ?_); rfl; rfl))
          exact HF.out _ (by rfl) (by rfl)
        | true =>
          have he0 : n.packE = 0 := by rw [NoteD.packE, hok]; rfl
          have hl : n.packL = n.enc := by rw [NoteD.packL, hok]; rfl
          have hpl := n.packL_len
          rw [hl] at o7 hpl
          rw [he0, hl]
          have r7 := Lib.hid (rd_of_own o7)
          have r8 := Lib.hid (HD.out.rd.below HBW.out)
          have hUU : Hid (unp l = if l = n.enc then some n else none) := by show _ = _; rw [HU.out]; simp [stOf, hz, hok]
          have HH : Hid (n.enc.length ≤ 9223372036854775807 ∧ l.length ≤ 9223372036854775807) := by have := H.out.len; show _ ∧ _; omega
          have HN := Lib.hid N
          have HN0 := Lib.hid N0
          clear HU he0 hl hpl o7 hok hz hlt N N0
          go_wp2_with fail
          rw [hm.out]
          refine (dsame_any A A7 c c7 l n.enc _ r8.out r7.out HH.out.2 HH.out.1).mono ?_
          rintro e w21 ⟨rfl, d21⟩
          have N0 := HN0.out.below (d21.below _)
          have N := HN.out.below (d21.below _)
          have B2 := Lib.hid (bel_next HBW.out (d21.below _))
          clear HN HN0 r7 r8 HH a0 a1 d21
          by_cases heq : l = n.enc
          · have hu : Hid (unp l = some n) := by show _ = _; rw [hUU.out, if_pos heq]
            have hE : unpE l = 0 := by unfold unpE; rw [hu.out]; rfl
            have hU : unpN l = n := by unfold unpN; rw [hu.out]; rfl
            have HF := Lib.hid (note_fin (fn := Try.f28) (Q := fun e w' => e = .returned (.tuple #[.agg (unpN l).cells.toArray, .int .i64 (unpE l)]) ∧ Below w.heap.size w w') rfl N0 n 0 ⟨by rw [hE, hU], below_kp B2.out (Kp.setCells (S := fun k => k = g0) _ rfl _ _ _ (Kp.refl _ _)) B2.out.size (fun k hk => by have := HGE.out.1; omega)⟩)
            clear hE hU
            rw [decide_eq_true heq]
            clear hUU heq
            go_wp2_with (first | ((with_reducible refine wpList_load_note (op := ⟨_, Op.load 51 _, _, _, _, _⟩) rfl _ rfl _ _ ?_ N ?_); rfl) | ((with_reducible refine wpList_store_note (op := ⟨_, Op.store 51 _ _, _, _, _, _⟩) rfl _ _ rfl _ _ n ?_ ?_ N0 ?_); rfl; rfl))
            exact HF.out _ (by rfl) (by rfl)
          · have hu : Hid (unp l = none) := by show _ = _; rw [hUU.out, if_neg heq]
            have hE : unpE l = 50 := by unfold unpE; rw [hu.out]; rfl
            have hU : unpN l = NoteD.zero := by unfold unpN; rw [hu.out]; rfl
            have HF := Lib.hid (note_fin (fn := Try.f28) (Q := fun e w' => e = .returned (.tuple #[.agg (unpN l).cells.toArray, .int .i64 (unpE l)]) ∧ Below w.heap.size w w') rfl N0 NoteD.zero 50 ⟨by rw [hE, hU], below_kp B2.out (Kp.setCells (S := fun k => k = g0) _ rfl _ _ _ (Kp.refl _ _)) B2.out.size (fun k hk => by have := HGE.out.1; omega)⟩)
            clear hE hU
            rw [decide_eq_false heq]
            clear hUU heq
            go_wp2_with (first | ((with_reducible refine wpList_build_run (op := ⟨_, Op.build 51 _, _, _, _, _⟩) rfl _ _ rfl _ ?_ _ (hb0 _) ?_); (focus (first | (go_simp; done) | (go_simp; rfl)))) | ((with_reducible refine wpList_store_note (op := ⟨_, Op.store 51 _ _, _, _, _, _⟩) rfl _ _ rfl _ _ NoteD.zero ?_ ?_ N0 ?_); rfl; rfl))
            exact HF.out _ (by rfl) (by rfl)
  by_cases h4 : v0 = 4
  · subst h4
    have a0 : X25.cell? ⟨g1, 0, none⟩ = some (.slice A0 n0 c0) := (b1.cell 0).trans rfl
    have a1 : X25.cell? ⟨g1, 1, none⟩ = some (.bool ok0) := (b1.cell 1).trans rfl
    have Hb1 := Lib.hid b1
    have HN := Lib.hid N
    have HN0 := Lib.hid N0
    have HBW := Lib.hid hB
    clear b1 N N0 hB
    go_wp2_with fail
    rw [hn0.out]
    refine (dnum_any w X25 HBW.out A0 c0 s0 ok0 HD0.out).mono ?_
    rintro e w5 ⟨v1, A1, s1, c1, ok1, rfl, _, hD, hbel, rd1⟩
    obtain ⟨n1, hn1⟩ : ∃ m, Hid (m = s1.length) := ⟨_, rfl⟩
    rw [← hn1.out, ← hn0.out]
    have HD1 := Lib.hid hD
    have b1 := Hb1.out.kp (S := fun _ => False) (Kp.of_below hbel) (fun h => h)
    have N := HN.out.below hbel
    have N0 := HN0.out.below hbel
    have hB := bel_next HBW.out hbel
    clear Hb1 HN HN0 HBW hbel hD a0 a1
    clear HD0
    have a0 : w5.cell? ⟨g1, 0, none⟩ = some (.slice A0 n0 c0) := (b1.cell 0).trans rfl
    have a1 : w5.cell? ⟨g1, 1, none⟩ = some (.bool ok0) := (b1.cell 1).trans rfl
    have fa0 := b1.frozen 0
    have fa1 := b1.frozen 1
    have ⟨d4, hd4⟩ : ∃ v, w5.cell? ⟨g2, 4, none⟩ = some v := ⟨_, (N.blk.cell 4).trans rfl⟩
    have fd4 := N.blk.frozen 4
    have Hb1 := Lib.hid b1
    have HN := Lib.hid N
    have HN0 := Lib.hid N0
    have HBW := Lib.hid hB
    clear b1 N N0 hB
    go_upto_region 16 with fail
    have b1 : Blk (((w5.setCell ⟨g2, 4, none⟩ (.int .i64 v1)).setCell ⟨g1, 0, none⟩ (.slice A1 n1 c1)).setCell ⟨g1, 1, none⟩ (.bool ok1)) g1 #[.slice A1 n1 c1, .bool ok1] 99 := (Blk.setCells_other hn12 [.int .i64 v1] 4 Hb1.out).setCells [.slice A1 n1 c1, .bool ok1] 0
    have N : NoteAt (((w5.setCell ⟨g2, 4, none⟩ (.int .i64 v1)).setCell ⟨g1, 0, none⟩ (.slice A1 n1 c1)).setCell ⟨g1, 1, none⟩ (.bool ok1)) g2 ⟨4, 0, 0, 0, v1, EntryD.zero, SeenD.zero, OpD.zero⟩ := ⟨Blk.setCells_other (Ne.symm hn12) [.slice A1 n1 c1, .bool ok1] 0 (HN.out.blk.setCells [.int .i64 v1] 4)⟩
    have N0 : NoteAt (((w5.setCell ⟨g2, 4, none⟩ (.int .i64 v1)).setCell ⟨g1, 0, none⟩ (.slice A1 n1 c1)).setCell ⟨g1, 1, none⟩ (.bool ok1)) g0 NoteD.zero := ⟨Blk.setCells_other hn01 [.slice A1 n1 c1, .bool ok1] 0 (Blk.setCells_other hn02 [.int .i64 v1] 4 HN0.out.blk)⟩
    have hB : Below w.heap.size w (((w5.setCell ⟨g2, 4, none⟩ (.int .i64 v1)).setCell ⟨g1, 0, none⟩ (.slice A1 n1 c1)).setCell ⟨g1, 1, none⟩ (.bool ok1)) := bel_sets (bel_sets HBW.out HGE.out.2.2 4 [.int .i64 v1]) HGE.out.2.1 0 [.slice A1 n1 c1, .bool ok1]
    clear Hb1 HN HN0 HBW a0 a1 fa0 fa1 hd4 fd4
    generalize ((w5.setCell ⟨g2, 4, none⟩ (.int .i64 v1)).setCell ⟨g1, 0, none⟩ (.slice A1 n1 c1)).setCell ⟨g1, 1, none⟩ (.bool ok1) = X26 at *
    have a0 : X26.cell? ⟨g1, 0, none⟩ = some (.slice A1 n1 c1) := (b1.cell 0).trans rfl
    have a1 : X26.cell? ⟨g1, 1, none⟩ = some (.bool ok1) := (b1.cell 1).trans rfl
    have Hb1 := Lib.hid b1
    have HN := Lib.hid N
    have HN0 := Lib.hid N0
    have HBW := Lib.hid hB
    clear b1 N N0 hB
    go_wp2_with fail
    rw [hn1.out]
    refine (dnum_any w X26 HBW.out A1 c1 s1 ok1 HD1.out).mono ?_
    rintro e w6 ⟨v2, A2, s2, c2, ok2, rfl, _, hD, hbel, rd2⟩
    obtain ⟨n2, hn2⟩ : ∃ m, Hid (m = s2.length) := ⟨_, rfl⟩
    rw [← hn2.out, ← hn1.out]
    have HD2 := Lib.hid hD
    have b1 := Hb1.out.kp (S := fun _ => False) (Kp.of_below hbel) (fun h => h)
    have N := HN.out.below hbel
    have N0 := HN0.out.below hbel
    have hB := bel_next HBW.out hbel
    clear Hb1 HN HN0 HBW hbel hD a0 a1
    clear HD1
    have a0 : w6.cell? ⟨g1, 0, none⟩ = some (.slice A1 n1 c1) := (b1.cell 0).trans rfl
    have a1 : w6.cell? ⟨g1, 1, none⟩ = some (.bool ok1) := (b1.cell 1).trans rfl
    have fa0 := b1.frozen 0
    have fa1 := b1.frozen 1
    have ⟨d12, hd12⟩ : ∃ v, w6.cell? ⟨g2, 12, none⟩ = some v := ⟨_, (N.blk.cell 12).trans rfl⟩
    have fd12 := N.blk.frozen 12
    have Hb1 := Lib.hid b1
    have HN := Lib.hid N
    have HN0 := Lib.hid N0
    have HBW := Lib.hid hB
    clear b1 N N0 hB
    go_upto_region 17 with fail
    have b1 : Blk (((w6.setCell ⟨g2, 12, none⟩ (.int .i64 v2)).setCell ⟨g1, 0, none⟩ (.slice A2 n2 c2)).setCell ⟨g1, 1, none⟩ (.bool ok2)) g1 #[.slice A2 n2 c2, .bool ok2] 99 := (Blk.setCells_other hn12 [.int .i64 v2] 12 Hb1.out).setCells [.slice A2 n2 c2, .bool ok2] 0
    have N : NoteAt (((w6.setCell ⟨g2, 12, none⟩ (.int .i64 v2)).setCell ⟨g1, 0, none⟩ (.slice A2 n2 c2)).setCell ⟨g1, 1, none⟩ (.bool ok2)) g2 ⟨4, 0, 0, 0, v1, EntryD.zero, ⟨v2, 0, 0⟩, OpD.zero⟩ := ⟨Blk.setCells_other (Ne.symm hn12) [.slice A2 n2 c2, .bool ok2] 0 (HN.out.blk.setCells [.int .i64 v2] 12)⟩
    have N0 : NoteAt (((w6.setCell ⟨g2, 12, none⟩ (.int .i64 v2)).setCell ⟨g1, 0, none⟩ (.slice A2 n2 c2)).setCell ⟨g1, 1, none⟩ (.bool ok2)) g0 NoteD.zero := ⟨Blk.setCells_other hn01 [.slice A2 n2 c2, .bool ok2] 0 (Blk.setCells_other hn02 [.int .i64 v2] 12 HN0.out.blk)⟩
    have hB : Below w.heap.size w (((w6.setCell ⟨g2, 12, none⟩ (.int .i64 v2)).setCell ⟨g1, 0, none⟩ (.slice A2 n2 c2)).setCell ⟨g1, 1, none⟩ (.bool ok2)) := bel_sets (bel_sets HBW.out HGE.out.2.2 12 [.int .i64 v2]) HGE.out.2.1 0 [.slice A2 n2 c2, .bool ok2]
    clear Hb1 HN HN0 HBW a0 a1 fa0 fa1 hd12 fd12
    generalize ((w6.setCell ⟨g2, 12, none⟩ (.int .i64 v2)).setCell ⟨g1, 0, none⟩ (.slice A2 n2 c2)).setCell ⟨g1, 1, none⟩ (.bool ok2) = X27 at *
    have a0 : X27.cell? ⟨g1, 0, none⟩ = some (.slice A2 n2 c2) := (b1.cell 0).trans rfl
    have a1 : X27.cell? ⟨g1, 1, none⟩ = some (.bool ok2) := (b1.cell 1).trans rfl
    have Hb1 := Lib.hid b1
    have HN := Lib.hid N
    have HN0 := Lib.hid N0
    have HBW := Lib.hid hB
    clear b1 N N0 hB
    go_wp2_with fail
    rw [hn2.out]
    refine (dnum_any w X27 HBW.out A2 c2 s2 ok2 HD2.out).mono ?_
    rintro e w7 ⟨v3, A3, s3, c3, ok3, rfl, _, hD, hbel, rd3⟩
    obtain ⟨n3, hn3⟩ : ∃ m, Hid (m = s3.length) := ⟨_, rfl⟩
    rw [← hn3.out, ← hn2.out]
    have HD3 := Lib.hid hD
    have b1 := Hb1.out.kp (S := fun _ => False) (Kp.of_below hbel) (fun h => h)
    have N := HN.out.below hbel
    have N0 := HN0.out.below hbel
    have hB := bel_next HBW.out hbel
    clear Hb1 HN HN0 HBW hbel hD a0 a1
    clear HD2
    have a0 : w7.cell? ⟨g1, 0, none⟩ = some (.slice A2 n2 c2) := (b1.cell 0).trans rfl
    have a1 : w7.cell? ⟨g1, 1, none⟩ = some (.bool ok2) := (b1.cell 1).trans rfl
    have fa0 := b1.frozen 0
    have fa1 := b1.frozen 1
    have ⟨d13, hd13⟩ : ∃ v, w7.cell? ⟨g2, 13, none⟩ = some v := ⟨_, (N.blk.cell 13).trans rfl⟩
    have fd13 := N.blk.frozen 13
    have Hb1 := Lib.hid b1
    have HN := Lib.hid N
    have HN0 := Lib.hid N0
    have HBW := Lib.hid hB
    clear b1 N N0 hB
    go_upto_region 18 with fail
    have b1 : Blk (((w7.setCell ⟨g2, 13, none⟩ (.int .i64 v3)).setCell ⟨g1, 0, none⟩ (.slice A3 n3 c3)).setCell ⟨g1, 1, none⟩ (.bool ok3)) g1 #[.slice A3 n3 c3, .bool ok3] 99 := (Blk.setCells_other hn12 [.int .i64 v3] 13 Hb1.out).setCells [.slice A3 n3 c3, .bool ok3] 0
    have N : NoteAt (((w7.setCell ⟨g2, 13, none⟩ (.int .i64 v3)).setCell ⟨g1, 0, none⟩ (.slice A3 n3 c3)).setCell ⟨g1, 1, none⟩ (.bool ok3)) g2 ⟨4, 0, 0, 0, v1, EntryD.zero, ⟨v2, v3, 0⟩, OpD.zero⟩ := ⟨Blk.setCells_other (Ne.symm hn12) [.slice A3 n3 c3, .bool ok3] 0 (HN.out.blk.setCells [.int .i64 v3] 13)⟩
    have N0 : NoteAt (((w7.setCell ⟨g2, 13, none⟩ (.int .i64 v3)).setCell ⟨g1, 0, none⟩ (.slice A3 n3 c3)).setCell ⟨g1, 1, none⟩ (.bool ok3)) g0 NoteD.zero := ⟨Blk.setCells_other hn01 [.slice A3 n3 c3, .bool ok3] 0 (Blk.setCells_other hn02 [.int .i64 v3] 13 HN0.out.blk)⟩
    have hB : Below w.heap.size w (((w7.setCell ⟨g2, 13, none⟩ (.int .i64 v3)).setCell ⟨g1, 0, none⟩ (.slice A3 n3 c3)).setCell ⟨g1, 1, none⟩ (.bool ok3)) := bel_sets (bel_sets HBW.out HGE.out.2.2 13 [.int .i64 v3]) HGE.out.2.1 0 [.slice A3 n3 c3, .bool ok3]
    clear Hb1 HN HN0 HBW a0 a1 fa0 fa1 hd13 fd13
    generalize ((w7.setCell ⟨g2, 13, none⟩ (.int .i64 v3)).setCell ⟨g1, 0, none⟩ (.slice A3 n3 c3)).setCell ⟨g1, 1, none⟩ (.bool ok3) = X28 at *
    have a0 : X28.cell? ⟨g1, 0, none⟩ = some (.slice A3 n3 c3) := (b1.cell 0).trans rfl
    have a1 : X28.cell? ⟨g1, 1, none⟩ = some (.bool ok3) := (b1.cell 1).trans rfl
    have Hb1 := Lib.hid b1
    have HN := Lib.hid N
    have HN0 := Lib.hid N0
    have HBW := Lib.hid hB
    clear b1 N N0 hB
    go_wp2_with fail
    rw [hn3.out]
    refine (dnum_any w X28 HBW.out A3 c3 s3 ok3 HD3.out).mono ?_
    rintro e w8 ⟨v4, A4, s4, c4, ok4, rfl, _, hD, hbel, rd4⟩
    obtain ⟨n4, hn4⟩ : ∃ m, Hid (m = s4.length) := ⟨_, rfl⟩
    rw [← hn4.out, ← hn3.out]
    have HD4 := Lib.hid hD
    have b1 := Hb1.out.kp (S := fun _ => False) (Kp.of_below hbel) (fun h => h)
    have N := HN.out.below hbel
    have N0 := HN0.out.below hbel
    have hB := bel_next HBW.out hbel
    clear Hb1 HN HN0 HBW hbel hD a0 a1
    clear HD3
    have a0 : w8.cell? ⟨g1, 0, none⟩ = some (.slice A3 n3 c3) := (b1.cell 0).trans rfl
    have a1 : w8.cell? ⟨g1, 1, none⟩ = some (.bool ok3) := (b1.cell 1).trans rfl
    have fa0 := b1.frozen 0
    have fa1 := b1.frozen 1
    have ⟨d14, hd14⟩ : ∃ v, w8.cell? ⟨g2, 14, none⟩ = some v := ⟨_, (N.blk.cell 14).trans rfl⟩
    have fd14 := N.blk.frozen 14
    have b1 := b1.alloc (.cells #[.slice A4 n4 c4, .bool ok4] 99)
    have N := N.below (w' := w8.alloc (.cells #[.slice A4 n4 c4, .bool ok4] 99)) (bel_al (Below.refl _ _) _)
    have N0 := N0.below (w' := w8.alloc (.cells #[.slice A4 n4 c4, .bool ok4] 99)) (bel_al (Below.refl _ _) _)
    have hB := bel_next hB (bel_al (Below.refl _ _) (.cells #[.slice A4 n4 c4, .bool ok4] 99))
    have b7 := Blk.new w8 #[.slice A4 n4 c4, .bool ok4] 99
    clear a0 a1 fa0 fa1 hd14 fd14
    have Hb7 := Lib.hid b7
    clear b7
    have Hb1 := Lib.hid b1
    have HN := Lib.hid N
    have HN0 := Lib.hid N0
    have HBW := Lib.hid hB
    clear b1 N N0 hB
    go_upto_region 19 with fail
    generalize w8.alloc (.cells #[.slice A4 n4 c4, .bool ok4] 99) = X7 at *
    generalize w8.heap.size = g7 at *
    have b1 := Hb1.out
    have N := HN.out
    have N0 := HN0.out
    have hB := HBW.out
    clear Hb1 HN HN0 HBW
    have a0 : X7.cell? ⟨g1, 0, none⟩ = some (.slice A3 n3 c3) := (b1.cell 0).trans rfl
    have a1 : X7.cell? ⟨g1, 1, none⟩ = some (.bool ok3) := (b1.cell 1).trans rfl
    have fa0 := b1.frozen 0
    have fa1 := b1.frozen 1
    have c0 : X7.cell? ⟨g7, 0, none⟩ = some (.slice A4 n4 c4) := (Hb7.out.cell 0).trans rfl
    have c1 : X7.cell? ⟨g7, 1, none⟩ = some (.bool ok4) := (Hb7.out.cell 1).trans rfl
    have Hb1 := Lib.hid b1
    have HN := Lib.hid N
    have HN0 := Lib.hid N0
    have HBW := Lib.hid hB
    clear b1 N N0 hB
    go_upto_region 20 with fail
    have b1 : Blk ((X7.setCell ⟨g1, 0, none⟩ (.slice A4 n4 c4)).setCell ⟨g1, 1, none⟩ (.bool ok4)) g1 #[.slice A4 n4 c4, .bool ok4] 99 := Hb1.out.setCells [.slice A4 n4 c4, .bool ok4] 0
    have N : NoteAt ((X7.setCell ⟨g1, 0, none⟩ (.slice A4 n4 c4)).setCell ⟨g1, 1, none⟩ (.bool ok4)) g2 ⟨4, 0, 0, 0, v1, EntryD.zero, ⟨v2, v3, 0⟩, OpD.zero⟩ := ⟨Blk.setCells_other (Ne.symm hn12) [.slice A4 n4 c4, .bool ok4] 0 HN.out.blk⟩
    have N0 : NoteAt ((X7.setCell ⟨g1, 0, none⟩ (.slice A4 n4 c4)).setCell ⟨g1, 1, none⟩ (.bool ok4)) g0 NoteD.zero := ⟨Blk.setCells_other hn01 [.slice A4 n4 c4, .bool ok4] 0 HN0.out.blk⟩
    have hB : Below w.heap.size w ((X7.setCell ⟨g1, 0, none⟩ (.slice A4 n4 c4)).setCell ⟨g1, 1, none⟩ (.bool ok4)) := bel_sets HBW.out HGE.out.2.1 0 [.slice A4 n4 c4, .bool ok4]
    clear Hb1 HN HN0 HBW Hb7 a0 a1 fa0 fa1 c0 c1
    generalize (X7.setCell ⟨g1, 0, none⟩ (.slice A4 n4 c4)).setCell ⟨g1, 1, none⟩ (.bool ok4) = X8 at *
    have ⟨d14, hd14⟩ : ∃ v, X8.cell? ⟨g2, 14, none⟩ = some v := ⟨_, (N.blk.cell 14).trans rfl⟩
    have fd14 := N.blk.frozen 14
    have Hb1 := Lib.hid b1
    have HN := Lib.hid N
    have HN0 := Lib.hid N0
    have HBW := Lib.hid hB
    clear b1 N N0 hB
    go_upto_region 21 with fail
    have b1 : Blk (X8.setCell ⟨g2, 14, none⟩ (.int .i64 v4)) g1 #[.slice A4 n4 c4, .bool ok4] 99 := Blk.setCells_other hn12 [.int .i64 v4] 14 Hb1.out
    have N : NoteAt (X8.setCell ⟨g2, 14, none⟩ (.int .i64 v4)) g2 ⟨4, 0, 0, 0, v1, EntryD.zero, ⟨v2, v3, v4⟩, OpD.zero⟩ := ⟨HN.out.blk.setCells [.int .i64 v4] 14⟩
    have N0 : NoteAt (X8.setCell ⟨g2, 14, none⟩ (.int .i64 v4)) g0 NoteD.zero := ⟨Blk.setCells_other hn02 [.int .i64 v4] 14 HN0.out.blk⟩
    have hB : Below w.heap.size w (X8.setCell ⟨g2, 14, none⟩ (.int .i64 v4)) := bel_sets HBW.out HGE.out.2.2 14 [.int .i64 v4]
    clear Hb1 HN HN0 HBW hd14 fd14
    generalize X8.setCell ⟨g2, 14, none⟩ (.int .i64 v4) = X29 at *
    clear k9
    have k9 : X29.cell? ⟨g2, 0, none⟩ = some (.int .i64 4) := (N.blk.cell 0).trans rfl
    have RD : Hid (Read (gnote dnum dtxt) (some l) ⟨4, 0, 0, 0, v1, EntryD.zero, ⟨v2, v3, v4⟩, OpD.zero⟩ (stOf ok4 s4)) := rd0.bind (rd1.bind (rd2.bind (rd3.bind (rd4.bind (Read.ret _ _)))))
    have HU := Lib.hid (unp_doc H.out.isb RD.out)
    clear RD
    obtain ⟨n, hn⟩ : ∃ n : NoteD, n = ⟨4, 0, 0, 0, v1, EntryD.zero, ⟨v2, v3, v4⟩, OpD.zero⟩ := ⟨_, rfl⟩
    rw [← hn] at HU N
    clear hn
    have N2 := N
    have Hb1 := Lib.hid b1
    have HN := Lib.hid N
    have HN0 := Lib.hid N0
    have HBW := Lib.hid hB
    clear b1 N N0 hB
    go_wp2_with (((with_reducible refine wpList_load_note (op := ⟨_, Op.load 51 _, _, _, _, _⟩) rfl _ rfl _ _ ?_ N2 ?_); rfl))
    refine (rpack_any n _ ⟨rfl⟩ _).mono ?_
    rintro e w20 ⟨A7, c7, rfl, o7, b20⟩
    have b1 := Hb1.out.kp (S := fun _ => False) (Kp.of_below b20) (fun h => h)
    have N := HN.out.below b20
    have N0 := HN0.out.below b20
    have HBW := Lib.hid (bel_next HBW.out b20)
    clear Hb1 HN HN0 N2 b20
    have a0 : w20.cell? ⟨g1, 0, none⟩ = some (.slice A4 n4 c4) := (b1.cell 0).trans rfl
    have a1 : w20.cell? ⟨g1, 1, none⟩ = some (.bool ok4) := (b1.cell 1).trans rfl
    have hb0 := build0
    clear b1
    cases ok4 with
    | false =>
      have hu : Hid (unp l = none) := by show _ = _; rw [HU.out, if_neg]; rintro ⟨h, _⟩; simp [stOf] at h
      have hE : unpE l = 50 := by unfold unpE; rw [hu.out]; rfl
      have hU : unpN l = NoteD.zero := by unfold unpN; rw [hu.out]; rfl
      have HF := Lib.hid (note_fin (fn := Try.f28) (Q := fun e w' => e = .returned (.tuple #[.agg (unpN l).cells.toArray, .int .i64 (unpE l)]) ∧ Below w.heap.size w w') rfl N0 NoteD.zero 50 ⟨by rw [hE, hU], below_kp HBW.out (Kp.setCells (S := fun k => k = g0) _ rfl _ _ _ (Kp.refl _ _)) HBW.out.size (fun k hk => by have := HGE.out.1; omega)⟩)
      clear hE hU
      clear HU
      go_wp2_with (first | ((with_reducible refine wpList_build_run (op := ⟨_, Op.build 51 _, _, _, _, _⟩) rfl _ _ rfl _ ?_ _ (hb0 _) ?_); (focus (first | (go_simp; done) | (go_simp; rfl)))) | ((with_reducible refine wpList_store_note (op := ⟨_, Op.store 51 _ _, _, _, _, _⟩) rfl _ _ rfl _ _ NoteD.zero ?_ ?_ N0 ?_); rfl; rfl))
      exact HF.out _ (by rfl) (by rfl)
    | true =>
      by_cases hlt : 0 < n4
      · have hi : decide ((n4 : Int) > 0) = true := decide_eq_true (by omega)
        have hu : Hid (unp l = none) := by show _ = _; rw [HU.out, if_neg]; rintro ⟨h, _⟩; have := hn4.out; simp [stOf] at h; rw [h] at this; simp at this; omega
        have hE : unpE l = 50 := by unfold unpE; rw [hu.out]; rfl
        have hU : unpN l = NoteD.zero := by unfold unpN; rw [hu.out]; rfl
        have HF := Lib.hid (note_fin (fn := Try.f28) (Q := fun e w' => e = .returned (.tuple #[.agg (unpN l).cells.toArray, .int .i64 (unpE l)]) ∧ Below w.heap.size w w') rfl N0 NoteD.zero 50 ⟨by rw [hE, hU], below_kp HBW.out (Kp.setCells (S := fun k => k = g0) _ rfl _ _ _ (Kp.refl _ _)) HBW.out.size (fun k hk => by have := HGE.out.1; omega)⟩)
        clear hE hU
        have i3 : ¬ n4 = 0 := by omega
        clear HU
        go_wp2_with (first | ((with_reducible refine wpList_build_run (op := ⟨_, Op.build 51 _, _, _, _, _⟩) rfl _ _ rfl _ ?_ _ (hb0 _) ?_); (focus (first | (go_simp; done) | (go_simp; rfl)))) | ((with_reducible refine wpList_store_note (op := ⟨_, Op.store 51 _ _, _, _, _, _⟩) rfl _ _ rfl _ _ NoteD.zero ?_ ?_ N0 ?_); rfl; rfl))
        exact HF.out _ (by rfl) (by rfl)
      · have hz : s4 = [] := List.length_eq_zero_iff.1 (by rw [← hn4.out]; omega)
        obtain rfl : n4 = 0 := by omega
        cases hok : n.ok with
        | false =>
          have hu : Hid (unp l = none) := by show _ = _; rw [HU.out, if_neg]; rintro ⟨_, h, _⟩; rw [hok] at h; cases h
          have hE : unpE l = 50 := by unfold unpE; rw [hu.out]; rfl
          have hU : unpN l = NoteD.zero := by unfold unpN; rw [hu.out]; rfl
          have HF := Lib.hid (note_fin (fn := Try.f28) (Q := fun e w' => e = .returned (.tuple #[.agg (unpN l).cells.toArray, .int .i64 (unpE l)]) ∧ Below w.heap.size w w') rfl N0 NoteD.zero 50 ⟨by rw [hE, hU], below_kp HBW.out (Kp.setCells (S := fun k => k = g0) _ rfl _ _ _ (Kp.refl _ _)) HBW.out.size (fun k hk => by have := HGE.out.1; omega)⟩)
          clear hE hU
          have he0 : n.packE = 50 := by rw [NoteD.packE, hok]; rfl
          rw [he0]
          clear HU he0 hok hz hlt o7
          go_wp2_with (first | ((with_reducible refine wpList_build_run (op := ⟨_, Op.build 51 _, _, _, _, _⟩) rfl _ _ rfl _ ?_ _ (hb0 _) ?_); (focus (first | (go_simp; done) | (go_simp; rfl)))) | ((with_reducible refine wpList_store_note (op := ⟨_, Op.store 51 _ _, _, _, _, _⟩) rfl _ _ rfl _ _ NoteD.zero ?_ ?_ N0 ?_); rfl; rfl))
          exact HF.out _ (by rfl) (by rfl)
        | true =>
          have he0 : n.packE = 0 := by rw [NoteD.packE, hok]; rfl
          have hl : n.packL = n.enc := by rw [NoteD.packL, hok]; rfl
          have hpl := n.packL_len
          rw [hl] at o7 hpl
          rw [he0, hl]
          have r7 := Lib.hid (rd_of_own o7)
          have r8 := Lib.hid (HD.out.rd.below HBW.out)
          have hUU : Hid (unp l = if l = n.enc then some n else none) := by show _ = _; rw [HU.out]; simp [stOf, hz, hok]
          have HH : Hid (n.enc.length ≤ 9223372036854775807 ∧ l.length ≤ 9223372036854775807) := by have := H.out.len; show _ ∧ _; omega
          have HN := Lib.hid N
          have HN0 := Lib.hid N0
          clear HU he0 hl hpl o7 hok hz hlt N N0
          go_wp2_with fail
          rw [hm.out]
          refine (dsame_any A A7 c c7 l n.enc _ r8.out r7.out HH.out.2 HH.out.1).mono ?_
          rintro e w21 ⟨rfl, d21⟩
          have N0 := HN0.out.below (d21.below _)
          have N := HN.out.below (d21.below _)
          have B2 := Lib.hid (bel_next HBW.out (d21.below _))
          clear HN HN0 r7 r8 HH a0 a1 d21
          by_cases heq : l = n.enc
          · have hu : Hid (unp l = some n) := by show _ = _; rw [hUU.out, if_pos heq]
            have hE : unpE l = 0 := by unfold unpE; rw [hu.out]; rfl
            have hU : unpN l = n := by unfold unpN; rw [hu.out]; rfl
            have HF := Lib.hid (note_fin (fn := Try.f28) (Q := fun e w' => e = .returned (.tuple #[.agg (unpN l).cells.toArray, .int .i64 (unpE l)]) ∧ Below w.heap.size w w') rfl N0 n 0 ⟨by rw [hE, hU], below_kp B2.out (Kp.setCells (S := fun k => k = g0) _ rfl _ _ _ (Kp.refl _ _)) B2.out.size (fun k hk => by have := HGE.out.1; omega)⟩)
            clear hE hU
            rw [decide_eq_true heq]
            clear hUU heq
            go_wp2_with (first | ((with_reducible refine wpList_load_note (op := ⟨_, Op.load 51 _, _, _, _, _⟩) rfl _ rfl _ _ ?_ N ?_); rfl) | ((with_reducible refine wpList_store_note (op := ⟨_, Op.store 51 _ _, _, _, _, _⟩) rfl _ _ rfl _ _ n ?_ ?_ N0 ?_); rfl; rfl))
            exact HF.out _ (by rfl) (by rfl)
          · have hu : Hid (unp l = none) := by show _ = _; rw [hUU.out, if_neg heq]
            have hE : unpE l = 50 := by unfold unpE; rw [hu.out]; rfl
            have hU : unpN l = NoteD.zero := by unfold unpN; rw [hu.out]; rfl
            have HF := Lib.hid (note_fin (fn := Try.f28) (Q := fun e w' => e = .returned (.tuple #[.agg (unpN l).cells.toArray, .int .i64 (unpE l)]) ∧ Below w.heap.size w w') rfl N0 NoteD.zero 50 ⟨by rw [hE, hU], below_kp B2.out (Kp.setCells (S := fun k => k = g0) _ rfl _ _ _ (Kp.refl _ _)) B2.out.size (fun k hk => by have := HGE.out.1; omega)⟩)
            clear hE hU
            rw [decide_eq_false heq]
            clear hUU heq
            go_wp2_with (first | ((with_reducible refine wpList_build_run (op := ⟨_, Op.build 51 _, _, _, _, _⟩) rfl _ _ rfl _ ?_ _ (hb0 _) ?_); (focus (first | (go_simp; done) | (go_simp; rfl)))) | ((with_reducible refine wpList_store_note (op := ⟨_, Op.store 51 _ _, _, _, _, _⟩) rfl _ _ rfl _ _ NoteD.zero ?_ ?_ N0 ?_); rfl; rfl))
            exact HF.out _ (by rfl) (by rfl)
  by_cases h5 : v0 = 5
  · subst h5
    have a0 : X25.cell? ⟨g1, 0, none⟩ = some (.slice A0 n0 c0) := (b1.cell 0).trans rfl
    have a1 : X25.cell? ⟨g1, 1, none⟩ = some (.bool ok0) := (b1.cell 1).trans rfl
    have Hb1 := Lib.hid b1
    have HN := Lib.hid N
    have HN0 := Lib.hid N0
    have HBW := Lib.hid hB
    clear b1 N N0 hB
    go_wp2_with fail
    rw [hn0.out]
    refine (dnum_any w X25 HBW.out A0 c0 s0 ok0 HD0.out).mono ?_
    rintro e w5 ⟨v1, A1, s1, c1, ok1, rfl, _, hD, hbel, rd1⟩
    obtain ⟨n1, hn1⟩ : ∃ m, Hid (m = s1.length) := ⟨_, rfl⟩
    rw [← hn1.out, ← hn0.out]
    have HD1 := Lib.hid hD
    have b1 := Hb1.out.kp (S := fun _ => False) (Kp.of_below hbel) (fun h => h)
    have N := HN.out.below hbel
    have N0 := HN0.out.below hbel
    have hB := bel_next HBW.out hbel
    clear Hb1 HN HN0 HBW hbel hD a0 a1
    clear HD0
    have a0 : w5.cell? ⟨g1, 0, none⟩ = some (.slice A0 n0 c0) := (b1.cell 0).trans rfl
    have a1 : w5.cell? ⟨g1, 1, none⟩ = some (.bool ok0) := (b1.cell 1).trans rfl
    have fa0 := b1.frozen 0
    have fa1 := b1.frozen 1
    have ⟨d4, hd4⟩ : ∃ v, w5.cell? ⟨g2, 4, none⟩ = some v := ⟨_, (N.blk.cell 4).trans rfl⟩
    have fd4 := N.blk.frozen 4
    have Hb1 := Lib.hid b1
    have HN := Lib.hid N
    have HN0 := Lib.hid N0
    have HBW := Lib.hid hB
    clear b1 N N0 hB
    go_upto_region 16 with fail
    have b1 : Blk (((w5.setCell ⟨g2, 4, none⟩ (.int .i64 v1)).setCell ⟨g1, 0, none⟩ (.slice A1 n1 c1)).setCell ⟨g1, 1, none⟩ (.bool ok1)) g1 #[.slice A1 n1 c1, .bool ok1] 99 := (Blk.setCells_other hn12 [.int .i64 v1] 4 Hb1.out).setCells [.slice A1 n1 c1, .bool ok1] 0
    have N : NoteAt (((w5.setCell ⟨g2, 4, none⟩ (.int .i64 v1)).setCell ⟨g1, 0, none⟩ (.slice A1 n1 c1)).setCell ⟨g1, 1, none⟩ (.bool ok1)) g2 ⟨5, 0, 0, 0, v1, EntryD.zero, SeenD.zero, OpD.zero⟩ := ⟨Blk.setCells_other (Ne.symm hn12) [.slice A1 n1 c1, .bool ok1] 0 (HN.out.blk.setCells [.int .i64 v1] 4)⟩
    have N0 : NoteAt (((w5.setCell ⟨g2, 4, none⟩ (.int .i64 v1)).setCell ⟨g1, 0, none⟩ (.slice A1 n1 c1)).setCell ⟨g1, 1, none⟩ (.bool ok1)) g0 NoteD.zero := ⟨Blk.setCells_other hn01 [.slice A1 n1 c1, .bool ok1] 0 (Blk.setCells_other hn02 [.int .i64 v1] 4 HN0.out.blk)⟩
    have hB : Below w.heap.size w (((w5.setCell ⟨g2, 4, none⟩ (.int .i64 v1)).setCell ⟨g1, 0, none⟩ (.slice A1 n1 c1)).setCell ⟨g1, 1, none⟩ (.bool ok1)) := bel_sets (bel_sets HBW.out HGE.out.2.2 4 [.int .i64 v1]) HGE.out.2.1 0 [.slice A1 n1 c1, .bool ok1]
    clear Hb1 HN HN0 HBW a0 a1 fa0 fa1 hd4 fd4
    generalize ((w5.setCell ⟨g2, 4, none⟩ (.int .i64 v1)).setCell ⟨g1, 0, none⟩ (.slice A1 n1 c1)).setCell ⟨g1, 1, none⟩ (.bool ok1) = X26 at *
    have a0 : X26.cell? ⟨g1, 0, none⟩ = some (.slice A1 n1 c1) := (b1.cell 0).trans rfl
    have a1 : X26.cell? ⟨g1, 1, none⟩ = some (.bool ok1) := (b1.cell 1).trans rfl
    have Hb1 := Lib.hid b1
    have HN := Lib.hid N
    have HN0 := Lib.hid N0
    have HBW := Lib.hid hB
    clear b1 N N0 hB
    go_wp2_with fail
    rw [hn1.out]
    refine (dnum_any w X26 HBW.out A1 c1 s1 ok1 HD1.out).mono ?_
    rintro e w6 ⟨v2, A2, s2, c2, ok2, rfl, _, hD, hbel, rd2⟩
    obtain ⟨n2, hn2⟩ : ∃ m, Hid (m = s2.length) := ⟨_, rfl⟩
    rw [← hn2.out, ← hn1.out]
    have HD2 := Lib.hid hD
    have b1 := Hb1.out.kp (S := fun _ => False) (Kp.of_below hbel) (fun h => h)
    have N := HN.out.below hbel
    have N0 := HN0.out.below hbel
    have hB := bel_next HBW.out hbel
    clear Hb1 HN HN0 HBW hbel hD a0 a1
    clear HD1
    have a0 : w6.cell? ⟨g1, 0, none⟩ = some (.slice A1 n1 c1) := (b1.cell 0).trans rfl
    have a1 : w6.cell? ⟨g1, 1, none⟩ = some (.bool ok1) := (b1.cell 1).trans rfl
    have fa0 := b1.frozen 0
    have fa1 := b1.frozen 1
    have ⟨d12, hd12⟩ : ∃ v, w6.cell? ⟨g2, 12, none⟩ = some v := ⟨_, (N.blk.cell 12).trans rfl⟩
    have fd12 := N.blk.frozen 12
    have Hb1 := Lib.hid b1
    have HN := Lib.hid N
    have HN0 := Lib.hid N0
    have HBW := Lib.hid hB
    clear b1 N N0 hB
    go_upto_region 17 with fail
    have b1 : Blk (((w6.setCell ⟨g2, 12, none⟩ (.int .i64 v2)).setCell ⟨g1, 0, none⟩ (.slice A2 n2 c2)).setCell ⟨g1, 1, none⟩ (.bool ok2)) g1 #[.slice A2 n2 c2, .bool ok2] 99 := (Blk.setCells_other hn12 [.int .i64 v2] 12 Hb1.out).setCells [.slice A2 n2 c2, .bool ok2] 0
    have N : NoteAt (((w6.setCell ⟨g2, 12, none⟩ (.int .i64 v2)).setCell ⟨g1, 0, none⟩ (.slice A2 n2 c2)).setCell ⟨g1, 1, none⟩ (.bool ok2)) g2 ⟨5, 0, 0, 0, v1, EntryD.zero, ⟨v2, 0, 0⟩, OpD.zero⟩ := ⟨Blk.setCells_other (Ne.symm hn12) [.slice A2 n2 c2, .bool ok2] 0 (HN.out.blk.setCells [.int .i64 v2] 12)⟩
    have N0 : NoteAt (((w6.setCell ⟨g2, 12, none⟩ (.int .i64 v2)).setCell ⟨g1, 0, none⟩ (.slice A2 n2 c2)).setCell ⟨g1, 1, none⟩ (.bool ok2)) g0 NoteD.zero := ⟨Blk.setCells_other hn01 [.slice A2 n2 c2, .bool ok2] 0 (Blk.setCells_other hn02 [.int .i64 v2] 12 HN0.out.blk)⟩
    have hB : Below w.heap.size w (((w6.setCell ⟨g2, 12, none⟩ (.int .i64 v2)).setCell ⟨g1, 0, none⟩ (.slice A2 n2 c2)).setCell ⟨g1, 1, none⟩ (.bool ok2)) := bel_sets (bel_sets HBW.out HGE.out.2.2 12 [.int .i64 v2]) HGE.out.2.1 0 [.slice A2 n2 c2, .bool ok2]
    clear Hb1 HN HN0 HBW a0 a1 fa0 fa1 hd12 fd12
    generalize ((w6.setCell ⟨g2, 12, none⟩ (.int .i64 v2)).setCell ⟨g1, 0, none⟩ (.slice A2 n2 c2)).setCell ⟨g1, 1, none⟩ (.bool ok2) = X27 at *
    have a0 : X27.cell? ⟨g1, 0, none⟩ = some (.slice A2 n2 c2) := (b1.cell 0).trans rfl
    have a1 : X27.cell? ⟨g1, 1, none⟩ = some (.bool ok2) := (b1.cell 1).trans rfl
    have Hb1 := Lib.hid b1
    have HN := Lib.hid N
    have HN0 := Lib.hid N0
    have HBW := Lib.hid hB
    clear b1 N N0 hB
    go_wp2_with fail
    rw [hn2.out]
    refine (dnum_any w X27 HBW.out A2 c2 s2 ok2 HD2.out).mono ?_
    rintro e w7 ⟨v3, A3, s3, c3, ok3, rfl, _, hD, hbel, rd3⟩
    obtain ⟨n3, hn3⟩ : ∃ m, Hid (m = s3.length) := ⟨_, rfl⟩
    rw [← hn3.out, ← hn2.out]
    have HD3 := Lib.hid hD
    have b1 := Hb1.out.kp (S := fun _ => False) (Kp.of_below hbel) (fun h => h)
    have N := HN.out.below hbel
    have N0 := HN0.out.below hbel
    have hB := bel_next HBW.out hbel
    clear Hb1 HN HN0 HBW hbel hD a0 a1
    clear HD2
    have a0 : w7.cell? ⟨g1, 0, none⟩ = some (.slice A2 n2 c2) := (b1.cell 0).trans rfl
    have a1 : w7.cell? ⟨g1, 1, none⟩ = some (.bool ok2) := (b1.cell 1).trans rfl
    have fa0 := b1.frozen 0
    have fa1 := b1.frozen 1
    have ⟨d13, hd13⟩ : ∃ v, w7.cell? ⟨g2, 13, none⟩ = some v := ⟨_, (N.blk.cell 13).trans rfl⟩
    have fd13 := N.blk.frozen 13
    have Hb1 := Lib.hid b1
    have HN := Lib.hid N
    have HN0 := Lib.hid N0
    have HBW := Lib.hid hB
    clear b1 N N0 hB
    go_upto_region 18 with fail
    have b1 : Blk (((w7.setCell ⟨g2, 13, none⟩ (.int .i64 v3)).setCell ⟨g1, 0, none⟩ (.slice A3 n3 c3)).setCell ⟨g1, 1, none⟩ (.bool ok3)) g1 #[.slice A3 n3 c3, .bool ok3] 99 := (Blk.setCells_other hn12 [.int .i64 v3] 13 Hb1.out).setCells [.slice A3 n3 c3, .bool ok3] 0
    have N : NoteAt (((w7.setCell ⟨g2, 13, none⟩ (.int .i64 v3)).setCell ⟨g1, 0, none⟩ (.slice A3 n3 c3)).setCell ⟨g1, 1, none⟩ (.bool ok3)) g2 ⟨5, 0, 0, 0, v1, EntryD.zero, ⟨v2, v3, 0⟩, OpD.zero⟩ := ⟨Blk.setCells_other (Ne.symm hn12) [.slice A3 n3 c3, .bool ok3] 0 (HN.out.blk.setCells [.int .i64 v3] 13)⟩
    have N0 : NoteAt (((w7.setCell ⟨g2, 13, none⟩ (.int .i64 v3)).setCell ⟨g1, 0, none⟩ (.slice A3 n3 c3)).setCell ⟨g1, 1, none⟩ (.bool ok3)) g0 NoteD.zero := ⟨Blk.setCells_other hn01 [.slice A3 n3 c3, .bool ok3] 0 (Blk.setCells_other hn02 [.int .i64 v3] 13 HN0.out.blk)⟩
    have hB : Below w.heap.size w (((w7.setCell ⟨g2, 13, none⟩ (.int .i64 v3)).setCell ⟨g1, 0, none⟩ (.slice A3 n3 c3)).setCell ⟨g1, 1, none⟩ (.bool ok3)) := bel_sets (bel_sets HBW.out HGE.out.2.2 13 [.int .i64 v3]) HGE.out.2.1 0 [.slice A3 n3 c3, .bool ok3]
    clear Hb1 HN HN0 HBW a0 a1 fa0 fa1 hd13 fd13
    generalize ((w7.setCell ⟨g2, 13, none⟩ (.int .i64 v3)).setCell ⟨g1, 0, none⟩ (.slice A3 n3 c3)).setCell ⟨g1, 1, none⟩ (.bool ok3) = X28 at *
    have a0 : X28.cell? ⟨g1, 0, none⟩ = some (.slice A3 n3 c3) := (b1.cell 0).trans rfl
    have a1 : X28.cell? ⟨g1, 1, none⟩ = some (.bool ok3) := (b1.cell 1).trans rfl
    have Hb1 := Lib.hid b1
    have HN := Lib.hid N
    have HN0 := Lib.hid N0
    have HBW := Lib.hid hB
    clear b1 N N0 hB
    go_wp2_with fail
    rw [hn3.out]
    refine (dnum_any w X28 HBW.out A3 c3 s3 ok3 HD3.out).mono ?_
    rintro e w8 ⟨v4, A4, s4, c4, ok4, rfl, _, hD, hbel, rd4⟩
    obtain ⟨n4, hn4⟩ : ∃ m, Hid (m = s4.length) := ⟨_, rfl⟩
    rw [← hn4.out, ← hn3.out]
    have HD4 := Lib.hid hD
    have b1 := Hb1.out.kp (S := fun _ => False) (Kp.of_below hbel) (fun h => h)
    have N := HN.out.below hbel
    have N0 := HN0.out.below hbel
    have hB := bel_next HBW.out hbel
    clear Hb1 HN HN0 HBW hbel hD a0 a1
    clear HD3
    have a0 : w8.cell? ⟨g1, 0, none⟩ = some (.slice A3 n3 c3) := (b1.cell 0).trans rfl
    have a1 : w8.cell? ⟨g1, 1, none⟩ = some (.bool ok3) := (b1.cell 1).trans rfl
    have fa0 := b1.frozen 0
    have fa1 := b1.frozen 1
    have ⟨d14, hd14⟩ : ∃ v, w8.cell? ⟨g2, 14, none⟩ = some v := ⟨_, (N.blk.cell 14).trans rfl⟩
    have fd14 := N.blk.frozen 14
    have b1 := b1.alloc (.cells #[.slice A4 n4 c4, .bool ok4] 99)
    have N := N.below (w' := w8.alloc (.cells #[.slice A4 n4 c4, .bool ok4] 99)) (bel_al (Below.refl _ _) _)
    have N0 := N0.below (w' := w8.alloc (.cells #[.slice A4 n4 c4, .bool ok4] 99)) (bel_al (Below.refl _ _) _)
    have hB := bel_next hB (bel_al (Below.refl _ _) (.cells #[.slice A4 n4 c4, .bool ok4] 99))
    have b7 := Blk.new w8 #[.slice A4 n4 c4, .bool ok4] 99
    clear a0 a1 fa0 fa1 hd14 fd14
    have Hb7 := Lib.hid b7
    clear b7
    have Hb1 := Lib.hid b1
    have HN := Lib.hid N
    have HN0 := Lib.hid N0
    have HBW := Lib.hid hB
    clear b1 N N0 hB
    go_upto_region 19 with fail
    generalize w8.alloc (.cells #[.slice A4 n4 c4, .bool ok4] 99) = X7 at *
    generalize w8.heap.size = g7 at *
    have b1 := Hb1.out
    have N := HN.out
    have N0 := HN0.out
    have hB := HBW.out
    clear Hb1 HN HN0 HBW
    have a0 : X7.cell? ⟨g1, 0, none⟩ = some (.slice A3 n3 c3) := (b1.cell 0).trans rfl
    have a1 : X7.cell? ⟨g1, 1, none⟩ = some (.bool ok3) := (b1.cell 1).trans rfl
    have fa0 := b1.frozen 0
    have fa1 := b1.frozen 1
    have c0 : X7.cell? ⟨g7, 0, none⟩ = some (.slice A4 n4 c4) := (Hb7.out.cell 0).trans rfl
    have c1 : X7.cell? ⟨g7, 1, none⟩ = some (.bool ok4) := (Hb7.out.cell 1).trans rfl
    have Hb1 := Lib.hid b1
    have HN := Lib.hid N
    have HN0 := Lib.hid N0
    have HBW := Lib.hid hB
    clear b1 N N0 hB
    go_upto_region 20 with fail
    have b1 : Blk ((X7.setCell ⟨g1, 0, none⟩ (.slice A4 n4 c4)).setCell ⟨g1, 1, none⟩ (.bool ok4)) g1 #[.slice A4 n4 c4, .bool ok4] 99 := Hb1.out.setCells [.slice A4 n4 c4, .bool ok4] 0
    have N : NoteAt ((X7.setCell ⟨g1, 0, none⟩ (.slice A4 n4 c4)).setCell ⟨g1, 1, none⟩ (.bool ok4)) g2 ⟨5, 0, 0, 0, v1, EntryD.zero, ⟨v2, v3, 0⟩, OpD.zero⟩ := ⟨Blk.setCells_other (Ne.symm hn12) [.slice A4 n4 c4, .bool ok4] 0 HN.out.blk⟩
    have N0 : NoteAt ((X7.setCell ⟨g1, 0, none⟩ (.slice A4 n4 c4)).setCell ⟨g1, 1, none⟩ (.bool ok4)) g0 NoteD.zero := ⟨Blk.setCells_other hn01 [.slice A4 n4 c4, .bool ok4] 0 HN0.out.blk⟩
    have hB : Below w.heap.size w ((X7.setCell ⟨g1, 0, none⟩ (.slice A4 n4 c4)).setCell ⟨g1, 1, none⟩ (.bool ok4)) := bel_sets HBW.out HGE.out.2.1 0 [.slice A4 n4 c4, .bool ok4]
    clear Hb1 HN HN0 HBW Hb7 a0 a1 fa0 fa1 c0 c1
    generalize (X7.setCell ⟨g1, 0, none⟩ (.slice A4 n4 c4)).setCell ⟨g1, 1, none⟩ (.bool ok4) = X8 at *
    have ⟨d14, hd14⟩ : ∃ v, X8.cell? ⟨g2, 14, none⟩ = some v := ⟨_, (N.blk.cell 14).trans rfl⟩
    have fd14 := N.blk.frozen 14
    have Hb1 := Lib.hid b1
    have HN := Lib.hid N
    have HN0 := Lib.hid N0
    have HBW := Lib.hid hB
    clear b1 N N0 hB
    go_upto_region 21 with fail
    have b1 : Blk (X8.setCell ⟨g2, 14, none⟩ (.int .i64 v4)) g1 #[.slice A4 n4 c4, .bool ok4] 99 := Blk.setCells_other hn12 [.int .i64 v4] 14 Hb1.out
    have N : NoteAt (X8.setCell ⟨g2, 14, none⟩ (.int .i64 v4)) g2 ⟨5, 0, 0, 0, v1, EntryD.zero, ⟨v2, v3, v4⟩, OpD.zero⟩ := ⟨HN.out.blk.setCells [.int .i64 v4] 14⟩
    have N0 : NoteAt (X8.setCell ⟨g2, 14, none⟩ (.int .i64 v4)) g0 NoteD.zero := ⟨Blk.setCells_other hn02 [.int .i64 v4] 14 HN0.out.blk⟩
    have hB : Below w.heap.size w (X8.setCell ⟨g2, 14, none⟩ (.int .i64 v4)) := bel_sets HBW.out HGE.out.2.2 14 [.int .i64 v4]
    clear Hb1 HN HN0 HBW hd14 fd14
    generalize X8.setCell ⟨g2, 14, none⟩ (.int .i64 v4) = X29 at *
    clear k9
    have k9 : X29.cell? ⟨g2, 0, none⟩ = some (.int .i64 5) := (N.blk.cell 0).trans rfl
    go_upto_region 22 with fail
    clear k9
    have a0 : X29.cell? ⟨g1, 0, none⟩ = some (.slice A4 n4 c4) := (b1.cell 0).trans rfl
    have a1 : X29.cell? ⟨g1, 1, none⟩ = some (.bool ok4) := (b1.cell 1).trans rfl
    have Hb1 := Lib.hid b1
    have HN := Lib.hid N
    have HN0 := Lib.hid N0
    have HBW := Lib.hid hB
    clear b1 N N0 hB
    go_wp2_with fail
    rw [hn4.out]
    refine (dop_any w X29 HBW.out A4 c4 s4 ok4 HD4.out).mono ?_
    rintro e w9 ⟨⟨oa, ob, oc, od, oe, of, og⟩, A5, s5, c5, ok5, he, _, hD, hbel, rd5⟩
    have he : e = .returned (.tuple #[.agg #[.int .i64 oa, .int .i64 ob, .string oc, .int .i64 od, .string oe, .int .i64 of, .string og], .agg #[.slice A5 s5.length c5, .bool ok5]]) := he
    subst he
    obtain ⟨n5, hn5⟩ : ∃ m, Hid (m = s5.length) := ⟨_, rfl⟩
    rw [← hn5.out, ← hn4.out]
    have HD5 := Lib.hid hD
    have b1 := Hb1.out.kp (S := fun _ => False) (Kp.of_below hbel) (fun h => h)
    have N := HN.out.below hbel
    have N0 := HN0.out.below hbel
    have hB := bel_next HBW.out hbel
    clear Hb1 HN HN0 HBW hbel hD a0 a1
    clear HD4
    have a0 : w9.cell? ⟨g1, 0, none⟩ = some (.slice A4 n4 c4) := (b1.cell 0).trans rfl
    have a1 : w9.cell? ⟨g1, 1, none⟩ = some (.bool ok4) := (b1.cell 1).trans rfl
    have fa0 := b1.frozen 0
    have fa1 := b1.frozen 1
    have ⟨d15, hd15⟩ : ∃ v, w9.cell? ⟨g2, 15, none⟩ = some v := ⟨_, (N.blk.cell 15).trans rfl⟩
    have fd15 := N.blk.frozen 15
    have ⟨d16, hd16⟩ : ∃ v, w9.cell? ⟨g2, 16, none⟩ = some v := ⟨_, (N.blk.cell 16).trans rfl⟩
    have fd16 := N.blk.frozen 16
    have ⟨d17, hd17⟩ : ∃ v, w9.cell? ⟨g2, 17, none⟩ = some v := ⟨_, (N.blk.cell 17).trans rfl⟩
    have fd17 := N.blk.frozen 17
    have ⟨d18, hd18⟩ : ∃ v, w9.cell? ⟨g2, 18, none⟩ = some v := ⟨_, (N.blk.cell 18).trans rfl⟩
    have fd18 := N.blk.frozen 18
    have ⟨d19, hd19⟩ : ∃ v, w9.cell? ⟨g2, 19, none⟩ = some v := ⟨_, (N.blk.cell 19).trans rfl⟩
    have fd19 := N.blk.frozen 19
    have ⟨d20, hd20⟩ : ∃ v, w9.cell? ⟨g2, 20, none⟩ = some v := ⟨_, (N.blk.cell 20).trans rfl⟩
    have fd20 := N.blk.frozen 20
    have ⟨d21, hd21⟩ : ∃ v, w9.cell? ⟨g2, 21, none⟩ = some v := ⟨_, (N.blk.cell 21).trans rfl⟩
    have fd21 := N.blk.frozen 21
    have Hb1 := Lib.hid b1
    have HN := Lib.hid N
    have HN0 := Lib.hid N0
    have HBW := Lib.hid hB
    clear b1 N N0 hB
    go_upto_region 23 with fail
    have b1 : Blk (((((((((w9.setCell ⟨g2, 15, none⟩ (.int .i64 oa)).setCell ⟨g2, 16, none⟩ (.int .i64 ob)).setCell ⟨g2, 17, none⟩ (.string oc)).setCell ⟨g2, 18, none⟩ (.int .i64 od)).setCell ⟨g2, 19, none⟩ (.string oe)).setCell ⟨g2, 20, none⟩ (.int .i64 of)).setCell ⟨g2, 21, none⟩ (.string og)).setCell ⟨g1, 0, none⟩ (.slice A5 n5 c5)).setCell ⟨g1, 1, none⟩ (.bool ok5)) g1 #[.slice A5 n5 c5, .bool ok5] 99 := (Blk.setCells_other hn12 [.int .i64 oa, .int .i64 ob, .string oc, .int .i64 od, .string oe, .int .i64 of, .string og] 15 Hb1.out).setCells [.slice A5 n5 c5, .bool ok5] 0
    have N : NoteAt (((((((((w9.setCell ⟨g2, 15, none⟩ (.int .i64 oa)).setCell ⟨g2, 16, none⟩ (.int .i64 ob)).setCell ⟨g2, 17, none⟩ (.string oc)).setCell ⟨g2, 18, none⟩ (.int .i64 od)).setCell ⟨g2, 19, none⟩ (.string oe)).setCell ⟨g2, 20, none⟩ (.int .i64 of)).setCell ⟨g2, 21, none⟩ (.string og)).setCell ⟨g1, 0, none⟩ (.slice A5 n5 c5)).setCell ⟨g1, 1, none⟩ (.bool ok5)) g2 ⟨5, 0, 0, 0, v1, EntryD.zero, ⟨v2, v3, v4⟩, ⟨oa, ob, oc, od, oe, of, og⟩⟩ := ⟨Blk.setCells_other (Ne.symm hn12) [.slice A5 n5 c5, .bool ok5] 0 (HN.out.blk.setCells [.int .i64 oa, .int .i64 ob, .string oc, .int .i64 od, .string oe, .int .i64 of, .string og] 15)⟩
    have N0 : NoteAt (((((((((w9.setCell ⟨g2, 15, none⟩ (.int .i64 oa)).setCell ⟨g2, 16, none⟩ (.int .i64 ob)).setCell ⟨g2, 17, none⟩ (.string oc)).setCell ⟨g2, 18, none⟩ (.int .i64 od)).setCell ⟨g2, 19, none⟩ (.string oe)).setCell ⟨g2, 20, none⟩ (.int .i64 of)).setCell ⟨g2, 21, none⟩ (.string og)).setCell ⟨g1, 0, none⟩ (.slice A5 n5 c5)).setCell ⟨g1, 1, none⟩ (.bool ok5)) g0 NoteD.zero := ⟨Blk.setCells_other hn01 [.slice A5 n5 c5, .bool ok5] 0 (Blk.setCells_other hn02 [.int .i64 oa, .int .i64 ob, .string oc, .int .i64 od, .string oe, .int .i64 of, .string og] 15 HN0.out.blk)⟩
    have hB : Below w.heap.size w (((((((((w9.setCell ⟨g2, 15, none⟩ (.int .i64 oa)).setCell ⟨g2, 16, none⟩ (.int .i64 ob)).setCell ⟨g2, 17, none⟩ (.string oc)).setCell ⟨g2, 18, none⟩ (.int .i64 od)).setCell ⟨g2, 19, none⟩ (.string oe)).setCell ⟨g2, 20, none⟩ (.int .i64 of)).setCell ⟨g2, 21, none⟩ (.string og)).setCell ⟨g1, 0, none⟩ (.slice A5 n5 c5)).setCell ⟨g1, 1, none⟩ (.bool ok5)) := bel_sets (bel_sets HBW.out HGE.out.2.2 15 [.int .i64 oa, .int .i64 ob, .string oc, .int .i64 od, .string oe, .int .i64 of, .string og]) HGE.out.2.1 0 [.slice A5 n5 c5, .bool ok5]
    clear Hb1 HN HN0 HBW a0 a1 fa0 fa1 hd15 fd15 hd16 fd16 hd17 fd17 hd18 fd18 hd19 fd19 hd20 fd20 hd21 fd21
    generalize ((((((((w9.setCell ⟨g2, 15, none⟩ (.int .i64 oa)).setCell ⟨g2, 16, none⟩ (.int .i64 ob)).setCell ⟨g2, 17, none⟩ (.string oc)).setCell ⟨g2, 18, none⟩ (.int .i64 od)).setCell ⟨g2, 19, none⟩ (.string oe)).setCell ⟨g2, 20, none⟩ (.int .i64 of)).setCell ⟨g2, 21, none⟩ (.string og)).setCell ⟨g1, 0, none⟩ (.slice A5 n5 c5)).setCell ⟨g1, 1, none⟩ (.bool ok5) = X30 at *
    have RD : Hid (Read (gnote dnum dtxt) (some l) ⟨5, 0, 0, 0, v1, EntryD.zero, ⟨v2, v3, v4⟩, ⟨oa, ob, oc, od, oe, of, og⟩⟩ (stOf ok5 s5)) := rd0.bind (rd1.bind (rd2.bind (rd3.bind (rd4.bind (rd5.bind (Read.ret _ _))))))
    have HU := Lib.hid (unp_doc H.out.isb RD.out)
    clear RD
    obtain ⟨n, hn⟩ : ∃ n : NoteD, n = ⟨5, 0, 0, 0, v1, EntryD.zero, ⟨v2, v3, v4⟩, ⟨oa, ob, oc, od, oe, of, og⟩⟩ := ⟨_, rfl⟩
    rw [← hn] at HU N
    clear hn
    have N2 := N
    have Hb1 := Lib.hid b1
    have HN := Lib.hid N
    have HN0 := Lib.hid N0
    have HBW := Lib.hid hB
    clear b1 N N0 hB
    go_wp2_with (((with_reducible refine wpList_load_note (op := ⟨_, Op.load 51 _, _, _, _, _⟩) rfl _ rfl _ _ ?_ N2 ?_); rfl))
    refine (rpack_any n _ ⟨rfl⟩ _).mono ?_
    rintro e w20 ⟨A7, c7, rfl, o7, b20⟩
    have b1 := Hb1.out.kp (S := fun _ => False) (Kp.of_below b20) (fun h => h)
    have N := HN.out.below b20
    have N0 := HN0.out.below b20
    have HBW := Lib.hid (bel_next HBW.out b20)
    clear Hb1 HN HN0 N2 b20
    have a0 : w20.cell? ⟨g1, 0, none⟩ = some (.slice A5 n5 c5) := (b1.cell 0).trans rfl
    have a1 : w20.cell? ⟨g1, 1, none⟩ = some (.bool ok5) := (b1.cell 1).trans rfl
    have hb0 := build0
    clear b1
    cases ok5 with
    | false =>
      have hu : Hid (unp l = none) := by show _ = _; rw [HU.out, if_neg]; rintro ⟨h, _⟩; simp [stOf] at h
      have hE : unpE l = 50 := by unfold unpE; rw [hu.out]; rfl
      have hU : unpN l = NoteD.zero := by unfold unpN; rw [hu.out]; rfl
      have HF := Lib.hid (note_fin (fn := Try.f28) (Q := fun e w' => e = .returned (.tuple #[.agg (unpN l).cells.toArray, .int .i64 (unpE l)]) ∧ Below w.heap.size w w') rfl N0 NoteD.zero 50 ⟨by rw [hE, hU], below_kp HBW.out (Kp.setCells (S := fun k => k = g0) _ rfl _ _ _ (Kp.refl _ _)) HBW.out.size (fun k hk => by have := HGE.out.1; omega)⟩)
      clear hE hU
      clear HU
      go_wp2_with (first | ((with_reducible refine wpList_build_run (op := ⟨_, Op.build 51 _, _, _, _, _⟩) rfl _ _ rfl _ ?_ _ (hb0 _) ?_); (focus (first | (go_simp; done) | (go_simp; rfl)))) | ((with_reducible refine wpList_store_note (op := ⟨_, Op.store 51 _ _, _, _, _, _⟩) rfl _ _ rfl _ _ NoteD.zero ?_ ?_ N0 ?_); rfl; rfl))
      exact HF.out _ (by rfl) (by rfl)
    | true =>
      by_cases hlt : 0 < n5
      · have hi : decide ((n5 : Int) > 0) = true := decide_eq_true (by omega)
        have hu : Hid (unp l = none) := by show _ = _; rw [HU.out, if_neg]; rintro ⟨h, _⟩; have := hn5.out; simp [stOf] at h; rw [h] at this; simp at this; omega
        have hE : unpE l = 50 := by unfold unpE; rw [hu.out]; rfl
        have hU : unpN l = NoteD.zero := by unfold unpN; rw [hu.out]; rfl
        have HF := Lib.hid (note_fin (fn := Try.f28) (Q := fun e w' => e = .returned (.tuple #[.agg (unpN l).cells.toArray, .int .i64 (unpE l)]) ∧ Below w.heap.size w w') rfl N0 NoteD.zero 50 ⟨by rw [hE, hU], below_kp HBW.out (Kp.setCells (S := fun k => k = g0) _ rfl _ _ _ (Kp.refl _ _)) HBW.out.size (fun k hk => by have := HGE.out.1; omega)⟩)
        clear hE hU
        have i3 : ¬ n5 = 0 := by omega
        clear HU
        go_wp2_with (first | ((with_reducible refine wpList_build_run (op := ⟨_, Op.build 51 _, _, _, _, _⟩) rfl _ _ rfl _ ?_ _ (hb0 _) ?_); (focus (first | (go_simp; done) | (go_simp; rfl)))) | ((with_reducible refine wpList_store_note (op := ⟨_, Op.store 51 _ _, _, _, _, _⟩) rfl _ _ rfl _ _ NoteD.zero ?_ ?_ N0 ?_); rfl; rfl))
        exact HF.out _ (by rfl) (by rfl)
      · have hz : s5 = [] := List.length_eq_zero_iff.1 (by rw [← hn5.out]; omega)
        obtain rfl : n5 = 0 := by omega
        cases hok : n.ok with
        | false =>
          have hu : Hid (unp l = none) := by show _ = _; rw [HU.out, if_neg]; rintro ⟨_, h, _⟩; rw [hok] at h; cases h
          have hE : unpE l = 50 := by unfold unpE; rw [hu.out]; rfl
          have hU : unpN l = NoteD.zero := by unfold unpN; rw [hu.out]; rfl
          have HF := Lib.hid (note_fin (fn := Try.f28) (Q := fun e w' => e = .returned (.tuple #[.agg (unpN l).cells.toArray, .int .i64 (unpE l)]) ∧ Below w.heap.size w w') rfl N0 NoteD.zero 50 ⟨by rw [hE, hU], below_kp HBW.out (Kp.setCells (S := fun k => k = g0) _ rfl _ _ _ (Kp.refl _ _)) HBW.out.size (fun k hk => by have := HGE.out.1; omega)⟩)
          clear hE hU
          have he0 : n.packE = 50 := by rw [NoteD.packE, hok]; rfl
          rw [he0]
          clear HU he0 hok hz hlt o7
          go_wp2_with (first | ((with_reducible refine wpList_build_run (op := ⟨_, Op.build 51 _, _, _, _, _⟩) rfl _ _ rfl _ ?_ _ (hb0 _) ?_); (focus (first | (go_simp; done) | (go_simp; rfl)))) | ((with_reducible refine wpList_store_note (op := ⟨_, Op.store 51 _ _, _, _, _, _⟩) rfl _ _ rfl _ _ NoteD.zero ?_ ?_ N0 ?_); rfl; rfl))
          exact HF.out _ (by rfl) (by rfl)
        | true =>
          have he0 : n.packE = 0 := by rw [NoteD.packE, hok]; rfl
          have hl : n.packL = n.enc := by rw [NoteD.packL, hok]; rfl
          have hpl := n.packL_len
          rw [hl] at o7 hpl
          rw [he0, hl]
          have r7 := Lib.hid (rd_of_own o7)
          have r8 := Lib.hid (HD.out.rd.below HBW.out)
          have hUU : Hid (unp l = if l = n.enc then some n else none) := by show _ = _; rw [HU.out]; simp [stOf, hz, hok]
          have HH : Hid (n.enc.length ≤ 9223372036854775807 ∧ l.length ≤ 9223372036854775807) := by have := H.out.len; show _ ∧ _; omega
          have HN := Lib.hid N
          have HN0 := Lib.hid N0
          clear HU he0 hl hpl o7 hok hz hlt N N0
          go_wp2_with fail
          rw [hm.out]
          refine (dsame_any A A7 c c7 l n.enc _ r8.out r7.out HH.out.2 HH.out.1).mono ?_
          rintro e w21 ⟨rfl, d21⟩
          have N0 := HN0.out.below (d21.below _)
          have N := HN.out.below (d21.below _)
          have B2 := Lib.hid (bel_next HBW.out (d21.below _))
          clear HN HN0 r7 r8 HH a0 a1 d21
          by_cases heq : l = n.enc
          · have hu : Hid (unp l = some n) := by show _ = _; rw [hUU.out, if_pos heq]
            have hE : unpE l = 0 := by unfold unpE; rw [hu.out]; rfl
            have hU : unpN l = n := by unfold unpN; rw [hu.out]; rfl
            have HF := Lib.hid (note_fin (fn := Try.f28) (Q := fun e w' => e = .returned (.tuple #[.agg (unpN l).cells.toArray, .int .i64 (unpE l)]) ∧ Below w.heap.size w w') rfl N0 n 0 ⟨by rw [hE, hU], below_kp B2.out (Kp.setCells (S := fun k => k = g0) _ rfl _ _ _ (Kp.refl _ _)) B2.out.size (fun k hk => by have := HGE.out.1; omega)⟩)
            clear hE hU
            rw [decide_eq_true heq]
            clear hUU heq
            go_wp2_with (first | ((with_reducible refine wpList_load_note (op := ⟨_, Op.load 51 _, _, _, _, _⟩) rfl _ rfl _ _ ?_ N ?_); rfl) | ((with_reducible refine wpList_store_note (op := ⟨_, Op.store 51 _ _, _, _, _, _⟩) rfl _ _ rfl _ _ n ?_ ?_ N0 ?_); rfl; rfl))
            exact HF.out _ (by rfl) (by rfl)
          · have hu : Hid (unp l = none) := by show _ = _; rw [hUU.out, if_neg heq]
            have hE : unpE l = 50 := by unfold unpE; rw [hu.out]; rfl
            have hU : unpN l = NoteD.zero := by unfold unpN; rw [hu.out]; rfl
            have HF := Lib.hid (note_fin (fn := Try.f28) (Q := fun e w' => e = .returned (.tuple #[.agg (unpN l).cells.toArray, .int .i64 (unpE l)]) ∧ Below w.heap.size w w') rfl N0 NoteD.zero 50 ⟨by rw [hE, hU], below_kp B2.out (Kp.setCells (S := fun k => k = g0) _ rfl _ _ _ (Kp.refl _ _)) B2.out.size (fun k hk => by have := HGE.out.1; omega)⟩)
            clear hE hU
            rw [decide_eq_false heq]
            clear hUU heq
            go_wp2_with (first | ((with_reducible refine wpList_build_run (op := ⟨_, Op.build 51 _, _, _, _, _⟩) rfl _ _ rfl _ ?_ _ (hb0 _) ?_); (focus (first | (go_simp; done) | (go_simp; rfl)))) | ((with_reducible refine wpList_store_note (op := ⟨_, Op.store 51 _ _, _, _, _, _⟩) rfl _ _ rfl _ _ NoteD.zero ?_ ?_ N0 ?_); rfl; rfl))
            exact HF.out _ (by rfl) (by rfl)
  have e1 : (v0 == 1) = false := by simp [h1]
  have e2 : (v0 == 2) = false := by simp [h2]
  have e3 : (v0 == 3) = false := by simp [h3]
  have e4 : (v0 == 4) = false := by simp [h4]
  have e5 : (v0 == 5) = false := by simp [h5]
  have HK6 : Hid (Read (gnoteK dnum dtxt v0) (stOf ok0 s0) ⟨v0, 0, 0, 0, 0, EntryD.zero, SeenD.zero, OpD.zero⟩ (stOf ok0 s0)) := by unfold gnoteK; show Read _ _ _ _; rw [if_neg h1, if_neg h2, if_neg h3, if_neg (by omega)]; exact Read.ret _ _
  have RD : Hid (Read (gnote dnum dtxt) (some l) ⟨v0, 0, 0, 0, 0, EntryD.zero, SeenD.zero, OpD.zero⟩ (stOf ok0 s0)) := rd0.bind (f := gnoteK dnum dtxt) HK6.out
  have HU := Lib.hid (unp_doc H.out.isb RD.out)
  clear RD
  obtain ⟨n, hn⟩ : ∃ n : NoteD, n = ⟨v0, 0, 0, 0, 0, EntryD.zero, SeenD.zero, OpD.zero⟩ := ⟨_, rfl⟩
  rw [← hn] at HU N
  clear hn
  have N2 := N
  have Hb1 := Lib.hid b1
  have HN := Lib.hid N
  have HN0 := Lib.hid N0
  have HBW := Lib.hid hB
  clear b1 N N0 hB
  go_wp2_with (((with_reducible refine wpList_load_note (op := ⟨_, Op.load 51 _, _, _, _, _⟩) rfl _ rfl _ _ ?_ N2 ?_); rfl))
  refine (rpack_any n _ ⟨rfl⟩ _).mono ?_
  rintro e w20 ⟨A7, c7, rfl, o7, b20⟩
  have b1 := Hb1.out.kp (S := fun _ => False) (Kp.of_below b20) (fun h => h)
  have N := HN.out.below b20
  have N0 := HN0.out.below b20
  have HBW := Lib.hid (bel_next HBW.out b20)
  clear Hb1 HN HN0 N2 b20
  have a0 : w20.cell? ⟨g1, 0, none⟩ = some (.slice A0 n0 c0) := (b1.cell 0).trans rfl
  have a1 : w20.cell? ⟨g1, 1, none⟩ = some (.bool ok0) := (b1.cell 1).trans rfl
  have hb0 := build0
  clear b1
  cases ok0 with
  | false =>
    have hu : Hid (unp l = none) := by show _ = _; rw [HU.out, if_neg]; rintro ⟨h, _⟩; simp [stOf] at h
    have hE : unpE l = 50 := by unfold unpE; rw [hu.out]; rfl
    have hU : unpN l = NoteD.zero := by unfold unpN; rw [hu.out]; rfl
    have HF := Lib.hid (note_fin (fn := Try.f28) (Q := fun e w' => e = .returned (.tuple #[.agg (unpN l).cells.toArray, .int .i64 (unpE l)]) ∧ Below w.heap.size w w') rfl N0 NoteD.zero 50 ⟨by rw [hE, hU], below_kp HBW.out (Kp.setCells (S := fun k => k = g0) _ rfl _ _ _ (Kp.refl _ _)) HBW.out.size (fun k hk => by have := HGE.out.1; omega)⟩)
    clear hE hU
    clear HU
    go_wp2_with (first | ((with_reducible refine wpList_build_run (op := ⟨_, Op.build 51 _, _, _, _, _⟩) rfl _ _ rfl _ ?_ _ (hb0 _) ?_); (focus (first | (go_simp; done) | (go_simp; rfl)))) | ((with_reducible refine wpList_store_note (op := ⟨_, Op.store 51 _ _, _, _, _, _⟩) rfl _ _ rfl _ _ NoteD.zero ?_ ?_ N0 ?_); rfl; rfl))
    exact HF.out _ (by rfl) (by rfl)
  | true =>
    by_cases hlt : 0 < n0
    · have hi : decide ((n0 : Int) > 0) = true := decide_eq_true (by omega)
      have hu : Hid (unp l = none) := by show _ = _; rw [HU.out, if_neg]; rintro ⟨h, _⟩; have := hn0.out; simp [stOf] at h; rw [h] at this; simp at this; omega
      have hE : unpE l = 50 := by unfold unpE; rw [hu.out]; rfl
      have hU : unpN l = NoteD.zero := by unfold unpN; rw [hu.out]; rfl
      have HF := Lib.hid (note_fin (fn := Try.f28) (Q := fun e w' => e = .returned (.tuple #[.agg (unpN l).cells.toArray, .int .i64 (unpE l)]) ∧ Below w.heap.size w w') rfl N0 NoteD.zero 50 ⟨by rw [hE, hU], below_kp HBW.out (Kp.setCells (S := fun k => k = g0) _ rfl _ _ _ (Kp.refl _ _)) HBW.out.size (fun k hk => by have := HGE.out.1; omega)⟩)
      clear hE hU
      have i3 : ¬ n0 = 0 := by omega
      clear HU
      go_wp2_with (first | ((with_reducible refine wpList_build_run (op := ⟨_, Op.build 51 _, _, _, _, _⟩) rfl _ _ rfl _ ?_ _ (hb0 _) ?_); (focus (first | (go_simp; done) | (go_simp; rfl)))) | ((with_reducible refine wpList_store_note (op := ⟨_, Op.store 51 _ _, _, _, _, _⟩) rfl _ _ rfl _ _ NoteD.zero ?_ ?_ N0 ?_); rfl; rfl))
      exact HF.out _ (by rfl) (by rfl)
    · have hz : s0 = [] := List.length_eq_zero_iff.1 (by rw [← hn0.out]; omega)
      obtain rfl : n0 = 0 := by omega
      cases hok : n.ok with
      | false =>
        have hu : Hid (unp l = none) := by show _ = _; rw [HU.out, if_neg]; rintro ⟨_, h, _⟩; rw [hok] at h; cases h
        have hE : unpE l = 50 := by unfold unpE; rw [hu.out]; rfl
        have hU : unpN l = NoteD.zero := by unfold unpN; rw [hu.out]; rfl
        have HF := Lib.hid (note_fin (fn := Try.f28) (Q := fun e w' => e = .returned (.tuple #[.agg (unpN l).cells.toArray, .int .i64 (unpE l)]) ∧ Below w.heap.size w w') rfl N0 NoteD.zero 50 ⟨by rw [hE, hU], below_kp HBW.out (Kp.setCells (S := fun k => k = g0) _ rfl _ _ _ (Kp.refl _ _)) HBW.out.size (fun k hk => by have := HGE.out.1; omega)⟩)
        clear hE hU
        have he0 : n.packE = 50 := by rw [NoteD.packE, hok]; rfl
        rw [he0]
        clear HU he0 hok hz hlt o7
        go_wp2_with (first | ((with_reducible refine wpList_build_run (op := ⟨_, Op.build 51 _, _, _, _, _⟩) rfl _ _ rfl _ ?_ _ (hb0 _) ?_); (focus (first | (go_simp; done) | (go_simp; rfl)))) | ((with_reducible refine wpList_store_note (op := ⟨_, Op.store 51 _ _, _, _, _, _⟩) rfl _ _ rfl _ _ NoteD.zero ?_ ?_ N0 ?_); rfl; rfl))
        exact HF.out _ (by rfl) (by rfl)
      | true =>
        have he0 : n.packE = 0 := by rw [NoteD.packE, hok]; rfl
        have hl : n.packL = n.enc := by rw [NoteD.packL, hok]; rfl
        have hpl := n.packL_len
        rw [hl] at o7 hpl
        rw [he0, hl]
        have r7 := Lib.hid (rd_of_own o7)
        have r8 := Lib.hid (HD.out.rd.below HBW.out)
        have hUU : Hid (unp l = if l = n.enc then some n else none) := by show _ = _; rw [HU.out]; simp [stOf, hz, hok]
        have HH : Hid (n.enc.length ≤ 9223372036854775807 ∧ l.length ≤ 9223372036854775807) := by have := H.out.len; show _ ∧ _; omega
        have HN := Lib.hid N
        have HN0 := Lib.hid N0
        clear HU he0 hl hpl o7 hok hz hlt N N0
        go_wp2_with fail
        rw [hm.out]
        refine (dsame_any A A7 c c7 l n.enc _ r8.out r7.out HH.out.2 HH.out.1).mono ?_
        rintro e w21 ⟨rfl, d21⟩
        have N0 := HN0.out.below (d21.below _)
        have N := HN.out.below (d21.below _)
        have B2 := Lib.hid (bel_next HBW.out (d21.below _))
        clear HN HN0 r7 r8 HH a0 a1 d21
        by_cases heq : l = n.enc
        · have hu : Hid (unp l = some n) := by show _ = _; rw [hUU.out, if_pos heq]
          have hE : unpE l = 0 := by unfold unpE; rw [hu.out]; rfl
          have hU : unpN l = n := by unfold unpN; rw [hu.out]; rfl
          have HF := Lib.hid (note_fin (fn := Try.f28) (Q := fun e w' => e = .returned (.tuple #[.agg (unpN l).cells.toArray, .int .i64 (unpE l)]) ∧ Below w.heap.size w w') rfl N0 n 0 ⟨by rw [hE, hU], below_kp B2.out (Kp.setCells (S := fun k => k = g0) _ rfl _ _ _ (Kp.refl _ _)) B2.out.size (fun k hk => by have := HGE.out.1; omega)⟩)
          clear hE hU
          rw [decide_eq_true heq]
          clear hUU heq
          go_wp2_with (first | ((with_reducible refine wpList_load_note (op := ⟨_, Op.load 51 _, _, _, _, _⟩) rfl _ rfl _ _ ?_ N ?_); rfl) | ((with_reducible refine wpList_store_note (op := ⟨_, Op.store 51 _ _, _, _, _, _⟩) rfl _ _ rfl _ _ n ?_ ?_ N0 ?_); rfl; rfl))
          exact HF.out _ (by rfl) (by rfl)
        · have hu : Hid (unp l = none) := by show _ = _; rw [hUU.out, if_neg heq]
          have hE : unpE l = 50 := by unfold unpE; rw [hu.out]; rfl
          have hU : unpN l = NoteD.zero := by unfold unpN; rw [hu.out]; rfl
          have HF := Lib.hid (note_fin (fn := Try.f28) (Q := fun e w' => e = .returned (.tuple #[.agg (unpN l).cells.toArray, .int .i64 (unpE l)]) ∧ Below w.heap.size w w') rfl N0 NoteD.zero 50 ⟨by rw [hE, hU], below_kp B2.out (Kp.setCells (S := fun k => k = g0) _ rfl _ _ _ (Kp.refl _ _)) B2.out.size (fun k hk => by have := HGE.out.1; omega)⟩)
          clear hE hU
          rw [decide_eq_false heq]
          clear hUU heq
          go_wp2_with (first | ((with_reducible refine wpList_build_run (op := ⟨_, Op.build 51 _, _, _, _, _⟩) rfl _ _ rfl _ ?_ _ (hb0 _) ?_); (focus (first | (go_simp; done) | (go_simp; rfl)))) | ((with_reducible refine wpList_store_note (op := ⟨_, Op.store 51 _ _, _, _, _, _⟩) rfl _ _ rfl _ _ NoteD.zero ?_ ?_ N0 ?_); rfl; rfl))
          exact HF.out _ (by rfl) (by rfl)

end Go.Proofs.Ytmhcjkiaogimgaa
