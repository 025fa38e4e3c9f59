/- The document's entry1. -/
import Derived.Test.YtmhcjkiaogimgaaDrE
namespace Go.Proofs.Ytmhcjkiaogimgaa
open Go.RowKit

set_option maxRecDepth 100000 in
set_option maxHeartbeats 16000000 in
theorem dentry_any (w0 w : World) (hw : Below w0.heap.size w0 w) (A : Option Addr) (c : Nat) (s : List Int) (ok : Bool) (h : DS w0 A c s) :
    Calls Try.prog 60 #[.agg #[.slice A s.length c, .bool ok]] w (DGot w0 (gentry dnum dtxt) (fun o => .agg o.cells.toArray) (fun _ => True) (stOf ok s) w) := by
  obtain ⟨n, hn⟩ : ∃ n, Hid (n = s.length) := ⟨_, rfl⟩
  have HD := Lib.hid h
  clear h
  rw [← hn.out]
  have HA : Hid (∀ V, V = ((w.alloc (.cells #[.slice A n c, .bool ok] 99)).alloc (.cells #[.int .i64 0, .string ⟨#[]⟩, .bool false, .int .i64 0, .int .i64 0, .int .i64 0, .string ⟨#[]⟩] 47)).alloc (.cells #[.slice none 0 0, .bool false] 99) → Blk V w.heap.size #[.slice A n c, .bool ok] 99 ∧ Blk V (w.heap.size + 1) #[.int .i64 0, .string ⟨#[]⟩, .bool false, .int .i64 0, .int .i64 0, .int .i64 0, .string ⟨#[]⟩] 47 ∧ Blk V (w.heap.size + 1 + 1) #[.slice none 0 0, .bool false] 99 ∧ Below w.heap.size w V) := by
    rintro V rfl
    have e1 : (w.alloc (.cells #[.slice A n c, .bool ok] 99)).heap.size = w.heap.size + 1 := by simp
    have e2 : ((w.alloc (.cells #[.slice A n c, .bool ok] 99)).alloc (.cells #[.int .i64 0, .string ⟨#[]⟩, .bool false, .int .i64 0, .int .i64 0, .int .i64 0, .string ⟨#[]⟩] 47)).heap.size = w.heap.size + 1 + 1 := by simp
    have k1 := Blk.new w #[.slice A n c, .bool ok] 99
    have k2 := Blk.new (w.alloc (.cells #[.slice A n c, .bool ok] 99)) #[.int .i64 0, .string ⟨#[]⟩, .bool false, .int .i64 0, .int .i64 0, .int .i64 0, .string ⟨#[]⟩] 47
    have k3 := Blk.new ((w.alloc (.cells #[.slice A n c, .bool ok] 99)).alloc (.cells #[.int .i64 0, .string ⟨#[]⟩, .bool false, .int .i64 0, .int .i64 0, .int .i64 0, .string ⟨#[]⟩] 47)) #[.slice none 0 0, .bool false] 99
    rw [e1] at k2
    rw [e2] at k3
    exact ⟨(k1.alloc _).alloc _, k2.alloc _, k3, bel_al (bel_al (bel_al (Below.refl _ _) _) _) _⟩
  go_enter Try.func60, Try.ntmps60
  go_upto_region 1 with fail
  obtain ⟨V, hV⟩ : ∃ V, V = ((w.alloc (.cells #[.slice A n c, .bool ok] 99)).alloc (.cells #[.int .i64 0, .string ⟨#[]⟩, .bool false, .int .i64 0, .int .i64 0, .int .i64 0, .string ⟨#[]⟩] 47)).alloc (.cells #[.slice none 0 0, .bool false] 99) := ⟨_, rfl⟩
  obtain ⟨b1, b2, b3, hB⟩ := HA.out V hV
  rw [← hV]
  clear hV HA
  obtain ⟨g1, hg1⟩ : ∃ g, w.heap.size = g := ⟨_, rfl⟩
  rw [hg1] at b1 b2 b3 ⊢
  generalize hg2 : g1 + 1 = g2 at b2 b3 ⊢
  generalize hg3 : g2 + 1 = g3 at b3 ⊢
  have hn12 : g1 ≠ g2 := by omega
  have hn13 : g1 ≠ g3 := by omega
  have hn23 : g2 ≠ g3 := by omega
  have HGE : Hid (w.heap.size ≤ g1 ∧ w.heap.size ≤ g2 ∧ w.heap.size ≤ g3) := by show _ ∧ _; omega
  clear hg1 hg2 hg3
  have a0 : V.cell? ⟨g1, 0, none⟩ = some (.slice A n c) := (b1.cell 0).trans rfl
  have a1 : V.cell? ⟨g1, 1, none⟩ = some (.bool ok) := (b1.cell 1).trans rfl
  have Hb1 := Lib.hid b1
  have Hb2 := Lib.hid b2
  have Hb3 := Lib.hid b3
  have HBW := Lib.hid hB
  clear hB b1 b2 b3
  go_wp2_with fail
  rw [hn.out]
  refine (dkey_any w0 V (hw.trans (HBW.out.mono hw.size)) A c s ok HD.out).mono ?_
  rintro e w1 ⟨⟨kd, kn⟩, A0, s0, c0, ok0, he, _, hD0, hbel, rd0⟩
  have he : e = .returned (.tuple #[.agg #[.int .i64 kd, .string kn], .agg #[.slice A0 s0.length c0, .bool ok0]]) := he
  subst he
  obtain ⟨n0, hn0x⟩ : ∃ m, Hid (m = s0.length) := ⟨_, rfl⟩
  rw [← hn0x.out, ← hn.out]
  have HD0 := Lib.hid hD0
  have b1 := Hb1.out.kp (S := fun _ => False) (Kp.of_below hbel) (fun h => h)
  have b2 := Hb2.out.kp (S := fun _ => False) (Kp.of_below hbel) (fun h => h)
  have b3 := Hb3.out.kp (S := fun _ => False) (Kp.of_below hbel) (fun h => h)
  have hB := bel_next HBW.out hbel
  clear HBW hbel a0 a1 hD0 Hb1 Hb2 Hb3
  have lb1 := b1.lt
  have lb2 := b2.lt
  have lb3 := b3.lt
  have b4 := Blk.new w1 #[.int .i64 kd, .string kn] 43
  have b1 := b1.alloc (.cells #[.int .i64 kd, .string kn] 43)
  have b2 := b2.alloc (.cells #[.int .i64 kd, .string kn] 43)
  have b3 := b3.alloc (.cells #[.int .i64 kd, .string kn] 43)
  have hgs := hB.size
  have hB := bel_next hB (bel_al (Below.refl _ _) (.cells #[.int .i64 kd, .string kn] 43))
  generalize hgx : w1.heap.size = g4 at b4 ⊢
  have hn14 : g1 ≠ g4 := by omega
  have hn24 : g2 ≠ g4 := by omega
  have hn34 : g3 ≠ g4 := by omega
  have hge4 : w.heap.size ≤ g4 := by omega
  have HGX4 := Lib.hid hgx
  clear hgx hgs lb1 lb2 lb3
  have a0 : (w1.alloc (.cells #[.int .i64 kd, .string kn] 43)).cell? ⟨g1, 0, none⟩ = some (.slice A n c) := (b1.cell 0).trans rfl
  have a1 : (w1.alloc (.cells #[.int .i64 kd, .string kn] 43)).cell? ⟨g1, 1, none⟩ = some (.bool ok) := (b1.cell 1).trans rfl
  have fa0 := b1.frozen 0
  have fa1 := b1.frozen 1
  have Hb1 := Lib.hid b1
  have Hb2 := Lib.hid b2
  have Hb3 := Lib.hid b3
  have Hb4 := Lib.hid b4
  have HBW := Lib.hid hB
  clear hB b1 b2 b3 b4
  go_upto_region 2 with fail
  rw [HGX4.out]
  have b1 : Blk (((w1.alloc (.cells #[.int .i64 kd, .string kn] 43)).setCell ⟨g1, 0, none⟩ (.slice A0 n0 c0)).setCell ⟨g1, 1, none⟩ (.bool ok0)) g1 #[.slice A0 n0 c0, .bool ok0] 99 := Hb1.out.setCells [.slice A0 n0 c0, .bool ok0] 0
  have b2 : Blk (((w1.alloc (.cells #[.int .i64 kd, .string kn] 43)).setCell ⟨g1, 0, none⟩ (.slice A0 n0 c0)).setCell ⟨g1, 1, none⟩ (.bool ok0)) g2 #[.int .i64 0, .string ⟨#[]⟩, .bool false, .int .i64 0, .int .i64 0, .int .i64 0, .string ⟨#[]⟩] 47 := Blk.setCells_other (Ne.symm hn12) [.slice A0 n0 c0, .bool ok0] 0 Hb2.out
  have b3 : Blk (((w1.alloc (.cells #[.int .i64 kd, .string kn] 43)).setCell ⟨g1, 0, none⟩ (.slice A0 n0 c0)).setCell ⟨g1, 1, none⟩ (.bool ok0)) g3 #[.slice none 0 0, .bool false] 99 := Blk.setCells_other (Ne.symm hn13) [.slice A0 n0 c0, .bool ok0] 0 Hb3.out
  have b4 : Blk (((w1.alloc (.cells #[.int .i64 kd, .string kn] 43)).setCell ⟨g1, 0, none⟩ (.slice A0 n0 c0)).setCell ⟨g1, 1, none⟩ (.bool ok0)) g4 #[.int .i64 kd, .string kn] 43 := Blk.setCells_other (Ne.symm hn14) [.slice A0 n0 c0, .bool ok0] 0 Hb4.out
  have hB : Below w.heap.size w (((w1.alloc (.cells #[.int .i64 kd, .string kn] 43)).setCell ⟨g1, 0, none⟩ (.slice A0 n0 c0)).setCell ⟨g1, 1, none⟩ (.bool ok0)) := bel_sets HBW.out HGE.out.1 0 [.slice A0 n0 c0, .bool ok0]
  clear HBW a0 a1 fa0 fa1 Hb1 Hb2 Hb3 Hb4 
  generalize ((w1.alloc (.cells #[.int .i64 kd, .string kn] 43)).setCell ⟨g1, 0, none⟩ (.slice A0 n0 c0)).setCell ⟨g1, 1, none⟩ (.bool ok0) = X0 at *
  have a0 : X0.cell? ⟨g1, 0, none⟩ = some (.slice A0 n0 c0) := (b1.cell 0).trans rfl
  have a1 : X0.cell? ⟨g1, 1, none⟩ = some (.bool ok0) := (b1.cell 1).trans rfl
  have Hb1 := Lib.hid b1
  have Hb2 := Lib.hid b2
  have Hb3 := Lib.hid b3
  have Hb4 := Lib.hid b4
  have HBW := Lib.hid hB
  clear hB b1 b2 b3 b4
  go_wp2_with fail
  rw [hn0x.out]
  refine (dbyte_any w0 X0 (hw.trans (HBW.out.mono hw.size)) A0 c0 s0 ok0 HD0.out).mono ?_
  rintro e w2 ⟨v1, A1, s1, c1, ok1, rfl, _, hD1, hbel, rd1⟩
  obtain ⟨n1, hn1x⟩ : ∃ m, Hid (m = s1.length) := ⟨_, rfl⟩
  rw [← hn1x.out, ← hn0x.out]
  have HD1 := Lib.hid hD1
  have b1 := Hb1.out.kp (S := fun _ => False) (Kp.of_below hbel) (fun h => h)
  have b2 := Hb2.out.kp (S := fun _ => False) (Kp.of_below hbel) (fun h => h)
  have b3 := Hb3.out.kp (S := fun _ => False) (Kp.of_below hbel) (fun h => h)
  have b4 := Hb4.out.kp (S := fun _ => False) (Kp.of_below hbel) (fun h => h)
  have hB := bel_next HBW.out hbel
  clear HBW hbel a0 a1 hD1 Hb1 Hb2 Hb3 Hb4
  have a0 : w2.cell? ⟨g1, 0, none⟩ = some (.slice A0 n0 c0) := (b1.cell 0).trans rfl
  have a1 : w2.cell? ⟨g1, 1, none⟩ = some (.bool ok0) := (b1.cell 1).trans rfl
  have fa0 := b1.frozen 0
  have fa1 := b1.frozen 1
  have Hb1 := Lib.hid b1
  have Hb2 := Lib.hid b2
  have Hb3 := Lib.hid b3
  have Hb4 := Lib.hid b4
  have HBW := Lib.hid hB
  clear hB b1 b2 b3 b4
  go_upto_region 3 with fail
  have b1 : Blk ((w2.setCell ⟨g1, 0, none⟩ (.slice A1 n1 c1)).setCell ⟨g1, 1, none⟩ (.bool ok1)) g1 #[.slice A1 n1 c1, .bool ok1] 99 := Hb1.out.setCells [.slice A1 n1 c1, .bool ok1] 0
  have b2 : Blk ((w2.setCell ⟨g1, 0, none⟩ (.slice A1 n1 c1)).setCell ⟨g1, 1, none⟩ (.bool ok1)) g2 #[.int .i64 0, .string ⟨#[]⟩, .bool false, .int .i64 0, .int .i64 0, .int .i64 0, .string ⟨#[]⟩] 47 := Blk.setCells_other (Ne.symm hn12) [.slice A1 n1 c1, .bool ok1] 0 Hb2.out
  have b3 : Blk ((w2.setCell ⟨g1, 0, none⟩ (.slice A1 n1 c1)).setCell ⟨g1, 1, none⟩ (.bool ok1)) g3 #[.slice none 0 0, .bool false] 99 := Blk.setCells_other (Ne.symm hn13) [.slice A1 n1 c1, .bool ok1] 0 Hb3.out
  have b4 : Blk ((w2.setCell ⟨g1, 0, none⟩ (.slice A1 n1 c1)).setCell ⟨g1, 1, none⟩ (.bool ok1)) g4 #[.int .i64 kd, .string kn] 43 := Blk.setCells_other (Ne.symm hn14) [.slice A1 n1 c1, .bool ok1] 0 Hb4.out
  have hB : Below w.heap.size w ((w2.setCell ⟨g1, 0, none⟩ (.slice A1 n1 c1)).setCell ⟨g1, 1, none⟩ (.bool ok1)) := bel_sets HBW.out HGE.out.1 0 [.slice A1 n1 c1, .bool ok1]
  clear HBW a0 a1 fa0 fa1 Hb1 Hb2 Hb3 Hb4 
  generalize (w2.setCell ⟨g1, 0, none⟩ (.slice A1 n1 c1)).setCell ⟨g1, 1, none⟩ (.bool ok1) = X1 at *
  by_cases h1 : v1 = 1
  · subst h1
    go_upto_region 4 with fail
    have HR : Hid (Read (gentry dnum dtxt) (stOf ok s) ⟨⟨kd, kn⟩, true, NodeD.zero⟩ (stOf ok1 s1)) := rd0.bind (rd1.bind (Read.ret _ _))
    have t0 : X1.drew.cell? ⟨g1, 0, none⟩ = some (.slice A1 n1 c1) ∧ X1.drew.cell? ⟨g1, 1, none⟩ = some (.bool ok1) ∧ X1.drew.cell? ⟨g4, 0, none⟩ = some (.int .i64 kd) ∧ X1.drew.cell? ⟨g4, 1, none⟩ = some (.string kn) := ⟨(b1.cell 0).trans rfl, (b1.cell 1).trans rfl, (b4.cell 0).trans rfl, (b4.cell 1).trans rfl⟩
    obtain ⟨Y1, hY1⟩ : ∃ Y, Y = (X1.setCells g2 0 [.int .i64 kd, .string kn, .bool true, .int .i64 0, .int .i64 0, .int .i64 0, .string ⟨#[]⟩]).drew := ⟨_, rfl⟩
    have b1y : Blk Y1 g1 #[.slice A1 n1 c1, .bool ok1] 99 := by rw [hY1]; exact (Blk.setCells_other hn12 [.int .i64 kd, .string kn, .bool true, .int .i64 0, .int .i64 0, .int .i64 0, .string ⟨#[]⟩] 0 b1).drew
    have b1z : Blk (Y1.setCells g3 0 [.slice A1 n1 c1, .bool ok1]) g1 #[.slice A1 n1 c1, .bool ok1] 99 := Blk.setCells_other hn13 [.slice A1 n1 c1, .bool ok1] 0 b1y
    have b4y : Blk Y1 g4 #[.int .i64 kd, .string kn] 43 := by rw [hY1]; exact (Blk.setCells_other (Ne.symm hn24) [.int .i64 kd, .string kn, .bool true, .int .i64 0, .int .i64 0, .int .i64 0, .string ⟨#[]⟩] 0 b4).drew
    have b4z : Blk (Y1.setCells g3 0 [.slice A1 n1 c1, .bool ok1]) g4 #[.int .i64 kd, .string kn] 43 := Blk.setCells_other (Ne.symm hn34) [.slice A1 n1 c1, .bool ok1] 0 b4y
    have b2y : Blk Y1 g2 #[.int .i64 kd, .string kn, .bool true, .int .i64 0, .int .i64 0, .int .i64 0, .string ⟨#[]⟩] 47 := by rw [hY1]; exact (b2.setCells [.int .i64 kd, .string kn, .bool true, .int .i64 0, .int .i64 0, .int .i64 0, .string ⟨#[]⟩] 0).drew
    have b3y : Blk Y1 g3 #[.slice none 0 0, .bool false] 99 := by rw [hY1]; exact (Blk.setCells_other (Ne.symm hn23) [.int .i64 kd, .string kn, .bool true, .int .i64 0, .int .i64 0, .int .i64 0, .string ⟨#[]⟩] 0 b3).drew
    have zB1 : Below w.heap.size w Y1 := by rw [hY1]; exact bel_drew (bel_sets hB HGE.out.2.1 0 [.int .i64 kd, .string kn, .bool true, .int .i64 0, .int .i64 0, .int .i64 0, .string ⟨#[]⟩])
    have t1 : Y1.cell? ⟨g1, 0, none⟩ = some (.slice A1 n1 c1) ∧ Y1.cell? ⟨g1, 1, none⟩ = some (.bool ok1) ∧ Y1.cell? ⟨g4, 0, none⟩ = some (.int .i64 kd) ∧ Y1.cell? ⟨g4, 1, none⟩ = some (.string kn) := ⟨(b1y.cell 0).trans rfl, (b1y.cell 1).trans rfl, (b4y.cell 0).trans rfl, (b4y.cell 1).trans rfl⟩
    have t2 : (Y1.setCells g3 0 [.slice A1 n1 c1, .bool ok1]).cell? ⟨g1, 0, none⟩ = some (.slice A1 n1 c1) ∧ (Y1.setCells g3 0 [.slice A1 n1 c1, .bool ok1]).cell? ⟨g1, 1, none⟩ = some (.bool ok1) ∧ (Y1.setCells g3 0 [.slice A1 n1 c1, .bool ok1]).cell? ⟨g4, 0, none⟩ = some (.int .i64 kd) ∧ (Y1.setCells g3 0 [.slice A1 n1 c1, .bool ok1]).cell? ⟨g4, 1, none⟩ = some (.string kn) := ⟨(b1z.cell 0).trans rfl, (b1z.cell 1).trans rfl, (b4z.cell 0).trans rfl, (b4z.cell 1).trans rfl⟩
    have z2 : Blk (Y1.setCells g3 0 [.slice A1 n1 c1, .bool ok1]) g2 #[.int .i64 kd, .string kn, .bool true, .int .i64 0, .int .i64 0, .int .i64 0, .string ⟨#[]⟩] 47 := Blk.setCells_other hn23 [.slice A1 n1 c1, .bool ok1] 0 b2y
    have z3 : Blk (Y1.setCells g3 0 [.slice A1 n1 c1, .bool ok1]) g3 #[.slice A1 n1 c1, .bool ok1] 99 := b3y.setCells [.slice A1 n1 c1, .bool ok1] 0
    have zB : Below w.heap.size w (Y1.setCells g3 0 [.slice A1 n1 c1, .bool ok1]) := bel_sets zB1 HGE.out.2.2 0 [.slice A1 n1 c1, .bool ok1]
    have HF := Lib.hid (in2_fin (fn := Try.f60) (Q := DGot w0 (gentry dnum dtxt) (fun o : EntryD => .agg o.cells.toArray) (fun _ => True) (stOf ok s) w) (vs := [.int .i64 kd, .string kn, .bool true, .int .i64 0, .int .i64 0, .int .i64 0, .string ⟨#[]⟩]) rfl z2 Try.underlying47 rfl size_entry z3 ⟨⟨⟨kd, kn⟩, true, NodeD.zero⟩, A1, s1, c1, ok1, by rw [hn1x.out]; rfl, trivial, HD1.out, zB, HR.out⟩)
    have q0 : X1.cell? ⟨g2, 0, none⟩ = some (.int .i64 0) := (b2.cell 0).trans rfl
    have fq0 := b2.frozen 0
    have q1 : X1.cell? ⟨g2, 1, none⟩ = some (.string ⟨#[]⟩) := (b2.cell 1).trans rfl
    have fq1 := b2.frozen 1
    have q2 : X1.cell? ⟨g2, 2, none⟩ = some (.bool false) := (b2.cell 2).trans rfl
    have fq2 := b2.frozen 2
    have q3 : X1.cell? ⟨g2, 3, none⟩ = some (.int .i64 0) := (b2.cell 3).trans rfl
    have fq3 := b2.frozen 3
    have q4 : X1.cell? ⟨g2, 4, none⟩ = some (.int .i64 0) := (b2.cell 4).trans rfl
    have fq4 := b2.frozen 4
    have q5 : X1.cell? ⟨g2, 5, none⟩ = some (.int .i64 0) := (b2.cell 5).trans rfl
    have fq5 := b2.frozen 5
    have q6 : X1.cell? ⟨g2, 6, none⟩ = some (.string ⟨#[]⟩) := (b2.cell 6).trans rfl
    have fq6 := b2.frozen 6
    have r0 : Y1.cell? ⟨g3, 0, none⟩ = some (.slice none 0 0) := (b3y.cell 0).trans rfl
    have r1 : Y1.cell? ⟨g3, 1, none⟩ = some (.bool false) := (b3y.cell 1).trans rfl
    have fr0 := b3y.frozen 0
    have fr1 := b3y.frozen 1
    have t1h := t1
    rw [hY1] at t1h
    have Ht1h := Lib.hid t1h
    have Ht2 := Lib.hid t2
    have HhY1 := Lib.hid hY1
    clear t1h t2 hY1 t1 z2 z3 zB zB1 hB b2 b3 b2y b3y b1 b1y b1z b4 b4y b4z
    refine wp_region_held_drew (S := fun w' => w'.cell? ⟨g1, 0, none⟩ = some (.slice A1 n1 c1) ∧ w'.cell? ⟨g1, 1, none⟩ = some (.bool ok1) ∧ w'.cell? ⟨g4, 0, none⟩ = some (.int .i64 kd) ∧ w'.cell? ⟨g4, 1, none⟩ = some (.string kn)) (by kernel_rfl) t0 (fun hHeld => ?_)
    refine' wpAnyH_take (i := 0) (oi := _) (v := ?v3) rfl (by kernel_rfl) (by kernel_rfl) (by kernel_rfl) (fun _ _ _ h => h) (Or.inl ⟨by rfl, ?hy3⟩) (by assumption) ?rest3
    case hy3 => (intro w hSw; obtain ⟨s0, s1, s2, s3⟩ := hSw; go_simp; (try with_reducible rfl))
    simp only [Act.put, List.setIfInBounds_toArray, List.set_cons_zero, List.set_cons_succ]
    refine' wpAnyH_take (i := 1) (oi := _) (v := ?v4) rfl (by kernel_rfl) (by kernel_rfl) (by kernel_rfl) (fun _ _ _ h => h) (Or.inl ⟨by rfl, ?hy4⟩) (by assumption) ?rest4
    case hy4 => (intro w hSw; obtain ⟨s0, s1, s2, s3⟩ := hSw; go_simp; (try with_reducible rfl))
    simp only [Act.put, List.setIfInBounds_toArray, List.set_cons_zero, List.set_cons_succ]
    refine' wpAnyH_take (i := 2) (oi := _) (v := ?v5) rfl (by kernel_rfl) (by kernel_rfl) (by kernel_rfl) (fun _ _ _ h => h) (Or.inl ⟨by rfl, ?hy5⟩) (by assumption) ?rest5
    case hy5 => (intro w hSw; obtain ⟨s0, s1, s2, s3⟩ := hSw; go_simp; (try with_reducible rfl))
    simp only [Act.put, List.setIfInBounds_toArray, List.set_cons_zero, List.set_cons_succ]
    clear t0
    refine wpAnyH_ready (rs := [3]) (by kernel_rfl) (by simp) ?_
    refine AllReadyH.cons rfl (fun K hK => ?_) AllReadyH.nil
    go_simp
    refine hK.out _ ((X1.setCells g2 0 [.int .i64 kd, .string kn, .bool true, .int .i64 0, .int .i64 0, .int .i64 0, .string ⟨#[]⟩]).drew) Ht1h.out (fun hHeld => ?_)
    clear hK K
    try simp only [Act.put, List.setIfInBounds_toArray, List.set_cons_zero, List.set_cons_succ]
    rw [← HhY1.out]
    refine wpAnyH_ready (rs := [4]) (by kernel_rfl) (by simp) ?_
    refine AllReadyH.cons rfl (fun K hK => ?_) AllReadyH.nil
    go_simp
    refine hK.out _ (Y1.setCells g3 0 [.slice A1 n1 c1, .bool ok1]) Ht2.out (fun hHeld => ?_)
    clear hK K
    try simp only [Act.put, List.setIfInBounds_toArray, List.set_cons_zero, List.set_cons_succ]
    refine wpAnyH_done (by kernel_rfl) ?_ _
    go_wp2_with fail
    exact HF.out _ (by rfl) (by rfl)
  have e1 : (v1 == 1) = false := by simp [h1]
  have hB0 := hB.size
  have lb1 := b1.lt
  have lb2 := b2.lt
  have lb3 := b3.lt
  have lb4 := b4.lt
  go_upto_region 6 with fail
  have b5 := Blk.new X1 #[.int .i64 0, .int .i64 0, .int .i64 0, .string ⟨#[]⟩] 45
  have b1 := b1.alloc (.cells #[.int .i64 0, .int .i64 0, .int .i64 0, .string ⟨#[]⟩] 45)
  have b2 := b2.alloc (.cells #[.int .i64 0, .int .i64 0, .int .i64 0, .string ⟨#[]⟩] 45)
  have b3 := b3.alloc (.cells #[.int .i64 0, .int .i64 0, .int .i64 0, .string ⟨#[]⟩] 45)
  have b4 := b4.alloc (.cells #[.int .i64 0, .int .i64 0, .int .i64 0, .string ⟨#[]⟩] 45)
  have hB := bel_next hB (bel_al (Below.refl _ _) (.cells #[.int .i64 0, .int .i64 0, .int .i64 0, .string ⟨#[]⟩] 45))
  generalize X1.alloc (.cells #[.int .i64 0, .int .i64 0, .int .i64 0, .string ⟨#[]⟩] 45) = Y0 at *
  generalize hgx : X1.heap.size = g5 at b5 ⊢
  have hn15 : g1 ≠ g5 := by omega
  have hn25 : g2 ≠ g5 := by omega
  have hn35 : g3 ≠ g5 := by omega
  have hn45 : g4 ≠ g5 := by omega
  have hge5 : w.heap.size ≤ g5 := by omega
  clear hgx hB0 lb1 lb2 lb3 lb4
  have a0 : Y0.cell? ⟨g1, 0, none⟩ = some (.slice A1 n1 c1) := (b1.cell 0).trans rfl
  have a1 : Y0.cell? ⟨g1, 1, none⟩ = some (.bool ok1) := (b1.cell 1).trans rfl
  have Hb1 := Lib.hid b1
  have Hb2 := Lib.hid b2
  have Hb3 := Lib.hid b3
  have Hb4 := Lib.hid b4
  have Hb5 := Lib.hid b5
  have HBW := Lib.hid hB
  clear hB b1 b2 b3 b4 b5
  go_wp2_with fail
  rw [hn1x.out]
  refine (dnum_any w0 Y0 (hw.trans (HBW.out.mono hw.size)) A1 c1 s1 ok1 HD1.out).mono ?_
  rintro e w3 ⟨v2, A2, s2, c2, ok2, rfl, _, hD2, hbel, rd2⟩
  obtain ⟨n2, hn2x⟩ : ∃ m, Hid (m = s2.length) := ⟨_, rfl⟩
  rw [← hn2x.out, ← hn1x.out]
  have HD2 := Lib.hid hD2
  have b1 := Hb1.out.kp (S := fun _ => False) (Kp.of_below hbel) (fun h => h)
  have b2 := Hb2.out.kp (S := fun _ => False) (Kp.of_below hbel) (fun h => h)
  have b3 := Hb3.out.kp (S := fun _ => False) (Kp.of_below hbel) (fun h => h)
  have b4 := Hb4.out.kp (S := fun _ => False) (Kp.of_below hbel) (fun h => h)
  have b5 := Hb5.out.kp (S := fun _ => False) (Kp.of_below hbel) (fun h => h)
  have hB := bel_next HBW.out hbel
  clear HBW hbel a0 a1 hD2 Hb1 Hb2 Hb3 Hb4 Hb5
  have a0 : w3.cell? ⟨g1, 0, none⟩ = some (.slice A1 n1 c1) := (b1.cell 0).trans rfl
  have a1 : w3.cell? ⟨g1, 1, none⟩ = some (.bool ok1) := (b1.cell 1).trans rfl
  have fa0 := b1.frozen 0
  have fa1 := b1.frozen 1
  have a2 : w3.cell? ⟨g5, 0, none⟩ = some (.int .i64 0) := (b5.cell 0).trans rfl
  have fa2 := b5.frozen 0
  have Hb1 := Lib.hid b1
  have Hb2 := Lib.hid b2
  have Hb3 := Lib.hid b3
  have Hb4 := Lib.hid b4
  have Hb5 := Lib.hid b5
  have HBW := Lib.hid hB
  clear hB b1 b2 b3 b4 b5
  go_upto_region 7 with fail
  have b1 : Blk (((w3.setCell ⟨g5, 0, none⟩ (.int .i64 v2)).setCell ⟨g1, 0, none⟩ (.slice A2 n2 c2)).setCell ⟨g1, 1, none⟩ (.bool ok2)) g1 #[.slice A2 n2 c2, .bool ok2] 99 := (Blk.setCells_other hn15 [.int .i64 v2] 0 Hb1.out).setCells [.slice A2 n2 c2, .bool ok2] 0
  have b2 : Blk (((w3.setCell ⟨g5, 0, none⟩ (.int .i64 v2)).setCell ⟨g1, 0, none⟩ (.slice A2 n2 c2)).setCell ⟨g1, 1, none⟩ (.bool ok2)) g2 #[.int .i64 0, .string ⟨#[]⟩, .bool false, .int .i64 0, .int .i64 0, .int .i64 0, .string ⟨#[]⟩] 47 := Blk.setCells_other (Ne.symm hn12) [.slice A2 n2 c2, .bool ok2] 0 (Blk.setCells_other hn25 [.int .i64 v2] 0 Hb2.out)
  have b3 : Blk (((w3.setCell ⟨g5, 0, none⟩ (.int .i64 v2)).setCell ⟨g1, 0, none⟩ (.slice A2 n2 c2)).setCell ⟨g1, 1, none⟩ (.bool ok2)) g3 #[.slice none 0 0, .bool false] 99 := Blk.setCells_other (Ne.symm hn13) [.slice A2 n2 c2, .bool ok2] 0 (Blk.setCells_other hn35 [.int .i64 v2] 0 Hb3.out)
  have b4 : Blk (((w3.setCell ⟨g5, 0, none⟩ (.int .i64 v2)).setCell ⟨g1, 0, none⟩ (.slice A2 n2 c2)).setCell ⟨g1, 1, none⟩ (.bool ok2)) g4 #[.int .i64 kd, .string kn] 43 := Blk.setCells_other (Ne.symm hn14) [.slice A2 n2 c2, .bool ok2] 0 (Blk.setCells_other hn45 [.int .i64 v2] 0 Hb4.out)
  have b5 : Blk (((w3.setCell ⟨g5, 0, none⟩ (.int .i64 v2)).setCell ⟨g1, 0, none⟩ (.slice A2 n2 c2)).setCell ⟨g1, 1, none⟩ (.bool ok2)) g5 #[.int .i64 v2, .int .i64 0, .int .i64 0, .string ⟨#[]⟩] 45 := Blk.setCells_other (Ne.symm hn15) [.slice A2 n2 c2, .bool ok2] 0 (Hb5.out.setCells [.int .i64 v2] 0)
  have hB : Below w.heap.size w (((w3.setCell ⟨g5, 0, none⟩ (.int .i64 v2)).setCell ⟨g1, 0, none⟩ (.slice A2 n2 c2)).setCell ⟨g1, 1, none⟩ (.bool ok2)) := bel_sets (bel_sets HBW.out hge5 0 [.int .i64 v2]) HGE.out.1 0 [.slice A2 n2 c2, .bool ok2]
  clear HBW a0 a1 fa0 fa1 Hb1 Hb2 Hb3 Hb4 Hb5 a2 fa2
  generalize ((w3.setCell ⟨g5, 0, none⟩ (.int .i64 v2)).setCell ⟨g1, 0, none⟩ (.slice A2 n2 c2)).setCell ⟨g1, 1, none⟩ (.bool ok2) = X2 at *
  have a0 : X2.cell? ⟨g1, 0, none⟩ = some (.slice A2 n2 c2) := (b1.cell 0).trans rfl
  have a1 : X2.cell? ⟨g1, 1, none⟩ = some (.bool ok2) := (b1.cell 1).trans rfl
  have Hb1 := Lib.hid b1
  have Hb2 := Lib.hid b2
  have Hb3 := Lib.hid b3
  have Hb4 := Lib.hid b4
  have Hb5 := Lib.hid b5
  have HBW := Lib.hid hB
  clear hB b1 b2 b3 b4 b5
  go_wp2_with fail
  rw [hn2x.out]
  refine (dbyte_any w0 X2 (hw.trans (HBW.out.mono hw.size)) A2 c2 s2 ok2 HD2.out).mono ?_
  rintro e w4 ⟨v3, A3, s3, c3, ok3, rfl, _, hD3, hbel, rd3⟩
  obtain ⟨n3, hn3x⟩ : ∃ m, Hid (m = s3.length) := ⟨_, rfl⟩
  rw [← hn3x.out, ← hn2x.out]
  have HD3 := Lib.hid hD3
  have b1 := Hb1.out.kp (S := fun _ => False) (Kp.of_below hbel) (fun h => h)
  have b2 := Hb2.out.kp (S := fun _ => False) (Kp.of_below hbel) (fun h => h)
  have b3 := Hb3.out.kp (S := fun _ => False) (Kp.of_below hbel) (fun h => h)
  have b4 := Hb4.out.kp (S := fun _ => False) (Kp.of_below hbel) (fun h => h)
  have b5 := Hb5.out.kp (S := fun _ => False) (Kp.of_below hbel) (fun h => h)
  have hB := bel_next HBW.out hbel
  clear HBW hbel a0 a1 hD3 Hb1 Hb2 Hb3 Hb4 Hb5
  have a0 : w4.cell? ⟨g1, 0, none⟩ = some (.slice A2 n2 c2) := (b1.cell 0).trans rfl
  have a1 : w4.cell? ⟨g1, 1, none⟩ = some (.bool ok2) := (b1.cell 1).trans rfl
  have fa0 := b1.frozen 0
  have fa1 := b1.frozen 1
  have a2 : w4.cell? ⟨g5, 1, none⟩ = some (.int .i64 0) := (b5.cell 1).trans rfl
  have fa2 := b5.frozen 1
  have Hb1 := Lib.hid b1
  have Hb2 := Lib.hid b2
  have Hb3 := Lib.hid b3
  have Hb4 := Lib.hid b4
  have Hb5 := Lib.hid b5
  have HBW := Lib.hid hB
  clear hB b1 b2 b3 b4 b5
  go_upto_region 8 with fail
  have b1 : Blk (((w4.setCell ⟨g5, 1, none⟩ (.int .i64 v3)).setCell ⟨g1, 0, none⟩ (.slice A3 n3 c3)).setCell ⟨g1, 1, none⟩ (.bool ok3)) g1 #[.slice A3 n3 c3, .bool ok3] 99 := (Blk.setCells_other hn15 [.int .i64 v3] 1 Hb1.out).setCells [.slice A3 n3 c3, .bool ok3] 0
  have b2 : Blk (((w4.setCell ⟨g5, 1, none⟩ (.int .i64 v3)).setCell ⟨g1, 0, none⟩ (.slice A3 n3 c3)).setCell ⟨g1, 1, none⟩ (.bool ok3)) g2 #[.int .i64 0, .string ⟨#[]⟩, .bool false, .int .i64 0, .int .i64 0, .int .i64 0, .string ⟨#[]⟩] 47 := Blk.setCells_other (Ne.symm hn12) [.slice A3 n3 c3, .bool ok3] 0 (Blk.setCells_other hn25 [.int .i64 v3] 1 Hb2.out)
  have b3 : Blk (((w4.setCell ⟨g5, 1, none⟩ (.int .i64 v3)).setCell ⟨g1, 0, none⟩ (.slice A3 n3 c3)).setCell ⟨g1, 1, none⟩ (.bool ok3)) g3 #[.slice none 0 0, .bool false] 99 := Blk.setCells_other (Ne.symm hn13) [.slice A3 n3 c3, .bool ok3] 0 (Blk.setCells_other hn35 [.int .i64 v3] 1 Hb3.out)
  have b4 : Blk (((w4.setCell ⟨g5, 1, none⟩ (.int .i64 v3)).setCell ⟨g1, 0, none⟩ (.slice A3 n3 c3)).setCell ⟨g1, 1, none⟩ (.bool ok3)) g4 #[.int .i64 kd, .string kn] 43 := Blk.setCells_other (Ne.symm hn14) [.slice A3 n3 c3, .bool ok3] 0 (Blk.setCells_other hn45 [.int .i64 v3] 1 Hb4.out)
  have b5 : Blk (((w4.setCell ⟨g5, 1, none⟩ (.int .i64 v3)).setCell ⟨g1, 0, none⟩ (.slice A3 n3 c3)).setCell ⟨g1, 1, none⟩ (.bool ok3)) g5 #[.int .i64 v2, .int .i64 v3, .int .i64 0, .string ⟨#[]⟩] 45 := Blk.setCells_other (Ne.symm hn15) [.slice A3 n3 c3, .bool ok3] 0 (Hb5.out.setCells [.int .i64 v3] 1)
  have hB : Below w.heap.size w (((w4.setCell ⟨g5, 1, none⟩ (.int .i64 v3)).setCell ⟨g1, 0, none⟩ (.slice A3 n3 c3)).setCell ⟨g1, 1, none⟩ (.bool ok3)) := bel_sets (bel_sets HBW.out hge5 1 [.int .i64 v3]) HGE.out.1 0 [.slice A3 n3 c3, .bool ok3]
  clear HBW a0 a1 fa0 fa1 Hb1 Hb2 Hb3 Hb4 Hb5 a2 fa2
  generalize ((w4.setCell ⟨g5, 1, none⟩ (.int .i64 v3)).setCell ⟨g1, 0, none⟩ (.slice A3 n3 c3)).setCell ⟨g1, 1, none⟩ (.bool ok3) = X3 at *
  have a0 : X3.cell? ⟨g1, 0, none⟩ = some (.slice A3 n3 c3) := (b1.cell 0).trans rfl
  have a1 : X3.cell? ⟨g1, 1, none⟩ = some (.bool ok3) := (b1.cell 1).trans rfl
  have Hb1 := Lib.hid b1
  have Hb2 := Lib.hid b2
  have Hb3 := Lib.hid b3
  have Hb4 := Lib.hid b4
  have Hb5 := Lib.hid b5
  have HBW := Lib.hid hB
  clear hB b1 b2 b3 b4 b5
  go_wp2_with fail
  rw [hn3x.out]
  refine (dnum_any w0 X3 (hw.trans (HBW.out.mono hw.size)) A3 c3 s3 ok3 HD3.out).mono ?_
  rintro e w5 ⟨v4, A4, s4, c4, ok4, rfl, _, hD4, hbel, rd4⟩
  obtain ⟨n4, hn4x⟩ : ∃ m, Hid (m = s4.length) := ⟨_, rfl⟩
  rw [← hn4x.out, ← hn3x.out]
  have HD4 := Lib.hid hD4
  have b1 := Hb1.out.kp (S := fun _ => False) (Kp.of_below hbel) (fun h => h)
  have b2 := Hb2.out.kp (S := fun _ => False) (Kp.of_below hbel) (fun h => h)
  have b3 := Hb3.out.kp (S := fun _ => False) (Kp.of_below hbel) (fun h => h)
  have b4 := Hb4.out.kp (S := fun _ => False) (Kp.of_below hbel) (fun h => h)
  have b5 := Hb5.out.kp (S := fun _ => False) (Kp.of_below hbel) (fun h => h)
  have hB := bel_next HBW.out hbel
  clear HBW hbel a0 a1 hD4 Hb1 Hb2 Hb3 Hb4 Hb5
  have a0 : w5.cell? ⟨g1, 0, none⟩ = some (.slice A3 n3 c3) := (b1.cell 0).trans rfl
  have a1 : w5.cell? ⟨g1, 1, none⟩ = some (.bool ok3) := (b1.cell 1).trans rfl
  have fa0 := b1.frozen 0
  have fa1 := b1.frozen 1
  have a2 : w5.cell? ⟨g5, 2, none⟩ = some (.int .i64 0) := (b5.cell 2).trans rfl
  have fa2 := b5.frozen 2
  have Hb1 := Lib.hid b1
  have Hb2 := Lib.hid b2
  have Hb3 := Lib.hid b3
  have Hb4 := Lib.hid b4
  have Hb5 := Lib.hid b5
  have HBW := Lib.hid hB
  clear hB b1 b2 b3 b4 b5
  go_upto_region 9 with fail
  have b1 : Blk (((w5.setCell ⟨g5, 2, none⟩ (.int .i64 v4)).setCell ⟨g1, 0, none⟩ (.slice A4 n4 c4)).setCell ⟨g1, 1, none⟩ (.bool ok4)) g1 #[.slice A4 n4 c4, .bool ok4] 99 := (Blk.setCells_other hn15 [.int .i64 v4] 2 Hb1.out).setCells [.slice A4 n4 c4, .bool ok4] 0
  have b2 : Blk (((w5.setCell ⟨g5, 2, none⟩ (.int .i64 v4)).setCell ⟨g1, 0, none⟩ (.slice A4 n4 c4)).setCell ⟨g1, 1, none⟩ (.bool ok4)) g2 #[.int .i64 0, .string ⟨#[]⟩, .bool false, .int .i64 0, .int .i64 0, .int .i64 0, .string ⟨#[]⟩] 47 := Blk.setCells_other (Ne.symm hn12) [.slice A4 n4 c4, .bool ok4] 0 (Blk.setCells_other hn25 [.int .i64 v4] 2 Hb2.out)
  have b3 : Blk (((w5.setCell ⟨g5, 2, none⟩ (.int .i64 v4)).setCell ⟨g1, 0, none⟩ (.slice A4 n4 c4)).setCell ⟨g1, 1, none⟩ (.bool ok4)) g3 #[.slice none 0 0, .bool false] 99 := Blk.setCells_other (Ne.symm hn13) [.slice A4 n4 c4, .bool ok4] 0 (Blk.setCells_other hn35 [.int .i64 v4] 2 Hb3.out)
  have b4 : Blk (((w5.setCell ⟨g5, 2, none⟩ (.int .i64 v4)).setCell ⟨g1, 0, none⟩ (.slice A4 n4 c4)).setCell ⟨g1, 1, none⟩ (.bool ok4)) g4 #[.int .i64 kd, .string kn] 43 := Blk.setCells_other (Ne.symm hn14) [.slice A4 n4 c4, .bool ok4] 0 (Blk.setCells_other hn45 [.int .i64 v4] 2 Hb4.out)
  have b5 : Blk (((w5.setCell ⟨g5, 2, none⟩ (.int .i64 v4)).setCell ⟨g1, 0, none⟩ (.slice A4 n4 c4)).setCell ⟨g1, 1, none⟩ (.bool ok4)) g5 #[.int .i64 v2, .int .i64 v3, .int .i64 v4, .string ⟨#[]⟩] 45 := Blk.setCells_other (Ne.symm hn15) [.slice A4 n4 c4, .bool ok4] 0 (Hb5.out.setCells [.int .i64 v4] 2)
  have hB : Below w.heap.size w (((w5.setCell ⟨g5, 2, none⟩ (.int .i64 v4)).setCell ⟨g1, 0, none⟩ (.slice A4 n4 c4)).setCell ⟨g1, 1, none⟩ (.bool ok4)) := bel_sets (bel_sets HBW.out hge5 2 [.int .i64 v4]) HGE.out.1 0 [.slice A4 n4 c4, .bool ok4]
  clear HBW a0 a1 fa0 fa1 Hb1 Hb2 Hb3 Hb4 Hb5 a2 fa2
  generalize ((w5.setCell ⟨g5, 2, none⟩ (.int .i64 v4)).setCell ⟨g1, 0, none⟩ (.slice A4 n4 c4)).setCell ⟨g1, 1, none⟩ (.bool ok4) = X4 at *
  have a0 : X4.cell? ⟨g1, 0, none⟩ = some (.slice A4 n4 c4) := (b1.cell 0).trans rfl
  have a1 : X4.cell? ⟨g1, 1, none⟩ = some (.bool ok4) := (b1.cell 1).trans rfl
  have Hb1 := Lib.hid b1
  have Hb2 := Lib.hid b2
  have Hb3 := Lib.hid b3
  have Hb4 := Lib.hid b4
  have Hb5 := Lib.hid b5
  have HBW := Lib.hid hB
  clear hB b1 b2 b3 b4 b5
  go_wp2_with fail
  rw [hn4x.out]
  refine (dtxt_any w0 X4 (hw.trans (HBW.out.mono hw.size)) A4 c4 s4 ok4 HD4.out).mono ?_
  rintro e w6 ⟨v5, A5, s5, c5, ok5, rfl, _, hD5, hbel, rd5⟩
  obtain ⟨n5, hn5x⟩ : ∃ m, Hid (m = s5.length) := ⟨_, rfl⟩
  rw [← hn5x.out, ← hn4x.out]
  have HD5 := Lib.hid hD5
  have b1 := Hb1.out.kp (S := fun _ => False) (Kp.of_below hbel) (fun h => h)
  have b2 := Hb2.out.kp (S := fun _ => False) (Kp.of_below hbel) (fun h => h)
  have b3 := Hb3.out.kp (S := fun _ => False) (Kp.of_below hbel) (fun h => h)
  have b4 := Hb4.out.kp (S := fun _ => False) (Kp.of_below hbel) (fun h => h)
  have b5 := Hb5.out.kp (S := fun _ => False) (Kp.of_below hbel) (fun h => h)
  have hB := bel_next HBW.out hbel
  clear HBW hbel a0 a1 hD5 Hb1 Hb2 Hb3 Hb4 Hb5
  have a0 : w6.cell? ⟨g1, 0, none⟩ = some (.slice A4 n4 c4) := (b1.cell 0).trans rfl
  have a1 : w6.cell? ⟨g1, 1, none⟩ = some (.bool ok4) := (b1.cell 1).trans rfl
  have fa0 := b1.frozen 0
  have fa1 := b1.frozen 1
  have a2 : w6.cell? ⟨g5, 3, none⟩ = some (.string ⟨#[]⟩) := (b5.cell 3).trans rfl
  have fa2 := b5.frozen 3
  have Hb1 := Lib.hid b1
  have Hb2 := Lib.hid b2
  have Hb3 := Lib.hid b3
  have Hb4 := Lib.hid b4
  have Hb5 := Lib.hid b5
  have HBW := Lib.hid hB
  clear hB b1 b2 b3 b4 b5
  go_upto_region 10 with fail
  have b1 : Blk (((w6.setCell ⟨g5, 3, none⟩ (.string v5)).setCell ⟨g1, 0, none⟩ (.slice A5 n5 c5)).setCell ⟨g1, 1, none⟩ (.bool ok5)) g1 #[.slice A5 n5 c5, .bool ok5] 99 := (Blk.setCells_other hn15 [.string v5] 3 Hb1.out).setCells [.slice A5 n5 c5, .bool ok5] 0
  have b2 : Blk (((w6.setCell ⟨g5, 3, none⟩ (.string v5)).setCell ⟨g1, 0, none⟩ (.slice A5 n5 c5)).setCell ⟨g1, 1, none⟩ (.bool ok5)) g2 #[.int .i64 0, .string ⟨#[]⟩, .bool false, .int .i64 0, .int .i64 0, .int .i64 0, .string ⟨#[]⟩] 47 := Blk.setCells_other (Ne.symm hn12) [.slice A5 n5 c5, .bool ok5] 0 (Blk.setCells_other hn25 [.string v5] 3 Hb2.out)
  have b3 : Blk (((w6.setCell ⟨g5, 3, none⟩ (.string v5)).setCell ⟨g1, 0, none⟩ (.slice A5 n5 c5)).setCell ⟨g1, 1, none⟩ (.bool ok5)) g3 #[.slice none 0 0, .bool false] 99 := Blk.setCells_other (Ne.symm hn13) [.slice A5 n5 c5, .bool ok5] 0 (Blk.setCells_other hn35 [.string v5] 3 Hb3.out)
  have b4 : Blk (((w6.setCell ⟨g5, 3, none⟩ (.string v5)).setCell ⟨g1, 0, none⟩ (.slice A5 n5 c5)).setCell ⟨g1, 1, none⟩ (.bool ok5)) g4 #[.int .i64 kd, .string kn] 43 := Blk.setCells_other (Ne.symm hn14) [.slice A5 n5 c5, .bool ok5] 0 (Blk.setCells_other hn45 [.string v5] 3 Hb4.out)
  have b5 : Blk (((w6.setCell ⟨g5, 3, none⟩ (.string v5)).setCell ⟨g1, 0, none⟩ (.slice A5 n5 c5)).setCell ⟨g1, 1, none⟩ (.bool ok5)) g5 #[.int .i64 v2, .int .i64 v3, .int .i64 v4, .string v5] 45 := Blk.setCells_other (Ne.symm hn15) [.slice A5 n5 c5, .bool ok5] 0 (Hb5.out.setCells [.string v5] 3)
  have hB : Below w.heap.size w (((w6.setCell ⟨g5, 3, none⟩ (.string v5)).setCell ⟨g1, 0, none⟩ (.slice A5 n5 c5)).setCell ⟨g1, 1, none⟩ (.bool ok5)) := bel_sets (bel_sets HBW.out hge5 3 [.string v5]) HGE.out.1 0 [.slice A5 n5 c5, .bool ok5]
  clear HBW a0 a1 fa0 fa1 Hb1 Hb2 Hb3 Hb4 Hb5 a2 fa2
  generalize ((w6.setCell ⟨g5, 3, none⟩ (.string v5)).setCell ⟨g1, 0, none⟩ (.slice A5 n5 c5)).setCell ⟨g1, 1, none⟩ (.bool ok5) = X5 at *
  have a1 : X5.cell? ⟨g1, 1, none⟩ = some (.bool ok5) := (b1.cell 1).trans rfl
  have fa1 := b1.frozen 1
  have HN : Hid (Read (gnode dnum dtxt) (stOf ok1 s1) ⟨v2, v3, v4, v5⟩ (stOf ok5 s5)) := rd2.bind (rd3.bind (rd4.bind (rd5.bind (Read.ret _ _))))
  cases ok5 with
  | false =>
    have h1k : Kp (fun k => k = g1) X5 (X5.setCell ⟨g1, 1, none⟩ (.bool false)) := Kp.setCell (S := fun k => k = g1) (Kp.refl _ _) (p := ⟨g1, 1, none⟩) rfl _
    go_upto_region 11 with fail
    have b1 : Blk (X5.setCell ⟨g1, 1, none⟩ (.bool false)) g1 #[.slice A5 n5 c5, .bool false] 99 := b1.set 1 (.bool false)
    have b2 := b2.kp h1k (Ne.symm hn12)
    have b3 := b3.kp h1k (Ne.symm hn13)
    have b4 := b4.kp h1k (Ne.symm hn14)
    have b5 := b5.kp h1k (Ne.symm hn15)
    have hB := below_kp hB h1k hB.size (fun k hk => by have := HGE.out.1; omega)
    clear h1k a1 fa1
    generalize X5.setCell ⟨g1, 1, none⟩ (.bool false) = X6 at *
    have HR : Hid (Read (gentry dnum dtxt) (stOf ok s) ⟨⟨kd, kn⟩, false, ⟨v2, v3, v4, v5⟩⟩ (stOf false s5)) := rd0.bind (rd1.bind (by show Read _ _ _ _; rw [if_neg h1]; exact HN.out.bind rfl))
    have t0 : X6.drew.cell? ⟨g1, 0, none⟩ = some (.slice A5 n5 c5) ∧ X6.drew.cell? ⟨g1, 1, none⟩ = some (.bool false) ∧ X6.drew.cell? ⟨g4, 0, none⟩ = some (.int .i64 kd) ∧ X6.drew.cell? ⟨g4, 1, none⟩ = some (.string kn) ∧ X6.drew.cell? ⟨g5, 0, none⟩ = some (.int .i64 v2) ∧ X6.drew.cell? ⟨g5, 1, none⟩ = some (.int .i64 v3) ∧ X6.drew.cell? ⟨g5, 2, none⟩ = some (.int .i64 v4) ∧ X6.drew.cell? ⟨g5, 3, none⟩ = some (.string v5) := ⟨(b1.cell 0).trans rfl, (b1.cell 1).trans rfl, (b4.cell 0).trans rfl, (b4.cell 1).trans rfl, (b5.cell 0).trans rfl, (b5.cell 1).trans rfl, (b5.cell 2).trans rfl, (b5.cell 3).trans rfl⟩
    obtain ⟨Y1, hY1⟩ : ∃ Y, Y = (X6.setCells g2 0 [.int .i64 kd, .string kn, .bool false, .int .i64 v2, .int .i64 v3, .int .i64 v4, .string v5]).drew := ⟨_, rfl⟩
    have b1y : Blk Y1 g1 #[.slice A5 n5 c5, .bool false] 99 := by rw [hY1]; exact (Blk.setCells_other hn12 [.int .i64 kd, .string kn, .bool false, .int .i64 v2, .int .i64 v3, .int .i64 v4, .string v5] 0 b1).drew
    have b1z : Blk (Y1.setCells g3 0 [.slice A5 n5 c5, .bool false]) g1 #[.slice A5 n5 c5, .bool false] 99 := Blk.setCells_other hn13 [.slice A5 n5 c5, .bool false] 0 b1y
    have b4y : Blk Y1 g4 #[.int .i64 kd, .string kn] 43 := by rw [hY1]; exact (Blk.setCells_other (Ne.symm hn24) [.int .i64 kd, .string kn, .bool false, .int .i64 v2, .int .i64 v3, .int .i64 v4, .string v5] 0 b4).drew
    have b4z : Blk (Y1.setCells g3 0 [.slice A5 n5 c5, .bool false]) g4 #[.int .i64 kd, .string kn] 43 := Blk.setCells_other (Ne.symm hn34) [.slice A5 n5 c5, .bool false] 0 b4y
    have b5y : Blk Y1 g5 #[.int .i64 v2, .int .i64 v3, .int .i64 v4, .string v5] 45 := by rw [hY1]; exact (Blk.setCells_other (Ne.symm hn25) [.int .i64 kd, .string kn, .bool false, .int .i64 v2, .int .i64 v3, .int .i64 v4, .string v5] 0 b5).drew
    have b5z : Blk (Y1.setCells g3 0 [.slice A5 n5 c5, .bool false]) g5 #[.int .i64 v2, .int .i64 v3, .int .i64 v4, .string v5] 45 := Blk.setCells_other (Ne.symm hn35) [.slice A5 n5 c5, .bool false] 0 b5y
    have b2y : Blk Y1 g2 #[.int .i64 kd, .string kn, .bool false, .int .i64 v2, .int .i64 v3, .int .i64 v4, .string v5] 47 := by rw [hY1]; exact (b2.setCells [.int .i64 kd, .string kn, .bool false, .int .i64 v2, .int .i64 v3, .int .i64 v4, .string v5] 0).drew
    have b3y : Blk Y1 g3 #[.slice none 0 0, .bool false] 99 := by rw [hY1]; exact (Blk.setCells_other (Ne.symm hn23) [.int .i64 kd, .string kn, .bool false, .int .i64 v2, .int .i64 v3, .int .i64 v4, .string v5] 0 b3).drew
    have zB1 : Below w.heap.size w Y1 := by rw [hY1]; exact bel_drew (bel_sets hB HGE.out.2.1 0 [.int .i64 kd, .string kn, .bool false, .int .i64 v2, .int .i64 v3, .int .i64 v4, .string v5])
    have t1 : Y1.cell? ⟨g1, 0, none⟩ = some (.slice A5 n5 c5) ∧ Y1.cell? ⟨g1, 1, none⟩ = some (.bool false) ∧ Y1.cell? ⟨g4, 0, none⟩ = some (.int .i64 kd) ∧ Y1.cell? ⟨g4, 1, none⟩ = some (.string kn) ∧ Y1.cell? ⟨g5, 0, none⟩ = some (.int .i64 v2) ∧ Y1.cell? ⟨g5, 1, none⟩ = some (.int .i64 v3) ∧ Y1.cell? ⟨g5, 2, none⟩ = some (.int .i64 v4) ∧ Y1.cell? ⟨g5, 3, none⟩ = some (.string v5) := ⟨(b1y.cell 0).trans rfl, (b1y.cell 1).trans rfl, (b4y.cell 0).trans rfl, (b4y.cell 1).trans rfl, (b5y.cell 0).trans rfl, (b5y.cell 1).trans rfl, (b5y.cell 2).trans rfl, (b5y.cell 3).trans rfl⟩
    have t2 : (Y1.setCells g3 0 [.slice A5 n5 c5, .bool false]).cell? ⟨g1, 0, none⟩ = some (.slice A5 n5 c5) ∧ (Y1.setCells g3 0 [.slice A5 n5 c5, .bool false]).cell? ⟨g1, 1, none⟩ = some (.bool false) ∧ (Y1.setCells g3 0 [.slice A5 n5 c5, .bool false]).cell? ⟨g4, 0, none⟩ = some (.int .i64 kd) ∧ (Y1.setCells g3 0 [.slice A5 n5 c5, .bool false]).cell? ⟨g4, 1, none⟩ = some (.string kn) ∧ (Y1.setCells g3 0 [.slice A5 n5 c5, .bool false]).cell? ⟨g5, 0, none⟩ = some (.int .i64 v2) ∧ (Y1.setCells g3 0 [.slice A5 n5 c5, .bool false]).cell? ⟨g5, 1, none⟩ = some (.int .i64 v3) ∧ (Y1.setCells g3 0 [.slice A5 n5 c5, .bool false]).cell? ⟨g5, 2, none⟩ = some (.int .i64 v4) ∧ (Y1.setCells g3 0 [.slice A5 n5 c5, .bool false]).cell? ⟨g5, 3, none⟩ = some (.string v5) := ⟨(b1z.cell 0).trans rfl, (b1z.cell 1).trans rfl, (b4z.cell 0).trans rfl, (b4z.cell 1).trans rfl, (b5z.cell 0).trans rfl, (b5z.cell 1).trans rfl, (b5z.cell 2).trans rfl, (b5z.cell 3).trans rfl⟩
    have z2 : Blk (Y1.setCells g3 0 [.slice A5 n5 c5, .bool false]) g2 #[.int .i64 kd, .string kn, .bool false, .int .i64 v2, .int .i64 v3, .int .i64 v4, .string v5] 47 := Blk.setCells_other hn23 [.slice A5 n5 c5, .bool false] 0 b2y
    have z3 : Blk (Y1.setCells g3 0 [.slice A5 n5 c5, .bool false]) g3 #[.slice A5 n5 c5, .bool false] 99 := b3y.setCells [.slice A5 n5 c5, .bool false] 0
    have zB : Below w.heap.size w (Y1.setCells g3 0 [.slice A5 n5 c5, .bool false]) := bel_sets zB1 HGE.out.2.2 0 [.slice A5 n5 c5, .bool false]
    have HF := Lib.hid (in2_fin (fn := Try.f60) (Q := DGot w0 (gentry dnum dtxt) (fun o : EntryD => .agg o.cells.toArray) (fun _ => True) (stOf ok s) w) (vs := [.int .i64 kd, .string kn, .bool false, .int .i64 v2, .int .i64 v3, .int .i64 v4, .string v5]) rfl z2 Try.underlying47 rfl size_entry z3 ⟨⟨⟨kd, kn⟩, false, ⟨v2, v3, v4, v5⟩⟩, A5, s5, c5, false, by rw [hn5x.out]; rfl, trivial, HD5.out, zB, HR.out⟩)
    have q0 : X6.cell? ⟨g2, 0, none⟩ = some (.int .i64 0) := (b2.cell 0).trans rfl
    have fq0 := b2.frozen 0
    have q1 : X6.cell? ⟨g2, 1, none⟩ = some (.string ⟨#[]⟩) := (b2.cell 1).trans rfl
    have fq1 := b2.frozen 1
    have q2 : X6.cell? ⟨g2, 2, none⟩ = some (.bool false) := (b2.cell 2).trans rfl
    have fq2 := b2.frozen 2
    have q3 : X6.cell? ⟨g2, 3, none⟩ = some (.int .i64 0) := (b2.cell 3).trans rfl
    have fq3 := b2.frozen 3
    have q4 : X6.cell? ⟨g2, 4, none⟩ = some (.int .i64 0) := (b2.cell 4).trans rfl
    have fq4 := b2.frozen 4
    have q5 : X6.cell? ⟨g2, 5, none⟩ = some (.int .i64 0) := (b2.cell 5).trans rfl
    have fq5 := b2.frozen 5
    have q6 : X6.cell? ⟨g2, 6, none⟩ = some (.string ⟨#[]⟩) := (b2.cell 6).trans rfl
    have fq6 := b2.frozen 6
    have r0 : Y1.cell? ⟨g3, 0, none⟩ = some (.slice none 0 0) := (b3y.cell 0).trans rfl
    have r1 : Y1.cell? ⟨g3, 1, none⟩ = some (.bool false) := (b3y.cell 1).trans rfl
    have fr0 := b3y.frozen 0
    have fr1 := b3y.frozen 1
    have t1h := t1
    rw [hY1] at t1h
    have Ht1h := Lib.hid t1h
    have Ht2 := Lib.hid t2
    have HhY1 := Lib.hid hY1
    clear t1h t2 hY1 t1 z2 z3 zB zB1 hB b2 b3 b2y b3y b1 b1y b1z b4 b4y b4z b5 b5y b5z
    refine wp_region_held_drew (S := fun w' => w'.cell? ⟨g1, 0, none⟩ = some (.slice A5 n5 c5) ∧ w'.cell? ⟨g1, 1, none⟩ = some (.bool false) ∧ w'.cell? ⟨g4, 0, none⟩ = some (.int .i64 kd) ∧ w'.cell? ⟨g4, 1, none⟩ = some (.string kn) ∧ w'.cell? ⟨g5, 0, none⟩ = some (.int .i64 v2) ∧ w'.cell? ⟨g5, 1, none⟩ = some (.int .i64 v3) ∧ w'.cell? ⟨g5, 2, none⟩ = some (.int .i64 v4) ∧ w'.cell? ⟨g5, 3, none⟩ = some (.string v5)) (by kernel_rfl) t0 (fun hHeld => ?_)
    refine' wpAnyH_take (i := 0) (oi := _) (v := ?v6) rfl (by kernel_rfl) (by kernel_rfl) (by kernel_rfl) (fun _ _ _ h => h) (Or.inl ⟨by rfl, ?hy6⟩) (by assumption) ?rest6
    case hy6 => (intro w hSw; obtain ⟨s0, s1, s2, s3, s4, s5, s6, s7⟩ := hSw; go_simp; (try with_reducible rfl))
    simp only [Act.put, List.setIfInBounds_toArray, List.set_cons_zero, List.set_cons_succ]
    refine' wpAnyH_take (i := 1) (oi := _) (v := ?v7) rfl (by kernel_rfl) (by kernel_rfl) (by kernel_rfl) (fun _ _ _ h => h) (Or.inl ⟨by rfl, ?hy7⟩) (by assumption) ?rest7
    case hy7 => (intro w hSw; obtain ⟨s0, s1, s2, s3, s4, s5, s6, s7⟩ := hSw; go_simp; (try with_reducible rfl))
    simp only [Act.put, List.setIfInBounds_toArray, List.set_cons_zero, List.set_cons_succ]
    refine' wpAnyH_take (i := 2) (oi := _) (v := ?v8) rfl (by kernel_rfl) (by kernel_rfl) (by kernel_rfl) (fun _ _ _ h => h) (Or.inl ⟨by rfl, ?hy8⟩) (by assumption) ?rest8
    case hy8 => (intro w hSw; obtain ⟨s0, s1, s2, s3, s4, s5, s6, s7⟩ := hSw; go_simp; (try with_reducible rfl))
    simp only [Act.put, List.setIfInBounds_toArray, List.set_cons_zero, List.set_cons_succ]
    refine' wpAnyH_take (i := 3) (oi := _) (v := ?v9) rfl (by kernel_rfl) (by kernel_rfl) (by kernel_rfl) (fun _ _ _ h => h) (Or.inl ⟨by rfl, ?hy9⟩) (by assumption) ?rest9
    case hy9 => (intro w hSw; obtain ⟨s0, s1, s2, s3, s4, s5, s6, s7⟩ := hSw; go_simp; (try with_reducible rfl))
    simp only [Act.put, List.setIfInBounds_toArray, List.set_cons_zero, List.set_cons_succ]
    clear t0
    refine wpAnyH_ready (rs := [4]) (by kernel_rfl) (by simp) ?_
    refine AllReadyH.cons rfl (fun K hK => ?_) AllReadyH.nil
    go_simp
    refine hK.out _ ((X6.setCells g2 0 [.int .i64 kd, .string kn, .bool false, .int .i64 v2, .int .i64 v3, .int .i64 v4, .string v5]).drew) Ht1h.out (fun hHeld => ?_)
    clear hK K
    try simp only [Act.put, List.setIfInBounds_toArray, List.set_cons_zero, List.set_cons_succ]
    rw [← HhY1.out]
    refine wpAnyH_ready (rs := [5]) (by kernel_rfl) (by simp) ?_
    refine AllReadyH.cons rfl (fun K hK => ?_) AllReadyH.nil
    go_simp
    refine hK.out _ (Y1.setCells g3 0 [.slice A5 n5 c5, .bool false]) Ht2.out (fun hHeld => ?_)
    clear hK K
    try simp only [Act.put, List.setIfInBounds_toArray, List.set_cons_zero, List.set_cons_succ]
    refine wpAnyH_done (by kernel_rfl) ?_ _
    go_wp2_with fail
    exact HF.out _ (by rfl) (by rfl)
  | true =>
    by_cases h0 : v1 = 0
    · subst h0
      have h1k : Kp (fun k => k = g1) X5 (X5.setCell ⟨g1, 1, none⟩ (.bool true)) := Kp.setCell (S := fun k => k = g1) (Kp.refl _ _) (p := ⟨g1, 1, none⟩) rfl _
      go_upto_region 11 with fail
      have b1 : Blk (X5.setCell ⟨g1, 1, none⟩ (.bool true)) g1 #[.slice A5 n5 c5, .bool true] 99 := b1.set 1 (.bool true)
      have b2 := b2.kp h1k (Ne.symm hn12)
      have b3 := b3.kp h1k (Ne.symm hn13)
      have b4 := b4.kp h1k (Ne.symm hn14)
      have b5 := b5.kp h1k (Ne.symm hn15)
      have hB := below_kp hB h1k hB.size (fun k hk => by have := HGE.out.1; omega)
      clear h1k a1 fa1
      generalize X5.setCell ⟨g1, 1, none⟩ (.bool true) = X6 at *
      have HR : Hid (Read (gentry dnum dtxt) (stOf ok s) ⟨⟨kd, kn⟩, false, ⟨v2, v3, v4, v5⟩⟩ (stOf true s5)) := rd0.bind (rd1.bind (read_entry0 _ _ HN.out))
      have t0 : X6.drew.cell? ⟨g1, 0, none⟩ = some (.slice A5 n5 c5) ∧ X6.drew.cell? ⟨g1, 1, none⟩ = some (.bool true) ∧ X6.drew.cell? ⟨g4, 0, none⟩ = some (.int .i64 kd) ∧ X6.drew.cell? ⟨g4, 1, none⟩ = some (.string kn) ∧ X6.drew.cell? ⟨g5, 0, none⟩ = some (.int .i64 v2) ∧ X6.drew.cell? ⟨g5, 1, none⟩ = some (.int .i64 v3) ∧ X6.drew.cell? ⟨g5, 2, none⟩ = some (.int .i64 v4) ∧ X6.drew.cell? ⟨g5, 3, none⟩ = some (.string v5) := ⟨(b1.cell 0).trans rfl, (b1.cell 1).trans rfl, (b4.cell 0).trans rfl, (b4.cell 1).trans rfl, (b5.cell 0).trans rfl, (b5.cell 1).trans rfl, (b5.cell 2).trans rfl, (b5.cell 3).trans rfl⟩
      obtain ⟨Y1, hY1⟩ : ∃ Y, Y = (X6.setCells g2 0 [.int .i64 kd, .string kn, .bool false, .int .i64 v2, .int .i64 v3, .int .i64 v4, .string v5]).drew := ⟨_, rfl⟩
      have b1y : Blk Y1 g1 #[.slice A5 n5 c5, .bool true] 99 := by rw [hY1]; exact (Blk.setCells_other hn12 [.int .i64 kd, .string kn, .bool false, .int .i64 v2, .int .i64 v3, .int .i64 v4, .string v5] 0 b1).drew
      have b1z : Blk (Y1.setCells g3 0 [.slice A5 n5 c5, .bool true]) g1 #[.slice A5 n5 c5, .bool true] 99 := Blk.setCells_other hn13 [.slice A5 n5 c5, .bool true] 0 b1y
      have b4y : Blk Y1 g4 #[.int .i64 kd, .string kn] 43 := by rw [hY1]; exact (Blk.setCells_other (Ne.symm hn24) [.int .i64 kd, .string kn, .bool false, .int .i64 v2, .int .i64 v3, .int .i64 v4, .string v5] 0 b4).drew
      have b4z : Blk (Y1.setCells g3 0 [.slice A5 n5 c5, .bool true]) g4 #[.int .i64 kd, .string kn] 43 := Blk.setCells_other (Ne.symm hn34) [.slice A5 n5 c5, .bool true] 0 b4y
      have b5y : Blk Y1 g5 #[.int .i64 v2, .int .i64 v3, .int .i64 v4, .string v5] 45 := by rw [hY1]; exact (Blk.setCells_other (Ne.symm hn25) [.int .i64 kd, .string kn, .bool false, .int .i64 v2, .int .i64 v3, .int .i64 v4, .string v5] 0 b5).drew
      have b5z : Blk (Y1.setCells g3 0 [.slice A5 n5 c5, .bool true]) g5 #[.int .i64 v2, .int .i64 v3, .int .i64 v4, .string v5] 45 := Blk.setCells_other (Ne.symm hn35) [.slice A5 n5 c5, .bool true] 0 b5y
      have b2y : Blk Y1 g2 #[.int .i64 kd, .string kn, .bool false, .int .i64 v2, .int .i64 v3, .int .i64 v4, .string v5] 47 := by rw [hY1]; exact (b2.setCells [.int .i64 kd, .string kn, .bool false, .int .i64 v2, .int .i64 v3, .int .i64 v4, .string v5] 0).drew
      have b3y : Blk Y1 g3 #[.slice none 0 0, .bool false] 99 := by rw [hY1]; exact (Blk.setCells_other (Ne.symm hn23) [.int .i64 kd, .string kn, .bool false, .int .i64 v2, .int .i64 v3, .int .i64 v4, .string v5] 0 b3).drew
      have zB1 : Below w.heap.size w Y1 := by rw [hY1]; exact bel_drew (bel_sets hB HGE.out.2.1 0 [.int .i64 kd, .string kn, .bool false, .int .i64 v2, .int .i64 v3, .int .i64 v4, .string v5])
      have t1 : Y1.cell? ⟨g1, 0, none⟩ = some (.slice A5 n5 c5) ∧ Y1.cell? ⟨g1, 1, none⟩ = some (.bool true) ∧ Y1.cell? ⟨g4, 0, none⟩ = some (.int .i64 kd) ∧ Y1.cell? ⟨g4, 1, none⟩ = some (.string kn) ∧ Y1.cell? ⟨g5, 0, none⟩ = some (.int .i64 v2) ∧ Y1.cell? ⟨g5, 1, none⟩ = some (.int .i64 v3) ∧ Y1.cell? ⟨g5, 2, none⟩ = some (.int .i64 v4) ∧ Y1.cell? ⟨g5, 3, none⟩ = some (.string v5) := ⟨(b1y.cell 0).trans rfl, (b1y.cell 1).trans rfl, (b4y.cell 0).trans rfl, (b4y.cell 1).trans rfl, (b5y.cell 0).trans rfl, (b5y.cell 1).trans rfl, (b5y.cell 2).trans rfl, (b5y.cell 3).trans rfl⟩
      have t2 : (Y1.setCells g3 0 [.slice A5 n5 c5, .bool true]).cell? ⟨g1, 0, none⟩ = some (.slice A5 n5 c5) ∧ (Y1.setCells g3 0 [.slice A5 n5 c5, .bool true]).cell? ⟨g1, 1, none⟩ = some (.bool true) ∧ (Y1.setCells g3 0 [.slice A5 n5 c5, .bool true]).cell? ⟨g4, 0, none⟩ = some (.int .i64 kd) ∧ (Y1.setCells g3 0 [.slice A5 n5 c5, .bool true]).cell? ⟨g4, 1, none⟩ = some (.string kn) ∧ (Y1.setCells g3 0 [.slice A5 n5 c5, .bool true]).cell? ⟨g5, 0, none⟩ = some (.int .i64 v2) ∧ (Y1.setCells g3 0 [.slice A5 n5 c5, .bool true]).cell? ⟨g5, 1, none⟩ = some (.int .i64 v3) ∧ (Y1.setCells g3 0 [.slice A5 n5 c5, .bool true]).cell? ⟨g5, 2, none⟩ = some (.int .i64 v4) ∧ (Y1.setCells g3 0 [.slice A5 n5 c5, .bool true]).cell? ⟨g5, 3, none⟩ = some (.string v5) := ⟨(b1z.cell 0).trans rfl, (b1z.cell 1).trans rfl, (b4z.cell 0).trans rfl, (b4z.cell 1).trans rfl, (b5z.cell 0).trans rfl, (b5z.cell 1).trans rfl, (b5z.cell 2).trans rfl, (b5z.cell 3).trans rfl⟩
      have z2 : Blk (Y1.setCells g3 0 [.slice A5 n5 c5, .bool true]) g2 #[.int .i64 kd, .string kn, .bool false, .int .i64 v2, .int .i64 v3, .int .i64 v4, .string v5] 47 := Blk.setCells_other hn23 [.slice A5 n5 c5, .bool true] 0 b2y
      have z3 : Blk (Y1.setCells g3 0 [.slice A5 n5 c5, .bool true]) g3 #[.slice A5 n5 c5, .bool true] 99 := b3y.setCells [.slice A5 n5 c5, .bool true] 0
      have zB : Below w.heap.size w (Y1.setCells g3 0 [.slice A5 n5 c5, .bool true]) := bel_sets zB1 HGE.out.2.2 0 [.slice A5 n5 c5, .bool true]
      have HF := Lib.hid (in2_fin (fn := Try.f60) (Q := DGot w0 (gentry dnum dtxt) (fun o : EntryD => .agg o.cells.toArray) (fun _ => True) (stOf ok s) w) (vs := [.int .i64 kd, .string kn, .bool false, .int .i64 v2, .int .i64 v3, .int .i64 v4, .string v5]) rfl z2 Try.underlying47 rfl size_entry z3 ⟨⟨⟨kd, kn⟩, false, ⟨v2, v3, v4, v5⟩⟩, A5, s5, c5, true, by rw [hn5x.out]; rfl, trivial, HD5.out, zB, HR.out⟩)
      have q0 : X6.cell? ⟨g2, 0, none⟩ = some (.int .i64 0) := (b2.cell 0).trans rfl
      have fq0 := b2.frozen 0
      have q1 : X6.cell? ⟨g2, 1, none⟩ = some (.string ⟨#[]⟩) := (b2.cell 1).trans rfl
      have fq1 := b2.frozen 1
      have q2 : X6.cell? ⟨g2, 2, none⟩ = some (.bool false) := (b2.cell 2).trans rfl
      have fq2 := b2.frozen 2
      have q3 : X6.cell? ⟨g2, 3, none⟩ = some (.int .i64 0) := (b2.cell 3).trans rfl
      have fq3 := b2.frozen 3
      have q4 : X6.cell? ⟨g2, 4, none⟩ = some (.int .i64 0) := (b2.cell 4).trans rfl
      have fq4 := b2.frozen 4
      have q5 : X6.cell? ⟨g2, 5, none⟩ = some (.int .i64 0) := (b2.cell 5).trans rfl
      have fq5 := b2.frozen 5
      have q6 : X6.cell? ⟨g2, 6, none⟩ = some (.string ⟨#[]⟩) := (b2.cell 6).trans rfl
      have fq6 := b2.frozen 6
      have r0 : Y1.cell? ⟨g3, 0, none⟩ = some (.slice none 0 0) := (b3y.cell 0).trans rfl
      have r1 : Y1.cell? ⟨g3, 1, none⟩ = some (.bool false) := (b3y.cell 1).trans rfl
      have fr0 := b3y.frozen 0
      have fr1 := b3y.frozen 1
      have t1h := t1
      rw [hY1] at t1h
      have Ht1h := Lib.hid t1h
      have Ht2 := Lib.hid t2
      have HhY1 := Lib.hid hY1
      clear t1h t2 hY1 t1 z2 z3 zB zB1 hB b2 b3 b2y b3y b1 b1y b1z b4 b4y b4z b5 b5y b5z
      refine wp_region_held_drew (S := fun w' => w'.cell? ⟨g1, 0, none⟩ = some (.slice A5 n5 c5) ∧ w'.cell? ⟨g1, 1, none⟩ = some (.bool true) ∧ w'.cell? ⟨g4, 0, none⟩ = some (.int .i64 kd) ∧ w'.cell? ⟨g4, 1, none⟩ = some (.string kn) ∧ w'.cell? ⟨g5, 0, none⟩ = some (.int .i64 v2) ∧ w'.cell? ⟨g5, 1, none⟩ = some (.int .i64 v3) ∧ w'.cell? ⟨g5, 2, none⟩ = some (.int .i64 v4) ∧ w'.cell? ⟨g5, 3, none⟩ = some (.string v5)) (by kernel_rfl) t0 (fun hHeld => ?_)
      refine' wpAnyH_take (i := 0) (oi := _) (v := ?v10) rfl (by kernel_rfl) (by kernel_rfl) (by kernel_rfl) (fun _ _ _ h => h) (Or.inl ⟨by rfl, ?hy10⟩) (by assumption) ?rest10
      case hy10 => (intro w hSw; obtain ⟨s0, s1, s2, s3, s4, s5, s6, s7⟩ := hSw; go_simp; (try with_reducible rfl))
      simp only [Act.put, List.setIfInBounds_toArray, List.set_cons_zero, List.set_cons_succ]
      refine' wpAnyH_take (i := 1) (oi := _) (v := ?v11) rfl (by kernel_rfl) (by kernel_rfl) (by kernel_rfl) (fun _ _ _ h => h) (Or.inl ⟨by rfl, ?hy11⟩) (by assumption) ?rest11
      case hy11 => (intro w hSw; obtain ⟨s0, s1, s2, s3, s4, s5, s6, s7⟩ := hSw; go_simp; (try with_reducible rfl))
      simp only [Act.put, List.setIfInBounds_toArray, List.set_cons_zero, List.set_cons_succ]
      refine' wpAnyH_take (i := 2) (oi := _) (v := ?v12) rfl (by kernel_rfl) (by kernel_rfl) (by kernel_rfl) (fun _ _ _ h => h) (Or.inl ⟨by rfl, ?hy12⟩) (by assumption) ?rest12
      case hy12 => (intro w hSw; obtain ⟨s0, s1, s2, s3, s4, s5, s6, s7⟩ := hSw; go_simp; (try with_reducible rfl))
      simp only [Act.put, List.setIfInBounds_toArray, List.set_cons_zero, List.set_cons_succ]
      refine' wpAnyH_take (i := 3) (oi := _) (v := ?v13) rfl (by kernel_rfl) (by kernel_rfl) (by kernel_rfl) (fun _ _ _ h => h) (Or.inl ⟨by rfl, ?hy13⟩) (by assumption) ?rest13
      case hy13 => (intro w hSw; obtain ⟨s0, s1, s2, s3, s4, s5, s6, s7⟩ := hSw; go_simp; (try with_reducible rfl))
      simp only [Act.put, List.setIfInBounds_toArray, List.set_cons_zero, List.set_cons_succ]
      clear t0
      refine wpAnyH_ready (rs := [4]) (by kernel_rfl) (by simp) ?_
      refine AllReadyH.cons rfl (fun K hK => ?_) AllReadyH.nil
      go_simp
      refine hK.out _ ((X6.setCells g2 0 [.int .i64 kd, .string kn, .bool false, .int .i64 v2, .int .i64 v3, .int .i64 v4, .string v5]).drew) Ht1h.out (fun hHeld => ?_)
      clear hK K
      try simp only [Act.put, List.setIfInBounds_toArray, List.set_cons_zero, List.set_cons_succ]
      rw [← HhY1.out]
      refine wpAnyH_ready (rs := [5]) (by kernel_rfl) (by simp) ?_
      refine AllReadyH.cons rfl (fun K hK => ?_) AllReadyH.nil
      go_simp
      refine hK.out _ (Y1.setCells g3 0 [.slice A5 n5 c5, .bool true]) Ht2.out (fun hHeld => ?_)
      clear hK K
      try simp only [Act.put, List.setIfInBounds_toArray, List.set_cons_zero, List.set_cons_succ]
      refine wpAnyH_done (by kernel_rfl) ?_ _
      go_wp2_with fail
      exact HF.out _ (by rfl) (by rfl)
    · have e0 : (v1 == 0) = false := by simp [h0]
      have h1k : Kp (fun k => k = g1) X5 (X5.setCell ⟨g1, 1, none⟩ (.bool false)) := Kp.setCell (S := fun k => k = g1) (Kp.refl _ _) (p := ⟨g1, 1, none⟩) rfl _
      go_upto_region 11 with fail
      have b1 : Blk (X5.setCell ⟨g1, 1, none⟩ (.bool false)) g1 #[.slice A5 n5 c5, .bool false] 99 := b1.set 1 (.bool false)
      have b2 := b2.kp h1k (Ne.symm hn12)
      have b3 := b3.kp h1k (Ne.symm hn13)
      have b4 := b4.kp h1k (Ne.symm hn14)
      have b5 := b5.kp h1k (Ne.symm hn15)
      have hB := below_kp hB h1k hB.size (fun k hk => by have := HGE.out.1; omega)
      clear h1k a1 fa1
      generalize X5.setCell ⟨g1, 1, none⟩ (.bool false) = X6 at *
      have HR : Hid (Read (gentry dnum dtxt) (stOf ok s) ⟨⟨kd, kn⟩, false, ⟨v2, v3, v4, v5⟩⟩ (stOf false s5)) := rd0.bind (rd1.bind (Read.fail (read_entry2 _ h0 h1) _ _))
      have t0 : X6.drew.cell? ⟨g1, 0, none⟩ = some (.slice A5 n5 c5) ∧ X6.drew.cell? ⟨g1, 1, none⟩ = some (.bool false) ∧ X6.drew.cell? ⟨g4, 0, none⟩ = some (.int .i64 kd) ∧ X6.drew.cell? ⟨g4, 1, none⟩ = some (.string kn) ∧ X6.drew.cell? ⟨g5, 0, none⟩ = some (.int .i64 v2) ∧ X6.drew.cell? ⟨g5, 1, none⟩ = some (.int .i64 v3) ∧ X6.drew.cell? ⟨g5, 2, none⟩ = some (.int .i64 v4) ∧ X6.drew.cell? ⟨g5, 3, none⟩ = some (.string v5) := ⟨(b1.cell 0).trans rfl, (b1.cell 1).trans rfl, (b4.cell 0).trans rfl, (b4.cell 1).trans rfl, (b5.cell 0).trans rfl, (b5.cell 1).trans rfl, (b5.cell 2).trans rfl, (b5.cell 3).trans rfl⟩
      obtain ⟨Y1, hY1⟩ : ∃ Y, Y = (X6.setCells g2 0 [.int .i64 kd, .string kn, .bool false, .int .i64 v2, .int .i64 v3, .int .i64 v4, .string v5]).drew := ⟨_, rfl⟩
      have b1y : Blk Y1 g1 #[.slice A5 n5 c5, .bool false] 99 := by rw [hY1]; exact (Blk.setCells_other hn12 [.int .i64 kd, .string kn, .bool false, .int .i64 v2, .int .i64 v3, .int .i64 v4, .string v5] 0 b1).drew
      have b1z : Blk (Y1.setCells g3 0 [.slice A5 n5 c5, .bool false]) g1 #[.slice A5 n5 c5, .bool false] 99 := Blk.setCells_other hn13 [.slice A5 n5 c5, .bool false] 0 b1y
      have b4y : Blk Y1 g4 #[.int .i64 kd, .string kn] 43 := by rw [hY1]; exact (Blk.setCells_other (Ne.symm hn24) [.int .i64 kd, .string kn, .bool false, .int .i64 v2, .int .i64 v3, .int .i64 v4, .string v5] 0 b4).drew
      have b4z : Blk (Y1.setCells g3 0 [.slice A5 n5 c5, .bool false]) g4 #[.int .i64 kd, .string kn] 43 := Blk.setCells_other (Ne.symm hn34) [.slice A5 n5 c5, .bool false] 0 b4y
      have b5y : Blk Y1 g5 #[.int .i64 v2, .int .i64 v3, .int .i64 v4, .string v5] 45 := by rw [hY1]; exact (Blk.setCells_other (Ne.symm hn25) [.int .i64 kd, .string kn, .bool false, .int .i64 v2, .int .i64 v3, .int .i64 v4, .string v5] 0 b5).drew
      have b5z : Blk (Y1.setCells g3 0 [.slice A5 n5 c5, .bool false]) g5 #[.int .i64 v2, .int .i64 v3, .int .i64 v4, .string v5] 45 := Blk.setCells_other (Ne.symm hn35) [.slice A5 n5 c5, .bool false] 0 b5y
      have b2y : Blk Y1 g2 #[.int .i64 kd, .string kn, .bool false, .int .i64 v2, .int .i64 v3, .int .i64 v4, .string v5] 47 := by rw [hY1]; exact (b2.setCells [.int .i64 kd, .string kn, .bool false, .int .i64 v2, .int .i64 v3, .int .i64 v4, .string v5] 0).drew
      have b3y : Blk Y1 g3 #[.slice none 0 0, .bool false] 99 := by rw [hY1]; exact (Blk.setCells_other (Ne.symm hn23) [.int .i64 kd, .string kn, .bool false, .int .i64 v2, .int .i64 v3, .int .i64 v4, .string v5] 0 b3).drew
      have zB1 : Below w.heap.size w Y1 := by rw [hY1]; exact bel_drew (bel_sets hB HGE.out.2.1 0 [.int .i64 kd, .string kn, .bool false, .int .i64 v2, .int .i64 v3, .int .i64 v4, .string v5])
      have t1 : Y1.cell? ⟨g1, 0, none⟩ = some (.slice A5 n5 c5) ∧ Y1.cell? ⟨g1, 1, none⟩ = some (.bool false) ∧ Y1.cell? ⟨g4, 0, none⟩ = some (.int .i64 kd) ∧ Y1.cell? ⟨g4, 1, none⟩ = some (.string kn) ∧ Y1.cell? ⟨g5, 0, none⟩ = some (.int .i64 v2) ∧ Y1.cell? ⟨g5, 1, none⟩ = some (.int .i64 v3) ∧ Y1.cell? ⟨g5, 2, none⟩ = some (.int .i64 v4) ∧ Y1.cell? ⟨g5, 3, none⟩ = some (.string v5) := ⟨(b1y.cell 0).trans rfl, (b1y.cell 1).trans rfl, (b4y.cell 0).trans rfl, (b4y.cell 1).trans rfl, (b5y.cell 0).trans rfl, (b5y.cell 1).trans rfl, (b5y.cell 2).trans rfl, (b5y.cell 3).trans rfl⟩
      have t2 : (Y1.setCells g3 0 [.slice A5 n5 c5, .bool false]).cell? ⟨g1, 0, none⟩ = some (.slice A5 n5 c5) ∧ (Y1.setCells g3 0 [.slice A5 n5 c5, .bool false]).cell? ⟨g1, 1, none⟩ = some (.bool false) ∧ (Y1.setCells g3 0 [.slice A5 n5 c5, .bool false]).cell? ⟨g4, 0, none⟩ = some (.int .i64 kd) ∧ (Y1.setCells g3 0 [.slice A5 n5 c5, .bool false]).cell? ⟨g4, 1, none⟩ = some (.string kn) ∧ (Y1.setCells g3 0 [.slice A5 n5 c5, .bool false]).cell? ⟨g5, 0, none⟩ = some (.int .i64 v2) ∧ (Y1.setCells g3 0 [.slice A5 n5 c5, .bool false]).cell? ⟨g5, 1, none⟩ = some (.int .i64 v3) ∧ (Y1.setCells g3 0 [.slice A5 n5 c5, .bool false]).cell? ⟨g5, 2, none⟩ = some (.int .i64 v4) ∧ (Y1.setCells g3 0 [.slice A5 n5 c5, .bool false]).cell? ⟨g5, 3, none⟩ = some (.string v5) := ⟨(b1z.cell 0).trans rfl, (b1z.cell 1).trans rfl, (b4z.cell 0).trans rfl, (b4z.cell 1).trans rfl, (b5z.cell 0).trans rfl, (b5z.cell 1).trans rfl, (b5z.cell 2).trans rfl, (b5z.cell 3).trans rfl⟩
      have z2 : Blk (Y1.setCells g3 0 [.slice A5 n5 c5, .bool false]) g2 #[.int .i64 kd, .string kn, .bool false, .int .i64 v2, .int .i64 v3, .int .i64 v4, .string v5] 47 := Blk.setCells_other hn23 [.slice A5 n5 c5, .bool false] 0 b2y
      have z3 : Blk (Y1.setCells g3 0 [.slice A5 n5 c5, .bool false]) g3 #[.slice A5 n5 c5, .bool false] 99 := b3y.setCells [.slice A5 n5 c5, .bool false] 0
      have zB : Below w.heap.size w (Y1.setCells g3 0 [.slice A5 n5 c5, .bool false]) := bel_sets zB1 HGE.out.2.2 0 [.slice A5 n5 c5, .bool false]
      have HF := Lib.hid (in2_fin (fn := Try.f60) (Q := DGot w0 (gentry dnum dtxt) (fun o : EntryD => .agg o.cells.toArray) (fun _ => True) (stOf ok s) w) (vs := [.int .i64 kd, .string kn, .bool false, .int .i64 v2, .int .i64 v3, .int .i64 v4, .string v5]) rfl z2 Try.underlying47 rfl size_entry z3 ⟨⟨⟨kd, kn⟩, false, ⟨v2, v3, v4, v5⟩⟩, A5, s5, c5, false, by rw [hn5x.out]; rfl, trivial, HD5.out, zB, HR.out⟩)
      have q0 : X6.cell? ⟨g2, 0, none⟩ = some (.int .i64 0) := (b2.cell 0).trans rfl
      have fq0 := b2.frozen 0
      have q1 : X6.cell? ⟨g2, 1, none⟩ = some (.string ⟨#[]⟩) := (b2.cell 1).trans rfl
      have fq1 := b2.frozen 1
      have q2 : X6.cell? ⟨g2, 2, none⟩ = some (.bool false) := (b2.cell 2).trans rfl
      have fq2 := b2.frozen 2
      have q3 : X6.cell? ⟨g2, 3, none⟩ = some (.int .i64 0) := (b2.cell 3).trans rfl
      have fq3 := b2.frozen 3
      have q4 : X6.cell? ⟨g2, 4, none⟩ = some (.int .i64 0) := (b2.cell 4).trans rfl
      have fq4 := b2.frozen 4
      have q5 : X6.cell? ⟨g2, 5, none⟩ = some (.int .i64 0) := (b2.cell 5).trans rfl
      have fq5 := b2.frozen 5
      have q6 : X6.cell? ⟨g2, 6, none⟩ = some (.string ⟨#[]⟩) := (b2.cell 6).trans rfl
      have fq6 := b2.frozen 6
      have r0 : Y1.cell? ⟨g3, 0, none⟩ = some (.slice none 0 0) := (b3y.cell 0).trans rfl
      have r1 : Y1.cell? ⟨g3, 1, none⟩ = some (.bool false) := (b3y.cell 1).trans rfl
      have fr0 := b3y.frozen 0
      have fr1 := b3y.frozen 1
      have t1h := t1
      rw [hY1] at t1h
      have Ht1h := Lib.hid t1h
      have Ht2 := Lib.hid t2
      have HhY1 := Lib.hid hY1
      clear t1h t2 hY1 t1 z2 z3 zB zB1 hB b2 b3 b2y b3y b1 b1y b1z b4 b4y b4z b5 b5y b5z
      refine wp_region_held_drew (S := fun w' => w'.cell? ⟨g1, 0, none⟩ = some (.slice A5 n5 c5) ∧ w'.cell? ⟨g1, 1, none⟩ = some (.bool false) ∧ w'.cell? ⟨g4, 0, none⟩ = some (.int .i64 kd) ∧ w'.cell? ⟨g4, 1, none⟩ = some (.string kn) ∧ w'.cell? ⟨g5, 0, none⟩ = some (.int .i64 v2) ∧ w'.cell? ⟨g5, 1, none⟩ = some (.int .i64 v3) ∧ w'.cell? ⟨g5, 2, none⟩ = some (.int .i64 v4) ∧ w'.cell? ⟨g5, 3, none⟩ = some (.string v5)) (by kernel_rfl) t0 (fun hHeld => ?_)
      refine' wpAnyH_take (i := 0) (oi := _) (v := ?v14) rfl (by kernel_rfl) (by kernel_rfl) (by kernel_rfl) (fun _ _ _ h => h) (Or.inl ⟨by rfl, ?hy14⟩) (by assumption) ?rest14
      case hy14 => (intro w hSw; obtain ⟨s0, s1, s2, s3, s4, s5, s6, s7⟩ := hSw; go_simp; (try with_reducible rfl))
      simp only [Act.put, List.setIfInBounds_toArray, List.set_cons_zero, List.set_cons_succ]
      refine' wpAnyH_take (i := 1) (oi := _) (v := ?v15) rfl (by kernel_rfl) (by kernel_rfl) (by kernel_rfl) (fun _ _ _ h => h) (Or.inl ⟨by rfl, ?hy15⟩) (by assumption) ?rest15
      case hy15 => (intro w hSw; obtain ⟨s0, s1, s2, s3, s4, s5, s6, s7⟩ := hSw; go_simp; (try with_reducible rfl))
      simp only [Act.put, List.setIfInBounds_toArray, List.set_cons_zero, List.set_cons_succ]
      refine' wpAnyH_take (i := 2) (oi := _) (v := ?v16) rfl (by kernel_rfl) (by kernel_rfl) (by kernel_rfl) (fun _ _ _ h => h) (Or.inl ⟨by rfl, ?hy16⟩) (by assumption) ?rest16
      case hy16 => (intro w hSw; obtain ⟨s0, s1, s2, s3, s4, s5, s6, s7⟩ := hSw; go_simp; (try with_reducible rfl))
      simp only [Act.put, List.setIfInBounds_toArray, List.set_cons_zero, List.set_cons_succ]
      refine' wpAnyH_take (i := 3) (oi := _) (v := ?v17) rfl (by kernel_rfl) (by kernel_rfl) (by kernel_rfl) (fun _ _ _ h => h) (Or.inl ⟨by rfl, ?hy17⟩) (by assumption) ?rest17
      case hy17 => (intro w hSw; obtain ⟨s0, s1, s2, s3, s4, s5, s6, s7⟩ := hSw; go_simp; (try with_reducible rfl))
      simp only [Act.put, List.setIfInBounds_toArray, List.set_cons_zero, List.set_cons_succ]
      clear t0
      refine wpAnyH_ready (rs := [4]) (by kernel_rfl) (by simp) ?_
      refine AllReadyH.cons rfl (fun K hK => ?_) AllReadyH.nil
      go_simp
      refine hK.out _ ((X6.setCells g2 0 [.int .i64 kd, .string kn, .bool false, .int .i64 v2, .int .i64 v3, .int .i64 v4, .string v5]).drew) Ht1h.out (fun hHeld => ?_)
      clear hK K
      try simp only [Act.put, List.setIfInBounds_toArray, List.set_cons_zero, List.set_cons_succ]
      rw [← HhY1.out]
      refine wpAnyH_ready (rs := [5]) (by kernel_rfl) (by simp) ?_
      refine AllReadyH.cons rfl (fun K hK => ?_) AllReadyH.nil
      go_simp
      refine hK.out _ (Y1.setCells g3 0 [.slice A5 n5 c5, .bool false]) Ht2.out (fun hHeld => ?_)
      clear hK K
      try simp only [Act.put, List.setIfInBounds_toArray, List.set_cons_zero, List.set_cons_succ]
      refine wpAnyH_done (by kernel_rfl) ?_ _
      go_wp2_with fail
      exact HF.out _ (by rfl) (by rfl)

end Go.Proofs.Ytmhcjkiaogimgaa
