/- The document's key1. -/
import Derived.Test.YtmhcjkiaogimgaaDrD
namespace Go.Proofs.Ytmhcjkiaogimgaa
open Go.RowKit

set_option maxRecDepth 100000 in
set_option maxHeartbeats 8000000 in
theorem dkey_any (w0 w : World) (hw : Below w0.heap.size w0 w) (A : Option Addr) (c : Nat) (s : List Int) (ok : Bool) (h : DS w0 A c s) :
    Calls Try.prog 82 #[.agg #[.slice A s.length c, .bool ok]] w (DGot w0 (gkey dnum dtxt) (fun o => .agg o.cells.toArray) (fun _ => True) (stOf ok s) w) := by
  obtain ⟨n, hn⟩ : ∃ n, Hid (n = s.length) := ⟨_, rfl⟩
  have HD := Lib.hid h
  clear h
  rw [← hn.out]
  have HA : Hid (∀ V, V = ((w.alloc (.cells #[.slice A n c, .bool ok] 99)).alloc (.cells #[.int .i64 0, .string ⟨#[]⟩] 43)).alloc (.cells #[.slice none 0 0, .bool false] 99) → Blk V w.heap.size #[.slice A n c, .bool ok] 99 ∧ Blk V (w.heap.size + 1) #[.int .i64 0, .string ⟨#[]⟩] 43 ∧ Blk V (w.heap.size + 1 + 1) #[.slice none 0 0, .bool false] 99 ∧ Below w.heap.size w V) := by
    rintro V rfl
    have e1 : (w.alloc (.cells #[.slice A n c, .bool ok] 99)).heap.size = w.heap.size + 1 := by simp
    have e2 : ((w.alloc (.cells #[.slice A n c, .bool ok] 99)).alloc (.cells #[.int .i64 0, .string ⟨#[]⟩] 43)).heap.size = w.heap.size + 1 + 1 := by simp
    have k1 := Blk.new w #[.slice A n c, .bool ok] 99
    have k2 := Blk.new (w.alloc (.cells #[.slice A n c, .bool ok] 99)) #[.int .i64 0, .string ⟨#[]⟩] 43
    have k3 := Blk.new ((w.alloc (.cells #[.slice A n c, .bool ok] 99)).alloc (.cells #[.int .i64 0, .string ⟨#[]⟩] 43)) #[.slice none 0 0, .bool false] 99
    rw [e1] at k2
    rw [e2] at k3
    exact ⟨(k1.alloc _).alloc _, k2.alloc _, k3, bel_al (bel_al (bel_al (Below.refl _ _) _) _) _⟩
  go_enter Try.func82, Try.ntmps82
  go_upto_region 1 with fail
  obtain ⟨V, hV⟩ : ∃ V, V = ((w.alloc (.cells #[.slice A n c, .bool ok] 99)).alloc (.cells #[.int .i64 0, .string ⟨#[]⟩] 43)).alloc (.cells #[.slice none 0 0, .bool false] 99) := ⟨_, rfl⟩
  obtain ⟨b1, b2, b3, hB⟩ := HA.out V hV
  rw [← hV]
  clear hV HA
  obtain ⟨g1, hg1⟩ : ∃ g, w.heap.size = g := ⟨_, rfl⟩
  rw [hg1] at b1 b2 b3 ⊢
  generalize hg2 : g1 + 1 = g2 at b2 b3 ⊢
  generalize hg3 : g2 + 1 = g3 at b3 ⊢
  have hn12 : g1 ≠ g2 := by omega
  have hn13 : g1 ≠ g3 := by omega
  have hn23 : g2 ≠ g3 := by omega
  have HGE : Hid (w.heap.size ≤ g1 ∧ w.heap.size ≤ g2 ∧ w.heap.size ≤ g3) := by show _ ∧ _; omega
  clear hg1 hg2 hg3
  have a0 : V.cell? ⟨g1, 0, none⟩ = some (.slice A n c) := (b1.cell 0).trans rfl
  have a1 : V.cell? ⟨g1, 1, none⟩ = some (.bool ok) := (b1.cell 1).trans rfl
  have Hb1 := Lib.hid b1
  have Hb2 := Lib.hid b2
  have Hb3 := Lib.hid b3
  have HBW := Lib.hid hB
  clear b1 b2 b3 hB
  go_wp2_with fail
  rw [hn.out]
  refine (dnum_any w0 V (hw.trans (HBW.out.mono hw.size)) A c s ok HD.out).mono ?_
  rintro e w1 ⟨v0, A0, s0, c0, ok0, rfl, _, hD0, hbel, rd0⟩
  obtain ⟨n0, hn0⟩ : ∃ m, Hid (m = s0.length) := ⟨_, rfl⟩
  rw [← hn0.out, ← hn.out]
  have HD0 := Lib.hid hD0
  have b1 := Hb1.out.kp (S := fun _ => False) (Kp.of_below hbel) (fun h => h)
  have b2 := Hb2.out.kp (S := fun _ => False) (Kp.of_below hbel) (fun h => h)
  have b3 := Hb3.out.kp (S := fun _ => False) (Kp.of_below hbel) (fun h => h)
  have hB := bel_next HBW.out hbel
  clear Hb1 Hb2 Hb3 HBW hbel a0 a1 hD0
  have a0 : w1.cell? ⟨g1, 0, none⟩ = some (.slice A n c) := (b1.cell 0).trans rfl
  have a1 : w1.cell? ⟨g1, 1, none⟩ = some (.bool ok) := (b1.cell 1).trans rfl
  have fa0 := b1.frozen 0
  have fa1 := b1.frozen 1
  have Hb1 := Lib.hid b1
  have Hb2 := Lib.hid b2
  have Hb3 := Lib.hid b3
  have HBW := Lib.hid hB
  clear b1 b2 b3 hB
  go_upto_region 2 with fail
  have b1 : Blk ((w1.setCell ⟨g1, 0, none⟩ (.slice A0 n0 c0)).setCell ⟨g1, 1, none⟩ (.bool ok0)) g1 #[.slice A0 n0 c0, .bool ok0] 99 := Hb1.out.setCells [.slice A0 n0 c0, .bool ok0] 0
  have b2 : Blk ((w1.setCell ⟨g1, 0, none⟩ (.slice A0 n0 c0)).setCell ⟨g1, 1, none⟩ (.bool ok0)) g2 #[.int .i64 0, .string ⟨#[]⟩] 43 := Blk.setCells_other (Ne.symm hn12) [.slice A0 n0 c0, .bool ok0] 0 Hb2.out
  have b3 : Blk ((w1.setCell ⟨g1, 0, none⟩ (.slice A0 n0 c0)).setCell ⟨g1, 1, none⟩ (.bool ok0)) g3 #[.slice none 0 0, .bool false] 99 := Blk.setCells_other (Ne.symm hn13) [.slice A0 n0 c0, .bool ok0] 0 Hb3.out
  have hB : Below w.heap.size w ((w1.setCell ⟨g1, 0, none⟩ (.slice A0 n0 c0)).setCell ⟨g1, 1, none⟩ (.bool ok0)) := bel_sets HBW.out HGE.out.1 0 [.slice A0 n0 c0, .bool ok0]
  clear Hb1 Hb2 Hb3 HBW a0 a1 fa0 fa1
  generalize (w1.setCell ⟨g1, 0, none⟩ (.slice A0 n0 c0)).setCell ⟨g1, 1, none⟩ (.bool ok0) = X0 at *
  have a0 : X0.cell? ⟨g1, 0, none⟩ = some (.slice A0 n0 c0) := (b1.cell 0).trans rfl
  have a1 : X0.cell? ⟨g1, 1, none⟩ = some (.bool ok0) := (b1.cell 1).trans rfl
  have Hb1 := Lib.hid b1
  have Hb2 := Lib.hid b2
  have Hb3 := Lib.hid b3
  have HBW := Lib.hid hB
  clear b1 b2 b3 hB
  go_wp2_with fail
  rw [hn0.out]
  refine (dtxt_any w0 X0 (hw.trans (HBW.out.mono hw.size)) A0 c0 s0 ok0 HD0.out).mono ?_
  rintro e w2 ⟨v1, A1, s1, c1, ok1, rfl, _, hD1, hbel, rd1⟩
  obtain ⟨n1, hn1⟩ : ∃ m, Hid (m = s1.length) := ⟨_, rfl⟩
  rw [← hn1.out, ← hn0.out]
  have HD1 := Lib.hid hD1
  have b1 := Hb1.out.kp (S := fun _ => False) (Kp.of_below hbel) (fun h => h)
  have b2 := Hb2.out.kp (S := fun _ => False) (Kp.of_below hbel) (fun h => h)
  have b3 := Hb3.out.kp (S := fun _ => False) (Kp.of_below hbel) (fun h => h)
  have hB := bel_next HBW.out hbel
  clear Hb1 Hb2 Hb3 HBW hbel a0 a1 hD1
  have a0 : w2.cell? ⟨g1, 0, none⟩ = some (.slice A0 n0 c0) := (b1.cell 0).trans rfl
  have a1 : w2.cell? ⟨g1, 1, none⟩ = some (.bool ok0) := (b1.cell 1).trans rfl
  have fa0 := b1.frozen 0
  have fa1 := b1.frozen 1
  have Hb1 := Lib.hid b1
  have Hb2 := Lib.hid b2
  have Hb3 := Lib.hid b3
  have HBW := Lib.hid hB
  clear b1 b2 b3 hB
  go_upto_region 3 with fail
  have b1 : Blk ((w2.setCell ⟨g1, 0, none⟩ (.slice A1 n1 c1)).setCell ⟨g1, 1, none⟩ (.bool ok1)) g1 #[.slice A1 n1 c1, .bool ok1] 99 := Hb1.out.setCells [.slice A1 n1 c1, .bool ok1] 0
  have b2 : Blk ((w2.setCell ⟨g1, 0, none⟩ (.slice A1 n1 c1)).setCell ⟨g1, 1, none⟩ (.bool ok1)) g2 #[.int .i64 0, .string ⟨#[]⟩] 43 := Blk.setCells_other (Ne.symm hn12) [.slice A1 n1 c1, .bool ok1] 0 Hb2.out
  have b3 : Blk ((w2.setCell ⟨g1, 0, none⟩ (.slice A1 n1 c1)).setCell ⟨g1, 1, none⟩ (.bool ok1)) g3 #[.slice none 0 0, .bool false] 99 := Blk.setCells_other (Ne.symm hn13) [.slice A1 n1 c1, .bool ok1] 0 Hb3.out
  have hB : Below w.heap.size w ((w2.setCell ⟨g1, 0, none⟩ (.slice A1 n1 c1)).setCell ⟨g1, 1, none⟩ (.bool ok1)) := bel_sets HBW.out HGE.out.1 0 [.slice A1 n1 c1, .bool ok1]
  clear Hb1 Hb2 Hb3 HBW a0 a1 fa0 fa1
  generalize (w2.setCell ⟨g1, 0, none⟩ (.slice A1 n1 c1)).setCell ⟨g1, 1, none⟩ (.bool ok1) = X1 at *
  have HR : Hid (Read (gkey dnum dtxt) (stOf ok s) ⟨v0, v1⟩ (stOf ok1 s1)) := rd0.bind (rd1.bind (Read.ret _ _))
  have t0 : X1.drew.cell? ⟨g1, 0, none⟩ = some (.slice A1 n1 c1) ∧ X1.drew.cell? ⟨g1, 1, none⟩ = some (.bool ok1) := ⟨(b1.cell 0).trans rfl, (b1.cell 1).trans rfl⟩
  obtain ⟨Y1, hY1⟩ : ∃ Y, Y = (X1.setCells g2 0 [.int .i64 v0, .string v1]).drew := ⟨_, rfl⟩
  have b1y : Blk Y1 g1 #[.slice A1 n1 c1, .bool ok1] 99 := by rw [hY1]; exact (Blk.setCells_other hn12 [.int .i64 v0, .string v1] 0 b1).drew
  have b1z : Blk (Y1.setCells g3 0 [.slice A1 n1 c1, .bool ok1]) g1 #[.slice A1 n1 c1, .bool ok1] 99 := Blk.setCells_other hn13 [.slice A1 n1 c1, .bool ok1] 0 b1y
  have b2y : Blk Y1 g2 #[.int .i64 v0, .string v1] 43 := by rw [hY1]; exact (b2.setCells [.int .i64 v0, .string v1] 0).drew
  have b3y : Blk Y1 g3 #[.slice none 0 0, .bool false] 99 := by rw [hY1]; exact (Blk.setCells_other (Ne.symm hn23) [.int .i64 v0, .string v1] 0 b3).drew
  have zB1 : Below w.heap.size w Y1 := by rw [hY1]; exact bel_drew (bel_sets hB HGE.out.2.1 0 [.int .i64 v0, .string v1])
  have t1 : Y1.cell? ⟨g1, 0, none⟩ = some (.slice A1 n1 c1) ∧ Y1.cell? ⟨g1, 1, none⟩ = some (.bool ok1) := ⟨(b1y.cell 0).trans rfl, (b1y.cell 1).trans rfl⟩
  have t2 : (Y1.setCells g3 0 [.slice A1 n1 c1, .bool ok1]).cell? ⟨g1, 0, none⟩ = some (.slice A1 n1 c1) ∧ (Y1.setCells g3 0 [.slice A1 n1 c1, .bool ok1]).cell? ⟨g1, 1, none⟩ = some (.bool ok1) := ⟨(b1z.cell 0).trans rfl, (b1z.cell 1).trans rfl⟩
  have z2 : Blk (Y1.setCells g3 0 [.slice A1 n1 c1, .bool ok1]) g2 #[.int .i64 v0, .string v1] 43 := Blk.setCells_other hn23 [.slice A1 n1 c1, .bool ok1] 0 b2y
  have z3 : Blk (Y1.setCells g3 0 [.slice A1 n1 c1, .bool ok1]) g3 #[.slice A1 n1 c1, .bool ok1] 99 := b3y.setCells [.slice A1 n1 c1, .bool ok1] 0
  have zB : Below w.heap.size w (Y1.setCells g3 0 [.slice A1 n1 c1, .bool ok1]) := bel_sets zB1 HGE.out.2.2 0 [.slice A1 n1 c1, .bool ok1]
  have HF := Lib.hid (in2_fin (fn := Try.f82) (Q := DGot w0 (gkey dnum dtxt) (fun o : KeyD => .agg o.cells.toArray) (fun _ => True) (stOf ok s) w) (vs := [.int .i64 v0, .string v1]) rfl z2 Try.underlying43 rfl size_key z3 ⟨⟨v0, v1⟩, A1, s1, c1, ok1, by rw [hn1.out]; rfl, trivial, HD1.out, zB, HR.out⟩)
  have q0 : X1.cell? ⟨g2, 0, none⟩ = some (.int .i64 0) := (b2.cell 0).trans rfl
  have fq0 := b2.frozen 0
  have q1 : X1.cell? ⟨g2, 1, none⟩ = some (.string ⟨#[]⟩) := (b2.cell 1).trans rfl
  have fq1 := b2.frozen 1
  have r0 : Y1.cell? ⟨g3, 0, none⟩ = some (.slice none 0 0) := (b3y.cell 0).trans rfl
  have r1 : Y1.cell? ⟨g3, 1, none⟩ = some (.bool false) := (b3y.cell 1).trans rfl
  have fr0 := b3y.frozen 0
  have fr1 := b3y.frozen 1
  have t1h := t1
  rw [hY1] at t1h
  have Ht1h := Lib.hid t1h
  have Ht2 := Lib.hid t2
  have HhY1 := Lib.hid hY1
  clear t1h t2 hY1 t1 z2 z3 zB zB1 hB b2 b3 b2y b3y b1 b1y b1z
  refine wp_region_held_drew (S := fun w' => w'.cell? ⟨g1, 0, none⟩ = some (.slice A1 n1 c1) ∧ w'.cell? ⟨g1, 1, none⟩ = some (.bool ok1)) (by kernel_rfl) t0 (fun hHeld => ?_)
  refine' wpAnyH_take (i := 0) (oi := _) (v := ?v3) rfl (by kernel_rfl) (by kernel_rfl) (by kernel_rfl) (fun _ _ _ h => h) (Or.inl ⟨by rfl, ?hy3⟩) (by assumption) ?rest3
  case hy3 => (intro w hSw; obtain ⟨s0, s1⟩ := hSw; go_simp; (try with_reducible rfl))
  simp only [Act.put, List.setIfInBounds_toArray, List.set_cons_zero, List.set_cons_succ]
  refine' wpAnyH_take (i := 1) (oi := _) (v := ?v4) rfl (by kernel_rfl) (by kernel_rfl) (by kernel_rfl) (fun _ _ _ h => h) (Or.inl ⟨by rfl, ?hy4⟩) (by assumption) ?rest4
  case hy4 => (intro w hSw; obtain ⟨s0, s1⟩ := hSw; go_simp; (try with_reducible rfl))
  simp only [Act.put, List.setIfInBounds_toArray, List.set_cons_zero, List.set_cons_succ]
  refine' wpAnyH_take (i := 2) (oi := _) (v := ?v5) rfl (by kernel_rfl) (by kernel_rfl) (by kernel_rfl) (fun _ _ _ h => h) (Or.inl ⟨by rfl, ?hy5⟩) (by assumption) ?rest5
  case hy5 => (intro w hSw; obtain ⟨s0, s1⟩ := hSw; go_simp; (try with_reducible rfl))
  simp only [Act.put, List.setIfInBounds_toArray, List.set_cons_zero, List.set_cons_succ]
  refine' wpAnyH_take (i := 3) (oi := _) (v := ?v6) rfl (by kernel_rfl) (by kernel_rfl) (by kernel_rfl) (fun _ _ _ h => h) (Or.inl ⟨by rfl, ?hy6⟩) (by assumption) ?rest6
  case hy6 => (intro w hSw; obtain ⟨s0, s1⟩ := hSw; go_simp; (try with_reducible rfl))
  simp only [Act.put, List.setIfInBounds_toArray, List.set_cons_zero, List.set_cons_succ]
  clear t0
  refine wpAnyH_ready (rs := [4]) (by kernel_rfl) (by simp) ?_
  refine AllReadyH.cons rfl (fun K hK => ?_) AllReadyH.nil
  go_simp
  refine hK.out _ ((X1.setCells g2 0 [.int .i64 v0, .string v1]).drew) Ht1h.out (fun hHeld => ?_)
  clear hK K
  try simp only [Act.put, List.setIfInBounds_toArray, List.set_cons_zero, List.set_cons_succ]
  rw [← HhY1.out]
  refine wpAnyH_ready (rs := [5]) (by kernel_rfl) (by simp) ?_
  refine AllReadyH.cons rfl (fun K hK => ?_) AllReadyH.nil
  go_simp
  refine hK.out _ (Y1.setCells g3 0 [.slice A1 n1 c1, .bool ok1]) Ht2.out (fun hHeld => ?_)
  clear hK K
  try simp only [Act.put, List.setIfInBounds_toArray, List.set_cons_zero, List.set_cons_succ]
  refine wpAnyH_done (by kernel_rfl) ?_ _
  go_wp2_with fail
  exact HF.out _ (by rfl) (by rfl)

end Go.Proofs.Ytmhcjkiaogimgaa
