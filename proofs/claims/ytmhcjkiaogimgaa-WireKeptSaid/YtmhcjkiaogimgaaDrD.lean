/- The document's key1, op1, entry1. -/
import Derived.Test.YtmhcjkiaogimgaaDrC
import Derived.Test.YtmhcjkiaogimgaaRdF
namespace Go.Proofs.Ytmhcjkiaogimgaa
open Go.RowKit

theorem bel_sets {w X : World} (h : Below w.heap.size w X) {g : Nat} (hg : w.heap.size ≤ g) (o : Nat) (vs : List Value) : Below w.heap.size w (X.setCells g o vs) :=
  below_kp h (Kp.setCells (S := fun k => k = g) _ rfl _ _ _ (Kp.refl _ _)) h.size (fun k hk => by omega)
theorem bel_drew {w X : World} (h : Below w.heap.size w X) : Below w.heap.size w X.drew := bel_next h ((Drawn.refl X).drew.below _)
/-- Results: a struct, and what is left. -/
theorem in2_fin {fn : Func} {t : TypeId} {w : World} {g2 g3 : Nat} {vs : List Value} {x y : Value} {Q : Ending → World → Prop} (hres : fn.results = #[.cell 2 t, .cell 3 99]) (h2 : Blk w g2 vs.toArray t) {d : TypeDesc} (hu : Try.prog.underlying t = some d) (hd : d.isRow = true) (hi : (Try.prog.info? t).map (·.size) = some vs.length)
    (h3 : Blk w g3 #[x, y] 99) (hp : Q (.returned (.tuple #[.agg vs.toArray, .agg #[x, y]])) w) :
    ∀ tmps : Array Value, tmps.getD 2 undef = .pointer (some ⟨g2, 0, none⟩) → tmps.getD 3 undef = .pointer (some ⟨g3, 0, none⟩) → bodyPost Try.prog fn Q Exit.ret { tmps := tmps, defers := [] } w := by
  intro tmps e2 e3
  have e2' : tmps[2]?.getD undef = .pointer (some ⟨g2, 0, none⟩) := by simpa using e2
  have e3' : tmps[3]?.getD undef = .pointer (some ⟨g3, 0, none⟩) := by simpa using e3
  have r2 := run_loadVar_mid (P := Try.prog) w g2 0 t vs _ (fun j u hj => by rw [h2.cell, List.getElem?_toArray, Nat.zero_add]; exact hj) hu hd hi
  have r3 := run_loadVar_mid (P := Try.prog) w g3 0 99 [x, y] _ (fun j u hj => by rw [h3.cell, Nat.zero_add]; show [x, y].toArray[j]? = _; rw [List.getElem?_toArray]; exact hj) Try.underlying99 rfl (by kernel_rfl)
  refine bodyPost_ret (v := .tuple #[.agg vs.toArray, .agg #[x, y]]) ?_ rfl hp
  simp [results, hres, e2', e3', asAddr, r2, r3]

set_option maxRecDepth 100000 in
set_option maxHeartbeats 8000000 in
theorem dop_any (w0 w : World) (hw : Below w0.heap.size w0 w) (A : Option Addr) (c : Nat) (s : List Int) (ok : Bool) (h : DS w0 A c s) :
    Calls Try.prog 61 #[.agg #[.slice A s.length c, .bool ok]] w (DGot w0 (gop dnum dtxt) (fun o => .agg o.cells.toArray) (fun _ => True) (stOf ok s) w) := by
  obtain ⟨n, hn⟩ : ∃ n, Hid (n = s.length) := ⟨_, rfl⟩
  have HD := Lib.hid h
  clear h
  rw [← hn.out]
  have HA : Hid (∀ V, V = (((w.alloc (.cells #[.slice A n c, .bool ok] 99)).alloc (.cells #[.int .i64 0, .int .i64 0, .string ⟨#[]⟩, .int .i64 0, .string ⟨#[]⟩, .int .i64 0, .string ⟨#[]⟩] 23)).alloc (.cells #[.slice none 0 0, .bool false] 99)).alloc (.cells #[.int .i64 0, .int .i64 0, .string ⟨#[]⟩, .int .i64 0, .string ⟨#[]⟩, .int .i64 0, .string ⟨#[]⟩] 23) → Blk V w.heap.size #[.slice A n c, .bool ok] 99 ∧ Blk V (w.heap.size + 1) #[.int .i64 0, .int .i64 0, .string ⟨#[]⟩, .int .i64 0, .string ⟨#[]⟩, .int .i64 0, .string ⟨#[]⟩] 23 ∧ Blk V (w.heap.size + 1 + 1) #[.slice none 0 0, .bool false] 99 ∧ Blk V (w.heap.size + 1 + 1 + 1) #[.int .i64 0, .int .i64 0, .string ⟨#[]⟩, .int .i64 0, .string ⟨#[]⟩, .int .i64 0, .string ⟨#[]⟩] 23 ∧ Below w.heap.size w V) := by
    rintro V rfl
    have e1 : (w.alloc (.cells #[.slice A n c, .bool ok] 99)).heap.size = w.heap.size + 1 := by simp
    have e2 : ((w.alloc (.cells #[.slice A n c, .bool ok] 99)).alloc (.cells #[.int .i64 0, .int .i64 0, .string ⟨#[]⟩, .int .i64 0, .string ⟨#[]⟩, .int .i64 0, .string ⟨#[]⟩] 23)).heap.size = w.heap.size + 1 + 1 := by simp
    have e3 : (((w.alloc (.cells #[.slice A n c, .bool ok] 99)).alloc (.cells #[.int .i64 0, .int .i64 0, .string ⟨#[]⟩, .int .i64 0, .string ⟨#[]⟩, .int .i64 0, .string ⟨#[]⟩] 23)).alloc (.cells #[.slice none 0 0, .bool false] 99)).heap.size = w.heap.size + 1 + 1 + 1 := by simp
    have k1 := Blk.new w #[.slice A n c, .bool ok] 99
    have k2 := Blk.new (w.alloc (.cells #[.slice A n c, .bool ok] 99)) #[.int .i64 0, .int .i64 0, .string ⟨#[]⟩, .int .i64 0, .string ⟨#[]⟩, .int .i64 0, .string ⟨#[]⟩] 23
    have k3 := Blk.new ((w.alloc (.cells #[.slice A n c, .bool ok] 99)).alloc (.cells #[.int .i64 0, .int .i64 0, .string ⟨#[]⟩, .int .i64 0, .string ⟨#[]⟩, .int .i64 0, .string ⟨#[]⟩] 23)) #[.slice none 0 0, .bool false] 99
    have k4 := Blk.new (((w.alloc (.cells #[.slice A n c, .bool ok] 99)).alloc (.cells #[.int .i64 0, .int .i64 0, .string ⟨#[]⟩, .int .i64 0, .string ⟨#[]⟩, .int .i64 0, .string ⟨#[]⟩] 23)).alloc (.cells #[.slice none 0 0, .bool false] 99)) #[.int .i64 0, .int .i64 0, .string ⟨#[]⟩, .int .i64 0, .string ⟨#[]⟩, .int .i64 0, .string ⟨#[]⟩] 23
    rw [e1] at k2
    rw [e2] at k3
    rw [e3] at k4
    exact ⟨((k1.alloc _).alloc _).alloc _, (k2.alloc _).alloc _, k3.alloc _, k4, bel_al (bel_al (bel_al (bel_al (Below.refl _ _) _) _) _) _⟩
  go_enter Try.func61, Try.ntmps61
  go_upto_region 2 with fail
  obtain ⟨V, hV⟩ : ∃ V, V = (((w.alloc (.cells #[.slice A n c, .bool ok] 99)).alloc (.cells #[.int .i64 0, .int .i64 0, .string ⟨#[]⟩, .int .i64 0, .string ⟨#[]⟩, .int .i64 0, .string ⟨#[]⟩] 23)).alloc (.cells #[.slice none 0 0, .bool false] 99)).alloc (.cells #[.int .i64 0, .int .i64 0, .string ⟨#[]⟩, .int .i64 0, .string ⟨#[]⟩, .int .i64 0, .string ⟨#[]⟩] 23) := ⟨_, rfl⟩
  obtain ⟨b1, b2, b3, b4, hB⟩ := HA.out V hV
  rw [← hV]
  clear hV HA
  obtain ⟨g1, hg1⟩ : ∃ g, w.heap.size = g := ⟨_, rfl⟩
  rw [hg1] at b1 b2 b3 b4 ⊢
  generalize hg2 : g1 + 1 = g2 at b2 b3 b4 ⊢
  generalize hg3 : g2 + 1 = g3 at b3 b4 ⊢
  generalize hg4 : g3 + 1 = g4 at b4 ⊢
  have hn12 : g1 ≠ g2 := by omega
  have hn13 : g1 ≠ g3 := by omega
  have hn14 : g1 ≠ g4 := by omega
  have hn23 : g2 ≠ g3 := by omega
  have hn24 : g2 ≠ g4 := by omega
  have hn34 : g3 ≠ g4 := by omega
  have HGE : Hid (w.heap.size ≤ g1 ∧ w.heap.size ≤ g2 ∧ w.heap.size ≤ g3 ∧ w.heap.size ≤ g4) := by show _ ∧ _; omega
  clear hg1 hg2 hg3 hg4
  have a0 : V.cell? ⟨g1, 0, none⟩ = some (.slice A n c) := (b1.cell 0).trans rfl
  have a1 : V.cell? ⟨g1, 1, none⟩ = some (.bool ok) := (b1.cell 1).trans rfl
  have Hb1 := Lib.hid b1
  have Hb2 := Lib.hid b2
  have Hb3 := Lib.hid b3
  have Hb4 := Lib.hid b4
  have HBW := Lib.hid hB
  clear b1 b2 b3 b4 hB
  go_wp2_with fail
  rw [hn.out]
  refine (dbyte_any w0 V (hw.trans (HBW.out.mono hw.size)) A c s ok HD.out).mono ?_
  rintro e w1 ⟨v0, A0, s0, c0, ok0, rfl, _, hD0, hbel, rd0⟩
  obtain ⟨n0, hn0⟩ : ∃ m, Hid (m = s0.length) := ⟨_, rfl⟩
  rw [← hn0.out, ← hn.out]
  have HD0 := Lib.hid hD0
  have b1 := Hb1.out.kp (S := fun _ => False) (Kp.of_below hbel) (fun h => h)
  have b2 := Hb2.out.kp (S := fun _ => False) (Kp.of_below hbel) (fun h => h)
  have b3 := Hb3.out.kp (S := fun _ => False) (Kp.of_below hbel) (fun h => h)
  have b4 := Hb4.out.kp (S := fun _ => False) (Kp.of_below hbel) (fun h => h)
  have hB := bel_next HBW.out hbel
  clear Hb1 Hb2 Hb3 Hb4 HBW hbel a0 a1 hD0
  have a0 : w1.cell? ⟨g1, 0, none⟩ = some (.slice A n c) := (b1.cell 0).trans rfl
  have a1 : w1.cell? ⟨g1, 1, none⟩ = some (.bool ok) := (b1.cell 1).trans rfl
  have fa0 := b1.frozen 0
  have fa1 := b1.frozen 1
  have a2 : w1.cell? ⟨g4, 0, none⟩ = some (.int .i64 0) := (b4.cell 0).trans rfl
  have fa2 := b4.frozen 0
  have Hb1 := Lib.hid b1
  have Hb2 := Lib.hid b2
  have Hb3 := Lib.hid b3
  have Hb4 := Lib.hid b4
  have HBW := Lib.hid hB
  clear b1 b2 b3 b4 hB
  go_upto_region 3 with fail
  have b1 : Blk (((w1.setCell ⟨g4, 0, none⟩ (.int .i64 v0)).setCell ⟨g1, 0, none⟩ (.slice A0 n0 c0)).setCell ⟨g1, 1, none⟩ (.bool ok0)) g1 #[.slice A0 n0 c0, .bool ok0] 99 := (Blk.setCells_other hn14 [.int .i64 v0] 0 Hb1.out).setCells [.slice A0 n0 c0, .bool ok0] 0
  have b2 : Blk (((w1.setCell ⟨g4, 0, none⟩ (.int .i64 v0)).setCell ⟨g1, 0, none⟩ (.slice A0 n0 c0)).setCell ⟨g1, 1, none⟩ (.bool ok0)) g2 #[.int .i64 0, .int .i64 0, .string ⟨#[]⟩, .int .i64 0, .string ⟨#[]⟩, .int .i64 0, .string ⟨#[]⟩] 23 := Blk.setCells_other (Ne.symm hn12) [.slice A0 n0 c0, .bool ok0] 0 (Blk.setCells_other hn24 [.int .i64 v0] 0 Hb2.out)
  have b3 : Blk (((w1.setCell ⟨g4, 0, none⟩ (.int .i64 v0)).setCell ⟨g1, 0, none⟩ (.slice A0 n0 c0)).setCell ⟨g1, 1, none⟩ (.bool ok0)) g3 #[.slice none 0 0, .bool false] 99 := Blk.setCells_other (Ne.symm hn13) [.slice A0 n0 c0, .bool ok0] 0 (Blk.setCells_other hn34 [.int .i64 v0] 0 Hb3.out)
  have b4 : Blk (((w1.setCell ⟨g4, 0, none⟩ (.int .i64 v0)).setCell ⟨g1, 0, none⟩ (.slice A0 n0 c0)).setCell ⟨g1, 1, none⟩ (.bool ok0)) g4 #[.int .i64 v0, .int .i64 0, .string ⟨#[]⟩, .int .i64 0, .string ⟨#[]⟩, .int .i64 0, .string ⟨#[]⟩] 23 := Blk.setCells_other (Ne.symm hn14) [.slice A0 n0 c0, .bool ok0] 0 (Hb4.out.setCells [.int .i64 v0] 0)
  have hB : Below w.heap.size w (((w1.setCell ⟨g4, 0, none⟩ (.int .i64 v0)).setCell ⟨g1, 0, none⟩ (.slice A0 n0 c0)).setCell ⟨g1, 1, none⟩ (.bool ok0)) := bel_sets (bel_sets HBW.out HGE.out.2.2.2 0 [.int .i64 v0]) HGE.out.1 0 [.slice A0 n0 c0, .bool ok0]
  clear Hb1 Hb2 Hb3 Hb4 HBW a0 a1 fa0 fa1 a2 fa2
  generalize ((w1.setCell ⟨g4, 0, none⟩ (.int .i64 v0)).setCell ⟨g1, 0, none⟩ (.slice A0 n0 c0)).setCell ⟨g1, 1, none⟩ (.bool ok0) = X0 at *
  have a0 : X0.cell? ⟨g1, 0, none⟩ = some (.slice A0 n0 c0) := (b1.cell 0).trans rfl
  have a1 : X0.cell? ⟨g1, 1, none⟩ = some (.bool ok0) := (b1.cell 1).trans rfl
  have Hb1 := Lib.hid b1
  have Hb2 := Lib.hid b2
  have Hb3 := Lib.hid b3
  have Hb4 := Lib.hid b4
  have HBW := Lib.hid hB
  clear b1 b2 b3 b4 hB
  go_wp2_with fail
  rw [hn0.out]
  refine (dnum_any w0 X0 (hw.trans (HBW.out.mono hw.size)) A0 c0 s0 ok0 HD0.out).mono ?_
  rintro e w2 ⟨v1, A1, s1, c1, ok1, rfl, _, hD1, hbel, rd1⟩
  obtain ⟨n1, hn1⟩ : ∃ m, Hid (m = s1.length) := ⟨_, rfl⟩
  rw [← hn1.out, ← hn0.out]
  have HD1 := Lib.hid hD1
  have b1 := Hb1.out.kp (S := fun _ => False) (Kp.of_below hbel) (fun h => h)
  have b2 := Hb2.out.kp (S := fun _ => False) (Kp.of_below hbel) (fun h => h)
  have b3 := Hb3.out.kp (S := fun _ => False) (Kp.of_below hbel) (fun h => h)
  have b4 := Hb4.out.kp (S := fun _ => False) (Kp.of_below hbel) (fun h => h)
  have hB := bel_next HBW.out hbel
  clear Hb1 Hb2 Hb3 Hb4 HBW hbel a0 a1 hD1
  have a0 : w2.cell? ⟨g1, 0, none⟩ = some (.slice A0 n0 c0) := (b1.cell 0).trans rfl
  have a1 : w2.cell? ⟨g1, 1, none⟩ = some (.bool ok0) := (b1.cell 1).trans rfl
  have fa0 := b1.frozen 0
  have fa1 := b1.frozen 1
  have a2 : w2.cell? ⟨g4, 1, none⟩ = some (.int .i64 0) := (b4.cell 1).trans rfl
  have fa2 := b4.frozen 1
  have Hb1 := Lib.hid b1
  have Hb2 := Lib.hid b2
  have Hb3 := Lib.hid b3
  have Hb4 := Lib.hid b4
  have HBW := Lib.hid hB
  clear b1 b2 b3 b4 hB
  go_upto_region 4 with fail
  have b1 : Blk (((w2.setCell ⟨g4, 1, none⟩ (.int .i64 v1)).setCell ⟨g1, 0, none⟩ (.slice A1 n1 c1)).setCell ⟨g1, 1, none⟩ (.bool ok1)) g1 #[.slice A1 n1 c1, .bool ok1] 99 := (Blk.setCells_other hn14 [.int .i64 v1] 1 Hb1.out).setCells [.slice A1 n1 c1, .bool ok1] 0
  have b2 : Blk (((w2.setCell ⟨g4, 1, none⟩ (.int .i64 v1)).setCell ⟨g1, 0, none⟩ (.slice A1 n1 c1)).setCell ⟨g1, 1, none⟩ (.bool ok1)) g2 #[.int .i64 0, .int .i64 0, .string ⟨#[]⟩, .int .i64 0, .string ⟨#[]⟩, .int .i64 0, .string ⟨#[]⟩] 23 := Blk.setCells_other (Ne.symm hn12) [.slice A1 n1 c1, .bool ok1] 0 (Blk.setCells_other hn24 [.int .i64 v1] 1 Hb2.out)
  have b3 : Blk (((w2.setCell ⟨g4, 1, none⟩ (.int .i64 v1)).setCell ⟨g1, 0, none⟩ (.slice A1 n1 c1)).setCell ⟨g1, 1, none⟩ (.bool ok1)) g3 #[.slice none 0 0, .bool false] 99 := Blk.setCells_other (Ne.symm hn13) [.slice A1 n1 c1, .bool ok1] 0 (Blk.setCells_other hn34 [.int .i64 v1] 1 Hb3.out)
  have b4 : Blk (((w2.setCell ⟨g4, 1, none⟩ (.int .i64 v1)).setCell ⟨g1, 0, none⟩ (.slice A1 n1 c1)).setCell ⟨g1, 1, none⟩ (.bool ok1)) g4 #[.int .i64 v0, .int .i64 v1, .string ⟨#[]⟩, .int .i64 0, .string ⟨#[]⟩, .int .i64 0, .string ⟨#[]⟩] 23 := Blk.setCells_other (Ne.symm hn14) [.slice A1 n1 c1, .bool ok1] 0 (Hb4.out.setCells [.int .i64 v1] 1)
  have hB : Below w.heap.size w (((w2.setCell ⟨g4, 1, none⟩ (.int .i64 v1)).setCell ⟨g1, 0, none⟩ (.slice A1 n1 c1)).setCell ⟨g1, 1, none⟩ (.bool ok1)) := bel_sets (bel_sets HBW.out HGE.out.2.2.2 1 [.int .i64 v1]) HGE.out.1 0 [.slice A1 n1 c1, .bool ok1]
  clear Hb1 Hb2 Hb3 Hb4 HBW a0 a1 fa0 fa1 a2 fa2
  generalize ((w2.setCell ⟨g4, 1, none⟩ (.int .i64 v1)).setCell ⟨g1, 0, none⟩ (.slice A1 n1 c1)).setCell ⟨g1, 1, none⟩ (.bool ok1) = X1 at *
  have a0 : X1.cell? ⟨g1, 0, none⟩ = some (.slice A1 n1 c1) := (b1.cell 0).trans rfl
  have a1 : X1.cell? ⟨g1, 1, none⟩ = some (.bool ok1) := (b1.cell 1).trans rfl
  have Hb1 := Lib.hid b1
  have Hb2 := Lib.hid b2
  have Hb3 := Lib.hid b3
  have Hb4 := Lib.hid b4
  have HBW := Lib.hid hB
  clear b1 b2 b3 b4 hB
  go_wp2_with fail
  rw [hn1.out]
  refine (dtxt_any w0 X1 (hw.trans (HBW.out.mono hw.size)) A1 c1 s1 ok1 HD1.out).mono ?_
  rintro e w3 ⟨v2, A2, s2, c2, ok2, rfl, _, hD2, hbel, rd2⟩
  obtain ⟨n2, hn2⟩ : ∃ m, Hid (m = s2.length) := ⟨_, rfl⟩
  rw [← hn2.out, ← hn1.out]
  have HD2 := Lib.hid hD2
  have b1 := Hb1.out.kp (S := fun _ => False) (Kp.of_below hbel) (fun h => h)
  have b2 := Hb2.out.kp (S := fun _ => False) (Kp.of_below hbel) (fun h => h)
  have b3 := Hb3.out.kp (S := fun _ => False) (Kp.of_below hbel) (fun h => h)
  have b4 := Hb4.out.kp (S := fun _ => False) (Kp.of_below hbel) (fun h => h)
  have hB := bel_next HBW.out hbel
  clear Hb1 Hb2 Hb3 Hb4 HBW hbel a0 a1 hD2
  have a0 : w3.cell? ⟨g1, 0, none⟩ = some (.slice A1 n1 c1) := (b1.cell 0).trans rfl
  have a1 : w3.cell? ⟨g1, 1, none⟩ = some (.bool ok1) := (b1.cell 1).trans rfl
  have fa0 := b1.frozen 0
  have fa1 := b1.frozen 1
  have a2 : w3.cell? ⟨g4, 2, none⟩ = some (.string ⟨#[]⟩) := (b4.cell 2).trans rfl
  have fa2 := b4.frozen 2
  have Hb1 := Lib.hid b1
  have Hb2 := Lib.hid b2
  have Hb3 := Lib.hid b3
  have Hb4 := Lib.hid b4
  have HBW := Lib.hid hB
  clear b1 b2 b3 b4 hB
  go_upto_region 5 with fail
  have b1 : Blk (((w3.setCell ⟨g4, 2, none⟩ (.string v2)).setCell ⟨g1, 0, none⟩ (.slice A2 n2 c2)).setCell ⟨g1, 1, none⟩ (.bool ok2)) g1 #[.slice A2 n2 c2, .bool ok2] 99 := (Blk.setCells_other hn14 [.string v2] 2 Hb1.out).setCells [.slice A2 n2 c2, .bool ok2] 0
  have b2 : Blk (((w3.setCell ⟨g4, 2, none⟩ (.string v2)).setCell ⟨g1, 0, none⟩ (.slice A2 n2 c2)).setCell ⟨g1, 1, none⟩ (.bool ok2)) g2 #[.int .i64 0, .int .i64 0, .string ⟨#[]⟩, .int .i64 0, .string ⟨#[]⟩, .int .i64 0, .string ⟨#[]⟩] 23 := Blk.setCells_other (Ne.symm hn12) [.slice A2 n2 c2, .bool ok2] 0 (Blk.setCells_other hn24 [.string v2] 2 Hb2.out)
  have b3 : Blk (((w3.setCell ⟨g4, 2, none⟩ (.string v2)).setCell ⟨g1, 0, none⟩ (.slice A2 n2 c2)).setCell ⟨g1, 1, none⟩ (.bool ok2)) g3 #[.slice none 0 0, .bool false] 99 := Blk.setCells_other (Ne.symm hn13) [.slice A2 n2 c2, .bool ok2] 0 (Blk.setCells_other hn34 [.string v2] 2 Hb3.out)
  have b4 : Blk (((w3.setCell ⟨g4, 2, none⟩ (.string v2)).setCell ⟨g1, 0, none⟩ (.slice A2 n2 c2)).setCell ⟨g1, 1, none⟩ (.bool ok2)) g4 #[.int .i64 v0, .int .i64 v1, .string v2, .int .i64 0, .string ⟨#[]⟩, .int .i64 0, .string ⟨#[]⟩] 23 := Blk.setCells_other (Ne.symm hn14) [.slice A2 n2 c2, .bool ok2] 0 (Hb4.out.setCells [.string v2] 2)
  have hB : Below w.heap.size w (((w3.setCell ⟨g4, 2, none⟩ (.string v2)).setCell ⟨g1, 0, none⟩ (.slice A2 n2 c2)).setCell ⟨g1, 1, none⟩ (.bool ok2)) := bel_sets (bel_sets HBW.out HGE.out.2.2.2 2 [.string v2]) HGE.out.1 0 [.slice A2 n2 c2, .bool ok2]
  clear Hb1 Hb2 Hb3 Hb4 HBW a0 a1 fa0 fa1 a2 fa2
  generalize ((w3.setCell ⟨g4, 2, none⟩ (.string v2)).setCell ⟨g1, 0, none⟩ (.slice A2 n2 c2)).setCell ⟨g1, 1, none⟩ (.bool ok2) = X2 at *
  have a0 : X2.cell? ⟨g1, 0, none⟩ = some (.slice A2 n2 c2) := (b1.cell 0).trans rfl
  have a1 : X2.cell? ⟨g1, 1, none⟩ = some (.bool ok2) := (b1.cell 1).trans rfl
  have Hb1 := Lib.hid b1
  have Hb2 := Lib.hid b2
  have Hb3 := Lib.hid b3
  have Hb4 := Lib.hid b4
  have HBW := Lib.hid hB
  clear b1 b2 b3 b4 hB
  go_wp2_with fail
  rw [hn2.out]
  refine (dnum_any w0 X2 (hw.trans (HBW.out.mono hw.size)) A2 c2 s2 ok2 HD2.out).mono ?_
  rintro e w4 ⟨v3, A3, s3, c3, ok3, rfl, _, hD3, hbel, rd3⟩
  obtain ⟨n3, hn3⟩ : ∃ m, Hid (m = s3.length) := ⟨_, rfl⟩
  rw [← hn3.out, ← hn2.out]
  have HD3 := Lib.hid hD3
  have b1 := Hb1.out.kp (S := fun _ => False) (Kp.of_below hbel) (fun h => h)
  have b2 := Hb2.out.kp (S := fun _ => False) (Kp.of_below hbel) (fun h => h)
  have b3 := Hb3.out.kp (S := fun _ => False) (Kp.of_below hbel) (fun h => h)
  have b4 := Hb4.out.kp (S := fun _ => False) (Kp.of_below hbel) (fun h => h)
  have hB := bel_next HBW.out hbel
  clear Hb1 Hb2 Hb3 Hb4 HBW hbel a0 a1 hD3
  have a0 : w4.cell? ⟨g1, 0, none⟩ = some (.slice A2 n2 c2) := (b1.cell 0).trans rfl
  have a1 : w4.cell? ⟨g1, 1, none⟩ = some (.bool ok2) := (b1.cell 1).trans rfl
  have fa0 := b1.frozen 0
  have fa1 := b1.frozen 1
  have a2 : w4.cell? ⟨g4, 3, none⟩ = some (.int .i64 0) := (b4.cell 3).trans rfl
  have fa2 := b4.frozen 3
  have Hb1 := Lib.hid b1
  have Hb2 := Lib.hid b2
  have Hb3 := Lib.hid b3
  have Hb4 := Lib.hid b4
  have HBW := Lib.hid hB
  clear b1 b2 b3 b4 hB
  go_upto_region 6 with fail
  have b1 : Blk (((w4.setCell ⟨g4, 3, none⟩ (.int .i64 v3)).setCell ⟨g1, 0, none⟩ (.slice A3 n3 c3)).setCell ⟨g1, 1, none⟩ (.bool ok3)) g1 #[.slice A3 n3 c3, .bool ok3] 99 := (Blk.setCells_other hn14 [.int .i64 v3] 3 Hb1.out).setCells [.slice A3 n3 c3, .bool ok3] 0
  have b2 : Blk (((w4.setCell ⟨g4, 3, none⟩ (.int .i64 v3)).setCell ⟨g1, 0, none⟩ (.slice A3 n3 c3)).setCell ⟨g1, 1, none⟩ (.bool ok3)) g2 #[.int .i64 0, .int .i64 0, .string ⟨#[]⟩, .int .i64 0, .string ⟨#[]⟩, .int .i64 0, .string ⟨#[]⟩] 23 := Blk.setCells_other (Ne.symm hn12) [.slice A3 n3 c3, .bool ok3] 0 (Blk.setCells_other hn24 [.int .i64 v3] 3 Hb2.out)
  have b3 : Blk (((w4.setCell ⟨g4, 3, none⟩ (.int .i64 v3)).setCell ⟨g1, 0, none⟩ (.slice A3 n3 c3)).setCell ⟨g1, 1, none⟩ (.bool ok3)) g3 #[.slice none 0 0, .bool false] 99 := Blk.setCells_other (Ne.symm hn13) [.slice A3 n3 c3, .bool ok3] 0 (Blk.setCells_other hn34 [.int .i64 v3] 3 Hb3.out)
  have b4 : Blk (((w4.setCell ⟨g4, 3, none⟩ (.int .i64 v3)).setCell ⟨g1, 0, none⟩ (.slice A3 n3 c3)).setCell ⟨g1, 1, none⟩ (.bool ok3)) g4 #[.int .i64 v0, .int .i64 v1, .string v2, .int .i64 v3, .string ⟨#[]⟩, .int .i64 0, .string ⟨#[]⟩] 23 := Blk.setCells_other (Ne.symm hn14) [.slice A3 n3 c3, .bool ok3] 0 (Hb4.out.setCells [.int .i64 v3] 3)
  have hB : Below w.heap.size w (((w4.setCell ⟨g4, 3, none⟩ (.int .i64 v3)).setCell ⟨g1, 0, none⟩ (.slice A3 n3 c3)).setCell ⟨g1, 1, none⟩ (.bool ok3)) := bel_sets (bel_sets HBW.out HGE.out.2.2.2 3 [.int .i64 v3]) HGE.out.1 0 [.slice A3 n3 c3, .bool ok3]
  clear Hb1 Hb2 Hb3 Hb4 HBW a0 a1 fa0 fa1 a2 fa2
  generalize ((w4.setCell ⟨g4, 3, none⟩ (.int .i64 v3)).setCell ⟨g1, 0, none⟩ (.slice A3 n3 c3)).setCell ⟨g1, 1, none⟩ (.bool ok3) = X3 at *
  have a0 : X3.cell? ⟨g1, 0, none⟩ = some (.slice A3 n3 c3) := (b1.cell 0).trans rfl
  have a1 : X3.cell? ⟨g1, 1, none⟩ = some (.bool ok3) := (b1.cell 1).trans rfl
  have Hb1 := Lib.hid b1
  have Hb2 := Lib.hid b2
  have Hb3 := Lib.hid b3
  have Hb4 := Lib.hid b4
  have HBW := Lib.hid hB
  clear b1 b2 b3 b4 hB
  go_wp2_with fail
  rw [hn3.out]
  refine (dtxt_any w0 X3 (hw.trans (HBW.out.mono hw.size)) A3 c3 s3 ok3 HD3.out).mono ?_
  rintro e w5 ⟨v4, A4, s4, c4, ok4, rfl, _, hD4, hbel, rd4⟩
  obtain ⟨n4, hn4⟩ : ∃ m, Hid (m = s4.length) := ⟨_, rfl⟩
  rw [← hn4.out, ← hn3.out]
  have HD4 := Lib.hid hD4
  have b1 := Hb1.out.kp (S := fun _ => False) (Kp.of_below hbel) (fun h => h)
  have b2 := Hb2.out.kp (S := fun _ => False) (Kp.of_below hbel) (fun h => h)
  have b3 := Hb3.out.kp (S := fun _ => False) (Kp.of_below hbel) (fun h => h)
  have b4 := Hb4.out.kp (S := fun _ => False) (Kp.of_below hbel) (fun h => h)
  have hB := bel_next HBW.out hbel
  clear Hb1 Hb2 Hb3 Hb4 HBW hbel a0 a1 hD4
  have a0 : w5.cell? ⟨g1, 0, none⟩ = some (.slice A3 n3 c3) := (b1.cell 0).trans rfl
  have a1 : w5.cell? ⟨g1, 1, none⟩ = some (.bool ok3) := (b1.cell 1).trans rfl
  have fa0 := b1.frozen 0
  have fa1 := b1.frozen 1
  have a2 : w5.cell? ⟨g4, 4, none⟩ = some (.string ⟨#[]⟩) := (b4.cell 4).trans rfl
  have fa2 := b4.frozen 4
  have Hb1 := Lib.hid b1
  have Hb2 := Lib.hid b2
  have Hb3 := Lib.hid b3
  have Hb4 := Lib.hid b4
  have HBW := Lib.hid hB
  clear b1 b2 b3 b4 hB
  go_upto_region 7 with fail
  have b1 : Blk (((w5.setCell ⟨g4, 4, none⟩ (.string v4)).setCell ⟨g1, 0, none⟩ (.slice A4 n4 c4)).setCell ⟨g1, 1, none⟩ (.bool ok4)) g1 #[.slice A4 n4 c4, .bool ok4] 99 := (Blk.setCells_other hn14 [.string v4] 4 Hb1.out).setCells [.slice A4 n4 c4, .bool ok4] 0
  have b2 : Blk (((w5.setCell ⟨g4, 4, none⟩ (.string v4)).setCell ⟨g1, 0, none⟩ (.slice A4 n4 c4)).setCell ⟨g1, 1, none⟩ (.bool ok4)) g2 #[.int .i64 0, .int .i64 0, .string ⟨#[]⟩, .int .i64 0, .string ⟨#[]⟩, .int .i64 0, .string ⟨#[]⟩] 23 := Blk.setCells_other (Ne.symm hn12) [.slice A4 n4 c4, .bool ok4] 0 (Blk.setCells_other hn24 [.string v4] 4 Hb2.out)
  have b3 : Blk (((w5.setCell ⟨g4, 4, none⟩ (.string v4)).setCell ⟨g1, 0, none⟩ (.slice A4 n4 c4)).setCell ⟨g1, 1, none⟩ (.bool ok4)) g3 #[.slice none 0 0, .bool false] 99 := Blk.setCells_other (Ne.symm hn13) [.slice A4 n4 c4, .bool ok4] 0 (Blk.setCells_other hn34 [.string v4] 4 Hb3.out)
  have b4 : Blk (((w5.setCell ⟨g4, 4, none⟩ (.string v4)).setCell ⟨g1, 0, none⟩ (.slice A4 n4 c4)).setCell ⟨g1, 1, none⟩ (.bool ok4)) g4 #[.int .i64 v0, .int .i64 v1, .string v2, .int .i64 v3, .string v4, .int .i64 0, .string ⟨#[]⟩] 23 := Blk.setCells_other (Ne.symm hn14) [.slice A4 n4 c4, .bool ok4] 0 (Hb4.out.setCells [.string v4] 4)
  have hB : Below w.heap.size w (((w5.setCell ⟨g4, 4, none⟩ (.string v4)).setCell ⟨g1, 0, none⟩ (.slice A4 n4 c4)).setCell ⟨g1, 1, none⟩ (.bool ok4)) := bel_sets (bel_sets HBW.out HGE.out.2.2.2 4 [.string v4]) HGE.out.1 0 [.slice A4 n4 c4, .bool ok4]
  clear Hb1 Hb2 Hb3 Hb4 HBW a0 a1 fa0 fa1 a2 fa2
  generalize ((w5.setCell ⟨g4, 4, none⟩ (.string v4)).setCell ⟨g1, 0, none⟩ (.slice A4 n4 c4)).setCell ⟨g1, 1, none⟩ (.bool ok4) = X4 at *
  have a0 : X4.cell? ⟨g1, 0, none⟩ = some (.slice A4 n4 c4) := (b1.cell 0).trans rfl
  have a1 : X4.cell? ⟨g1, 1, none⟩ = some (.bool ok4) := (b1.cell 1).trans rfl
  have Hb1 := Lib.hid b1
  have Hb2 := Lib.hid b2
  have Hb3 := Lib.hid b3
  have Hb4 := Lib.hid b4
  have HBW := Lib.hid hB
  clear b1 b2 b3 b4 hB
  go_wp2_with fail
  rw [hn4.out]
  refine (dnum_any w0 X4 (hw.trans (HBW.out.mono hw.size)) A4 c4 s4 ok4 HD4.out).mono ?_
  rintro e w6 ⟨v5, A5, s5, c5, ok5, rfl, _, hD5, hbel, rd5⟩
  obtain ⟨n5, hn5⟩ : ∃ m, Hid (m = s5.length) := ⟨_, rfl⟩
  rw [← hn5.out, ← hn4.out]
  have HD5 := Lib.hid hD5
  have b1 := Hb1.out.kp (S := fun _ => False) (Kp.of_below hbel) (fun h => h)
  have b2 := Hb2.out.kp (S := fun _ => False) (Kp.of_below hbel) (fun h => h)
  have b3 := Hb3.out.kp (S := fun _ => False) (Kp.of_below hbel) (fun h => h)
  have b4 := Hb4.out.kp (S := fun _ => False) (Kp.of_below hbel) (fun h => h)
  have hB := bel_next HBW.out hbel
  clear Hb1 Hb2 Hb3 Hb4 HBW hbel a0 a1 hD5
  have a0 : w6.cell? ⟨g1, 0, none⟩ = some (.slice A4 n4 c4) := (b1.cell 0).trans rfl
  have a1 : w6.cell? ⟨g1, 1, none⟩ = some (.bool ok4) := (b1.cell 1).trans rfl
  have fa0 := b1.frozen 0
  have fa1 := b1.frozen 1
  have a2 : w6.cell? ⟨g4, 5, none⟩ = some (.int .i64 0) := (b4.cell 5).trans rfl
  have fa2 := b4.frozen 5
  have Hb1 := Lib.hid b1
  have Hb2 := Lib.hid b2
  have Hb3 := Lib.hid b3
  have Hb4 := Lib.hid b4
  have HBW := Lib.hid hB
  clear b1 b2 b3 b4 hB
  go_upto_region 8 with fail
  have b1 : Blk (((w6.setCell ⟨g4, 5, none⟩ (.int .i64 v5)).setCell ⟨g1, 0, none⟩ (.slice A5 n5 c5)).setCell ⟨g1, 1, none⟩ (.bool ok5)) g1 #[.slice A5 n5 c5, .bool ok5] 99 := (Blk.setCells_other hn14 [.int .i64 v5] 5 Hb1.out).setCells [.slice A5 n5 c5, .bool ok5] 0
  have b2 : Blk (((w6.setCell ⟨g4, 5, none⟩ (.int .i64 v5)).setCell ⟨g1, 0, none⟩ (.slice A5 n5 c5)).setCell ⟨g1, 1, none⟩ (.bool ok5)) g2 #[.int .i64 0, .int .i64 0, .string ⟨#[]⟩, .int .i64 0, .string ⟨#[]⟩, .int .i64 0, .string ⟨#[]⟩] 23 := Blk.setCells_other (Ne.symm hn12) [.slice A5 n5 c5, .bool ok5] 0 (Blk.setCells_other hn24 [.int .i64 v5] 5 Hb2.out)
  have b3 : Blk (((w6.setCell ⟨g4, 5, none⟩ (.int .i64 v5)).setCell ⟨g1, 0, none⟩ (.slice A5 n5 c5)).setCell ⟨g1, 1, none⟩ (.bool ok5)) g3 #[.slice none 0 0, .bool false] 99 := Blk.setCells_other (Ne.symm hn13) [.slice A5 n5 c5, .bool ok5] 0 (Blk.setCells_other hn34 [.int .i64 v5] 5 Hb3.out)
  have b4 : Blk (((w6.setCell ⟨g4, 5, none⟩ (.int .i64 v5)).setCell ⟨g1, 0, none⟩ (.slice A5 n5 c5)).setCell ⟨g1, 1, none⟩ (.bool ok5)) g4 #[.int .i64 v0, .int .i64 v1, .string v2, .int .i64 v3, .string v4, .int .i64 v5, .string ⟨#[]⟩] 23 := Blk.setCells_other (Ne.symm hn14) [.slice A5 n5 c5, .bool ok5] 0 (Hb4.out.setCells [.int .i64 v5] 5)
  have hB : Below w.heap.size w (((w6.setCell ⟨g4, 5, none⟩ (.int .i64 v5)).setCell ⟨g1, 0, none⟩ (.slice A5 n5 c5)).setCell ⟨g1, 1, none⟩ (.bool ok5)) := bel_sets (bel_sets HBW.out HGE.out.2.2.2 5 [.int .i64 v5]) HGE.out.1 0 [.slice A5 n5 c5, .bool ok5]
  clear Hb1 Hb2 Hb3 Hb4 HBW a0 a1 fa0 fa1 a2 fa2
  generalize ((w6.setCell ⟨g4, 5, none⟩ (.int .i64 v5)).setCell ⟨g1, 0, none⟩ (.slice A5 n5 c5)).setCell ⟨g1, 1, none⟩ (.bool ok5) = X5 at *
  have a0 : X5.cell? ⟨g1, 0, none⟩ = some (.slice A5 n5 c5) := (b1.cell 0).trans rfl
  have a1 : X5.cell? ⟨g1, 1, none⟩ = some (.bool ok5) := (b1.cell 1).trans rfl
  have Hb1 := Lib.hid b1
  have Hb2 := Lib.hid b2
  have Hb3 := Lib.hid b3
  have Hb4 := Lib.hid b4
  have HBW := Lib.hid hB
  clear b1 b2 b3 b4 hB
  go_wp2_with fail
  rw [hn5.out]
  refine (dtxt_any w0 X5 (hw.trans (HBW.out.mono hw.size)) A5 c5 s5 ok5 HD5.out).mono ?_
  rintro e w7 ⟨v6, A6, s6, c6, ok6, rfl, _, hD6, hbel, rd6⟩
  obtain ⟨n6, hn6⟩ : ∃ m, Hid (m = s6.length) := ⟨_, rfl⟩
  rw [← hn6.out, ← hn5.out]
  have HD6 := Lib.hid hD6
  have b1 := Hb1.out.kp (S := fun _ => False) (Kp.of_below hbel) (fun h => h)
  have b2 := Hb2.out.kp (S := fun _ => False) (Kp.of_below hbel) (fun h => h)
  have b3 := Hb3.out.kp (S := fun _ => False) (Kp.of_below hbel) (fun h => h)
  have b4 := Hb4.out.kp (S := fun _ => False) (Kp.of_below hbel) (fun h => h)
  have hB := bel_next HBW.out hbel
  clear Hb1 Hb2 Hb3 Hb4 HBW hbel a0 a1 hD6
  have a0 : w7.cell? ⟨g1, 0, none⟩ = some (.slice A5 n5 c5) := (b1.cell 0).trans rfl
  have a1 : w7.cell? ⟨g1, 1, none⟩ = some (.bool ok5) := (b1.cell 1).trans rfl
  have fa0 := b1.frozen 0
  have fa1 := b1.frozen 1
  have a2 : w7.cell? ⟨g4, 6, none⟩ = some (.string ⟨#[]⟩) := (b4.cell 6).trans rfl
  have fa2 := b4.frozen 6
  have Hb1 := Lib.hid b1
  have Hb2 := Lib.hid b2
  have Hb3 := Lib.hid b3
  have Hb4 := Lib.hid b4
  have HBW := Lib.hid hB
  clear b1 b2 b3 b4 hB
  go_upto_region 9 with fail
  have b1 : Blk (((w7.setCell ⟨g4, 6, none⟩ (.string v6)).setCell ⟨g1, 0, none⟩ (.slice A6 n6 c6)).setCell ⟨g1, 1, none⟩ (.bool ok6)) g1 #[.slice A6 n6 c6, .bool ok6] 99 := (Blk.setCells_other hn14 [.string v6] 6 Hb1.out).setCells [.slice A6 n6 c6, .bool ok6] 0
  have b2 : Blk (((w7.setCell ⟨g4, 6, none⟩ (.string v6)).setCell ⟨g1, 0, none⟩ (.slice A6 n6 c6)).setCell ⟨g1, 1, none⟩ (.bool ok6)) g2 #[.int .i64 0, .int .i64 0, .string ⟨#[]⟩, .int .i64 0, .string ⟨#[]⟩, .int .i64 0, .string ⟨#[]⟩] 23 := Blk.setCells_other (Ne.symm hn12) [.slice A6 n6 c6, .bool ok6] 0 (Blk.setCells_other hn24 [.string v6] 6 Hb2.out)
  have b3 : Blk (((w7.setCell ⟨g4, 6, none⟩ (.string v6)).setCell ⟨g1, 0, none⟩ (.slice A6 n6 c6)).setCell ⟨g1, 1, none⟩ (.bool ok6)) g3 #[.slice none 0 0, .bool false] 99 := Blk.setCells_other (Ne.symm hn13) [.slice A6 n6 c6, .bool ok6] 0 (Blk.setCells_other hn34 [.string v6] 6 Hb3.out)
  have b4 : Blk (((w7.setCell ⟨g4, 6, none⟩ (.string v6)).setCell ⟨g1, 0, none⟩ (.slice A6 n6 c6)).setCell ⟨g1, 1, none⟩ (.bool ok6)) g4 #[.int .i64 v0, .int .i64 v1, .string v2, .int .i64 v3, .string v4, .int .i64 v5, .string v6] 23 := Blk.setCells_other (Ne.symm hn14) [.slice A6 n6 c6, .bool ok6] 0 (Hb4.out.setCells [.string v6] 6)
  have hB : Below w.heap.size w (((w7.setCell ⟨g4, 6, none⟩ (.string v6)).setCell ⟨g1, 0, none⟩ (.slice A6 n6 c6)).setCell ⟨g1, 1, none⟩ (.bool ok6)) := bel_sets (bel_sets HBW.out HGE.out.2.2.2 6 [.string v6]) HGE.out.1 0 [.slice A6 n6 c6, .bool ok6]
  clear Hb1 Hb2 Hb3 Hb4 HBW a0 a1 fa0 fa1 a2 fa2
  generalize ((w7.setCell ⟨g4, 6, none⟩ (.string v6)).setCell ⟨g1, 0, none⟩ (.slice A6 n6 c6)).setCell ⟨g1, 1, none⟩ (.bool ok6) = X6 at *
  have HR : Hid (Read (gop dnum dtxt) (stOf ok s) ⟨v0, v1, v2, v3, v4, v5, v6⟩ (stOf ok6 s6)) := rd0.bind (rd1.bind (rd2.bind (rd3.bind (rd4.bind (rd5.bind (rd6.bind (Read.ret _ _)))))))
  have t0 : X6.drew.cell? ⟨g1, 0, none⟩ = some (.slice A6 n6 c6) ∧ X6.drew.cell? ⟨g1, 1, none⟩ = some (.bool ok6) ∧ X6.drew.cell? ⟨g4, 0, none⟩ = some (.int .i64 v0) ∧ X6.drew.cell? ⟨g4, 1, none⟩ = some (.int .i64 v1) ∧ X6.drew.cell? ⟨g4, 2, none⟩ = some (.string v2) ∧ X6.drew.cell? ⟨g4, 3, none⟩ = some (.int .i64 v3) ∧ X6.drew.cell? ⟨g4, 4, none⟩ = some (.string v4) ∧ X6.drew.cell? ⟨g4, 5, none⟩ = some (.int .i64 v5) ∧ X6.drew.cell? ⟨g4, 6, none⟩ = some (.string v6) := ⟨(b1.cell 0).trans rfl, (b1.cell 1).trans rfl, (b4.cell 0).trans rfl, (b4.cell 1).trans rfl, (b4.cell 2).trans rfl, (b4.cell 3).trans rfl, (b4.cell 4).trans rfl, (b4.cell 5).trans rfl, (b4.cell 6).trans rfl⟩
  obtain ⟨Y1, hY1⟩ : ∃ Y, Y = (X6.setCells g2 0 [.int .i64 v0, .int .i64 v1, .string v2, .int .i64 v3, .string v4, .int .i64 v5, .string v6]).drew := ⟨_, rfl⟩
  have b1y : Blk Y1 g1 #[.slice A6 n6 c6, .bool ok6] 99 := by rw [hY1]; exact (Blk.setCells_other hn12 [.int .i64 v0, .int .i64 v1, .string v2, .int .i64 v3, .string v4, .int .i64 v5, .string v6] 0 b1).drew
  have b1z : Blk (Y1.setCells g3 0 [.slice A6 n6 c6, .bool ok6]) g1 #[.slice A6 n6 c6, .bool ok6] 99 := Blk.setCells_other hn13 [.slice A6 n6 c6, .bool ok6] 0 b1y
  have b4y : Blk Y1 g4 #[.int .i64 v0, .int .i64 v1, .string v2, .int .i64 v3, .string v4, .int .i64 v5, .string v6] 23 := by rw [hY1]; exact (Blk.setCells_other (Ne.symm hn24) [.int .i64 v0, .int .i64 v1, .string v2, .int .i64 v3, .string v4, .int .i64 v5, .string v6] 0 b4).drew
  have b4z : Blk (Y1.setCells g3 0 [.slice A6 n6 c6, .bool ok6]) g4 #[.int .i64 v0, .int .i64 v1, .string v2, .int .i64 v3, .string v4, .int .i64 v5, .string v6] 23 := Blk.setCells_other (Ne.symm hn34) [.slice A6 n6 c6, .bool ok6] 0 b4y
  have b2y : Blk Y1 g2 #[.int .i64 v0, .int .i64 v1, .string v2, .int .i64 v3, .string v4, .int .i64 v5, .string v6] 23 := by rw [hY1]; exact (b2.setCells [.int .i64 v0, .int .i64 v1, .string v2, .int .i64 v3, .string v4, .int .i64 v5, .string v6] 0).drew
  have b3y : Blk Y1 g3 #[.slice none 0 0, .bool false] 99 := by rw [hY1]; exact (Blk.setCells_other (Ne.symm hn23) [.int .i64 v0, .int .i64 v1, .string v2, .int .i64 v3, .string v4, .int .i64 v5, .string v6] 0 b3).drew
  have zB1 : Below w.heap.size w Y1 := by rw [hY1]; exact bel_drew (bel_sets hB HGE.out.2.1 0 [.int .i64 v0, .int .i64 v1, .string v2, .int .i64 v3, .string v4, .int .i64 v5, .string v6])
  have t1 : Y1.cell? ⟨g1, 0, none⟩ = some (.slice A6 n6 c6) ∧ Y1.cell? ⟨g1, 1, none⟩ = some (.bool ok6) ∧ Y1.cell? ⟨g4, 0, none⟩ = some (.int .i64 v0) ∧ Y1.cell? ⟨g4, 1, none⟩ = some (.int .i64 v1) ∧ Y1.cell? ⟨g4, 2, none⟩ = some (.string v2) ∧ Y1.cell? ⟨g4, 3, none⟩ = some (.int .i64 v3) ∧ Y1.cell? ⟨g4, 4, none⟩ = some (.string v4) ∧ Y1.cell? ⟨g4, 5, none⟩ = some (.int .i64 v5) ∧ Y1.cell? ⟨g4, 6, none⟩ = some (.string v6) := ⟨(b1y.cell 0).trans rfl, (b1y.cell 1).trans rfl, (b4y.cell 0).trans rfl, (b4y.cell 1).trans rfl, (b4y.cell 2).trans rfl, (b4y.cell 3).trans rfl, (b4y.cell 4).trans rfl, (b4y.cell 5).trans rfl, (b4y.cell 6).trans rfl⟩
  have t2 : (Y1.setCells g3 0 [.slice A6 n6 c6, .bool ok6]).cell? ⟨g1, 0, none⟩ = some (.slice A6 n6 c6) ∧ (Y1.setCells g3 0 [.slice A6 n6 c6, .bool ok6]).cell? ⟨g1, 1, none⟩ = some (.bool ok6) ∧ (Y1.setCells g3 0 [.slice A6 n6 c6, .bool ok6]).cell? ⟨g4, 0, none⟩ = some (.int .i64 v0) ∧ (Y1.setCells g3 0 [.slice A6 n6 c6, .bool ok6]).cell? ⟨g4, 1, none⟩ = some (.int .i64 v1) ∧ (Y1.setCells g3 0 [.slice A6 n6 c6, .bool ok6]).cell? ⟨g4, 2, none⟩ = some (.string v2) ∧ (Y1.setCells g3 0 [.slice A6 n6 c6, .bool ok6]).cell? ⟨g4, 3, none⟩ = some (.int .i64 v3) ∧ (Y1.setCells g3 0 [.slice A6 n6 c6, .bool ok6]).cell? ⟨g4, 4, none⟩ = some (.string v4) ∧ (Y1.setCells g3 0 [.slice A6 n6 c6, .bool ok6]).cell? ⟨g4, 5, none⟩ = some (.int .i64 v5) ∧ (Y1.setCells g3 0 [.slice A6 n6 c6, .bool ok6]).cell? ⟨g4, 6, none⟩ = some (.string v6) := ⟨(b1z.cell 0).trans rfl, (b1z.cell 1).trans rfl, (b4z.cell 0).trans rfl, (b4z.cell 1).trans rfl, (b4z.cell 2).trans rfl, (b4z.cell 3).trans rfl, (b4z.cell 4).trans rfl, (b4z.cell 5).trans rfl, (b4z.cell 6).trans rfl⟩
  have z2 : Blk (Y1.setCells g3 0 [.slice A6 n6 c6, .bool ok6]) g2 #[.int .i64 v0, .int .i64 v1, .string v2, .int .i64 v3, .string v4, .int .i64 v5, .string v6] 23 := Blk.setCells_other hn23 [.slice A6 n6 c6, .bool ok6] 0 b2y
  have z3 : Blk (Y1.setCells g3 0 [.slice A6 n6 c6, .bool ok6]) g3 #[.slice A6 n6 c6, .bool ok6] 99 := b3y.setCells [.slice A6 n6 c6, .bool ok6] 0
  have zB : Below w.heap.size w (Y1.setCells g3 0 [.slice A6 n6 c6, .bool ok6]) := bel_sets zB1 HGE.out.2.2.1 0 [.slice A6 n6 c6, .bool ok6]
  have HF := Lib.hid (in2_fin (fn := Try.f61) (Q := DGot w0 (gop dnum dtxt) (fun o : OpD => .agg o.cells.toArray) (fun _ => True) (stOf ok s) w) (vs := [.int .i64 v0, .int .i64 v1, .string v2, .int .i64 v3, .string v4, .int .i64 v5, .string v6]) rfl z2 Try.underlying23 rfl size_op z3 ⟨⟨v0, v1, v2, v3, v4, v5, v6⟩, A6, s6, c6, ok6, by rw [hn6.out]; rfl, trivial, HD6.out, zB, HR.out⟩)
  have q0 : X6.cell? ⟨g2, 0, none⟩ = some (.int .i64 0) := (b2.cell 0).trans rfl
  have fq0 := b2.frozen 0
  have q1 : X6.cell? ⟨g2, 1, none⟩ = some (.int .i64 0) := (b2.cell 1).trans rfl
  have fq1 := b2.frozen 1
  have q2 : X6.cell? ⟨g2, 2, none⟩ = some (.string ⟨#[]⟩) := (b2.cell 2).trans rfl
  have fq2 := b2.frozen 2
  have q3 : X6.cell? ⟨g2, 3, none⟩ = some (.int .i64 0) := (b2.cell 3).trans rfl
  have fq3 := b2.frozen 3
  have q4 : X6.cell? ⟨g2, 4, none⟩ = some (.string ⟨#[]⟩) := (b2.cell 4).trans rfl
  have fq4 := b2.frozen 4
  have q5 : X6.cell? ⟨g2, 5, none⟩ = some (.int .i64 0) := (b2.cell 5).trans rfl
  have fq5 := b2.frozen 5
  have q6 : X6.cell? ⟨g2, 6, none⟩ = some (.string ⟨#[]⟩) := (b2.cell 6).trans rfl
  have fq6 := b2.frozen 6
  have r0 : Y1.cell? ⟨g3, 0, none⟩ = some (.slice none 0 0) := (b3y.cell 0).trans rfl
  have r1 : Y1.cell? ⟨g3, 1, none⟩ = some (.bool false) := (b3y.cell 1).trans rfl
  have fr0 := b3y.frozen 0
  have fr1 := b3y.frozen 1
  have t1h := t1
  rw [hY1] at t1h
  have Ht1h := Lib.hid t1h
  have Ht2 := Lib.hid t2
  have HhY1 := Lib.hid hY1
  clear t1h t2 hY1 t1 z2 z3 zB zB1 hB b2 b3 b2y b3y b1 b1y b1z b4 b4y b4z
  refine wp_region_held_drew (S := fun w' => w'.cell? ⟨g1, 0, none⟩ = some (.slice A6 n6 c6) ∧ w'.cell? ⟨g1, 1, none⟩ = some (.bool ok6) ∧ w'.cell? ⟨g4, 0, none⟩ = some (.int .i64 v0) ∧ w'.cell? ⟨g4, 1, none⟩ = some (.int .i64 v1) ∧ w'.cell? ⟨g4, 2, none⟩ = some (.string v2) ∧ w'.cell? ⟨g4, 3, none⟩ = some (.int .i64 v3) ∧ w'.cell? ⟨g4, 4, none⟩ = some (.string v4) ∧ w'.cell? ⟨g4, 5, none⟩ = some (.int .i64 v5) ∧ w'.cell? ⟨g4, 6, none⟩ = some (.string v6)) (by kernel_rfl) t0 (fun hHeld => ?_)
  refine' wpAnyH_take (i := 0) (oi := _) (v := ?v1) rfl (by kernel_rfl) (by kernel_rfl) (by kernel_rfl) (fun _ _ _ h => h) (Or.inl ⟨by rfl, ?hy1⟩) (by assumption) ?rest1
  case hy1 => (intro w hSw; obtain ⟨s0, s1, s2, s3, s4, s5, s6, s7, s8⟩ := hSw; go_simp; (try with_reducible rfl))
  simp only [Act.put, List.setIfInBounds_toArray, List.set_cons_zero, List.set_cons_succ]
  refine' wpAnyH_take (i := 1) (oi := _) (v := ?v2) rfl (by kernel_rfl) (by kernel_rfl) (by kernel_rfl) (fun _ _ _ h => h) (Or.inl ⟨by rfl, ?hy2⟩) (by assumption) ?rest2
  case hy2 => (intro w hSw; obtain ⟨s0, s1, s2, s3, s4, s5, s6, s7, s8⟩ := hSw; go_simp; (try with_reducible rfl))
  simp only [Act.put, List.setIfInBounds_toArray, List.set_cons_zero, List.set_cons_succ]
  clear t0
  refine wpAnyH_ready (rs := [2]) (by kernel_rfl) (by simp) ?_
  refine AllReadyH.cons rfl (fun K hK => ?_) AllReadyH.nil
  go_simp
  refine hK.out _ ((X6.setCells g2 0 [.int .i64 v0, .int .i64 v1, .string v2, .int .i64 v3, .string v4, .int .i64 v5, .string v6]).drew) Ht1h.out (fun hHeld => ?_)
  clear hK K
  try simp only [Act.put, List.setIfInBounds_toArray, List.set_cons_zero, List.set_cons_succ]
  rw [← HhY1.out]
  refine wpAnyH_ready (rs := [3]) (by kernel_rfl) (by simp) ?_
  refine AllReadyH.cons rfl (fun K hK => ?_) AllReadyH.nil
  go_simp
  refine hK.out _ (Y1.setCells g3 0 [.slice A6 n6 c6, .bool ok6]) Ht2.out (fun hHeld => ?_)
  clear hK K
  try simp only [Act.put, List.setIfInBounds_toArray, List.set_cons_zero, List.set_cons_succ]
  refine wpAnyH_done (by kernel_rfl) ?_ _
  go_wp2_with fail
  exact HF.out _ (by rfl) (by rfl)

end Go.Proofs.Ytmhcjkiaogimgaa
