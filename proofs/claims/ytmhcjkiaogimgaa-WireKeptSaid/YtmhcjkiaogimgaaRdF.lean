/- The program's reader: op, entry. -/
import Derived.Test.YtmhcjkiaogimgaaRdE
namespace Go.Proofs.Ytmhcjkiaogimgaa
open Go.RowKit

theorem size_node : (Try.prog.info? 45).map (·.size) = some 4 := by kernel_rfl
theorem read_entry0 {st st' : Option (List Int)} {num : Prs Int} {txt : Prs ByteArray} (k : KeyD) (n : NodeD) (h : Read (gnode num txt) st n st') : Read (if (0 : Int) = 1 then pret ⟨k, true, NodeD.zero⟩ else pbind (gnode num txt) fun n => if (0 : Int) = 0 then pret ⟨k, false, n⟩ else pfail) st (⟨k, false, n⟩ : EntryD) st' := by
  rw [if_neg (by decide)]
  exact h.bind (Read.ret _ _)
theorem read_entry2 {f : Int} {num : Prs Int} {txt : Prs ByteArray} (k : KeyD) (h0 : ¬ f = 0) (h1 : ¬ f = 1) (s : List Int) : (if f = 1 then pret (⟨k, true, NodeD.zero⟩ : EntryD) else pbind (gnode num txt) fun n => if f = 0 then pret ⟨k, false, n⟩ else pfail) s = none := by
  rw [if_neg h1, pbind]
  split
  · rw [if_neg h0]; rfl
  · rfl
set_option maxRecDepth 100000 in
set_option maxHeartbeats 4000000 in
theorem rop1_any (w : World) (q : Nat) (A : Option Addr) (c : Nat) (l : List Int) (st0 : Option (List Int)) (h : RSt w q A c l st0) :
    Calls Try.prog 57 #[.pointer (some ⟨q, 0, none⟩)] w (Got (gop pnum ptxt) (fun o => .agg o.cells.toArray) (fun _ => True) q A c l st0 w) := by
  have hlt := h.lt
  have G0 := h.start.al (.cells #[.int .i64 0, .int .i64 0, .string ⟨#[]⟩, .int .i64 0, .string ⟨#[]⟩, .int .i64 0, .string ⟨#[]⟩] 23)
  have B0 := Blk.new w #[.int .i64 0, .int .i64 0, .string ⟨#[]⟩, .int .i64 0, .string ⟨#[]⟩, .int .i64 0, .string ⟨#[]⟩] 23
  clear h
  go_enter Try.func57, Try.ntmps57
  have HG := Lib.hid G0
  have HB := Lib.hid B0
  clear G0 B0
  go_wp2_with fail
  refine (rbyte_any _ q A c l st0 HG.out.rst).mono ?_
  rintro e w1 ⟨v0, st1, rfl, _, hk, hr, rd0⟩
  have G1 := HG.out.next hk hr
  have B1 := box_keep HB.out hk (by omega)
  clear HG HB hk hr
  have HG := Lib.hid G1
  have HB := Lib.hid B1
  clear G1 B1
  go_wp2_with fail
  refine (rnum_any _ q A c l st1 HG.out.rst).mono ?_
  rintro e w2 ⟨v1, st2, rfl, _, hk, hr, rd1⟩
  have G2 := HG.out.next hk hr
  have B2 := box_keep HB.out hk (by omega)
  clear HG HB hk hr
  have HG := Lib.hid G2
  have HB := Lib.hid B2
  clear G2 B2
  go_wp2_with fail
  refine (rtxt_any _ q A c l st2 HG.out.rst).mono ?_
  rintro e w3 ⟨v2, st3, rfl, _, hk, hr, rd2⟩
  have G3 := HG.out.next hk hr
  have B3 := box_keep HB.out hk (by omega)
  clear HG HB hk hr
  have HG := Lib.hid G3
  have HB := Lib.hid B3
  clear G3 B3
  go_wp2_with fail
  refine (rnum_any _ q A c l st3 HG.out.rst).mono ?_
  rintro e w4 ⟨v3, st4, rfl, _, hk, hr, rd3⟩
  have G4 := HG.out.next hk hr
  have B4 := box_keep HB.out hk (by omega)
  clear HG HB hk hr
  have HG := Lib.hid G4
  have HB := Lib.hid B4
  clear G4 B4
  go_wp2_with fail
  refine (rtxt_any _ q A c l st4 HG.out.rst).mono ?_
  rintro e w5 ⟨v4, st5, rfl, _, hk, hr, rd4⟩
  have G5 := HG.out.next hk hr
  have B5 := box_keep HB.out hk (by omega)
  clear HG HB hk hr
  have HG := Lib.hid G5
  have HB := Lib.hid B5
  clear G5 B5
  go_wp2_with fail
  refine (rnum_any _ q A c l st5 HG.out.rst).mono ?_
  rintro e w6 ⟨v5, st6, rfl, _, hk, hr, rd5⟩
  have G6 := HG.out.next hk hr
  have B6 := box_keep HB.out hk (by omega)
  clear HG HB hk hr
  have HG := Lib.hid G6
  have HB := Lib.hid B6
  clear G6 B6
  go_wp2_with fail
  refine (rtxt_any _ q A c l st6 HG.out.rst).mono ?_
  rintro e w7 ⟨v6, st7, rfl, _, hk, hr, rd6⟩
  have G7 := HG.out.next hk hr
  have B7 := box_keep HB.out hk (by omega)
  clear HG HB hk hr
  have c0 : w7.cell? ⟨w.heap.size, 0, none⟩ = some (.int .i64 0) := by rw [B7.cell]; rfl
  have f0 := B7.frozen 0
  have c1 : w7.cell? ⟨w.heap.size, 1, none⟩ = some (.int .i64 0) := by rw [B7.cell]; rfl
  have f1 := B7.frozen 1
  have c2 : w7.cell? ⟨w.heap.size, 2, none⟩ = some (.string ⟨#[]⟩) := by rw [B7.cell]; rfl
  have f2 := B7.frozen 2
  have c3 : w7.cell? ⟨w.heap.size, 3, none⟩ = some (.int .i64 0) := by rw [B7.cell]; rfl
  have f3 := B7.frozen 3
  have c4 : w7.cell? ⟨w.heap.size, 4, none⟩ = some (.string ⟨#[]⟩) := by rw [B7.cell]; rfl
  have f4 := B7.frozen 4
  have c5 : w7.cell? ⟨w.heap.size, 5, none⟩ = some (.int .i64 0) := by rw [B7.cell]; rfl
  have f5 := B7.frozen 5
  have c6 : w7.cell? ⟨w.heap.size, 6, none⟩ = some (.string ⟨#[]⟩) := by rw [B7.cell]; rfl
  have f6 := B7.frozen 6
  have HR : Hid (Read (gop pnum ptxt) st0 ⟨v0, v1, v2, v3, v4, v5, v6⟩ st7) := rd0.bind (rd1.bind (rd2.bind (rd3.bind (rd4.bind (rd5.bind (rd6.bind (Read.ret _ _)))))))
  have HF := Lib.hid (box_fin (fn := Try.f57) rfl B7 [.int .i64 v0, .int .i64 v1, .string v2, .int .i64 v3, .string v4, .int .i64 v5, .string v6] rfl Try.underlying23 rfl size_op ((G7.sets (Nat.le_refl _) 0 [.int .i64 v0, .int .i64 v1, .string v2, .int .i64 v3, .string v4, .int .i64 v5, .string v6]).fin (p := gop pnum ptxt) (val := fun o : OpD => .agg o.cells.toArray) (v := ⟨v0, v1, v2, v3, v4, v5, v6⟩) rfl HR.out))
  clear B7 G7 rd0 rd1 rd2 rd3 rd4 rd5 rd6
  go_wp2_with fail
  exact HF.out _ (by rfl)

set_option maxRecDepth 100000 in
set_option maxHeartbeats 4000000 in
theorem rentry1_any (w : World) (q : Nat) (A : Option Addr) (c : Nat) (l : List Int) (st0 : Option (List Int)) (h : RSt w q A c l st0) :
    Calls Try.prog 56 #[.pointer (some ⟨q, 0, none⟩)] w (Got (gentry pnum ptxt) (fun o => .agg o.cells.toArray) (fun _ => True) q A c l st0 w) := by
  have hlt := h.lt
  have G0 := h.start.al (.cells #[.int .i64 0, .string ⟨#[]⟩, .bool false, .int .i64 0, .int .i64 0, .int .i64 0, .string ⟨#[]⟩] 47)
  have B0 := Blk.new w #[.int .i64 0, .string ⟨#[]⟩, .bool false, .int .i64 0, .int .i64 0, .int .i64 0, .string ⟨#[]⟩] 47
  clear h
  go_enter Try.func56, Try.ntmps56
  have HG := Lib.hid G0
  have HB := Lib.hid B0
  clear G0 B0
  go_wp2_with fail
  refine (rkey1_any _ q A c l st0 HG.out.rst).mono ?_
  rintro e w1 ⟨⟨kd, kn⟩, st1, he, _, hk, hr, rd0⟩
  have he : e = .returned (.agg #[.int .i64 kd, .string kn]) := he
  subst he
  have hsz := HG.out.kp.size
  have G1 := (HG.out.next hk hr).al (.cells #[.int .i64 kd, .string kn, .bool false, .int .i64 0, .int .i64 0, .int .i64 0, .string ⟨#[]⟩] 47)
  have B1 := (box_keep HB.out hk (by omega)).alloc (.cells #[.int .i64 kd, .string kn, .bool false, .int .i64 0, .int .i64 0, .int .i64 0, .string ⟨#[]⟩] 47)
  have D1 := Blk.new w1 #[.int .i64 kd, .string kn, .bool false, .int .i64 0, .int .i64 0, .int .i64 0, .string ⟨#[]⟩] 47
  have hne : w.heap.size < w1.heap.size := by have := hk.size; have := HB.out.lt; omega
  clear HG HB hk hr hsz he
  have HG := Lib.hid G1
  have HB := Lib.hid B1
  have HD := Lib.hid D1
  clear G1 B1 D1
  go_wp2_with fail
  refine (rbyte_any _ q A c l st1 HG.out.rst).mono ?_
  rintro e w2 ⟨f, st2, rfl, _, hk, hr, rd1⟩
  have G2 := HG.out.next hk hr
  have B2 := box_keep HB.out hk (by omega)
  have D2 := box_keep HD.out hk (by omega)
  clear HG HB HD hk hr
  generalize w1.heap.size = g1 at *
  have hn1 : ¬ w.heap.size = g1 := by omega
  have hn2 : ¬ g1 = w.heap.size := by omega
  have hn3 : ¬ q = g1 := by omega
  have hn4 : ¬ q = w.heap.size := by omega
  have hn5 : ¬ g1 = q := by omega
  have hn6 : ¬ w.heap.size = q := by omega
  by_cases hf : f = 0
  · subst hf
    have HG := Lib.hid G2
    have HB := Lib.hid B2
    have HD := Lib.hid D2
    clear G2 B2 D2

    go_wp2_with fail
    refine (rnum_any _ q A c l st2 HG.out.rst).mono ?_
    rintro e w3 ⟨v0, st3, rfl, _, hk, hr, rd2⟩
    have G3 := Lib.hid (HG.out.next hk hr)
    have B3 := Lib.hid (box_keep HB.out hk (by omega))
    have D3 := Lib.hid (box_keep HD.out hk (by omega))
    clear HG HB HD hk hr
    obtain ⟨HG, HB, HD⟩ : _ ∧ _ ∧ _ := ⟨G3, B3, D3⟩
    clear G3 B3 D3
    go_wp2_with fail
    refine (rbyte_any _ q A c l st3 HG.out.rst).mono ?_
    rintro e w4 ⟨v1, st4, rfl, _, hk, hr, rd3⟩
    have G3 := Lib.hid (HG.out.next hk hr)
    have B3 := Lib.hid (box_keep HB.out hk (by omega))
    have D3 := Lib.hid (box_keep HD.out hk (by omega))
    clear HG HB HD hk hr
    obtain ⟨HG, HB, HD⟩ : _ ∧ _ ∧ _ := ⟨G3, B3, D3⟩
    clear G3 B3 D3
    go_wp2_with fail
    refine (rnum_any _ q A c l st4 HG.out.rst).mono ?_
    rintro e w5 ⟨v2, st5, rfl, _, hk, hr, rd4⟩
    have G3 := Lib.hid (HG.out.next hk hr)
    have B3 := Lib.hid (box_keep HB.out hk (by omega))
    have D3 := Lib.hid (box_keep HD.out hk (by omega))
    clear HG HB HD hk hr
    obtain ⟨HG, HB, HD⟩ : _ ∧ _ ∧ _ := ⟨G3, B3, D3⟩
    clear G3 B3 D3
    go_wp2_with fail
    refine (rtxt_any _ q A c l st5 HG.out.rst).mono ?_
    rintro e w6 ⟨v3, st6, rfl, _, hk, hr, rd5⟩
    have G3 := Lib.hid (HG.out.next hk hr)
    have B3 := Lib.hid (box_keep HB.out hk (by omega))
    have D3 := Lib.hid (box_keep HD.out hk (by omega))
    clear HG HB HD hk hr
    obtain ⟨HG, HB, HD⟩ : _ ∧ _ ∧ _ := ⟨G3, B3, D3⟩
    clear G3 B3 D3
    have b0 : w6.cell? ⟨w.heap.size, 0, none⟩ = some (.int .i64 0) := by rw [HB.out.cell]; rfl
    have d0 : w6.cell? ⟨g1, 0, none⟩ = some (.int .i64 kd) := by rw [HD.out.cell]; rfl
    have fb0 := HB.out.frozen 0
    have fd0 := HD.out.frozen 0
    have b1 : w6.cell? ⟨w.heap.size, 1, none⟩ = some (.string ⟨#[]⟩) := by rw [HB.out.cell]; rfl
    have d1 : w6.cell? ⟨g1, 1, none⟩ = some (.string kn) := by rw [HD.out.cell]; rfl
    have fb1 := HB.out.frozen 1
    have fd1 := HD.out.frozen 1
    have b2 : w6.cell? ⟨w.heap.size, 2, none⟩ = some (.bool false) := by rw [HB.out.cell]; rfl
    have d2 : w6.cell? ⟨g1, 2, none⟩ = some (.bool false) := by rw [HD.out.cell]; rfl
    have fb2 := HB.out.frozen 2
    have fd2 := HD.out.frozen 2
    have b3 : w6.cell? ⟨w.heap.size, 3, none⟩ = some (.int .i64 0) := by rw [HB.out.cell]; rfl
    have d3 : w6.cell? ⟨g1, 3, none⟩ = some (.int .i64 0) := by rw [HD.out.cell]; rfl
    have fb3 := HB.out.frozen 3
    have fd3 := HD.out.frozen 3
    have b4 : w6.cell? ⟨w.heap.size, 4, none⟩ = some (.int .i64 0) := by rw [HB.out.cell]; rfl
    have d4 : w6.cell? ⟨g1, 4, none⟩ = some (.int .i64 0) := by rw [HD.out.cell]; rfl
    have fb4 := HB.out.frozen 4
    have fd4 := HD.out.frozen 4
    have b5 : w6.cell? ⟨w.heap.size, 5, none⟩ = some (.int .i64 0) := by rw [HB.out.cell]; rfl
    have d5 : w6.cell? ⟨g1, 5, none⟩ = some (.int .i64 0) := by rw [HD.out.cell]; rfl
    have fb5 := HB.out.frozen 5
    have fd5 := HD.out.frozen 5
    have b6 : w6.cell? ⟨w.heap.size, 6, none⟩ = some (.string ⟨#[]⟩) := by rw [HB.out.cell]; rfl
    have d6 : w6.cell? ⟨g1, 6, none⟩ = some (.string ⟨#[]⟩) := by rw [HD.out.cell]; rfl
    have fb6 := HB.out.frozen 6
    have fd6 := HD.out.frozen 6
    have HR : Hid (Read (gentry pnum ptxt) st0 ⟨⟨kd, kn⟩, false, ⟨v0, v1, v2, v3⟩⟩ st6) := rd0.bind (rd1.bind (read_entry0 _ _ (rd2.bind (rd3.bind (rd4.bind (rd5.bind (Read.ret _ _)))))))
    have HF := Lib.hid (box_fin (fn := Try.f56) rfl (Blk.setCells_other hn1 [.int .i64 v0, .int .i64 v1, .int .i64 v2, .string v3] 3 HB.out) [.int .i64 kd, .string kn, .bool false, .int .i64 v0, .int .i64 v1, .int .i64 v2, .string v3] rfl Try.underlying47 rfl size_entry (((HG.out.sets (Nat.le_of_lt hne) 3 [.int .i64 v0, .int .i64 v1, .int .i64 v2, .string v3]).sets (Nat.le_refl _) 0 [.int .i64 kd, .string kn, .bool false, .int .i64 v0, .int .i64 v1, .int .i64 v2, .string v3]).fin (p := gentry pnum ptxt) (val := fun o : EntryD => .agg o.cells.toArray) (v := ⟨⟨kd, kn⟩, false, ⟨v0, v1, v2, v3⟩⟩) rfl HR.out))
    clear HG HB HD rd0 rd1 rd2 rd3 rd4 rd5
    go_wp2_with fail
    exact HF.out _ (by rfl)
  · by_cases hf1 : f = 1
    · subst hf1
      have b0 : w2.cell? ⟨w.heap.size, 0, none⟩ = some (.int .i64 0) := by rw [B2.cell]; rfl
      have d0 : w2.cell? ⟨g1, 0, none⟩ = some (.int .i64 kd) := by rw [D2.cell]; rfl
      have fb0 := B2.frozen 0
      have fd0 := D2.frozen 0
      have b1 : w2.cell? ⟨w.heap.size, 1, none⟩ = some (.string ⟨#[]⟩) := by rw [B2.cell]; rfl
      have d1 : w2.cell? ⟨g1, 1, none⟩ = some (.string kn) := by rw [D2.cell]; rfl
      have fb1 := B2.frozen 1
      have fd1 := D2.frozen 1
      have b2 : w2.cell? ⟨w.heap.size, 2, none⟩ = some (.bool false) := by rw [B2.cell]; rfl
      have d2 : w2.cell? ⟨g1, 2, none⟩ = some (.bool false) := by rw [D2.cell]; rfl
      have fb2 := B2.frozen 2
      have fd2 := D2.frozen 2
      have b3 : w2.cell? ⟨w.heap.size, 3, none⟩ = some (.int .i64 0) := by rw [B2.cell]; rfl
      have d3 : w2.cell? ⟨g1, 3, none⟩ = some (.int .i64 0) := by rw [D2.cell]; rfl
      have fb3 := B2.frozen 3
      have fd3 := D2.frozen 3
      have b4 : w2.cell? ⟨w.heap.size, 4, none⟩ = some (.int .i64 0) := by rw [B2.cell]; rfl
      have d4 : w2.cell? ⟨g1, 4, none⟩ = some (.int .i64 0) := by rw [D2.cell]; rfl
      have fb4 := B2.frozen 4
      have fd4 := D2.frozen 4
      have b5 : w2.cell? ⟨w.heap.size, 5, none⟩ = some (.int .i64 0) := by rw [B2.cell]; rfl
      have d5 : w2.cell? ⟨g1, 5, none⟩ = some (.int .i64 0) := by rw [D2.cell]; rfl
      have fb5 := B2.frozen 5
      have fd5 := D2.frozen 5
      have b6 : w2.cell? ⟨w.heap.size, 6, none⟩ = some (.string ⟨#[]⟩) := by rw [B2.cell]; rfl
      have d6 : w2.cell? ⟨g1, 6, none⟩ = some (.string ⟨#[]⟩) := by rw [D2.cell]; rfl
      have fb6 := B2.frozen 6
      have fd6 := D2.frozen 6
      have HR : Hid (Read (gentry pnum ptxt) st0 ⟨⟨kd, kn⟩, true, NodeD.zero⟩ st2) := rd0.bind (rd1.bind (Read.ret _ _))
      have HF := Lib.hid (box_fin (fn := Try.f56) rfl (Blk.setCells_other hn1 [.bool true] 2 B2) [.int .i64 kd, .string kn, .bool true, .int .i64 0, .int .i64 0, .int .i64 0, .string ⟨#[]⟩] rfl Try.underlying47 rfl size_entry (((G2.sets (Nat.le_of_lt hne) 2 [.bool true]).sets (Nat.le_refl _) 0 [.int .i64 kd, .string kn, .bool true, .int .i64 0, .int .i64 0, .int .i64 0, .string ⟨#[]⟩]).fin (p := gentry pnum ptxt) (val := fun o : EntryD => .agg o.cells.toArray) (v := ⟨⟨kd, kn⟩, true, NodeD.zero⟩) rfl HR.out))
      clear G2 B2 D2 rd0 rd1
      go_wp2_with fail
      exact HF.out _ (by rfl)
    · obtain ⟨k, bad, qc0, qc1, qc2, qf1, qf2, _, _⟩ := G2.rst.cells
      have b0 : w2.cell? ⟨w.heap.size, 0, none⟩ = some (.int .i64 0) := by rw [B2.cell]; rfl
      have d0 : w2.cell? ⟨g1, 0, none⟩ = some (.int .i64 kd) := by rw [D2.cell]; rfl
      have fb0 := B2.frozen 0
      have fd0 := D2.frozen 0
      have b1 : w2.cell? ⟨w.heap.size, 1, none⟩ = some (.string ⟨#[]⟩) := by rw [B2.cell]; rfl
      have d1 : w2.cell? ⟨g1, 1, none⟩ = some (.string kn) := by rw [D2.cell]; rfl
      have fb1 := B2.frozen 1
      have fd1 := D2.frozen 1
      have b2 : w2.cell? ⟨w.heap.size, 2, none⟩ = some (.bool false) := by rw [B2.cell]; rfl
      have d2 : w2.cell? ⟨g1, 2, none⟩ = some (.bool false) := by rw [D2.cell]; rfl
      have fb2 := B2.frozen 2
      have fd2 := D2.frozen 2
      have b3 : w2.cell? ⟨w.heap.size, 3, none⟩ = some (.int .i64 0) := by rw [B2.cell]; rfl
      have d3 : w2.cell? ⟨g1, 3, none⟩ = some (.int .i64 0) := by rw [D2.cell]; rfl
      have fb3 := B2.frozen 3
      have fd3 := D2.frozen 3
      have b4 : w2.cell? ⟨w.heap.size, 4, none⟩ = some (.int .i64 0) := by rw [B2.cell]; rfl
      have d4 : w2.cell? ⟨g1, 4, none⟩ = some (.int .i64 0) := by rw [D2.cell]; rfl
      have fb4 := B2.frozen 4
      have fd4 := D2.frozen 4
      have b5 : w2.cell? ⟨w.heap.size, 5, none⟩ = some (.int .i64 0) := by rw [B2.cell]; rfl
      have d5 : w2.cell? ⟨g1, 5, none⟩ = some (.int .i64 0) := by rw [D2.cell]; rfl
      have fb5 := B2.frozen 5
      have fd5 := D2.frozen 5
      have b6 : w2.cell? ⟨w.heap.size, 6, none⟩ = some (.string ⟨#[]⟩) := by rw [B2.cell]; rfl
      have d6 : w2.cell? ⟨g1, 6, none⟩ = some (.string ⟨#[]⟩) := by rw [D2.cell]; rfl
      have fb6 := B2.frozen 6
      have fd6 := D2.frozen 6
      have HR : Hid (Read (gentry pnum ptxt) st0 ⟨⟨kd, kn⟩, false, NodeD.zero⟩ none) := rd0.bind (rd1.bind (Read.fail (read_entry2 _ hf hf1) _ _))
      obtain ⟨gk, gr⟩ := G2.rst.stop (Drawn.refl _)
      have HF := Lib.hid (box_fin (fn := Try.f56) rfl (box_keep B2 gk hn6) [.int .i64 kd, .string kn, .bool false, .int .i64 0, .int .i64 0, .int .i64 0, .string ⟨#[]⟩] rfl Try.underlying47 rfl size_entry (((G2.next gk gr).sets (Nat.le_refl _) 0 [.int .i64 kd, .string kn, .bool false, .int .i64 0, .int .i64 0, .int .i64 0, .string ⟨#[]⟩]).fin (p := gentry pnum ptxt) (val := fun o : EntryD => .agg o.cells.toArray) (v := ⟨⟨kd, kn⟩, false, NodeD.zero⟩) rfl HR.out))
      clear G2 B2 D2 rd0 rd1 gk gr
      go_wp2_with fail
      exact HF.out _ (by rfl)

end Go.Proofs.Ytmhcjkiaogimgaa
