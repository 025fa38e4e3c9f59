/- A disk: what it holds, and what New, has, Size, On, Writes, Cut, Power, Fuse do with it. -/
import Derived.Test.YtmliiggieclbeaaDskA
namespace Go.Proofs.Ytmliiggieclbeaa
open Go.RowKit

/-- A disk as plain data: c i: the bytes of block i. -/
structure DS where
  n : Nat
  off : Bool
  fuse : Int
  writes : Int
  c : Nat → List Int

/-- Block d of memory is the disk's struct, block g its row of blocks. -/
structure DiskAt (w : World) (d g : Nat) (s : DS) : Prop where
  box : ∃ cap, s.n ≤ cap ∧ Blk w d #[.slice (some ⟨g, 0, none⟩) s.n cap, .bool s.off, .int .i64 s.fuse, .int .i64 s.writes] 85
  row : ∃ cs, Blk w g cs 87 ∧ 64 * s.n ≤ cs.size ∧ ∀ i, i < s.n → ∀ j, j < 64 → cs[64 * i + j]? = some (.int .u8 ((s.c i).getD j 0))
  ne : d ≠ g
  low : 1 ≤ s.n
  high : s.n ≤ 1024
  fuse0 : -1 ≤ s.fuse
  fuse1 : s.fuse ≤ 9223372036854775807
  wr0 : 0 ≤ s.writes
  wr1 : s.writes ≤ 4611686018427387904
  len : ∀ i, i < s.n → (s.c i).length = 64
theorem DiskAt.kp {S : Nat → Prop} {w w' : World} {d g : Nat} {s : DS} (h : DiskAt w d g s) (hk : Kp S w w') (h1 : ¬ S d) (h2 : ¬ S g) : DiskAt w' d g s := by
  obtain ⟨cap, hc, hb⟩ := h.box
  obtain ⟨cs, hr, hs⟩ := h.row
  exact ⟨⟨cap, hc, hb.kp hk h1⟩, ⟨cs, hr.kp hk h2, hs⟩, h.ne, h.low, h.high, h.fuse0, h.fuse1, h.wr0, h.wr1, h.len⟩
theorem DiskAt.lt {w : World} {d g : Nat} {s : DS} (h : DiskAt w d g s) : d < w.heap.size ∧ g < w.heap.size := by
  obtain ⟨cap, hc, hb⟩ := h.box
  obtain ⟨cs, hr, hs⟩ := h.row
  exact ⟨hb.lt, hr.lt⟩
theorem DiskAt.below {w w' : World} {d g : Nat} {s : DS} (h : DiskAt w d g s) (hk : Below w.heap.size w w') : DiskAt w' d g s := h.kp (S := fun _ => False) (Kp.of_below hk) (fun h => h) (fun h => h)

theorem DiskAt.cells {w : World} {d g : Nat} {s : DS} (h : DiskAt w d g s) : ∃ cap, s.n ≤ cap ∧ w.cell? ⟨d, 0, none⟩ = some (.slice (some ⟨g, 0, none⟩) s.n cap) ∧ w.cell? ⟨d, 1, none⟩ = some (.bool s.off) ∧ w.cell? ⟨d, 2, none⟩ = some (.int .i64 s.fuse) ∧ w.cell? ⟨d, 3, none⟩ = some (.int .i64 s.writes) ∧ (∀ j, w.frozen? ⟨d, j, none⟩ = false) := by
  obtain ⟨cap, hc, hb⟩ := h.box
  exact ⟨cap, hc, by rw [hb.cell]; rfl, by rw [hb.cell]; rfl, by rw [hb.cell]; rfl, by rw [hb.cell]; rfl, fun j => hb.frozen j⟩

theorem zero64 : (Try.prog.info? 87).map (fun i => (i.zero.map Value.cells, i.size, i.bytes)) = some (some (Array.replicate 64 (.int .u8 0)), 64, 64) := by kernel_rfl
def zeroRow (n : Nat) : Array Value := madeCells (Array.replicate 64 (.int .u8 0)) (n * 64)
theorem zeroRow_size (n : Nat) : (zeroRow n).size = n * 64 := size_madeCells _ _
theorem zeroRow_get (n j : Nat) (h : j < n * 64) : (zeroRow n)[j]? = some (.int .u8 0) := by
  unfold zeroRow madeCells
  have hj : j % 64 < 64 := Nat.mod_lt _ (by omega)
  simp [h, Array.getElem!_eq_getD, Array.getD, hj]
theorem run_makeRow (n : Nat) (hn : n ≤ 1024) (W : World) : (Instr.makeSlice 83 (.int .i64 (n : Int)) (.int .i64 (n : Int))).run Try.prog W = .ok (.slice (some ⟨W.heap.size, 0, none⟩) n n) (W.alloc (.cells (zeroRow n) 87)) := by
  obtain ⟨i, hi, hzz⟩ := Option.map_eq_some_iff.1 zero64
  simp only [Prod.mk.injEq] at hzz
  obtain ⟨hz, hs, hb⟩ := hzz
  obtain ⟨z, hz1, hz2⟩ := Option.map_eq_some_iff.1 hz
  have := run_make (P := Try.prog) W 83 87 i z Try.underlying83 hi hz1 .i64 .i64 n n (by omega) (by omega) (by rw [hb]; omega) (by omega)
  rw [hz2, hs] at this
  exact this

/-- A new disk. -/
def DS.new (n : Nat) : DS := ⟨n, false, -1, 0, fun _ => List.replicate 64 0⟩

set_option maxHeartbeats 400000 in
theorem new_ok (n : Nat) (w : World) (h0 : 1 ≤ n) (hn : n ≤ 1024) :
    Calls Try.prog 32 #[.int .i64 (n : Int)] w fun e w' => e = .returned (.tuple #[.pointer (some ⟨w.heap.size + 1, 0, none⟩), .int .i64 0]) ∧ Below w.heap.size w w' ∧ DiskAt w' (w.heap.size + 1) w.heap.size (DS.new n) := by
  have hmk := run_makeRow n hn
  go_enter Try.func32, Try.ntmps32
  go_wp2
  go_ret2
  refine ⟨rfl, ((Below.refl _ _).alloc (Nat.le_refl _) _).alloc (by simp) _, ?_⟩
  refine ⟨⟨n, Nat.le_refl _, ?_⟩, ⟨zeroRow n, (Blk.new w _ _).alloc _, by rw [zeroRow_size]; simp only [DS.new]; omega, fun i hi j hj => ?_⟩, by omega, h0, hn, by simp [DS.new], by simp [DS.new], by simp [DS.new], by simp [DS.new], fun i _ => by simp [DS.new]⟩
  · have := Blk.new (w.alloc (.cells (zeroRow n) 87)) #[.slice (some ⟨w.heap.size, 0, none⟩) n n, .bool false, .int .i64 (-1), .int .i64 0] 85
    simpa [DS.new] using this
  · simp only [DS.new] at hi
    rw [zeroRow_get n _ (by omega)]
    simp only [DS.new, List.getD_eq_getElem?_getD, List.getElem?_replicate]
    rw [if_pos hj]; rfl

theorem new_bad (n : Int) (w : World) (h : n < 1 ∨ 1024 < n) :
    Calls Try.prog 32 #[.int .i64 n] w fun e w' => e = .returned (.tuple #[.pointer none, .int .i64 1]) ∧ w = w' := by
  rcases h with h | h
  all_goals
    go_enter Try.func32, Try.ntmps32
    go_wp2
    go_ret2
    exact ⟨rfl, rfl⟩

set_option maxHeartbeats 400000 in
theorem size_any (w : World) (d g : Nat) (s : DS) (h : DiskAt w d g s) :
    Calls Try.prog 40 #[.pointer (some ⟨d, 0, none⟩)] w fun e w' => e = .returned (.int .i64 s.n) ∧ w = w' := by
  obtain ⟨cap, hc, h0, h1, h2, h3, hf⟩ := h.cells
  go_enter Try.func40, Try.ntmps40
  go_wp2
  go_ret
  exact ⟨rfl, rfl⟩

set_option maxHeartbeats 400000 in
theorem has_any (w : World) (d g : Nat) (s : DS) (h : DiskAt w d g s) (i : Int) :
    Calls Try.prog 50 #[.pointer (some ⟨d, 0, none⟩), .int .i64 i] w fun e w' => e = .returned (.bool (decide (0 ≤ i ∧ i < s.n))) ∧ w = w' := by
  obtain ⟨cap, hc, h0, h1, h2, h3, hf⟩ := h.cells
  by_cases hi : 0 ≤ i
  · by_cases hj : i < s.n
    all_goals
      go_enter Try.func50, Try.ntmps50
      go_wp2
      go_ret
      exact ⟨bb (by simp [hi, hj]), rfl⟩
  · go_enter Try.func50, Try.ntmps50
    go_wp2
    go_ret
    exact ⟨bb (by simp; omega), rfl⟩

set_option maxHeartbeats 400000 in
theorem on_any (w : World) (d g : Nat) (s : DS) (h : DiskAt w d g s) :
    Calls Try.prog 31 #[.pointer (some ⟨d, 0, none⟩)] w fun e w' => e = .returned (.bool (!s.off)) ∧ w = w' := by
  obtain ⟨cap, hc, h0, h1, h2, h3, hf⟩ := h.cells
  go_enter Try.func31, Try.ntmps31
  go_wp2
  go_ret
  exact ⟨rfl, rfl⟩

set_option maxHeartbeats 400000 in
theorem writes_any (w : World) (d g : Nat) (s : DS) (h : DiskAt w d g s) :
    Calls Try.prog 46 #[.pointer (some ⟨d, 0, none⟩)] w fun e w' => e = .returned (.int .i64 s.writes) ∧ w = w' := by
  obtain ⟨cap, hc, h0, h1, h2, h3, hf⟩ := h.cells
  go_enter Try.func46, Try.ntmps46
  go_wp2
  go_ret
  exact ⟨rfl, rfl⟩

/-- The struct's cells turned, the row of blocks left. -/
theorem DiskAt.turn {w w' : World} {d g : Nat} {s : DS} (h : DiskAt w d g s) (off : Bool) (fuse writes : Int) (hk : Kp (fun k => k = d) w w')
    (hb : ∀ cap, Blk w d #[.slice (some ⟨g, 0, none⟩) s.n cap, .bool s.off, .int .i64 s.fuse, .int .i64 s.writes] 85 → Blk w' d #[.slice (some ⟨g, 0, none⟩) s.n cap, .bool off, .int .i64 fuse, .int .i64 writes] 85)
    (h0 : -1 ≤ fuse) (h1 : fuse ≤ 9223372036854775807) (h2 : 0 ≤ writes) (h3 : writes ≤ 4611686018427387904) : DiskAt w' d g { s with off := off, fuse := fuse, writes := writes } := by
  obtain ⟨cap, hc, hbx⟩ := h.box
  obtain ⟨cs, hr, hs⟩ := h.row
  exact ⟨⟨cap, hc, hb cap hbx⟩, ⟨cs, hr.kp hk (fun e => h.ne e.symm), hs⟩, h.ne, h.low, h.high, h0, h1, h2, h3, h.len⟩

theorem cut_any (w : World) (d g : Nat) (s : DS) (h : DiskAt w d g s) :
    Calls Try.prog 51 #[.pointer (some ⟨d, 0, none⟩)] w fun e w' => e = .returned (.tuple #[]) ∧ Kp (fun k => k = d) w w' ∧ DiskAt w' d g { s with off := true, fuse := -1 } := by
  obtain ⟨cap, hc, h0, h1, h2, h3, hf⟩ := h.cells
  have H := Lib.hid h
  clear h
  go_enter Try.func51, Try.ntmps51
  go_wp2
  go_end0
  have hk : Kp (fun k => k = d) w ((w.setCell ⟨d, 1, none⟩ (.bool true)).setCell ⟨d, 2, none⟩ (.int .i64 (-1))) := ((Kp.refl _ _).set1 _).set1 _
  exact ⟨rfl, hk, H.out.turn true (-1) s.writes hk (fun cap hb => by simpa using (hb.set 1 (.bool true)).set 2 (.int .i64 (-1))) (by omega) (by omega) H.out.wr0 H.out.wr1⟩

theorem power_any (w : World) (d g : Nat) (s : DS) (h : DiskAt w d g s) :
    Calls Try.prog 30 #[.pointer (some ⟨d, 0, none⟩)] w fun e w' => e = .returned (.tuple #[]) ∧ Kp (fun k => k = d) w w' ∧ DiskAt w' d g { s with off := false, fuse := -1 } := by
  obtain ⟨cap, hc, h0, h1, h2, h3, hf⟩ := h.cells
  have H := Lib.hid h
  clear h
  go_enter Try.func30, Try.ntmps30
  go_wp2
  go_end0
  have hk : Kp (fun k => k = d) w ((w.setCell ⟨d, 1, none⟩ (.bool false)).setCell ⟨d, 2, none⟩ (.int .i64 (-1))) := ((Kp.refl _ _).set1 _).set1 _
  exact ⟨rfl, hk, H.out.turn false (-1) s.writes hk (fun cap hb => by simpa using (hb.set 1 (.bool false)).set 2 (.int .i64 (-1))) (by omega) (by omega) H.out.wr0 H.out.wr1⟩

/-- Fuse: what it answers, and the disk behind it. -/
def DS.fuseE (s : DS) (n : Int) : Int := if n < 0 then 1 else if s.off then 21 else 0
def DS.fuseS (s : DS) (n : Int) : DS := if n < 0 then s else if s.off then s else { s with fuse := n }

set_option maxHeartbeats 400000 in
theorem fuse_any (w : World) (d g : Nat) (s : DS) (h : DiskAt w d g s) (n : Int) (hm : n ≤ 9223372036854775807) :
    Calls Try.prog 29 #[.pointer (some ⟨d, 0, none⟩), .int .i64 n] w fun e w' => e = .returned (.int .i64 (s.fuseE n)) ∧ Kp (fun k => k = d) w w' ∧ DiskAt w' d g (s.fuseS n) := by
  obtain ⟨cap, hc, h0, h1, h2, h3, hf⟩ := h.cells
  have H := Lib.hid h
  clear h
  by_cases hn : n < 0
  · have he : Hid (s.fuseE n = 1) := by show _ = _; unfold DS.fuseE; rw [if_pos hn]
    have hs : Hid (s.fuseS n = s) := by show _ = _; unfold DS.fuseS; rw [if_pos hn]
    go_enter Try.func29, Try.ntmps29
    go_wp2
    go_ret
    exact ⟨bv he.out.symm, Kp.refl _ _, by rw [hs.out]; exact H.out⟩
  · cases ho : s.off with
    | true =>
      have he : Hid (s.fuseE n = 21) := by show _ = _; unfold DS.fuseE; rw [if_neg hn, ho]; rfl
      have hs : Hid (s.fuseS n = s) := by show _ = _; unfold DS.fuseS; rw [if_neg hn, ho]; rfl
      go_enter Try.func29, Try.ntmps29
      go_wp2
      go_ret
      exact ⟨bv he.out.symm, Kp.refl _ _, by rw [hs.out]; exact H.out⟩
    | false =>
      have he : Hid (s.fuseE n = 0) := by show _ = _; unfold DS.fuseE; rw [if_neg hn, ho]; rfl
      have hs : Hid (s.fuseS n = { s with off := s.off, fuse := n, writes := s.writes }) := by show _ = _; unfold DS.fuseS; rw [if_neg hn, if_neg (by simp [ho])]
      go_enter Try.func29, Try.ntmps29
      go_wp2
      go_ret
      have hk : Kp (fun k => k = d) w (w.setCell ⟨d, 2, none⟩ (.int .i64 n)) := (Kp.refl _ _).set1 _
      exact ⟨bv he.out.symm, hk, by rw [hs.out]; exact H.out.turn s.off n s.writes hk (fun cap hb => by simpa using hb.set 2 (.int .i64 n)) (by omega) hm H.out.wr0 H.out.wr1⟩

/-- Write: what it answers, and the disk behind it. -/
def DS.has (s : DS) (i : Int) : Prop := 0 ≤ i ∧ i < s.n
instance (s : DS) (i : Int) : Decidable (s.has i) := inferInstanceAs (Decidable (_ ∧ _))
def DS.put (s : DS) (i : Int) (l : List Int) : DS := { s with fuse := if s.fuse = -1 then -1 else s.fuse - 1, writes := s.writes + 1, c := fun k => if k = i.toNat then l else s.c k }
def DS.writeE (s : DS) (i : Int) (l : List Int) : Int := if ¬ s.has i then 20 else if l.length ≠ 64 then 1 else if s.off then 21 else if s.fuse = 0 then 21 else 0
def DS.writeS (s : DS) (i : Int) (l : List Int) : DS := if ¬ s.has i then s else if l.length ≠ 64 then s else if s.off then s else if s.fuse = 0 then { s with off := true, fuse := -1 } else s.put i l

/-- A row of 64 cells set. -/
theorem DiskAt.put {w w' : World} {d g : Nat} {s : DS} (h : DiskAt w d g s) {i : Int} (hi : s.has i) (l : List Int) (hl : l.length = 64) (hw : s.writes + 1 ≤ 4611686018427387904) (hk : Kp (fun k => k = d ∨ k = g) w w')
    (hb : ∀ cap, Blk w d #[.slice (some ⟨g, 0, none⟩) s.n cap, .bool s.off, .int .i64 s.fuse, .int .i64 s.writes] 85 → Blk w' d #[.slice (some ⟨g, 0, none⟩) s.n cap, .bool s.off, .int .i64 (s.put i l).fuse, .int .i64 (s.writes + 1)] 85)
    (hr : ∀ cs, Blk w g cs 87 → Blk w' g (setMany cs (i.toNat * 64) (ints .u8 l)) 87) : DiskAt w' d g (s.put i l) := by
  obtain ⟨cap, hc, hbx⟩ := h.box
  obtain ⟨cs, hrow, hsz, hs⟩ := h.row
  obtain ⟨hi0, hi1⟩ := hi
  have h0 := h.fuse0
  have h1 := h.fuse1
  have hw0 := h.wr0
  refine ⟨⟨cap, hc, hb cap hbx⟩, ⟨_, hr cs hrow, by rw [setMany_size]; exact hsz, fun k hk' j hj => ?_⟩, h.ne, h.low, h.high, ?_, ?_, by show 0 ≤ s.writes + 1; omega, hw, fun k hk' => ?_⟩
  · rw [setMany_get _ _ _ _ (by rw [ints_length, hl]; omega), ints_length, hl]
    show _ = some (Value.int .u8 ((if k = i.toNat then l else s.c k).getD j 0))
    by_cases e : k = i.toNat
    · rw [if_pos (by omega), if_pos e, show 64 * k + j - i.toNat * 64 = j by omega, ints_get _ _ _ (by omega)]
    · rw [if_neg (by omega), if_neg e]
      exact hs k hk' j hj
  · show -1 ≤ (if s.fuse = -1 then -1 else s.fuse - 1); split <;> omega
  · show (if s.fuse = -1 then -1 else s.fuse - 1) ≤ _; split <;> omega
  · show (if k = i.toNat then l else s.c k).length = 64
    split
    · exact hl
    · exact h.len k hk'

theorem size64 : (Try.prog.info? 87).map (·.size) = some 64 := by kernel_rfl
theorem isRow64 : ∃ d, Try.prog.underlying 87 = some d ∧ d.isRow = true := ⟨_, Try.underlying87, rfl⟩
theorem load64 {w : World} {b o : Nat} {l : List Int} (hl : l.length = 64) (hr : Rd .u8 w (some ⟨b, o, none⟩) l) : (Instr.loadAt 87 (.pointer (some ⟨b, o, none⟩))).run Try.prog w = .ok (.agg (ints .u8 l).toArray) w := by
  obtain ⟨d, hu, hd⟩ := isRow64
  refine run_loadAt_mid w b o _ (ints .u8 l) d (fun j v hv => ?_) hu hd (by rw [ints_length, hl]; exact size64)
  have hj : j < l.length := by have := (List.getElem?_eq_some_iff.1 hv).1; rwa [ints_length] at this
  obtain ⟨x, hx, _, hc⟩ := hr.at_ j hj
  cases hx
  rw [← Addr.add_mid, hc, ← hv, ints_get _ _ _ hj]
theorem store64 {w : World} {g k : Nat} {cs : Array Value} {t : TypeId} {l : List Int} (hl : l.length = 64) (hb : Blk w g cs t) (hk : 64 * k + 64 ≤ cs.size) : (Instr.storeAt 87 (.pointer (some ⟨g, k * 64, none⟩)) (.agg (ints .u8 l).toArray)).run Try.prog w = .ok () (w.setCells g (k * 64) (ints .u8 l)) := by
  have := run_storeAt_mid (P := Try.prog) w g (k * 64) 87 (ints .u8 l).toArray (fun j hj => ?_) (by rw [List.size_toArray, ints_length, hl]; exact size64) (all_oneCell_toArray (ints_one _ _))
  · exact this
  · rw [List.size_toArray, ints_length, hl] at hj
    exact ⟨by rw [hb.cell, Array.getElem?_eq_getElem (by omega)]; rfl, hb.frozen _⟩

theorem array64 {b o c : Nat} (w : World) : (Instr.arrayAt 87 (.slice (some ⟨b, o, none⟩) 64 c)).run Try.prog w = .ok (.pointer (some ⟨b, o, none⟩)) w :=
  run_arrayAt w 87 _ 64 _ 64 c Try.underlying87 (Nat.le_refl _)

set_option maxHeartbeats 400000 in
theorem write_good (w : World) (d g : Nat) (s : DS) (h : DiskAt w d g s) (k : Nat) (hi : k < s.n) (ab ao : Nat) (c : Nat) (l : List Int) (hl : l.length = 64) (hr : Rd .u8 w (some ⟨ab, ao, none⟩) l) (hne : ab ≠ d) (ho : s.off = false) (hf0 : s.fuse ≠ 0) (hw : s.writes + 1 ≤ 4611686018427387904) :
    Calls Try.prog 37 #[.pointer (some ⟨d, 0, none⟩), .int .i64 k, .slice (some ⟨ab, ao, none⟩) 64 c] w fun e w' => e = .returned (.int .i64 0) ∧ Kp (fun k => k = d ∨ k = g) w w' ∧ DiskAt w' d g (s.put k l) := by
  obtain ⟨cap, hc, h0, h1, h2, h3, hf⟩ := h.cells
  obtain ⟨cs, hrow, hsz, hs⟩ := h.row
  have hdg := h.ne
  have hgd : g ≠ d := fun e => hdg e.symm
  have hp0 := h.fuse0
  have hp1 := h.fuse1
  have hp2 := h.wr0
  have H := Lib.hid h
  clear hs
  rw [ho] at h1
  have h20 : (s.fuse == 0) = false := by simpa using hf0
  have hat := array64 (b := ab) (o := ao) (c := c)
  cases hq : (s.fuse != -1) with
  | true =>
    have hk1 : Kp (fun k => k = d) w (w.setCell ⟨d, 2, none⟩ (.int .i64 (s.fuse - 1))) := (Kp.refl _ _).set1 _
    have hld := load64 hl (hr.kp hk1.drew (fun x hx => by cases hx; exact hne))
    have hst := store64 (k := k) hl (w := (w.setCell ⟨d, 2, none⟩ (.int .i64 (s.fuse - 1))).drew) (hrow.kp (S := fun k => k = d) hk1.drew hgd) (by omega)
    have h2n : s.fuse ≠ -1 := by simpa using hq
    have h2m : 0 ≤ s.fuse := by omega
    have key : ∀ W2, W2 = ((w.setCell ⟨d, 2, none⟩ (.int .i64 (s.fuse - 1))).drew.setCells g (k * 64) (ints .u8 l)) → W2.cell? ⟨d, 3, none⟩ = some (.int .i64 s.writes) ∧ W2.frozen? ⟨d, 3, none⟩ = false ∧
        Kp (fun k => k = d ∨ k = g) w (W2.setCell ⟨d, 3, none⟩ (.int .i64 (s.writes + 1))) ∧ DiskAt (W2.setCell ⟨d, 3, none⟩ (.int .i64 (s.writes + 1))) d g (s.put k l) := by
      intro W2 hW
      have hkA : Kp (fun k => k = d ∨ k = g) w W2 := by rw [hW]; exact Kp.setCells g (.inr rfl) _ _ _ (hk1.mono (fun k hk _ => .inl hk)).drew
      have hkB : Kp (fun k => k = d ∨ k = g) w (W2.setCell ⟨d, 3, none⟩ (.int .i64 (s.writes + 1))) := hkA.setCell (p := ⟨d, 3, none⟩) (.inl rfl) _
      have hB : ∀ (cs : Array Value) (t : TypeId), Blk w d cs t → Blk W2 d (cs.setIfInBounds 2 (.int .i64 (s.fuse - 1))) t := fun cs t hb => by rw [hW]; exact Blk.setCells_other hdg _ _ (hb.set 2 _).drew
      obtain ⟨cap', _, hbox⟩ := h.box
      have hb2 := hB _ _ hbox
      refine ⟨by rw [hb2.cell]; rfl, hb2.frozen _, hkB, h.put ⟨by omega, by omega⟩ l hl hw hkB (fun cap hb => ?_) (fun cs hb => ?_)⟩
      · have := (hB _ _ hb).set 3 (.int .i64 (s.writes + 1))
        simpa [DS.put, h2n] using this
      · refine Blk.other ?_ _ _ hgd
        rw [hW]
        exact Blk.setCells _ _ ((hb.other _ _ hgd).drew)
    have HK := Lib.hid key
    clear hrow hl hr hk1 h2n key h
    go_enter Try.func37, Try.ntmps37
    go_wp2_with (go_at_call 50; refine (has_any w d g s H.out k).mono ?_; rintro e w' ⟨rfl, rfl⟩; rw [decide_eq_true (show (0 : Int) ≤ k ∧ (k : Int) < s.n by omega)])
    refine wp_region_still_tail 9 (by kernel_rfl) (by kernel_rfl) ?_
    simp only [List.take_succ_cons, List.take_zero, List.drop_succ_cons, List.drop_zero]
    change wpStill Try.prog _ (World.drew _) _ _ _
    iterate 7 still_step
    refine wpStill_load_mid rfl _ _ rfl _ _ rfl hld ?_
    repeat still_step
    refine wpStill_nil ?_
    change wpList Try.prog _ _ _ _ (World.drew _)
    refine wpList_store_run rfl _ _ _ rfl _ _ rfl rfl hst ?_
    clear hst hld
    obtain ⟨W2, hW2⟩ : ∃ W2, W2 = ((w.setCell ⟨d, 2, none⟩ (.int .i64 (s.fuse - 1))).drew.setCells g (k * 64) (ints .u8 l)) := ⟨_, rfl⟩
    rw [← hW2]
    obtain ⟨c3, f3, hk3, hd3⟩ := HK.out W2 hW2
    have HK3 := Lib.hid hk3
    have HD3 := Lib.hid hd3
    clear HK hW2 hk3 hd3
    go_wp2
    go_ret
    exact ⟨rfl, HK3.out, HD3.out⟩
  | false =>
    have hk1 : Kp (fun k => k = d) w w := Kp.refl _ _
    have hld := load64 hl (hr.kp hk1.drew (fun x hx => by cases hx; exact hne))
    have hst := store64 (k := k) hl (w := w.drew) (hrow.kp (S := fun k => k = d) hk1.drew hgd) (by omega)
    have h2n : s.fuse = -1 := by simpa using hq
    have key : ∀ W2, W2 = (w.drew.setCells g (k * 64) (ints .u8 l)) → W2.cell? ⟨d, 3, none⟩ = some (.int .i64 s.writes) ∧ W2.frozen? ⟨d, 3, none⟩ = false ∧
        Kp (fun k => k = d ∨ k = g) w (W2.setCell ⟨d, 3, none⟩ (.int .i64 (s.writes + 1))) ∧ DiskAt (W2.setCell ⟨d, 3, none⟩ (.int .i64 (s.writes + 1))) d g (s.put k l) := by
      intro W2 hW
      have hkA : Kp (fun k => k = d ∨ k = g) w W2 := by rw [hW]; exact Kp.setCells g (.inr rfl) _ _ _ (Kp.refl _ _).drew
      have hkB : Kp (fun k => k = d ∨ k = g) w (W2.setCell ⟨d, 3, none⟩ (.int .i64 (s.writes + 1))) := hkA.setCell (p := ⟨d, 3, none⟩) (.inl rfl) _
      have hB : ∀ (cs : Array Value) (t : TypeId), Blk w d cs t → Blk W2 d cs t := fun cs t hb => by rw [hW]; exact Blk.setCells_other hdg _ _ hb.drew
      obtain ⟨cap', _, hbox⟩ := h.box
      have hb2 := hB _ _ hbox
      refine ⟨by rw [hb2.cell]; rfl, hb2.frozen _, hkB, h.put ⟨by omega, by omega⟩ l hl hw hkB (fun cap hb => ?_) (fun cs hb => ?_)⟩
      · have := (hB _ _ hb).set 3 (.int .i64 (s.writes + 1))
        simpa [DS.put, h2n] using this
      · refine Blk.other ?_ _ _ hgd
        rw [hW]
        exact Blk.setCells _ _ hb.drew
    have HK := Lib.hid key
    clear hrow hl hr hk1 h2n key h
    go_enter Try.func37, Try.ntmps37
    go_wp2_with (go_at_call 50; refine (has_any w d g s H.out k).mono ?_; rintro e w' ⟨rfl, rfl⟩; rw [decide_eq_true (show (0 : Int) ≤ k ∧ (k : Int) < s.n by omega)])
    refine wp_region_still_tail 9 (by kernel_rfl) (by kernel_rfl) ?_
    simp only [List.take_succ_cons, List.take_zero, List.drop_succ_cons, List.drop_zero]
    change wpStill Try.prog _ (World.drew _) _ _ _
    iterate 7 still_step
    refine wpStill_load_mid rfl _ _ rfl _ _ rfl hld ?_
    repeat still_step
    refine wpStill_nil ?_
    change wpList Try.prog _ _ _ _ (World.drew _)
    refine wpList_store_run rfl _ _ _ rfl _ _ rfl rfl hst ?_
    clear hst hld
    obtain ⟨W2, hW2⟩ : ∃ W2, W2 = (w.drew.setCells g (k * 64) (ints .u8 l)) := ⟨_, rfl⟩
    rw [← hW2]
    obtain ⟨c3, f3, hk3, hd3⟩ := HK.out W2 hW2
    have HK3 := Lib.hid hk3
    have HD3 := Lib.hid hd3
    clear HK hW2 hk3 hd3
    go_wp2
    go_ret
    exact ⟨rfl, HK3.out, HD3.out⟩

theorem DS.writeS_put {s : DS} {i : Int} {l : List Int} (hi : s.has i) (hl : l.length = 64) (ho : s.off = false) (hf : s.fuse ≠ 0) : s.writeS i l = s.put i l ∧ s.writeE i l = 0 := by
  unfold DS.writeS DS.writeE
  simp [hi, hl, ho, hf]

set_option maxHeartbeats 400000 in
/-- Whatever is written, wherever. -/
theorem write_any (w : World) (d g : Nat) (s : DS) (h : DiskAt w d g s) (i : Int) (A : Option Addr) (c : Nat) (l : List Int) (hr : Rd .u8 w A l) (hlen : l.length ≤ 9223372036854775807) (hsp : ∀ x, A = some x → x.spot = none) (hne : ∀ x, A = some x → x.block ≠ d) (hw : s.writes + 1 ≤ 4611686018427387904) :
    Calls Try.prog 37 #[.pointer (some ⟨d, 0, none⟩), .int .i64 i, .slice A l.length c] w fun e w' => e = .returned (.int .i64 (s.writeE i l)) ∧ Kp (fun k => k = d ∨ k = g) w w' ∧ DiskAt w' d g (s.writeS i l) := by
  by_cases hi : s.has i
  · by_cases hl : l.length = 64
    · cases ho : s.off with
      | false =>
        by_cases hf : s.fuse = 0
        · obtain ⟨cap, hc, h0, h1, h2, h3, hfz⟩ := h.cells
          have H := Lib.hid h
          clear h
          rw [ho] at h1
          have he : Hid (s.writeE i l = 21) := by show _ = _; unfold DS.writeE; simp [hi, hl, ho, hf]
          have hs : Hid (s.writeS i l = { s with off := true, fuse := -1 }) := by show _ = _; unfold DS.writeS; simp [hi, hl, ho, hf]
          have HI := Lib.hid hi
          have hf0 : (s.fuse == 0) = true := by simpa using hf
          have hl0 : ((l.length : Int) != 64) = false := by rw [hl]; rfl
          clear hi hf hl
          go_enter Try.func37, Try.ntmps37
          go_wp2_with (first | (go_at_call 50; refine (has_any w d g s H.out i).mono ?_; rintro e w' ⟨rfl, rfl⟩; rw [decide_eq_true (show 0 ≤ i ∧ i < s.n from HI.out)]) | (go_at_call 51; refine (cut_any w d g s H.out).mono ?_; rintro e w1 ⟨rfl, hk1, hd1⟩))
          go_ret
          exact ⟨bv he.out.symm, hk1.mono (fun k hk _ => .inl hk), by rw [hs.out]; exact hd1⟩
        · obtain ⟨x, rfl, hx, _⟩ := hr.at_ 0 (by omega)
          obtain ⟨xb, xo, xs⟩ := x
          obtain rfl : xs = none := hsp _ rfl
          obtain ⟨k, rfl⟩ := Int.eq_ofNat_of_zero_le hi.1
          obtain ⟨e1, e2⟩ := DS.writeS_put hi hl ho hf
          rw [e1, e2, hl]
          exact write_good w d g s h k (by have := hi.2; omega) xb xo c l hl hr (hne _ rfl) ho hf hw
      | true =>
        obtain ⟨cap, hc, h0, h1, h2, h3, hfz⟩ := h.cells
        have H := Lib.hid h
        clear h
        rw [ho] at h1
        have he : Hid (s.writeE i l = 21) := by show _ = _; unfold DS.writeE; simp [hi, hl, ho]
        have hs : Hid (s.writeS i l = s) := by show _ = _; unfold DS.writeS; simp [hi, hl, ho]
        have HI := Lib.hid hi
        have hl0 : ((l.length : Int) != 64) = false := by rw [hl]; rfl
        clear hi hl
        go_enter Try.func37, Try.ntmps37
        go_wp2_with (go_at_call 50; refine (has_any w d g s H.out i).mono ?_; rintro e w' ⟨rfl, rfl⟩; rw [decide_eq_true (show 0 ≤ i ∧ i < s.n from HI.out)])
        go_ret
        exact ⟨bv he.out.symm, Kp.refl _ _, by rw [hs.out]; exact H.out⟩
    · have H := Lib.hid h
      clear h
      have he : Hid (s.writeE i l = 1) := by show _ = _; unfold DS.writeE; simp [hi, hl]
      have hs : Hid (s.writeS i l = s) := by show _ = _; unfold DS.writeS; simp [hi, hl]
      have HI := Lib.hid hi
      have hl0 : ((l.length : Int) != 64) = true := by rw [bne_iff_ne]; omega
      clear hi hl
      go_enter Try.func37, Try.ntmps37
      go_wp2_with (go_at_call 50; refine (has_any w d g s H.out i).mono ?_; rintro e w' ⟨rfl, rfl⟩; rw [decide_eq_true (show 0 ≤ i ∧ i < s.n from HI.out)])
      go_ret
      exact ⟨bv he.out.symm, Kp.refl _ _, by rw [hs.out]; exact H.out⟩
  · have H := Lib.hid h
    clear h
    have he : Hid (s.writeE i l = 20) := by show _ = _; unfold DS.writeE; simp [hi]
    have hs : Hid (s.writeS i l = s) := by show _ = _; unfold DS.writeS; simp [hi]
    have HI := Lib.hid hi
    clear hi
    go_enter Try.func37, Try.ntmps37
    go_wp2_with (go_at_call 50; refine (has_any w d g s H.out i).mono ?_; rintro e w' ⟨rfl, rfl⟩; rw [decide_eq_false (show ¬ (0 ≤ i ∧ i < s.n) from HI.out)])
    go_ret
    exact ⟨bv he.out.symm, Kp.refl _ _, by rw [hs.out]; exact H.out⟩

end Go.Proofs.Ytmliiggieclbeaa
