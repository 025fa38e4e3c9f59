/- Which notes are plain: the program's check and the document's. -/
import Derived.Test.YtmhcjkiaogimgaaWirC
namespace Go.Proofs.Ytmhcjkiaogimgaa
open Go.RowKit

/-- A note's numbers, and all of it. -/
abbrev NS (g : Nat) (n : NoteD) (w' : World) : Prop := (w'.cell? ⟨g, 0, none⟩ = some (.int .i64 n.kind) ∧ w'.cell? ⟨g, 1, none⟩ = some (.int .i64 n.epoch) ∧ w'.cell? ⟨g, 2, none⟩ = some (.int .i64 n.version) ∧ w'.cell? ⟨g, 3, none⟩ = some (.int .i64 n.next) ∧ w'.cell? ⟨g, 4, none⟩ = some (.int .i64 n.client) ∧
    w'.cell? ⟨g, 12, none⟩ = some (.int .i64 n.seen.life) ∧ w'.cell? ⟨g, 13, none⟩ = some (.int .i64 n.seen.seq) ∧ w'.cell? ⟨g, 14, none⟩ = some (.int .i64 n.seen.err)) ∧ w'.rangeAt g 0 n.cells
theorem NoteAt.ns {w : World} {g : Nat} {n : NoteD} (h : NoteAt w g n) : NS g n w := ⟨h.nums, h.all⟩

theorem nat_add (n : NoteD) (w : World) : ∀ W, W = w.alloc (.cells n.cells.toArray 51) → NoteAt W w.heap.size n ∧ Below w.heap.size w W := by
  rintro W rfl
  exact ⟨⟨Blk.new _ _ _⟩, bel_al (Below.refl _ _) _⟩

theorem wpList_load_entry_g {ops : Array Oper} {rest : List Oper} {op : Oper} {a : Act} {w : World} {Q : Exit → Act → World → Prop} (hw : Region.wanted op (yielded ops a.tmps) = true) (x : Operand) (ho : op.op = .load 47 x) (g : Nat) (n : NoteD)
    (hx : a.eval x = .pointer (some ⟨g, 5, none⟩)) (hN : NoteAt w g n) (h : wpList Try.prog ops Q rest (a.put op.dst (.agg n.entry.cells.toArray)) w) : wpList Try.prog ops Q (op :: rest) a w :=
  BigFrame.wpList_want hw fun _ hK => wp_load_mid _ x ho g 5 hx _ _ hN.entry Try.underlying47 rfl size_entry (hK _ _ h)
theorem NoteAt.neg {w : World} {g : Nat} {n : NoteD} (h : NoteAt w g n) : w.cell? ⟨g, 7, none⟩ = some (.bool n.entry.neg) := by rw [h.blk.cell]; rfl

set_option maxRecDepth 100000 in
set_option maxHeartbeats 8000000 in
theorem plainNote_any (n : NoteD) (xs : Array Value) (hx : IsNote xs n) (w : World) : Calls Try.prog 47 #[.agg xs] w (Tells n.ok w) := by
  have hA : ∀ W, W = w.alloc (.cells xs 51) → NoteAt W w.heap.size n ∧ Below w.heap.size w W := by rw [hx.eq]; exact nat_add n w
  clear hx
  have hgt : ∀ W, W = w.alloc (.cells xs 51) → w.heap.size < W.heap.size := by rintro W rfl; simp
  obtain ⟨W, hW⟩ : ∃ W, W = w.alloc (.cells xs 51) := ⟨_, rfl⟩
  obtain ⟨hN, hB⟩ := hA W hW
  have hlt := hgt W hW
  have HW := Lib.hid hW
  have s0 : NS w.heap.size n W.drew := hN.ns
  clear hA hgt hW
  cases h1 : okIn n.kind 1 5 with
  | false =>
    have hok : Hid (n.ok = false) := by show _ = _; simp only [NoteD.ok, h1, Bool.false_and]
    go_enter Try.func47, Try.ntmps47
    go_wp2_with fail
    rw [← HW.out]
    refine wp_region_held_drew (S := (fun w' => NS w.heap.size n w')) (by kernel_rfl) s0 (fun hHeld => ?_)
    refine' wpAnyH_take (i := 0) (oi := { dst := some 3, op := Op.fieldAddr 51 (Operand.tmp 1) 0, type := 0, pos := "note.go:22", after := #[], guard := none }) (v := ?v1) rfl (by kernel_rfl) (by kernel_rfl) (by kernel_rfl) (fun _ _ _ h => h) (Or.inl ⟨by rfl, ?hy1⟩) (by assumption) ?rest1
    case hy1 => (intro w hSw; obtain ⟨⟨k0, k1, k2, k3, k4, k12, k13, k14⟩, kr⟩ := hSw; go_simp; (try with_reducible rfl))
    simp only [Act.put, List.setIfInBounds_toArray, List.set_cons_zero, List.set_cons_succ]
    refine' wpAnyH_take (i := 1) (oi := { dst := some 4, op := Op.load 3 (Operand.tmp 3), type := 3, pos := "note.go:22", after := #[{ on := 0, ground := Ground.data }], guard := none }) (v := ?v2) rfl (by kernel_rfl) (by kernel_rfl) (by kernel_rfl) (fun _ _ _ h => h) (Or.inl ⟨by rfl, ?hy2⟩) (by assumption) ?rest2
    case hy2 => (intro w hSw; obtain ⟨⟨k0, k1, k2, k3, k4, k12, k13, k14⟩, kr⟩ := hSw; go_simp; (try with_reducible rfl))
    simp only [Act.put, List.setIfInBounds_toArray, List.set_cons_zero, List.set_cons_succ]
    refine wpAnyH_ready (rs := [2]) (by kernel_rfl) (by simp) ?_
    refine AllReadyH.cons (o := { dst := some 5, op := Op.call { callee := Callee.value (Operand.func 62), args := #[Operand.tmp 4, Operand.const (Value.int IntKind.i64 1), Operand.const (Value.int IntKind.i64 5)], argTypes := #[3, 3, 3] }, type := 4, pos := "note.go:22", after := #[{ on := 1, ground := Ground.data }], guard := none }) rfl (fun K hK => ?_) AllReadyH.nil
    go_simp
    refine (within_any _ _ _ _).mono ?_
    rintro e w1 ⟨rfl, rfl⟩
    rw [h1]
    go_wp2_with fail
    refine hK.out _ _ s0 (fun hHeld => ?_)
    clear hK K
    try simp only [Act.put, List.setIfInBounds_toArray, List.set_cons_zero, List.set_cons_succ]
    refine' wpAnyH_take (i := 3) (oi := { dst := some 6, op := Op.unOp UnOp.not 4 (Operand.tmp 5), type := 4, pos := "note.go:22", after := #[{ on := 2, ground := Ground.data }], guard := none }) (v := ?v3) rfl (by kernel_rfl) (by kernel_rfl) (by kernel_rfl) (fun _ _ _ h => h) (Or.inl ⟨by rfl, ?hy3⟩) (by assumption) ?rest3
    case hy3 => (intro w hSw; obtain ⟨⟨k0, k1, k2, k3, k4, k12, k13, k14⟩, kr⟩ := hSw; go_simp; (try with_reducible rfl))
    simp only [Act.put, List.setIfInBounds_toArray, List.set_cons_zero, List.set_cons_succ]
    refine' wpAnyH_take (i := 4) (oi := { dst := some 7, op := Op.move (Operand.tmp 6), type := 4, pos := "note.go:22", after := #[{ on := 3, ground := Ground.data }, { on := 2, ground := Ground.chain }], guard := none }) (v := ?v4) rfl (by kernel_rfl) (by kernel_rfl) (by kernel_rfl) (fun _ _ _ h => h) (Or.inl ⟨by rfl, ?hy4⟩) (by assumption) ?rest4
    case hy4 => (intro w hSw; obtain ⟨⟨k0, k1, k2, k3, k4, k12, k13, k14⟩, kr⟩ := hSw; go_simp; (try with_reducible rfl))
    simp only [Act.put, List.setIfInBounds_toArray, List.set_cons_zero, List.set_cons_succ]
    refine' wpAnyH_take (i := 5) (oi := { dst := some 8, op := Op.load 51 (Operand.tmp 1), type := 51, pos := "note.go:22", after := #[{ on := 4, ground := Ground.guard }], guard := some (4, false) }) (v := undef) rfl (by kernel_rfl) (by kernel_rfl) (by kernel_rfl) (fun _ _ _ h => h) (Or.inr ⟨by rfl, rfl⟩) (by assumption) ?_
    simp only [Act.put, List.setIfInBounds_toArray, List.set_cons_zero, List.set_cons_succ]
    refine' wpAnyH_take (i := 6) (oi := { dst := some 9, op := Op.load 51 (Operand.tmp 1), type := 51, pos := "note.go:22", after := #[{ on := 4, ground := Ground.guard }], guard := some (4, false) }) (v := undef) rfl (by kernel_rfl) (by kernel_rfl) (by kernel_rfl) (fun _ _ _ h => h) (Or.inr ⟨by rfl, rfl⟩) (by assumption) ?_
    simp only [Act.put, List.setIfInBounds_toArray, List.set_cons_zero, List.set_cons_succ]
    refine' wpAnyH_take (i := 7) (oi := { dst := some 10, op := Op.call { callee := Callee.value (Operand.func 75), args := #[Operand.tmp 9], argTypes := #[51] }, type := 51, pos := "note.go:22", after := #[{ on := 6, ground := Ground.data }, { on := 4, ground := Ground.chain }, { on := 4, ground := Ground.guard }], guard := some (4, false) }) (v := undef) rfl (by kernel_rfl) (by kernel_rfl) (by kernel_rfl) (fun _ _ _ h => h) (Or.inr ⟨by rfl, rfl⟩) (by assumption) ?_
    simp only [Act.put, List.setIfInBounds_toArray, List.set_cons_zero, List.set_cons_succ]
    refine' wpAnyH_take (i := 8) (oi := { dst := some 11, op := Op.binOp BinOp.neq 51 (Operand.tmp 8) (Operand.tmp 10) 51, type := 4, pos := "note.go:22", after := #[{ on := 5, ground := Ground.data }, { on := 7, ground := Ground.data }, { on := 4, ground := Ground.guard }], guard := some (4, false) }) (v := undef) rfl (by kernel_rfl) (by kernel_rfl) (by kernel_rfl) (fun _ _ _ h => h) (Or.inr ⟨by rfl, rfl⟩) (by assumption) ?_
    simp only [Act.put, List.setIfInBounds_toArray, List.set_cons_zero, List.set_cons_succ]
    refine' wpAnyH_take (i := 9) (oi := { dst := some 12, op := Op.pick (Operand.tmp 7) (Operand.const (Value.bool true)) (Operand.tmp 11), type := 4, pos := "note.go:22", after := #[{ on := 4, ground := Ground.data }, { on := 8, ground := Ground.data }], guard := none }) (v := ?v5) rfl (by kernel_rfl) (by kernel_rfl) (by kernel_rfl) (fun _ _ _ h => h) (Or.inl ⟨by rfl, ?hy5⟩) (by assumption) ?rest5
    case hy5 => (intro w hSw; obtain ⟨⟨k0, k1, k2, k3, k4, k12, k13, k14⟩, kr⟩ := hSw; go_simp; (try with_reducible rfl))
    simp only [Act.put, List.setIfInBounds_toArray, List.set_cons_zero, List.set_cons_succ]
    refine' wpAnyH_take (i := 10) (oi := { dst := some 13, op := Op.move (Operand.tmp 12), type := 4, pos := "note.go:22", after := #[{ on := 9, ground := Ground.data }, { on := 7, ground := Ground.chain }], guard := none }) (v := ?v6) rfl (by kernel_rfl) (by kernel_rfl) (by kernel_rfl) (fun _ _ _ h => h) (Or.inl ⟨by rfl, ?hy6⟩) (by assumption) ?rest6
    case hy6 => (intro w hSw; obtain ⟨⟨k0, k1, k2, k3, k4, k12, k13, k14⟩, kr⟩ := hSw; go_simp; (try with_reducible rfl))
    simp only [Act.put, List.setIfInBounds_toArray, List.set_cons_zero, List.set_cons_succ]
    refine' wpAnyH_take (i := 11) (oi := { dst := some 14, op := Op.fieldAddr 51 (Operand.tmp 1) 1, type := 0, pos := "note.go:22", after := #[{ on := 10, ground := Ground.guard }], guard := some (10, false) }) (v := undef) rfl (by kernel_rfl) (by kernel_rfl) (by kernel_rfl) (fun _ _ _ h => h) (Or.inr ⟨by rfl, rfl⟩) (by assumption) ?_
    simp only [Act.put, List.setIfInBounds_toArray, List.set_cons_zero, List.set_cons_succ]
    refine' wpAnyH_take (i := 12) (oi := { dst := some 15, op := Op.load 3 (Operand.tmp 14), type := 3, pos := "note.go:22", after := #[{ on := 11, ground := Ground.data }, { on := 10, ground := Ground.guard }], guard := some (10, false) }) (v := undef) rfl (by kernel_rfl) (by kernel_rfl) (by kernel_rfl) (fun _ _ _ h => h) (Or.inr ⟨by rfl, rfl⟩) (by assumption) ?_
    simp only [Act.put, List.setIfInBounds_toArray, List.set_cons_zero, List.set_cons_succ]
    refine' wpAnyH_take (i := 13) (oi := { dst := some 16, op := Op.fieldAddr 51 (Operand.tmp 1) 2, type := 0, pos := "note.go:22", after := #[{ on := 10, ground := Ground.guard }], guard := some (10, false) }) (v := undef) rfl (by kernel_rfl) (by kernel_rfl) (by kernel_rfl) (fun _ _ _ h => h) (Or.inr ⟨by rfl, rfl⟩) (by assumption) ?_
    simp only [Act.put, List.setIfInBounds_toArray, List.set_cons_zero, List.set_cons_succ]
    refine' wpAnyH_take (i := 14) (oi := { dst := some 17, op := Op.load 3 (Operand.tmp 16), type := 3, pos := "note.go:22", after := #[{ on := 13, ground := Ground.data }, { on := 10, ground := Ground.guard }], guard := some (10, false) }) (v := undef) rfl (by kernel_rfl) (by kernel_rfl) (by kernel_rfl) (fun _ _ _ h => h) (Or.inr ⟨by rfl, rfl⟩) (by assumption) ?_
    simp only [Act.put, List.setIfInBounds_toArray, List.set_cons_zero, List.set_cons_succ]
    refine' wpAnyH_take (i := 15) (oi := { dst := some 18, op := Op.fieldAddr 51 (Operand.tmp 1) 3, type := 0, pos := "note.go:22", after := #[{ on := 10, ground := Ground.guard }], guard := some (10, false) }) (v := undef) rfl (by kernel_rfl) (by kernel_rfl) (by kernel_rfl) (fun _ _ _ h => h) (Or.inr ⟨by rfl, rfl⟩) (by assumption) ?_
    simp only [Act.put, List.setIfInBounds_toArray, List.set_cons_zero, List.set_cons_succ]
    refine' wpAnyH_take (i := 16) (oi := { dst := some 19, op := Op.load 3 (Operand.tmp 18), type := 3, pos := "note.go:22", after := #[{ on := 15, ground := Ground.data }, { on := 10, ground := Ground.guard }], guard := some (10, false) }) (v := undef) rfl (by kernel_rfl) (by kernel_rfl) (by kernel_rfl) (fun _ _ _ h => h) (Or.inr ⟨by rfl, rfl⟩) (by assumption) ?_
    simp only [Act.put, List.setIfInBounds_toArray, List.set_cons_zero, List.set_cons_succ]
    refine' wpAnyH_take (i := 17) (oi := { dst := some 20, op := Op.fieldAddr 51 (Operand.tmp 1) 4, type := 0, pos := "note.go:22", after := #[{ on := 10, ground := Ground.guard }], guard := some (10, false) }) (v := undef) rfl (by kernel_rfl) (by kernel_rfl) (by kernel_rfl) (fun _ _ _ h => h) (Or.inr ⟨by rfl, rfl⟩) (by assumption) ?_
    simp only [Act.put, List.setIfInBounds_toArray, List.set_cons_zero, List.set_cons_succ]
    refine' wpAnyH_take (i := 18) (oi := { dst := some 21, op := Op.load 3 (Operand.tmp 20), type := 3, pos := "note.go:22", after := #[{ on := 17, ground := Ground.data }, { on := 10, ground := Ground.guard }], guard := some (10, false) }) (v := undef) rfl (by kernel_rfl) (by kernel_rfl) (by kernel_rfl) (fun _ _ _ h => h) (Or.inr ⟨by rfl, rfl⟩) (by assumption) ?_
    simp only [Act.put, List.setIfInBounds_toArray, List.set_cons_zero, List.set_cons_succ]
    refine' wpAnyH_take (i := 19) (oi := { dst := some 22, op := Op.fieldAddr 51 (Operand.tmp 1) 6, type := 0, pos := "note.go:22", after := #[{ on := 10, ground := Ground.guard }], guard := some (10, false) }) (v := undef) rfl (by kernel_rfl) (by kernel_rfl) (by kernel_rfl) (fun _ _ _ h => h) (Or.inr ⟨by rfl, rfl⟩) (by assumption) ?_
    simp only [Act.put, List.setIfInBounds_toArray, List.set_cons_zero, List.set_cons_succ]
    refine' wpAnyH_take (i := 20) (oi := { dst := some 23, op := Op.fieldAddr 49 (Operand.tmp 22) 0, type := 0, pos := "note.go:22", after := #[{ on := 19, ground := Ground.data }, { on := 10, ground := Ground.guard }], guard := some (10, false) }) (v := undef) rfl (by kernel_rfl) (by kernel_rfl) (by kernel_rfl) (fun _ _ _ h => h) (Or.inr ⟨by rfl, rfl⟩) (by assumption) ?_
    simp only [Act.put, List.setIfInBounds_toArray, List.set_cons_zero, List.set_cons_succ]
    refine' wpAnyH_take (i := 21) (oi := { dst := some 24, op := Op.load 3 (Operand.tmp 23), type := 3, pos := "note.go:22", after := #[{ on := 20, ground := Ground.data }, { on := 10, ground := Ground.guard }], guard := some (10, false) }) (v := undef) rfl (by kernel_rfl) (by kernel_rfl) (by kernel_rfl) (fun _ _ _ h => h) (Or.inr ⟨by rfl, rfl⟩) (by assumption) ?_
    simp only [Act.put, List.setIfInBounds_toArray, List.set_cons_zero, List.set_cons_succ]
    refine' wpAnyH_take (i := 22) (oi := { dst := some 25, op := Op.fieldAddr 51 (Operand.tmp 1) 6, type := 0, pos := "note.go:22", after := #[{ on := 10, ground := Ground.guard }], guard := some (10, false) }) (v := undef) rfl (by kernel_rfl) (by kernel_rfl) (by kernel_rfl) (fun _ _ _ h => h) (Or.inr ⟨by rfl, rfl⟩) (by assumption) ?_
    simp only [Act.put, List.setIfInBounds_toArray, List.set_cons_zero, List.set_cons_succ]
    refine' wpAnyH_take (i := 23) (oi := { dst := some 26, op := Op.fieldAddr 49 (Operand.tmp 25) 1, type := 0, pos := "note.go:22", after := #[{ on := 22, ground := Ground.data }, { on := 10, ground := Ground.guard }], guard := some (10, false) }) (v := undef) rfl (by kernel_rfl) (by kernel_rfl) (by kernel_rfl) (fun _ _ _ h => h) (Or.inr ⟨by rfl, rfl⟩) (by assumption) ?_
    simp only [Act.put, List.setIfInBounds_toArray, List.set_cons_zero, List.set_cons_succ]
    refine' wpAnyH_take (i := 24) (oi := { dst := some 27, op := Op.load 3 (Operand.tmp 26), type := 3, pos := "note.go:22", after := #[{ on := 23, ground := Ground.data }, { on := 10, ground := Ground.guard }], guard := some (10, false) }) (v := undef) rfl (by kernel_rfl) (by kernel_rfl) (by kernel_rfl) (fun _ _ _ h => h) (Or.inr ⟨by rfl, rfl⟩) (by assumption) ?_
    simp only [Act.put, List.setIfInBounds_toArray, List.set_cons_zero, List.set_cons_succ]
    refine' wpAnyH_take (i := 25) (oi := { dst := some 28, op := Op.fieldAddr 51 (Operand.tmp 1) 6, type := 0, pos := "note.go:22", after := #[{ on := 10, ground := Ground.guard }], guard := some (10, false) }) (v := undef) rfl (by kernel_rfl) (by kernel_rfl) (by kernel_rfl) (fun _ _ _ h => h) (Or.inr ⟨by rfl, rfl⟩) (by assumption) ?_
    simp only [Act.put, List.setIfInBounds_toArray, List.set_cons_zero, List.set_cons_succ]
    refine' wpAnyH_take (i := 26) (oi := { dst := some 29, op := Op.fieldAddr 49 (Operand.tmp 28) 2, type := 0, pos := "note.go:22", after := #[{ on := 25, ground := Ground.data }, { on := 10, ground := Ground.guard }], guard := some (10, false) }) (v := undef) rfl (by kernel_rfl) (by kernel_rfl) (by kernel_rfl) (fun _ _ _ h => h) (Or.inr ⟨by rfl, rfl⟩) (by assumption) ?_
    simp only [Act.put, List.setIfInBounds_toArray, List.set_cons_zero, List.set_cons_succ]
    refine' wpAnyH_take (i := 27) (oi := { dst := some 30, op := Op.load 29 (Operand.tmp 29), type := 29, pos := "note.go:22", after := #[{ on := 26, ground := Ground.data }, { on := 10, ground := Ground.guard }], guard := some (10, false) }) (v := undef) rfl (by kernel_rfl) (by kernel_rfl) (by kernel_rfl) (fun _ _ _ h => h) (Or.inr ⟨by rfl, rfl⟩) (by assumption) ?_
    simp only [Act.put, List.setIfInBounds_toArray, List.set_cons_zero, List.set_cons_succ]
    refine' wpAnyH_take (i := 28) (oi := { dst := some 31, op := Op.buildSlice 117 7 #[(0, Operand.tmp 15), (1, Operand.tmp 17), (2, Operand.tmp 19), (3, Operand.tmp 21), (4, Operand.tmp 24), (5, Operand.tmp 27), (6, Operand.tmp 30)], type := 117, pos := "note.go:22", after := #[{ on := 12, ground := Ground.data }, { on := 14, ground := Ground.data }, { on := 16, ground := Ground.data }, { on := 18, ground := Ground.data }, { on := 21, ground := Ground.data }, { on := 24, ground := Ground.data }, { on := 27, ground := Ground.data }, { on := 10, ground := Ground.guard }], guard := some (10, false) }) (v := undef) rfl (by kernel_rfl) (by kernel_rfl) (by kernel_rfl) (fun _ _ _ h => h) (Or.inr ⟨by rfl, rfl⟩) (by assumption) ?_
    simp only [Act.put, List.setIfInBounds_toArray, List.set_cons_zero, List.set_cons_succ]
    refine' wpAnyH_take (i := 29) (oi := { dst := some 32, op := Op.call { callee := Callee.value (Operand.func 63), args := #[Operand.tmp 31], argTypes := #[117] }, type := 4, pos := "note.go:22", after := #[{ on := 28, ground := Ground.data }, { on := 10, ground := Ground.chain }, { on := 10, ground := Ground.guard }], guard := some (10, false) }) (v := undef) rfl (by kernel_rfl) (by kernel_rfl) (by kernel_rfl) (fun _ _ _ h => h) (Or.inr ⟨by rfl, rfl⟩) (by assumption) ?_
    simp only [Act.put, List.setIfInBounds_toArray, List.set_cons_zero, List.set_cons_succ]
    refine' wpAnyH_take (i := 30) (oi := { dst := some 33, op := Op.unOp UnOp.not 4 (Operand.tmp 32), type := 4, pos := "note.go:22", after := #[{ on := 29, ground := Ground.data }, { on := 10, ground := Ground.guard }], guard := some (10, false) }) (v := undef) rfl (by kernel_rfl) (by kernel_rfl) (by kernel_rfl) (fun _ _ _ h => h) (Or.inr ⟨by rfl, rfl⟩) (by assumption) ?_
    simp only [Act.put, List.setIfInBounds_toArray, List.set_cons_zero, List.set_cons_succ]
    refine' wpAnyH_take (i := 31) (oi := { dst := some 34, op := Op.pick (Operand.tmp 13) (Operand.const (Value.bool true)) (Operand.tmp 33), type := 4, pos := "note.go:22", after := #[{ on := 10, ground := Ground.data }, { on := 30, ground := Ground.data }], guard := none }) (v := ?v7) rfl (by kernel_rfl) (by kernel_rfl) (by kernel_rfl) (fun _ _ _ h => h) (Or.inl ⟨by rfl, ?hy7⟩) (by assumption) ?rest7
    case hy7 => (intro w hSw; obtain ⟨⟨k0, k1, k2, k3, k4, k12, k13, k14⟩, kr⟩ := hSw; go_simp; (try with_reducible rfl))
    simp only [Act.put, List.setIfInBounds_toArray, List.set_cons_zero, List.set_cons_succ]
    refine wpAnyH_done (by kernel_rfl) ?_ _
    go_wp2_with fail
    go_ret
    exact ⟨bb hok.out.symm, bel_next hB ((Drawn.refl W).drew.below _)⟩
  | true =>
    by_cases h2 : n = n.named
    · have hq : ∀ W' : World, (binOp .neq 51 (.agg n.cells.toArray) (.agg n.named.cells.toArray)).run Try.prog W' = .ok (.bool false) W' := fun W' => by
        have := neq_run (w := W') rfl rfl (eq_note 9996 W' n n.named)
        rwa [decide_eq_true h2] at this
      have H2 := Lib.hid h2
      clear h2
      cases h3 : n.nums.all okN with
      | false =>
        have hok : Hid (n.ok = false) := by show _ = _; simp only [NoteD.ok, h3, Bool.and_false, Bool.false_and]
        go_enter Try.func47, Try.ntmps47
        go_wp2_with fail
        rw [← HW.out]
        refine wp_region_held_drew (S := (fun w' => NS w.heap.size n w')) (by kernel_rfl) s0 (fun hHeld => ?_)
        refine' wpAnyH_take (i := 0) (oi := { dst := some 3, op := Op.fieldAddr 51 (Operand.tmp 1) 0, type := 0, pos := "note.go:22", after := #[], guard := none }) (v := ?v8) rfl (by kernel_rfl) (by kernel_rfl) (by kernel_rfl) (fun _ _ _ h => h) (Or.inl ⟨by rfl, ?hy8⟩) (by assumption) ?rest8
        case hy8 => (intro w hSw; obtain ⟨⟨k0, k1, k2, k3, k4, k12, k13, k14⟩, kr⟩ := hSw; go_simp; (try with_reducible rfl))
        simp only [Act.put, List.setIfInBounds_toArray, List.set_cons_zero, List.set_cons_succ]
        refine' wpAnyH_take (i := 1) (oi := { dst := some 4, op := Op.load 3 (Operand.tmp 3), type := 3, pos := "note.go:22", after := #[{ on := 0, ground := Ground.data }], guard := none }) (v := ?v9) rfl (by kernel_rfl) (by kernel_rfl) (by kernel_rfl) (fun _ _ _ h => h) (Or.inl ⟨by rfl, ?hy9⟩) (by assumption) ?rest9
        case hy9 => (intro w hSw; obtain ⟨⟨k0, k1, k2, k3, k4, k12, k13, k14⟩, kr⟩ := hSw; go_simp; (try with_reducible rfl))
        simp only [Act.put, List.setIfInBounds_toArray, List.set_cons_zero, List.set_cons_succ]
        refine wpAnyH_ready (rs := [2]) (by kernel_rfl) (by simp) ?_
        refine AllReadyH.cons (o := { dst := some 5, op := Op.call { callee := Callee.value (Operand.func 62), args := #[Operand.tmp 4, Operand.const (Value.int IntKind.i64 1), Operand.const (Value.int IntKind.i64 5)], argTypes := #[3, 3, 3] }, type := 4, pos := "note.go:22", after := #[{ on := 1, ground := Ground.data }], guard := none }) rfl (fun K hK => ?_) AllReadyH.nil
        go_simp
        refine (within_any _ _ _ _).mono ?_
        rintro e w1 ⟨rfl, rfl⟩
        rw [h1]
        go_wp2_with fail
        refine hK.out _ _ s0 (fun hHeld => ?_)
        clear hK K
        try simp only [Act.put, List.setIfInBounds_toArray, List.set_cons_zero, List.set_cons_succ]
        refine' wpAnyH_take (i := 3) (oi := { dst := some 6, op := Op.unOp UnOp.not 4 (Operand.tmp 5), type := 4, pos := "note.go:22", after := #[{ on := 2, ground := Ground.data }], guard := none }) (v := ?v10) rfl (by kernel_rfl) (by kernel_rfl) (by kernel_rfl) (fun _ _ _ h => h) (Or.inl ⟨by rfl, ?hy10⟩) (by assumption) ?rest10
        case hy10 => (intro w hSw; obtain ⟨⟨k0, k1, k2, k3, k4, k12, k13, k14⟩, kr⟩ := hSw; go_simp; (try with_reducible rfl))
        simp only [Act.put, List.setIfInBounds_toArray, List.set_cons_zero, List.set_cons_succ]
        refine' wpAnyH_take (i := 4) (oi := { dst := some 7, op := Op.move (Operand.tmp 6), type := 4, pos := "note.go:22", after := #[{ on := 3, ground := Ground.data }, { on := 2, ground := Ground.chain }], guard := none }) (v := ?v11) rfl (by kernel_rfl) (by kernel_rfl) (by kernel_rfl) (fun _ _ _ h => h) (Or.inl ⟨by rfl, ?hy11⟩) (by assumption) ?rest11
        case hy11 => (intro w hSw; obtain ⟨⟨k0, k1, k2, k3, k4, k12, k13, k14⟩, kr⟩ := hSw; go_simp; (try with_reducible rfl))
        simp only [Act.put, List.setIfInBounds_toArray, List.set_cons_zero, List.set_cons_succ]
        refine' wpAnyH_take (i := 5) (oi := { dst := some 8, op := Op.load 51 (Operand.tmp 1), type := 51, pos := "note.go:22", after := #[{ on := 4, ground := Ground.guard }], guard := some (4, false) }) (v := _) rfl (by kernel_rfl) (by kernel_rfl) (by kernel_rfl) (fun _ _ _ h => h) (yieldsIf_load_mid (by rfl) _ _ rfl _ _ rfl _ _ (fun w h => h.2) Try.underlying51 rfl size_note) (by assumption) ?_
        simp only [Act.put, List.setIfInBounds_toArray, List.set_cons_zero, List.set_cons_succ]
        refine' wpAnyH_take (i := 6) (oi := { dst := some 9, op := Op.load 51 (Operand.tmp 1), type := 51, pos := "note.go:22", after := #[{ on := 4, ground := Ground.guard }], guard := some (4, false) }) (v := _) rfl (by kernel_rfl) (by kernel_rfl) (by kernel_rfl) (fun _ _ _ h => h) (yieldsIf_load_mid (by rfl) _ _ rfl _ _ rfl _ _ (fun w h => h.2) Try.underlying51 rfl size_note) (by assumption) ?_
        simp only [Act.put, List.setIfInBounds_toArray, List.set_cons_zero, List.set_cons_succ]
        refine wpAnyH_ready (rs := [7]) (by kernel_rfl) (by simp) ?_
        refine AllReadyH.cons (o := { dst := some 10, op := Op.call { callee := Callee.value (Operand.func 75), args := #[Operand.tmp 9], argTypes := #[51] }, type := 51, pos := "note.go:22", after := #[{ on := 6, ground := Ground.data }, { on := 4, ground := Ground.chain }, { on := 4, ground := Ground.guard }], guard := some (4, false) }) rfl (fun K hK => ?_) AllReadyH.nil
        go_simp
        refine (named_any n _ ⟨rfl⟩ _).mono ?_
        rintro e w2 ⟨ys, rfl, hys, b2'⟩
        obtain rfl := hys.eq
        have b2 := below_undrew b2'
        have hN2 := hN.below b2
        have B2 := bel_next hB b2
        go_wp2_with fail
        refine hK.out _ _ hN2.ns (fun hHeld => ?_)
        clear hK K
        try simp only [Act.put, List.setIfInBounds_toArray, List.set_cons_zero, List.set_cons_succ]
        refine' wpAnyH_take (i := 8) (oi := { dst := some 11, op := Op.binOp BinOp.neq 51 (Operand.tmp 8) (Operand.tmp 10) 51, type := 4, pos := "note.go:22", after := #[{ on := 5, ground := Ground.data }, { on := 7, ground := Ground.data }, { on := 4, ground := Ground.guard }], guard := some (4, false) }) (v := ?v12) rfl (by kernel_rfl) (by kernel_rfl) (by kernel_rfl) (fun _ _ _ h => h) (Or.inl ⟨by rfl, ?hy12⟩) (by assumption) ?rest12
        case hy12 => (intro w hSw; obtain ⟨⟨k0, k1, k2, k3, k4, k12, k13, k14⟩, kr⟩ := hSw; go_simp; (try with_reducible rfl))
        simp only [Act.put, List.setIfInBounds_toArray, List.set_cons_zero, List.set_cons_succ]
        refine' wpAnyH_take (i := 9) (oi := { dst := some 12, op := Op.pick (Operand.tmp 7) (Operand.const (Value.bool true)) (Operand.tmp 11), type := 4, pos := "note.go:22", after := #[{ on := 4, ground := Ground.data }, { on := 8, ground := Ground.data }], guard := none }) (v := ?v13) rfl (by kernel_rfl) (by kernel_rfl) (by kernel_rfl) (fun _ _ _ h => h) (Or.inl ⟨by rfl, ?hy13⟩) (by assumption) ?rest13
        case hy13 => (intro w hSw; obtain ⟨⟨k0, k1, k2, k3, k4, k12, k13, k14⟩, kr⟩ := hSw; go_simp; (try with_reducible rfl))
        simp only [Act.put, List.setIfInBounds_toArray, List.set_cons_zero, List.set_cons_succ]
        refine' wpAnyH_take (i := 10) (oi := { dst := some 13, op := Op.move (Operand.tmp 12), type := 4, pos := "note.go:22", after := #[{ on := 9, ground := Ground.data }, { on := 7, ground := Ground.chain }], guard := none }) (v := ?v14) rfl (by kernel_rfl) (by kernel_rfl) (by kernel_rfl) (fun _ _ _ h => h) (Or.inl ⟨by rfl, ?hy14⟩) (by assumption) ?rest14
        case hy14 => (intro w hSw; obtain ⟨⟨k0, k1, k2, k3, k4, k12, k13, k14⟩, kr⟩ := hSw; go_simp; (try with_reducible rfl))
        simp only [Act.put, List.setIfInBounds_toArray, List.set_cons_zero, List.set_cons_succ]
        refine' wpAnyH_take (i := 11) (oi := { dst := some 14, op := Op.fieldAddr 51 (Operand.tmp 1) 1, type := 0, pos := "note.go:22", after := #[{ on := 10, ground := Ground.guard }], guard := some (10, false) }) (v := ?v15) rfl (by kernel_rfl) (by kernel_rfl) (by kernel_rfl) (fun _ _ _ h => h) (Or.inl ⟨by rfl, ?hy15⟩) (by assumption) ?rest15
        case hy15 => (intro w hSw; obtain ⟨⟨k0, k1, k2, k3, k4, k12, k13, k14⟩, kr⟩ := hSw; go_simp; (try with_reducible rfl))
        simp only [Act.put, List.setIfInBounds_toArray, List.set_cons_zero, List.set_cons_succ]
        refine' wpAnyH_take (i := 12) (oi := { dst := some 15, op := Op.load 3 (Operand.tmp 14), type := 3, pos := "note.go:22", after := #[{ on := 11, ground := Ground.data }, { on := 10, ground := Ground.guard }], guard := some (10, false) }) (v := ?v16) rfl (by kernel_rfl) (by kernel_rfl) (by kernel_rfl) (fun _ _ _ h => h) (Or.inl ⟨by rfl, ?hy16⟩) (by assumption) ?rest16
        case hy16 => (intro w hSw; obtain ⟨⟨k0, k1, k2, k3, k4, k12, k13, k14⟩, kr⟩ := hSw; go_simp; (try with_reducible rfl))
        simp only [Act.put, List.setIfInBounds_toArray, List.set_cons_zero, List.set_cons_succ]
        refine' wpAnyH_take (i := 13) (oi := { dst := some 16, op := Op.fieldAddr 51 (Operand.tmp 1) 2, type := 0, pos := "note.go:22", after := #[{ on := 10, ground := Ground.guard }], guard := some (10, false) }) (v := ?v17) rfl (by kernel_rfl) (by kernel_rfl) (by kernel_rfl) (fun _ _ _ h => h) (Or.inl ⟨by rfl, ?hy17⟩) (by assumption) ?rest17
        case hy17 => (intro w hSw; obtain ⟨⟨k0, k1, k2, k3, k4, k12, k13, k14⟩, kr⟩ := hSw; go_simp; (try with_reducible rfl))
        simp only [Act.put, List.setIfInBounds_toArray, List.set_cons_zero, List.set_cons_succ]
        refine' wpAnyH_take (i := 14) (oi := { dst := some 17, op := Op.load 3 (Operand.tmp 16), type := 3, pos := "note.go:22", after := #[{ on := 13, ground := Ground.data }, { on := 10, ground := Ground.guard }], guard := some (10, false) }) (v := ?v18) rfl (by kernel_rfl) (by kernel_rfl) (by kernel_rfl) (fun _ _ _ h => h) (Or.inl ⟨by rfl, ?hy18⟩) (by assumption) ?rest18
        case hy18 => (intro w hSw; obtain ⟨⟨k0, k1, k2, k3, k4, k12, k13, k14⟩, kr⟩ := hSw; go_simp; (try with_reducible rfl))
        simp only [Act.put, List.setIfInBounds_toArray, List.set_cons_zero, List.set_cons_succ]
        refine' wpAnyH_take (i := 15) (oi := { dst := some 18, op := Op.fieldAddr 51 (Operand.tmp 1) 3, type := 0, pos := "note.go:22", after := #[{ on := 10, ground := Ground.guard }], guard := some (10, false) }) (v := ?v19) rfl (by kernel_rfl) (by kernel_rfl) (by kernel_rfl) (fun _ _ _ h => h) (Or.inl ⟨by rfl, ?hy19⟩) (by assumption) ?rest19
        case hy19 => (intro w hSw; obtain ⟨⟨k0, k1, k2, k3, k4, k12, k13, k14⟩, kr⟩ := hSw; go_simp; (try with_reducible rfl))
        simp only [Act.put, List.setIfInBounds_toArray, List.set_cons_zero, List.set_cons_succ]
        refine' wpAnyH_take (i := 16) (oi := { dst := some 19, op := Op.load 3 (Operand.tmp 18), type := 3, pos := "note.go:22", after := #[{ on := 15, ground := Ground.data }, { on := 10, ground := Ground.guard }], guard := some (10, false) }) (v := ?v20) rfl (by kernel_rfl) (by kernel_rfl) (by kernel_rfl) (fun _ _ _ h => h) (Or.inl ⟨by rfl, ?hy20⟩) (by assumption) ?rest20
        case hy20 => (intro w hSw; obtain ⟨⟨k0, k1, k2, k3, k4, k12, k13, k14⟩, kr⟩ := hSw; go_simp; (try with_reducible rfl))
        simp only [Act.put, List.setIfInBounds_toArray, List.set_cons_zero, List.set_cons_succ]
        refine' wpAnyH_take (i := 17) (oi := { dst := some 20, op := Op.fieldAddr 51 (Operand.tmp 1) 4, type := 0, pos := "note.go:22", after := #[{ on := 10, ground := Ground.guard }], guard := some (10, false) }) (v := ?v21) rfl (by kernel_rfl) (by kernel_rfl) (by kernel_rfl) (fun _ _ _ h => h) (Or.inl ⟨by rfl, ?hy21⟩) (by assumption) ?rest21
        case hy21 => (intro w hSw; obtain ⟨⟨k0, k1, k2, k3, k4, k12, k13, k14⟩, kr⟩ := hSw; go_simp; (try with_reducible rfl))
        simp only [Act.put, List.setIfInBounds_toArray, List.set_cons_zero, List.set_cons_succ]
        refine' wpAnyH_take (i := 18) (oi := { dst := some 21, op := Op.load 3 (Operand.tmp 20), type := 3, pos := "note.go:22", after := #[{ on := 17, ground := Ground.data }, { on := 10, ground := Ground.guard }], guard := some (10, false) }) (v := ?v22) rfl (by kernel_rfl) (by kernel_rfl) (by kernel_rfl) (fun _ _ _ h => h) (Or.inl ⟨by rfl, ?hy22⟩) (by assumption) ?rest22
        case hy22 => (intro w hSw; obtain ⟨⟨k0, k1, k2, k3, k4, k12, k13, k14⟩, kr⟩ := hSw; go_simp; (try with_reducible rfl))
        simp only [Act.put, List.setIfInBounds_toArray, List.set_cons_zero, List.set_cons_succ]
        refine' wpAnyH_take (i := 19) (oi := { dst := some 22, op := Op.fieldAddr 51 (Operand.tmp 1) 6, type := 0, pos := "note.go:22", after := #[{ on := 10, ground := Ground.guard }], guard := some (10, false) }) (v := ?v23) rfl (by kernel_rfl) (by kernel_rfl) (by kernel_rfl) (fun _ _ _ h => h) (Or.inl ⟨by rfl, ?hy23⟩) (by assumption) ?rest23
        case hy23 => (intro w hSw; obtain ⟨⟨k0, k1, k2, k3, k4, k12, k13, k14⟩, kr⟩ := hSw; go_simp; (try with_reducible rfl))
        simp only [Act.put, List.setIfInBounds_toArray, List.set_cons_zero, List.set_cons_succ]
        refine' wpAnyH_take (i := 20) (oi := { dst := some 23, op := Op.fieldAddr 49 (Operand.tmp 22) 0, type := 0, pos := "note.go:22", after := #[{ on := 19, ground := Ground.data }, { on := 10, ground := Ground.guard }], guard := some (10, false) }) (v := ?v24) rfl (by kernel_rfl) (by kernel_rfl) (by kernel_rfl) (fun _ _ _ h => h) (Or.inl ⟨by rfl, ?hy24⟩) (by assumption) ?rest24
        case hy24 => (intro w hSw; obtain ⟨⟨k0, k1, k2, k3, k4, k12, k13, k14⟩, kr⟩ := hSw; go_simp; (try with_reducible rfl))
        simp only [Act.put, List.setIfInBounds_toArray, List.set_cons_zero, List.set_cons_succ]
        refine' wpAnyH_take (i := 21) (oi := { dst := some 24, op := Op.load 3 (Operand.tmp 23), type := 3, pos := "note.go:22", after := #[{ on := 20, ground := Ground.data }, { on := 10, ground := Ground.guard }], guard := some (10, false) }) (v := ?v25) rfl (by kernel_rfl) (by kernel_rfl) (by kernel_rfl) (fun _ _ _ h => h) (Or.inl ⟨by rfl, ?hy25⟩) (by assumption) ?rest25
        case hy25 => (intro w hSw; obtain ⟨⟨k0, k1, k2, k3, k4, k12, k13, k14⟩, kr⟩ := hSw; go_simp; (try with_reducible rfl))
        simp only [Act.put, List.setIfInBounds_toArray, List.set_cons_zero, List.set_cons_succ]
        refine' wpAnyH_take (i := 22) (oi := { dst := some 25, op := Op.fieldAddr 51 (Operand.tmp 1) 6, type := 0, pos := "note.go:22", after := #[{ on := 10, ground := Ground.guard }], guard := some (10, false) }) (v := ?v26) rfl (by kernel_rfl) (by kernel_rfl) (by kernel_rfl) (fun _ _ _ h => h) (Or.inl ⟨by rfl, ?hy26⟩) (by assumption) ?rest26
        case hy26 => (intro w hSw; obtain ⟨⟨k0, k1, k2, k3, k4, k12, k13, k14⟩, kr⟩ := hSw; go_simp; (try with_reducible rfl))
        simp only [Act.put, List.setIfInBounds_toArray, List.set_cons_zero, List.set_cons_succ]
        refine' wpAnyH_take (i := 23) (oi := { dst := some 26, op := Op.fieldAddr 49 (Operand.tmp 25) 1, type := 0, pos := "note.go:22", after := #[{ on := 22, ground := Ground.data }, { on := 10, ground := Ground.guard }], guard := some (10, false) }) (v := ?v27) rfl (by kernel_rfl) (by kernel_rfl) (by kernel_rfl) (fun _ _ _ h => h) (Or.inl ⟨by rfl, ?hy27⟩) (by assumption) ?rest27
        case hy27 => (intro w hSw; obtain ⟨⟨k0, k1, k2, k3, k4, k12, k13, k14⟩, kr⟩ := hSw; go_simp; (try with_reducible rfl))
        simp only [Act.put, List.setIfInBounds_toArray, List.set_cons_zero, List.set_cons_succ]
        refine' wpAnyH_take (i := 24) (oi := { dst := some 27, op := Op.load 3 (Operand.tmp 26), type := 3, pos := "note.go:22", after := #[{ on := 23, ground := Ground.data }, { on := 10, ground := Ground.guard }], guard := some (10, false) }) (v := ?v28) rfl (by kernel_rfl) (by kernel_rfl) (by kernel_rfl) (fun _ _ _ h => h) (Or.inl ⟨by rfl, ?hy28⟩) (by assumption) ?rest28
        case hy28 => (intro w hSw; obtain ⟨⟨k0, k1, k2, k3, k4, k12, k13, k14⟩, kr⟩ := hSw; go_simp; (try with_reducible rfl))
        simp only [Act.put, List.setIfInBounds_toArray, List.set_cons_zero, List.set_cons_succ]
        refine' wpAnyH_take (i := 25) (oi := { dst := some 28, op := Op.fieldAddr 51 (Operand.tmp 1) 6, type := 0, pos := "note.go:22", after := #[{ on := 10, ground := Ground.guard }], guard := some (10, false) }) (v := ?v29) rfl (by kernel_rfl) (by kernel_rfl) (by kernel_rfl) (fun _ _ _ h => h) (Or.inl ⟨by rfl, ?hy29⟩) (by assumption) ?rest29
        case hy29 => (intro w hSw; obtain ⟨⟨k0, k1, k2, k3, k4, k12, k13, k14⟩, kr⟩ := hSw; go_simp; (try with_reducible rfl))
        simp only [Act.put, List.setIfInBounds_toArray, List.set_cons_zero, List.set_cons_succ]
        refine' wpAnyH_take (i := 26) (oi := { dst := some 29, op := Op.fieldAddr 49 (Operand.tmp 28) 2, type := 0, pos := "note.go:22", after := #[{ on := 25, ground := Ground.data }, { on := 10, ground := Ground.guard }], guard := some (10, false) }) (v := ?v30) rfl (by kernel_rfl) (by kernel_rfl) (by kernel_rfl) (fun _ _ _ h => h) (Or.inl ⟨by rfl, ?hy30⟩) (by assumption) ?rest30
        case hy30 => (intro w hSw; obtain ⟨⟨k0, k1, k2, k3, k4, k12, k13, k14⟩, kr⟩ := hSw; go_simp; (try with_reducible rfl))
        simp only [Act.put, List.setIfInBounds_toArray, List.set_cons_zero, List.set_cons_succ]
        refine' wpAnyH_take (i := 27) (oi := { dst := some 30, op := Op.load 29 (Operand.tmp 29), type := 29, pos := "note.go:22", after := #[{ on := 26, ground := Ground.data }, { on := 10, ground := Ground.guard }], guard := some (10, false) }) (v := ?v31) rfl (by kernel_rfl) (by kernel_rfl) (by kernel_rfl) (fun _ _ _ h => h) (Or.inl ⟨by rfl, ?hy31⟩) (by assumption) ?rest31
        case hy31 => (intro w hSw; obtain ⟨⟨k0, k1, k2, k3, k4, k12, k13, k14⟩, kr⟩ := hSw; go_simp; (try with_reducible rfl))
        simp only [Act.put, List.setIfInBounds_toArray, List.set_cons_zero, List.set_cons_succ]
        refine wpAnyH_ready (rs := [28]) (by kernel_rfl) (by simp) ?_
        refine AllReadyH.cons (o := { dst := some 31, op := Op.buildSlice 117 7 #[(0, Operand.tmp 15), (1, Operand.tmp 17), (2, Operand.tmp 19), (3, Operand.tmp 21), (4, Operand.tmp 24), (5, Operand.tmp 27), (6, Operand.tmp 30)], type := 117, pos := "note.go:22", after := #[{ on := 12, ground := Ground.data }, { on := 14, ground := Ground.data }, { on := 16, ground := Ground.data }, { on := 18, ground := Ground.data }, { on := 21, ground := Ground.data }, { on := 24, ground := Ground.data }, { on := 27, ground := Ground.data }, { on := 10, ground := Ground.guard }], guard := some (10, false) }) rfl (fun K hK => ?_) AllReadyH.nil
        go_simp
        refine hK.out _ _ (hN2.below (bel_al (Below.refl _ _) _)).ns (fun hHeld => ?_)
        clear hK K
        try simp only [Act.put, List.setIfInBounds_toArray, List.set_cons_zero, List.set_cons_succ]
        refine wpAnyH_ready (rs := [29]) (by kernel_rfl) (by simp) ?_
        refine AllReadyH.cons (o := { dst := some 32, op := Op.call { callee := Callee.value (Operand.func 63), args := #[Operand.tmp 31], argTypes := #[117] }, type := 4, pos := "note.go:22", after := #[{ on := 28, ground := Ground.data }, { on := 10, ground := Ground.chain }, { on := 10, ground := Ground.guard }], guard := some (10, false) }) rfl (fun K hK => ?_) AllReadyH.nil
        go_simp
        refine (number_lit _ _ n.nums _ _ _ (by simp) rfl rfl (by simp [NoteD.nums]) rfl).mono ?_
        rintro e w3 ⟨rfl, rfl⟩
        rw [h3]
        go_wp2_with fail
        refine hK.out _ _ (hN2.below (bel_al (Below.refl _ _) _)).ns (fun hHeld => ?_)
        clear hK K
        try simp only [Act.put, List.setIfInBounds_toArray, List.set_cons_zero, List.set_cons_succ]
        refine' wpAnyH_take (i := 30) (oi := { dst := some 33, op := Op.unOp UnOp.not 4 (Operand.tmp 32), type := 4, pos := "note.go:22", after := #[{ on := 29, ground := Ground.data }, { on := 10, ground := Ground.guard }], guard := some (10, false) }) (v := ?v32) rfl (by kernel_rfl) (by kernel_rfl) (by kernel_rfl) (fun _ _ _ h => h) (Or.inl ⟨by rfl, ?hy32⟩) (by assumption) ?rest32
        case hy32 => (intro w hSw; obtain ⟨⟨k0, k1, k2, k3, k4, k12, k13, k14⟩, kr⟩ := hSw; go_simp; (try with_reducible rfl))
        simp only [Act.put, List.setIfInBounds_toArray, List.set_cons_zero, List.set_cons_succ]
        refine' wpAnyH_take (i := 31) (oi := { dst := some 34, op := Op.pick (Operand.tmp 13) (Operand.const (Value.bool true)) (Operand.tmp 33), type := 4, pos := "note.go:22", after := #[{ on := 10, ground := Ground.data }, { on := 30, ground := Ground.data }], guard := none }) (v := ?v33) rfl (by kernel_rfl) (by kernel_rfl) (by kernel_rfl) (fun _ _ _ h => h) (Or.inl ⟨by rfl, ?hy33⟩) (by assumption) ?rest33
        case hy33 => (intro w hSw; obtain ⟨⟨k0, k1, k2, k3, k4, k12, k13, k14⟩, kr⟩ := hSw; go_simp; (try with_reducible rfl))
        simp only [Act.put, List.setIfInBounds_toArray, List.set_cons_zero, List.set_cons_succ]
        refine wpAnyH_done (by kernel_rfl) ?_ _
        go_wp2_with fail
        go_ret
        exact ⟨bb hok.out.symm, bel_al B2 _⟩
      | true =>
        have hhd : Hid (n.ok = (if n.kind = 3 then !n.entry.neg && n.entry.ok else if n.kind = 5 then n.op.ok else true)) := by
          show _ = _
          simp only [NoteD.ok, h1, h3, decide_eq_true H2.out, Bool.true_and]
        go_enter Try.func47, Try.ntmps47
        go_wp2_with fail
        rw [← HW.out]
        refine wp_region_held_drew (S := (fun w' => NS w.heap.size n w')) (by kernel_rfl) s0 (fun hHeld => ?_)
        refine' wpAnyH_take (i := 0) (oi := { dst := some 3, op := Op.fieldAddr 51 (Operand.tmp 1) 0, type := 0, pos := "note.go:22", after := #[], guard := none }) (v := ?v34) rfl (by kernel_rfl) (by kernel_rfl) (by kernel_rfl) (fun _ _ _ h => h) (Or.inl ⟨by rfl, ?hy34⟩) (by assumption) ?rest34
        case hy34 => (intro w hSw; obtain ⟨⟨k0, k1, k2, k3, k4, k12, k13, k14⟩, kr⟩ := hSw; go_simp; (try with_reducible rfl))
        simp only [Act.put, List.setIfInBounds_toArray, List.set_cons_zero, List.set_cons_succ]
        refine' wpAnyH_take (i := 1) (oi := { dst := some 4, op := Op.load 3 (Operand.tmp 3), type := 3, pos := "note.go:22", after := #[{ on := 0, ground := Ground.data }], guard := none }) (v := ?v35) rfl (by kernel_rfl) (by kernel_rfl) (by kernel_rfl) (fun _ _ _ h => h) (Or.inl ⟨by rfl, ?hy35⟩) (by assumption) ?rest35
        case hy35 => (intro w hSw; obtain ⟨⟨k0, k1, k2, k3, k4, k12, k13, k14⟩, kr⟩ := hSw; go_simp; (try with_reducible rfl))
        simp only [Act.put, List.setIfInBounds_toArray, List.set_cons_zero, List.set_cons_succ]
        refine wpAnyH_ready (rs := [2]) (by kernel_rfl) (by simp) ?_
        refine AllReadyH.cons (o := { dst := some 5, op := Op.call { callee := Callee.value (Operand.func 62), args := #[Operand.tmp 4, Operand.const (Value.int IntKind.i64 1), Operand.const (Value.int IntKind.i64 5)], argTypes := #[3, 3, 3] }, type := 4, pos := "note.go:22", after := #[{ on := 1, ground := Ground.data }], guard := none }) rfl (fun K hK => ?_) AllReadyH.nil
        go_simp
        refine (within_any _ _ _ _).mono ?_
        rintro e w1 ⟨rfl, rfl⟩
        rw [h1]
        go_wp2_with fail
        refine hK.out _ _ s0 (fun hHeld => ?_)
        clear hK K
        try simp only [Act.put, List.setIfInBounds_toArray, List.set_cons_zero, List.set_cons_succ]
        refine' wpAnyH_take (i := 3) (oi := { dst := some 6, op := Op.unOp UnOp.not 4 (Operand.tmp 5), type := 4, pos := "note.go:22", after := #[{ on := 2, ground := Ground.data }], guard := none }) (v := ?v36) rfl (by kernel_rfl) (by kernel_rfl) (by kernel_rfl) (fun _ _ _ h => h) (Or.inl ⟨by rfl, ?hy36⟩) (by assumption) ?rest36
        case hy36 => (intro w hSw; obtain ⟨⟨k0, k1, k2, k3, k4, k12, k13, k14⟩, kr⟩ := hSw; go_simp; (try with_reducible rfl))
        simp only [Act.put, List.setIfInBounds_toArray, List.set_cons_zero, List.set_cons_succ]
        refine' wpAnyH_take (i := 4) (oi := { dst := some 7, op := Op.move (Operand.tmp 6), type := 4, pos := "note.go:22", after := #[{ on := 3, ground := Ground.data }, { on := 2, ground := Ground.chain }], guard := none }) (v := ?v37) rfl (by kernel_rfl) (by kernel_rfl) (by kernel_rfl) (fun _ _ _ h => h) (Or.inl ⟨by rfl, ?hy37⟩) (by assumption) ?rest37
        case hy37 => (intro w hSw; obtain ⟨⟨k0, k1, k2, k3, k4, k12, k13, k14⟩, kr⟩ := hSw; go_simp; (try with_reducible rfl))
        simp only [Act.put, List.setIfInBounds_toArray, List.set_cons_zero, List.set_cons_succ]
        refine' wpAnyH_take (i := 5) (oi := { dst := some 8, op := Op.load 51 (Operand.tmp 1), type := 51, pos := "note.go:22", after := #[{ on := 4, ground := Ground.guard }], guard := some (4, false) }) (v := _) rfl (by kernel_rfl) (by kernel_rfl) (by kernel_rfl) (fun _ _ _ h => h) (yieldsIf_load_mid (by rfl) _ _ rfl _ _ rfl _ _ (fun w h => h.2) Try.underlying51 rfl size_note) (by assumption) ?_
        simp only [Act.put, List.setIfInBounds_toArray, List.set_cons_zero, List.set_cons_succ]
        refine' wpAnyH_take (i := 6) (oi := { dst := some 9, op := Op.load 51 (Operand.tmp 1), type := 51, pos := "note.go:22", after := #[{ on := 4, ground := Ground.guard }], guard := some (4, false) }) (v := _) rfl (by kernel_rfl) (by kernel_rfl) (by kernel_rfl) (fun _ _ _ h => h) (yieldsIf_load_mid (by rfl) _ _ rfl _ _ rfl _ _ (fun w h => h.2) Try.underlying51 rfl size_note) (by assumption) ?_
        simp only [Act.put, List.setIfInBounds_toArray, List.set_cons_zero, List.set_cons_succ]
        refine wpAnyH_ready (rs := [7]) (by kernel_rfl) (by simp) ?_
        refine AllReadyH.cons (o := { dst := some 10, op := Op.call { callee := Callee.value (Operand.func 75), args := #[Operand.tmp 9], argTypes := #[51] }, type := 51, pos := "note.go:22", after := #[{ on := 6, ground := Ground.data }, { on := 4, ground := Ground.chain }, { on := 4, ground := Ground.guard }], guard := some (4, false) }) rfl (fun K hK => ?_) AllReadyH.nil
        go_simp
        refine (named_any n _ ⟨rfl⟩ _).mono ?_
        rintro e w2 ⟨ys, rfl, hys, b2'⟩
        obtain rfl := hys.eq
        have b2 := below_undrew b2'
        have hN2 := hN.below b2
        have B2 := bel_next hB b2
        go_wp2_with fail
        refine hK.out _ _ hN2.ns (fun hHeld => ?_)
        clear hK K
        try simp only [Act.put, List.setIfInBounds_toArray, List.set_cons_zero, List.set_cons_succ]
        refine' wpAnyH_take (i := 8) (oi := { dst := some 11, op := Op.binOp BinOp.neq 51 (Operand.tmp 8) (Operand.tmp 10) 51, type := 4, pos := "note.go:22", after := #[{ on := 5, ground := Ground.data }, { on := 7, ground := Ground.data }, { on := 4, ground := Ground.guard }], guard := some (4, false) }) (v := ?v38) rfl (by kernel_rfl) (by kernel_rfl) (by kernel_rfl) (fun _ _ _ h => h) (Or.inl ⟨by rfl, ?hy38⟩) (by assumption) ?rest38
        case hy38 => (intro w hSw; obtain ⟨⟨k0, k1, k2, k3, k4, k12, k13, k14⟩, kr⟩ := hSw; go_simp; (try with_reducible rfl))
        simp only [Act.put, List.setIfInBounds_toArray, List.set_cons_zero, List.set_cons_succ]
        refine' wpAnyH_take (i := 9) (oi := { dst := some 12, op := Op.pick (Operand.tmp 7) (Operand.const (Value.bool true)) (Operand.tmp 11), type := 4, pos := "note.go:22", after := #[{ on := 4, ground := Ground.data }, { on := 8, ground := Ground.data }], guard := none }) (v := ?v39) rfl (by kernel_rfl) (by kernel_rfl) (by kernel_rfl) (fun _ _ _ h => h) (Or.inl ⟨by rfl, ?hy39⟩) (by assumption) ?rest39
        case hy39 => (intro w hSw; obtain ⟨⟨k0, k1, k2, k3, k4, k12, k13, k14⟩, kr⟩ := hSw; go_simp; (try with_reducible rfl))
        simp only [Act.put, List.setIfInBounds_toArray, List.set_cons_zero, List.set_cons_succ]
        refine' wpAnyH_take (i := 10) (oi := { dst := some 13, op := Op.move (Operand.tmp 12), type := 4, pos := "note.go:22", after := #[{ on := 9, ground := Ground.data }, { on := 7, ground := Ground.chain }], guard := none }) (v := ?v40) rfl (by kernel_rfl) (by kernel_rfl) (by kernel_rfl) (fun _ _ _ h => h) (Or.inl ⟨by rfl, ?hy40⟩) (by assumption) ?rest40
        case hy40 => (intro w hSw; obtain ⟨⟨k0, k1, k2, k3, k4, k12, k13, k14⟩, kr⟩ := hSw; go_simp; (try with_reducible rfl))
        simp only [Act.put, List.setIfInBounds_toArray, List.set_cons_zero, List.set_cons_succ]
        refine' wpAnyH_take (i := 11) (oi := { dst := some 14, op := Op.fieldAddr 51 (Operand.tmp 1) 1, type := 0, pos := "note.go:22", after := #[{ on := 10, ground := Ground.guard }], guard := some (10, false) }) (v := ?v41) rfl (by kernel_rfl) (by kernel_rfl) (by kernel_rfl) (fun _ _ _ h => h) (Or.inl ⟨by rfl, ?hy41⟩) (by assumption) ?rest41
        case hy41 => (intro w hSw; obtain ⟨⟨k0, k1, k2, k3, k4, k12, k13, k14⟩, kr⟩ := hSw; go_simp; (try with_reducible rfl))
        simp only [Act.put, List.setIfInBounds_toArray, List.set_cons_zero, List.set_cons_succ]
        refine' wpAnyH_take (i := 12) (oi := { dst := some 15, op := Op.load 3 (Operand.tmp 14), type := 3, pos := "note.go:22", after := #[{ on := 11, ground := Ground.data }, { on := 10, ground := Ground.guard }], guard := some (10, false) }) (v := ?v42) rfl (by kernel_rfl) (by kernel_rfl) (by kernel_rfl) (fun _ _ _ h => h) (Or.inl ⟨by rfl, ?hy42⟩) (by assumption) ?rest42
        case hy42 => (intro w hSw; obtain ⟨⟨k0, k1, k2, k3, k4, k12, k13, k14⟩, kr⟩ := hSw; go_simp; (try with_reducible rfl))
        simp only [Act.put, List.setIfInBounds_toArray, List.set_cons_zero, List.set_cons_succ]
        refine' wpAnyH_take (i := 13) (oi := { dst := some 16, op := Op.fieldAddr 51 (Operand.tmp 1) 2, type := 0, pos := "note.go:22", after := #[{ on := 10, ground := Ground.guard }], guard := some (10, false) }) (v := ?v43) rfl (by kernel_rfl) (by kernel_rfl) (by kernel_rfl) (fun _ _ _ h => h) (Or.inl ⟨by rfl, ?hy43⟩) (by assumption) ?rest43
        case hy43 => (intro w hSw; obtain ⟨⟨k0, k1, k2, k3, k4, k12, k13, k14⟩, kr⟩ := hSw; go_simp; (try with_reducible rfl))
        simp only [Act.put, List.setIfInBounds_toArray, List.set_cons_zero, List.set_cons_succ]
        refine' wpAnyH_take (i := 14) (oi := { dst := some 17, op := Op.load 3 (Operand.tmp 16), type := 3, pos := "note.go:22", after := #[{ on := 13, ground := Ground.data }, { on := 10, ground := Ground.guard }], guard := some (10, false) }) (v := ?v44) rfl (by kernel_rfl) (by kernel_rfl) (by kernel_rfl) (fun _ _ _ h => h) (Or.inl ⟨by rfl, ?hy44⟩) (by assumption) ?rest44
        case hy44 => (intro w hSw; obtain ⟨⟨k0, k1, k2, k3, k4, k12, k13, k14⟩, kr⟩ := hSw; go_simp; (try with_reducible rfl))
        simp only [Act.put, List.setIfInBounds_toArray, List.set_cons_zero, List.set_cons_succ]
        refine' wpAnyH_take (i := 15) (oi := { dst := some 18, op := Op.fieldAddr 51 (Operand.tmp 1) 3, type := 0, pos := "note.go:22", after := #[{ on := 10, ground := Ground.guard }], guard := some (10, false) }) (v := ?v45) rfl (by kernel_rfl) (by kernel_rfl) (by kernel_rfl) (fun _ _ _ h => h) (Or.inl ⟨by rfl, ?hy45⟩) (by assumption) ?rest45
        case hy45 => (intro w hSw; obtain ⟨⟨k0, k1, k2, k3, k4, k12, k13, k14⟩, kr⟩ := hSw; go_simp; (try with_reducible rfl))
        simp only [Act.put, List.setIfInBounds_toArray, List.set_cons_zero, List.set_cons_succ]
        refine' wpAnyH_take (i := 16) (oi := { dst := some 19, op := Op.load 3 (Operand.tmp 18), type := 3, pos := "note.go:22", after := #[{ on := 15, ground := Ground.data }, { on := 10, ground := Ground.guard }], guard := some (10, false) }) (v := ?v46) rfl (by kernel_rfl) (by kernel_rfl) (by kernel_rfl) (fun _ _ _ h => h) (Or.inl ⟨by rfl, ?hy46⟩) (by assumption) ?rest46
        case hy46 => (intro w hSw; obtain ⟨⟨k0, k1, k2, k3, k4, k12, k13, k14⟩, kr⟩ := hSw; go_simp; (try with_reducible rfl))
        simp only [Act.put, List.setIfInBounds_toArray, List.set_cons_zero, List.set_cons_succ]
        refine' wpAnyH_take (i := 17) (oi := { dst := some 20, op := Op.fieldAddr 51 (Operand.tmp 1) 4, type := 0, pos := "note.go:22", after := #[{ on := 10, ground := Ground.guard }], guard := some (10, false) }) (v := ?v47) rfl (by kernel_rfl) (by kernel_rfl) (by kernel_rfl) (fun _ _ _ h => h) (Or.inl ⟨by rfl, ?hy47⟩) (by assumption) ?rest47
        case hy47 => (intro w hSw; obtain ⟨⟨k0, k1, k2, k3, k4, k12, k13, k14⟩, kr⟩ := hSw; go_simp; (try with_reducible rfl))
        simp only [Act.put, List.setIfInBounds_toArray, List.set_cons_zero, List.set_cons_succ]
        refine' wpAnyH_take (i := 18) (oi := { dst := some 21, op := Op.load 3 (Operand.tmp 20), type := 3, pos := "note.go:22", after := #[{ on := 17, ground := Ground.data }, { on := 10, ground := Ground.guard }], guard := some (10, false) }) (v := ?v48) rfl (by kernel_rfl) (by kernel_rfl) (by kernel_rfl) (fun _ _ _ h => h) (Or.inl ⟨by rfl, ?hy48⟩) (by assumption) ?rest48
        case hy48 => (intro w hSw; obtain ⟨⟨k0, k1, k2, k3, k4, k12, k13, k14⟩, kr⟩ := hSw; go_simp; (try with_reducible rfl))
        simp only [Act.put, List.setIfInBounds_toArray, List.set_cons_zero, List.set_cons_succ]
        refine' wpAnyH_take (i := 19) (oi := { dst := some 22, op := Op.fieldAddr 51 (Operand.tmp 1) 6, type := 0, pos := "note.go:22", after := #[{ on := 10, ground := Ground.guard }], guard := some (10, false) }) (v := ?v49) rfl (by kernel_rfl) (by kernel_rfl) (by kernel_rfl) (fun _ _ _ h => h) (Or.inl ⟨by rfl, ?hy49⟩) (by assumption) ?rest49
        case hy49 => (intro w hSw; obtain ⟨⟨k0, k1, k2, k3, k4, k12, k13, k14⟩, kr⟩ := hSw; go_simp; (try with_reducible rfl))
        simp only [Act.put, List.setIfInBounds_toArray, List.set_cons_zero, List.set_cons_succ]
        refine' wpAnyH_take (i := 20) (oi := { dst := some 23, op := Op.fieldAddr 49 (Operand.tmp 22) 0, type := 0, pos := "note.go:22", after := #[{ on := 19, ground := Ground.data }, { on := 10, ground := Ground.guard }], guard := some (10, false) }) (v := ?v50) rfl (by kernel_rfl) (by kernel_rfl) (by kernel_rfl) (fun _ _ _ h => h) (Or.inl ⟨by rfl, ?hy50⟩) (by assumption) ?rest50
        case hy50 => (intro w hSw; obtain ⟨⟨k0, k1, k2, k3, k4, k12, k13, k14⟩, kr⟩ := hSw; go_simp; (try with_reducible rfl))
        simp only [Act.put, List.setIfInBounds_toArray, List.set_cons_zero, List.set_cons_succ]
        refine' wpAnyH_take (i := 21) (oi := { dst := some 24, op := Op.load 3 (Operand.tmp 23), type := 3, pos := "note.go:22", after := #[{ on := 20, ground := Ground.data }, { on := 10, ground := Ground.guard }], guard := some (10, false) }) (v := ?v51) rfl (by kernel_rfl) (by kernel_rfl) (by kernel_rfl) (fun _ _ _ h => h) (Or.inl ⟨by rfl, ?hy51⟩) (by assumption) ?rest51
        case hy51 => (intro w hSw; obtain ⟨⟨k0, k1, k2, k3, k4, k12, k13, k14⟩, kr⟩ := hSw; go_simp; (try with_reducible rfl))
        simp only [Act.put, List.setIfInBounds_toArray, List.set_cons_zero, List.set_cons_succ]
        refine' wpAnyH_take (i := 22) (oi := { dst := some 25, op := Op.fieldAddr 51 (Operand.tmp 1) 6, type := 0, pos := "note.go:22", after := #[{ on := 10, ground := Ground.guard }], guard := some (10, false) }) (v := ?v52) rfl (by kernel_rfl) (by kernel_rfl) (by kernel_rfl) (fun _ _ _ h => h) (Or.inl ⟨by rfl, ?hy52⟩) (by assumption) ?rest52
        case hy52 => (intro w hSw; obtain ⟨⟨k0, k1, k2, k3, k4, k12, k13, k14⟩, kr⟩ := hSw; go_simp; (try with_reducible rfl))
        simp only [Act.put, List.setIfInBounds_toArray, List.set_cons_zero, List.set_cons_succ]
        refine' wpAnyH_take (i := 23) (oi := { dst := some 26, op := Op.fieldAddr 49 (Operand.tmp 25) 1, type := 0, pos := "note.go:22", after := #[{ on := 22, ground := Ground.data }, { on := 10, ground := Ground.guard }], guard := some (10, false) }) (v := ?v53) rfl (by kernel_rfl) (by kernel_rfl) (by kernel_rfl) (fun _ _ _ h => h) (Or.inl ⟨by rfl, ?hy53⟩) (by assumption) ?rest53
        case hy53 => (intro w hSw; obtain ⟨⟨k0, k1, k2, k3, k4, k12, k13, k14⟩, kr⟩ := hSw; go_simp; (try with_reducible rfl))
        simp only [Act.put, List.setIfInBounds_toArray, List.set_cons_zero, List.set_cons_succ]
        refine' wpAnyH_take (i := 24) (oi := { dst := some 27, op := Op.load 3 (Operand.tmp 26), type := 3, pos := "note.go:22", after := #[{ on := 23, ground := Ground.data }, { on := 10, ground := Ground.guard }], guard := some (10, false) }) (v := ?v54) rfl (by kernel_rfl) (by kernel_rfl) (by kernel_rfl) (fun _ _ _ h => h) (Or.inl ⟨by rfl, ?hy54⟩) (by assumption) ?rest54
        case hy54 => (intro w hSw; obtain ⟨⟨k0, k1, k2, k3, k4, k12, k13, k14⟩, kr⟩ := hSw; go_simp; (try with_reducible rfl))
        simp only [Act.put, List.setIfInBounds_toArray, List.set_cons_zero, List.set_cons_succ]
        refine' wpAnyH_take (i := 25) (oi := { dst := some 28, op := Op.fieldAddr 51 (Operand.tmp 1) 6, type := 0, pos := "note.go:22", after := #[{ on := 10, ground := Ground.guard }], guard := some (10, false) }) (v := ?v55) rfl (by kernel_rfl) (by kernel_rfl) (by kernel_rfl) (fun _ _ _ h => h) (Or.inl ⟨by rfl, ?hy55⟩) (by assumption) ?rest55
        case hy55 => (intro w hSw; obtain ⟨⟨k0, k1, k2, k3, k4, k12, k13, k14⟩, kr⟩ := hSw; go_simp; (try with_reducible rfl))
        simp only [Act.put, List.setIfInBounds_toArray, List.set_cons_zero, List.set_cons_succ]
        refine' wpAnyH_take (i := 26) (oi := { dst := some 29, op := Op.fieldAddr 49 (Operand.tmp 28) 2, type := 0, pos := "note.go:22", after := #[{ on := 25, ground := Ground.data }, { on := 10, ground := Ground.guard }], guard := some (10, false) }) (v := ?v56) rfl (by kernel_rfl) (by kernel_rfl) (by kernel_rfl) (fun _ _ _ h => h) (Or.inl ⟨by rfl, ?hy56⟩) (by assumption) ?rest56
        case hy56 => (intro w hSw; obtain ⟨⟨k0, k1, k2, k3, k4, k12, k13, k14⟩, kr⟩ := hSw; go_simp; (try with_reducible rfl))
        simp only [Act.put, List.setIfInBounds_toArray, List.set_cons_zero, List.set_cons_succ]
        refine' wpAnyH_take (i := 27) (oi := { dst := some 30, op := Op.load 29 (Operand.tmp 29), type := 29, pos := "note.go:22", after := #[{ on := 26, ground := Ground.data }, { on := 10, ground := Ground.guard }], guard := some (10, false) }) (v := ?v57) rfl (by kernel_rfl) (by kernel_rfl) (by kernel_rfl) (fun _ _ _ h => h) (Or.inl ⟨by rfl, ?hy57⟩) (by assumption) ?rest57
        case hy57 => (intro w hSw; obtain ⟨⟨k0, k1, k2, k3, k4, k12, k13, k14⟩, kr⟩ := hSw; go_simp; (try with_reducible rfl))
        simp only [Act.put, List.setIfInBounds_toArray, List.set_cons_zero, List.set_cons_succ]
        refine wpAnyH_ready (rs := [28]) (by kernel_rfl) (by simp) ?_
        refine AllReadyH.cons (o := { dst := some 31, op := Op.buildSlice 117 7 #[(0, Operand.tmp 15), (1, Operand.tmp 17), (2, Operand.tmp 19), (3, Operand.tmp 21), (4, Operand.tmp 24), (5, Operand.tmp 27), (6, Operand.tmp 30)], type := 117, pos := "note.go:22", after := #[{ on := 12, ground := Ground.data }, { on := 14, ground := Ground.data }, { on := 16, ground := Ground.data }, { on := 18, ground := Ground.data }, { on := 21, ground := Ground.data }, { on := 24, ground := Ground.data }, { on := 27, ground := Ground.data }, { on := 10, ground := Ground.guard }], guard := some (10, false) }) rfl (fun K hK => ?_) AllReadyH.nil
        go_simp
        refine hK.out _ _ (hN2.below (bel_al (Below.refl _ _) _)).ns (fun hHeld => ?_)
        clear hK K
        try simp only [Act.put, List.setIfInBounds_toArray, List.set_cons_zero, List.set_cons_succ]
        refine wpAnyH_ready (rs := [29]) (by kernel_rfl) (by simp) ?_
        refine AllReadyH.cons (o := { dst := some 32, op := Op.call { callee := Callee.value (Operand.func 63), args := #[Operand.tmp 31], argTypes := #[117] }, type := 4, pos := "note.go:22", after := #[{ on := 28, ground := Ground.data }, { on := 10, ground := Ground.chain }, { on := 10, ground := Ground.guard }], guard := some (10, false) }) rfl (fun K hK => ?_) AllReadyH.nil
        go_simp
        refine (number_lit _ _ n.nums _ _ _ (by simp) rfl rfl (by simp [NoteD.nums]) rfl).mono ?_
        rintro e w3 ⟨rfl, rfl⟩
        rw [h3]
        go_wp2_with fail
        refine hK.out _ _ (hN2.below (bel_al (Below.refl _ _) _)).ns (fun hHeld => ?_)
        clear hK K
        try simp only [Act.put, List.setIfInBounds_toArray, List.set_cons_zero, List.set_cons_succ]
        refine' wpAnyH_take (i := 30) (oi := { dst := some 33, op := Op.unOp UnOp.not 4 (Operand.tmp 32), type := 4, pos := "note.go:22", after := #[{ on := 29, ground := Ground.data }, { on := 10, ground := Ground.guard }], guard := some (10, false) }) (v := ?v58) rfl (by kernel_rfl) (by kernel_rfl) (by kernel_rfl) (fun _ _ _ h => h) (Or.inl ⟨by rfl, ?hy58⟩) (by assumption) ?rest58
        case hy58 => (intro w hSw; obtain ⟨⟨k0, k1, k2, k3, k4, k12, k13, k14⟩, kr⟩ := hSw; go_simp; (try with_reducible rfl))
        simp only [Act.put, List.setIfInBounds_toArray, List.set_cons_zero, List.set_cons_succ]
        refine' wpAnyH_take (i := 31) (oi := { dst := some 34, op := Op.pick (Operand.tmp 13) (Operand.const (Value.bool true)) (Operand.tmp 33), type := 4, pos := "note.go:22", after := #[{ on := 10, ground := Ground.data }, { on := 30, ground := Ground.data }], guard := none }) (v := ?v59) rfl (by kernel_rfl) (by kernel_rfl) (by kernel_rfl) (fun _ _ _ h => h) (Or.inl ⟨by rfl, ?hy59⟩) (by assumption) ?rest59
        case hy59 => (intro w hSw; obtain ⟨⟨k0, k1, k2, k3, k4, k12, k13, k14⟩, kr⟩ := hSw; go_simp; (try with_reducible rfl))
        simp only [Act.put, List.setIfInBounds_toArray, List.set_cons_zero, List.set_cons_succ]
        refine wpAnyH_done (by kernel_rfl) ?_ _
        have hN3 := hN2.below (bel_al (Below.refl _ w2) (.cells (ints .i64 n.nums).toArray 3))
        have B3 := bel_al B2 (.cells (ints .i64 n.nums).toArray 3)
        generalize w2.alloc (.cells (ints .i64 n.nums).toArray 3) = W3 at *
        clear hq s0 hN2 B2 b2 b2'
        obtain ⟨c0, c1, c2, c3, c4, c12, c13, c14⟩ := hN3.nums
        have c7 := hN3.neg
        by_cases k3 : n.kind = 3
        · rw [k3] at c0
          cases hneg : n.entry.neg with
          | true =>
            have hfin : Hid (n.ok = false) := by show _ = _; rw [hhd.out, if_pos k3, hneg]; rfl
            rw [hneg] at c7
            go_wp2_with fail
            go_ret
            exact ⟨bb hfin.out.symm, B3⟩
          | false =>
            have hfin : Hid (n.ok = n.entry.ok) := by show _ = _; rw [hhd.out, if_pos k3, hneg]; rfl
            rw [hneg] at c7
            go_wp2_with (first | ((with_reducible refine wpList_load_entry_g (op := ⟨_, Op.load 47 _, _, _, _, _⟩) ?_ _ rfl _ _ ?_ hN3 ?_); rfl; rfl))
            refine (plainEntry_any n.entry _).mono ?_
            rintro e w4 ⟨rfl, b4⟩
            go_wp2_with fail
            go_ret
            exact ⟨bb hfin.out.symm, bel_next B3 b4⟩
        · have e3 : (n.kind == 3) = false := by simp [k3]
          by_cases k5 : n.kind = 5
          · have hfin : Hid (n.ok = n.op.ok) := by show _ = _; rw [hhd.out, if_neg k3, if_pos k5]
            rw [k5] at c0
            go_wp2_with (first | ((with_reducible refine wpList_load_op (op := ⟨_, Op.load 23 _, _, _, _, _⟩) rfl _ rfl _ _ ?_ hN3 ?_); rfl))
            refine (plainOp_any n.op _).mono ?_
            rintro e w4 ⟨rfl, b4⟩
            go_wp2_with fail
            go_ret
            exact ⟨bb hfin.out.symm, bel_next B3 b4⟩
          · have e5 : (n.kind == 5) = false := by simp [k5]
            have hfin : Hid (n.ok = true) := by show _ = _; rw [hhd.out, if_neg k3, if_neg k5]
            go_wp2_with fail
            go_ret
            exact ⟨bb hfin.out.symm, B3⟩
    · have hq : ∀ W' : World, (binOp .neq 51 (.agg n.cells.toArray) (.agg n.named.cells.toArray)).run Try.prog W' = .ok (.bool true) W' := fun W' => by
        have := neq_run (w := W') rfl rfl (eq_note 9996 W' n n.named)
        rwa [decide_eq_false h2] at this
      have hok : Hid (n.ok = false) := by show _ = _; simp only [NoteD.ok, decide_eq_false h2, Bool.and_false, Bool.false_and]
      clear h2
      go_enter Try.func47, Try.ntmps47
      go_wp2_with fail
      rw [← HW.out]
      refine wp_region_held_drew (S := (fun w' => NS w.heap.size n w')) (by kernel_rfl) s0 (fun hHeld => ?_)
      refine' wpAnyH_take (i := 0) (oi := { dst := some 3, op := Op.fieldAddr 51 (Operand.tmp 1) 0, type := 0, pos := "note.go:22", after := #[], guard := none }) (v := ?v60) rfl (by kernel_rfl) (by kernel_rfl) (by kernel_rfl) (fun _ _ _ h => h) (Or.inl ⟨by rfl, ?hy60⟩) (by assumption) ?rest60
      case hy60 => (intro w hSw; obtain ⟨⟨k0, k1, k2, k3, k4, k12, k13, k14⟩, kr⟩ := hSw; go_simp; (try with_reducible rfl))
      simp only [Act.put, List.setIfInBounds_toArray, List.set_cons_zero, List.set_cons_succ]
      refine' wpAnyH_take (i := 1) (oi := { dst := some 4, op := Op.load 3 (Operand.tmp 3), type := 3, pos := "note.go:22", after := #[{ on := 0, ground := Ground.data }], guard := none }) (v := ?v61) rfl (by kernel_rfl) (by kernel_rfl) (by kernel_rfl) (fun _ _ _ h => h) (Or.inl ⟨by rfl, ?hy61⟩) (by assumption) ?rest61
      case hy61 => (intro w hSw; obtain ⟨⟨k0, k1, k2, k3, k4, k12, k13, k14⟩, kr⟩ := hSw; go_simp; (try with_reducible rfl))
      simp only [Act.put, List.setIfInBounds_toArray, List.set_cons_zero, List.set_cons_succ]
      refine wpAnyH_ready (rs := [2]) (by kernel_rfl) (by simp) ?_
      refine AllReadyH.cons (o := { dst := some 5, op := Op.call { callee := Callee.value (Operand.func 62), args := #[Operand.tmp 4, Operand.const (Value.int IntKind.i64 1), Operand.const (Value.int IntKind.i64 5)], argTypes := #[3, 3, 3] }, type := 4, pos := "note.go:22", after := #[{ on := 1, ground := Ground.data }], guard := none }) rfl (fun K hK => ?_) AllReadyH.nil
      go_simp
      refine (within_any _ _ _ _).mono ?_
      rintro e w1 ⟨rfl, rfl⟩
      rw [h1]
      go_wp2_with fail
      refine hK.out _ _ s0 (fun hHeld => ?_)
      clear hK K
      try simp only [Act.put, List.setIfInBounds_toArray, List.set_cons_zero, List.set_cons_succ]
      refine' wpAnyH_take (i := 3) (oi := { dst := some 6, op := Op.unOp UnOp.not 4 (Operand.tmp 5), type := 4, pos := "note.go:22", after := #[{ on := 2, ground := Ground.data }], guard := none }) (v := ?v62) rfl (by kernel_rfl) (by kernel_rfl) (by kernel_rfl) (fun _ _ _ h => h) (Or.inl ⟨by rfl, ?hy62⟩) (by assumption) ?rest62
      case hy62 => (intro w hSw; obtain ⟨⟨k0, k1, k2, k3, k4, k12, k13, k14⟩, kr⟩ := hSw; go_simp; (try with_reducible rfl))
      simp only [Act.put, List.setIfInBounds_toArray, List.set_cons_zero, List.set_cons_succ]
      refine' wpAnyH_take (i := 4) (oi := { dst := some 7, op := Op.move (Operand.tmp 6), type := 4, pos := "note.go:22", after := #[{ on := 3, ground := Ground.data }, { on := 2, ground := Ground.chain }], guard := none }) (v := ?v63) rfl (by kernel_rfl) (by kernel_rfl) (by kernel_rfl) (fun _ _ _ h => h) (Or.inl ⟨by rfl, ?hy63⟩) (by assumption) ?rest63
      case hy63 => (intro w hSw; obtain ⟨⟨k0, k1, k2, k3, k4, k12, k13, k14⟩, kr⟩ := hSw; go_simp; (try with_reducible rfl))
      simp only [Act.put, List.setIfInBounds_toArray, List.set_cons_zero, List.set_cons_succ]
      refine' wpAnyH_take (i := 5) (oi := { dst := some 8, op := Op.load 51 (Operand.tmp 1), type := 51, pos := "note.go:22", after := #[{ on := 4, ground := Ground.guard }], guard := some (4, false) }) (v := _) rfl (by kernel_rfl) (by kernel_rfl) (by kernel_rfl) (fun _ _ _ h => h) (yieldsIf_load_mid (by rfl) _ _ rfl _ _ rfl _ _ (fun w h => h.2) Try.underlying51 rfl size_note) (by assumption) ?_
      simp only [Act.put, List.setIfInBounds_toArray, List.set_cons_zero, List.set_cons_succ]
      refine' wpAnyH_take (i := 6) (oi := { dst := some 9, op := Op.load 51 (Operand.tmp 1), type := 51, pos := "note.go:22", after := #[{ on := 4, ground := Ground.guard }], guard := some (4, false) }) (v := _) rfl (by kernel_rfl) (by kernel_rfl) (by kernel_rfl) (fun _ _ _ h => h) (yieldsIf_load_mid (by rfl) _ _ rfl _ _ rfl _ _ (fun w h => h.2) Try.underlying51 rfl size_note) (by assumption) ?_
      simp only [Act.put, List.setIfInBounds_toArray, List.set_cons_zero, List.set_cons_succ]
      refine wpAnyH_ready (rs := [7]) (by kernel_rfl) (by simp) ?_
      refine AllReadyH.cons (o := { dst := some 10, op := Op.call { callee := Callee.value (Operand.func 75), args := #[Operand.tmp 9], argTypes := #[51] }, type := 51, pos := "note.go:22", after := #[{ on := 6, ground := Ground.data }, { on := 4, ground := Ground.chain }, { on := 4, ground := Ground.guard }], guard := some (4, false) }) rfl (fun K hK => ?_) AllReadyH.nil
      go_simp
      refine (named_any n _ ⟨rfl⟩ _).mono ?_
      rintro e w2 ⟨ys, rfl, hys, b2'⟩
      obtain rfl := hys.eq
      have b2 := below_undrew b2'
      have hN2 := hN.below b2
      have B2 := bel_next hB b2
      go_wp2_with fail
      refine hK.out _ _ hN2.ns (fun hHeld => ?_)
      clear hK K
      try simp only [Act.put, List.setIfInBounds_toArray, List.set_cons_zero, List.set_cons_succ]
      refine' wpAnyH_take (i := 8) (oi := { dst := some 11, op := Op.binOp BinOp.neq 51 (Operand.tmp 8) (Operand.tmp 10) 51, type := 4, pos := "note.go:22", after := #[{ on := 5, ground := Ground.data }, { on := 7, ground := Ground.data }, { on := 4, ground := Ground.guard }], guard := some (4, false) }) (v := ?v64) rfl (by kernel_rfl) (by kernel_rfl) (by kernel_rfl) (fun _ _ _ h => h) (Or.inl ⟨by rfl, ?hy64⟩) (by assumption) ?rest64
      case hy64 => (intro w hSw; obtain ⟨⟨k0, k1, k2, k3, k4, k12, k13, k14⟩, kr⟩ := hSw; go_simp; (try with_reducible rfl))
      simp only [Act.put, List.setIfInBounds_toArray, List.set_cons_zero, List.set_cons_succ]
      refine' wpAnyH_take (i := 9) (oi := { dst := some 12, op := Op.pick (Operand.tmp 7) (Operand.const (Value.bool true)) (Operand.tmp 11), type := 4, pos := "note.go:22", after := #[{ on := 4, ground := Ground.data }, { on := 8, ground := Ground.data }], guard := none }) (v := ?v65) rfl (by kernel_rfl) (by kernel_rfl) (by kernel_rfl) (fun _ _ _ h => h) (Or.inl ⟨by rfl, ?hy65⟩) (by assumption) ?rest65
      case hy65 => (intro w hSw; obtain ⟨⟨k0, k1, k2, k3, k4, k12, k13, k14⟩, kr⟩ := hSw; go_simp; (try with_reducible rfl))
      simp only [Act.put, List.setIfInBounds_toArray, List.set_cons_zero, List.set_cons_succ]
      refine' wpAnyH_take (i := 10) (oi := { dst := some 13, op := Op.move (Operand.tmp 12), type := 4, pos := "note.go:22", after := #[{ on := 9, ground := Ground.data }, { on := 7, ground := Ground.chain }], guard := none }) (v := ?v66) rfl (by kernel_rfl) (by kernel_rfl) (by kernel_rfl) (fun _ _ _ h => h) (Or.inl ⟨by rfl, ?hy66⟩) (by assumption) ?rest66
      case hy66 => (intro w hSw; obtain ⟨⟨k0, k1, k2, k3, k4, k12, k13, k14⟩, kr⟩ := hSw; go_simp; (try with_reducible rfl))
      simp only [Act.put, List.setIfInBounds_toArray, List.set_cons_zero, List.set_cons_succ]
      refine' wpAnyH_take (i := 11) (oi := { dst := some 14, op := Op.fieldAddr 51 (Operand.tmp 1) 1, type := 0, pos := "note.go:22", after := #[{ on := 10, ground := Ground.guard }], guard := some (10, false) }) (v := undef) rfl (by kernel_rfl) (by kernel_rfl) (by kernel_rfl) (fun _ _ _ h => h) (Or.inr ⟨by rfl, rfl⟩) (by assumption) ?_
      simp only [Act.put, List.setIfInBounds_toArray, List.set_cons_zero, List.set_cons_succ]
      refine' wpAnyH_take (i := 12) (oi := { dst := some 15, op := Op.load 3 (Operand.tmp 14), type := 3, pos := "note.go:22", after := #[{ on := 11, ground := Ground.data }, { on := 10, ground := Ground.guard }], guard := some (10, false) }) (v := undef) rfl (by kernel_rfl) (by kernel_rfl) (by kernel_rfl) (fun _ _ _ h => h) (Or.inr ⟨by rfl, rfl⟩) (by assumption) ?_
      simp only [Act.put, List.setIfInBounds_toArray, List.set_cons_zero, List.set_cons_succ]
      refine' wpAnyH_take (i := 13) (oi := { dst := some 16, op := Op.fieldAddr 51 (Operand.tmp 1) 2, type := 0, pos := "note.go:22", after := #[{ on := 10, ground := Ground.guard }], guard := some (10, false) }) (v := undef) rfl (by kernel_rfl) (by kernel_rfl) (by kernel_rfl) (fun _ _ _ h => h) (Or.inr ⟨by rfl, rfl⟩) (by assumption) ?_
      simp only [Act.put, List.setIfInBounds_toArray, List.set_cons_zero, List.set_cons_succ]
      refine' wpAnyH_take (i := 14) (oi := { dst := some 17, op := Op.load 3 (Operand.tmp 16), type := 3, pos := "note.go:22", after := #[{ on := 13, ground := Ground.data }, { on := 10, ground := Ground.guard }], guard := some (10, false) }) (v := undef) rfl (by kernel_rfl) (by kernel_rfl) (by kernel_rfl) (fun _ _ _ h => h) (Or.inr ⟨by rfl, rfl⟩) (by assumption) ?_
      simp only [Act.put, List.setIfInBounds_toArray, List.set_cons_zero, List.set_cons_succ]
      refine' wpAnyH_take (i := 15) (oi := { dst := some 18, op := Op.fieldAddr 51 (Operand.tmp 1) 3, type := 0, pos := "note.go:22", after := #[{ on := 10, ground := Ground.guard }], guard := some (10, false) }) (v := undef) rfl (by kernel_rfl) (by kernel_rfl) (by kernel_rfl) (fun _ _ _ h => h) (Or.inr ⟨by rfl, rfl⟩) (by assumption) ?_
      simp only [Act.put, List.setIfInBounds_toArray, List.set_cons_zero, List.set_cons_succ]
      refine' wpAnyH_take (i := 16) (oi := { dst := some 19, op := Op.load 3 (Operand.tmp 18), type := 3, pos := "note.go:22", after := #[{ on := 15, ground := Ground.data }, { on := 10, ground := Ground.guard }], guard := some (10, false) }) (v := undef) rfl (by kernel_rfl) (by kernel_rfl) (by kernel_rfl) (fun _ _ _ h => h) (Or.inr ⟨by rfl, rfl⟩) (by assumption) ?_
      simp only [Act.put, List.setIfInBounds_toArray, List.set_cons_zero, List.set_cons_succ]
      refine' wpAnyH_take (i := 17) (oi := { dst := some 20, op := Op.fieldAddr 51 (Operand.tmp 1) 4, type := 0, pos := "note.go:22", after := #[{ on := 10, ground := Ground.guard }], guard := some (10, false) }) (v := undef) rfl (by kernel_rfl) (by kernel_rfl) (by kernel_rfl) (fun _ _ _ h => h) (Or.inr ⟨by rfl, rfl⟩) (by assumption) ?_
      simp only [Act.put, List.setIfInBounds_toArray, List.set_cons_zero, List.set_cons_succ]
      refine' wpAnyH_take (i := 18) (oi := { dst := some 21, op := Op.load 3 (Operand.tmp 20), type := 3, pos := "note.go:22", after := #[{ on := 17, ground := Ground.data }, { on := 10, ground := Ground.guard }], guard := some (10, false) }) (v := undef) rfl (by kernel_rfl) (by kernel_rfl) (by kernel_rfl) (fun _ _ _ h => h) (Or.inr ⟨by rfl, rfl⟩) (by assumption) ?_
      simp only [Act.put, List.setIfInBounds_toArray, List.set_cons_zero, List.set_cons_succ]
      refine' wpAnyH_take (i := 19) (oi := { dst := some 22, op := Op.fieldAddr 51 (Operand.tmp 1) 6, type := 0, pos := "note.go:22", after := #[{ on := 10, ground := Ground.guard }], guard := some (10, false) }) (v := undef) rfl (by kernel_rfl) (by kernel_rfl) (by kernel_rfl) (fun _ _ _ h => h) (Or.inr ⟨by rfl, rfl⟩) (by assumption) ?_
      simp only [Act.put, List.setIfInBounds_toArray, List.set_cons_zero, List.set_cons_succ]
      refine' wpAnyH_take (i := 20) (oi := { dst := some 23, op := Op.fieldAddr 49 (Operand.tmp 22) 0, type := 0, pos := "note.go:22", after := #[{ on := 19, ground := Ground.data }, { on := 10, ground := Ground.guard }], guard := some (10, false) }) (v := undef) rfl (by kernel_rfl) (by kernel_rfl) (by kernel_rfl) (fun _ _ _ h => h) (Or.inr ⟨by rfl, rfl⟩) (by assumption) ?_
      simp only [Act.put, List.setIfInBounds_toArray, List.set_cons_zero, List.set_cons_succ]
      refine' wpAnyH_take (i := 21) (oi := { dst := some 24, op := Op.load 3 (Operand.tmp 23), type := 3, pos := "note.go:22", after := #[{ on := 20, ground := Ground.data }, { on := 10, ground := Ground.guard }], guard := some (10, false) }) (v := undef) rfl (by kernel_rfl) (by kernel_rfl) (by kernel_rfl) (fun _ _ _ h => h) (Or.inr ⟨by rfl, rfl⟩) (by assumption) ?_
      simp only [Act.put, List.setIfInBounds_toArray, List.set_cons_zero, List.set_cons_succ]
      refine' wpAnyH_take (i := 22) (oi := { dst := some 25, op := Op.fieldAddr 51 (Operand.tmp 1) 6, type := 0, pos := "note.go:22", after := #[{ on := 10, ground := Ground.guard }], guard := some (10, false) }) (v := undef) rfl (by kernel_rfl) (by kernel_rfl) (by kernel_rfl) (fun _ _ _ h => h) (Or.inr ⟨by rfl, rfl⟩) (by assumption) ?_
      simp only [Act.put, List.setIfInBounds_toArray, List.set_cons_zero, List.set_cons_succ]
      refine' wpAnyH_take (i := 23) (oi := { dst := some 26, op := Op.fieldAddr 49 (Operand.tmp 25) 1, type := 0, pos := "note.go:22", after := #[{ on := 22, ground := Ground.data }, { on := 10, ground := Ground.guard }], guard := some (10, false) }) (v := undef) rfl (by kernel_rfl) (by kernel_rfl) (by kernel_rfl) (fun _ _ _ h => h) (Or.inr ⟨by rfl, rfl⟩) (by assumption) ?_
      simp only [Act.put, List.setIfInBounds_toArray, List.set_cons_zero, List.set_cons_succ]
      refine' wpAnyH_take (i := 24) (oi := { dst := some 27, op := Op.load 3 (Operand.tmp 26), type := 3, pos := "note.go:22", after := #[{ on := 23, ground := Ground.data }, { on := 10, ground := Ground.guard }], guard := some (10, false) }) (v := undef) rfl (by kernel_rfl) (by kernel_rfl) (by kernel_rfl) (fun _ _ _ h => h) (Or.inr ⟨by rfl, rfl⟩) (by assumption) ?_
      simp only [Act.put, List.setIfInBounds_toArray, List.set_cons_zero, List.set_cons_succ]
      refine' wpAnyH_take (i := 25) (oi := { dst := some 28, op := Op.fieldAddr 51 (Operand.tmp 1) 6, type := 0, pos := "note.go:22", after := #[{ on := 10, ground := Ground.guard }], guard := some (10, false) }) (v := undef) rfl (by kernel_rfl) (by kernel_rfl) (by kernel_rfl) (fun _ _ _ h => h) (Or.inr ⟨by rfl, rfl⟩) (by assumption) ?_
      simp only [Act.put, List.setIfInBounds_toArray, List.set_cons_zero, List.set_cons_succ]
      refine' wpAnyH_take (i := 26) (oi := { dst := some 29, op := Op.fieldAddr 49 (Operand.tmp 28) 2, type := 0, pos := "note.go:22", after := #[{ on := 25, ground := Ground.data }, { on := 10, ground := Ground.guard }], guard := some (10, false) }) (v := undef) rfl (by kernel_rfl) (by kernel_rfl) (by kernel_rfl) (fun _ _ _ h => h) (Or.inr ⟨by rfl, rfl⟩) (by assumption) ?_
      simp only [Act.put, List.setIfInBounds_toArray, List.set_cons_zero, List.set_cons_succ]
      refine' wpAnyH_take (i := 27) (oi := { dst := some 30, op := Op.load 29 (Operand.tmp 29), type := 29, pos := "note.go:22", after := #[{ on := 26, ground := Ground.data }, { on := 10, ground := Ground.guard }], guard := some (10, false) }) (v := undef) rfl (by kernel_rfl) (by kernel_rfl) (by kernel_rfl) (fun _ _ _ h => h) (Or.inr ⟨by rfl, rfl⟩) (by assumption) ?_
      simp only [Act.put, List.setIfInBounds_toArray, List.set_cons_zero, List.set_cons_succ]
      refine' wpAnyH_take (i := 28) (oi := { dst := some 31, op := Op.buildSlice 117 7 #[(0, Operand.tmp 15), (1, Operand.tmp 17), (2, Operand.tmp 19), (3, Operand.tmp 21), (4, Operand.tmp 24), (5, Operand.tmp 27), (6, Operand.tmp 30)], type := 117, pos := "note.go:22", after := #[{ on := 12, ground := Ground.data }, { on := 14, ground := Ground.data }, { on := 16, ground := Ground.data }, { on := 18, ground := Ground.data }, { on := 21, ground := Ground.data }, { on := 24, ground := Ground.data }, { on := 27, ground := Ground.data }, { on := 10, ground := Ground.guard }], guard := some (10, false) }) (v := undef) rfl (by kernel_rfl) (by kernel_rfl) (by kernel_rfl) (fun _ _ _ h => h) (Or.inr ⟨by rfl, rfl⟩) (by assumption) ?_
      simp only [Act.put, List.setIfInBounds_toArray, List.set_cons_zero, List.set_cons_succ]
      refine' wpAnyH_take (i := 29) (oi := { dst := some 32, op := Op.call { callee := Callee.value (Operand.func 63), args := #[Operand.tmp 31], argTypes := #[117] }, type := 4, pos := "note.go:22", after := #[{ on := 28, ground := Ground.data }, { on := 10, ground := Ground.chain }, { on := 10, ground := Ground.guard }], guard := some (10, false) }) (v := undef) rfl (by kernel_rfl) (by kernel_rfl) (by kernel_rfl) (fun _ _ _ h => h) (Or.inr ⟨by rfl, rfl⟩) (by assumption) ?_
      simp only [Act.put, List.setIfInBounds_toArray, List.set_cons_zero, List.set_cons_succ]
      refine' wpAnyH_take (i := 30) (oi := { dst := some 33, op := Op.unOp UnOp.not 4 (Operand.tmp 32), type := 4, pos := "note.go:22", after := #[{ on := 29, ground := Ground.data }, { on := 10, ground := Ground.guard }], guard := some (10, false) }) (v := undef) rfl (by kernel_rfl) (by kernel_rfl) (by kernel_rfl) (fun _ _ _ h => h) (Or.inr ⟨by rfl, rfl⟩) (by assumption) ?_
      simp only [Act.put, List.setIfInBounds_toArray, List.set_cons_zero, List.set_cons_succ]
      refine' wpAnyH_take (i := 31) (oi := { dst := some 34, op := Op.pick (Operand.tmp 13) (Operand.const (Value.bool true)) (Operand.tmp 33), type := 4, pos := "note.go:22", after := #[{ on := 10, ground := Ground.data }, { on := 30, ground := Ground.data }], guard := none }) (v := ?v67) rfl (by kernel_rfl) (by kernel_rfl) (by kernel_rfl) (fun _ _ _ h => h) (Or.inl ⟨by rfl, ?hy67⟩) (by assumption) ?rest67
      case hy67 => (intro w hSw; obtain ⟨⟨k0, k1, k2, k3, k4, k12, k13, k14⟩, kr⟩ := hSw; go_simp; (try with_reducible rfl))
      simp only [Act.put, List.setIfInBounds_toArray, List.set_cons_zero, List.set_cons_succ]
      refine wpAnyH_done (by kernel_rfl) ?_ _
      go_wp2_with fail
      go_ret
      exact ⟨bb hok.out.symm, B2⟩

end Go.Proofs.Ytmhcjkiaogimgaa
