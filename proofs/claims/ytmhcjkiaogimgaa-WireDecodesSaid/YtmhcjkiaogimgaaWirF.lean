/- Which notes are plain: the document's check. -/
import Derived.Test.YtmhcjkiaogimgaaWirE
namespace Go.Proofs.Ytmhcjkiaogimgaa
open Go.RowKit

theorem wpList_load_op_g {ops : Array Oper} {rest : List Oper} {op : Oper} {a : Act} {w : World} {Q : Exit → Act → World → Prop} (hw : Region.wanted op (yielded ops a.tmps) = true) (x : Operand) (ho : op.op = .load 23 x) (g : Nat) (n : NoteD)
    (hx : a.eval x = .pointer (some ⟨g, 15, none⟩)) (hN : NoteAt w g n) (h : wpList Try.prog ops Q rest (a.put op.dst (.agg n.op.cells.toArray)) w) : wpList Try.prog ops Q (op :: rest) a w :=
  BigFrame.wpList_want hw fun _ hK => wp_load_mid _ x ho g 15 hx _ _ hN.op Try.underlying23 rfl size_op (hK _ _ h)

theorem only_named (n : NoteD) (h : okIn n.kind 1 5 = true) : n.only = n.named := by
  simp [okIn] at h
  unfold NoteD.only NoteD.named
  by_cases h1 : n.kind = 1
  · rw [if_pos h1, if_pos h1]; rfl
  rw [if_neg h1, if_neg h1]
  by_cases h2 : n.kind = 2
  · rw [if_pos h2, if_pos h2]; rfl
  rw [if_neg h2, if_neg h2]
  by_cases h3 : n.kind = 3
  · rw [if_pos h3, if_pos h3]; rfl
  rw [if_neg h3, if_neg h3]
  by_cases h4 : n.kind = 4
  · rw [if_pos h4, if_pos h4]; rfl
  rw [if_neg h4, if_neg h4, if_pos (by omega)]; rfl
theorem only_no (n : NoteD) (h : n ≠ n.only) : n.ok = false := by
  cases h1 : okIn n.kind 1 5 with
  | false => simp only [NoteD.ok, h1, Bool.false_and]
  | true =>
    rw [only_named n h1] at h
    simp only [NoteD.ok, decide_eq_false h, Bool.and_false, Bool.false_and]
theorem only_yes (n : NoteD) (h : n = n.only) (h0 : n.kind ≠ 0) : okIn n.kind 1 5 = true ∧ n = n.named := by
  cases h1 : okIn n.kind 1 5 with
  | true => exact ⟨rfl, by rw [← only_named n h1]; exact h⟩
  | false =>
    exfalso
    simp [okIn] at h1
    apply h0
    have : n.only = NoteD.zero := by
      unfold NoteD.only
      rw [if_neg (by omega), if_neg (by omega), if_neg (by omega), if_neg (by omega), if_neg (by omega)]
    rw [h, this]; rfl
theorem bad_no (n : NoteD) (x : Int) (hx : x ∈ n.nums) (h : okN x = false) : n.ok = false := by
  have : n.nums.all okN = false := by
    rw [List.all_eq_false]
    exact ⟨x, hx, by rw [h]; simp⟩
  simp only [NoteD.ok, this, Bool.and_false, Bool.false_and]

set_option maxRecDepth 100000 in
set_option maxHeartbeats 8000000 in
theorem rplainNote_0 (n : NoteD) (xs : Array Value) (hx : IsNote xs n) (w : World) (hok : Hid (n.ok = false)) (hq : ∀ W' : World, (binOp .neq 51 (.agg n.cells.toArray) (.agg n.only.cells.toArray)).run Try.prog W' = .ok (.bool true) W') : Calls Try.prog 48 #[.agg xs] w (Tells n.ok w) := by
  have hA : ∀ W, W = w.alloc (.cells xs 51) → NoteAt W w.heap.size n ∧ Below w.heap.size w W := by rw [hx.eq]; exact nat_add n w
  clear hx
  have hgt : ∀ W, W = w.alloc (.cells xs 51) → w.heap.size < W.heap.size := by rintro W rfl; simp
  obtain ⟨W, hW⟩ : ∃ W, W = w.alloc (.cells xs 51) := ⟨_, rfl⟩
  obtain ⟨hN, hB⟩ := hA W hW
  have hlt := hgt W hW
  have HW := Lib.hid hW
  have s0 : NS w.heap.size n W.drew := hN.ns
  clear hA hgt hW
  go_enter Try.func48, Try.ntmps48
  go_wp2_with fail
  rw [← HW.out]
  refine wp_region_held_drew (S := (fun w' => NS w.heap.size n w')) (by kernel_rfl) s0 (fun hHeld => ?_)
  refine' wpAnyH_take (i := 0) (oi := { dst := some 3, op := Op.load 51 (Operand.tmp 1), type := 51, pos := "ref.go:290", after := #[], guard := none }) (v := _) rfl (by kernel_rfl) (by kernel_rfl) (by kernel_rfl) (fun _ _ _ h => h) (yieldsIf_load_mid (by rfl) _ _ rfl _ _ rfl _ _ (fun w h => h.2) Try.underlying51 rfl size_note) (by assumption) ?_
  simp only [Act.put, List.setIfInBounds_toArray, List.set_cons_zero, List.set_cons_succ]
  refine' wpAnyH_take (i := 1) (oi := { dst := some 4, op := Op.load 51 (Operand.tmp 1), type := 51, pos := "ref.go:290", after := #[], guard := none }) (v := _) rfl (by kernel_rfl) (by kernel_rfl) (by kernel_rfl) (fun _ _ _ h => h) (yieldsIf_load_mid (by rfl) _ _ rfl _ _ rfl _ _ (fun w h => h.2) Try.underlying51 rfl size_note) (by assumption) ?_
  simp only [Act.put, List.setIfInBounds_toArray, List.set_cons_zero, List.set_cons_succ]
  refine wpAnyH_ready (rs := [2]) (by kernel_rfl) (by simp) ?_
  refine AllReadyH.cons (o := { dst := some 5, op := Op.call { callee := Callee.value (Operand.func 76), args := #[Operand.tmp 4], argTypes := #[51] }, type := 51, pos := "ref.go:290", after := #[{ on := 1, ground := Ground.data }], guard := none }) rfl (fun K hK => ?_) AllReadyH.nil
  go_simp
  refine (only_any n _ ⟨rfl⟩ _).mono ?_
  rintro e w2 ⟨ys, rfl, hys, b2'⟩
  obtain rfl := hys.eq
  have b2 := below_undrew b2'
  have hN2 := hN.below b2
  have B2 := bel_next hB b2
  go_wp2_with fail
  refine hK.out _ _ hN2.ns (fun hHeld => ?_)
  clear hK K
  try simp only [Act.put, List.setIfInBounds_toArray, List.set_cons_zero, List.set_cons_succ]
  refine' wpAnyH_take (i := 3) (oi := { dst := some 6, op := Op.binOp BinOp.neq 51 (Operand.tmp 3) (Operand.tmp 5) 51, type := 4, pos := "ref.go:290", after := #[{ on := 0, ground := Ground.data }, { on := 2, ground := Ground.data }], guard := none }) (v := ?v1) rfl (by kernel_rfl) (by kernel_rfl) (by kernel_rfl) (fun _ _ _ h => h) (Or.inl ⟨by rfl, ?hy1⟩) (by assumption) ?rest1
  case hy1 => (intro w hSw; obtain ⟨⟨k0, k1, k2, k3, k4, k12, k13, k14⟩, kr⟩ := hSw; go_simp; (try with_reducible rfl))
  simp only [Act.put, List.setIfInBounds_toArray, List.set_cons_zero, List.set_cons_succ]
  refine' wpAnyH_take (i := 4) (oi := { dst := some 7, op := Op.move (Operand.tmp 6), type := 4, pos := "ref.go:290", after := #[{ on := 3, ground := Ground.data }, { on := 2, ground := Ground.chain }], guard := none }) (v := ?v2) rfl (by kernel_rfl) (by kernel_rfl) (by kernel_rfl) (fun _ _ _ h => h) (Or.inl ⟨by rfl, ?hy2⟩) (by assumption) ?rest2
  case hy2 => (intro w hSw; obtain ⟨⟨k0, k1, k2, k3, k4, k12, k13, k14⟩, kr⟩ := hSw; go_simp; (try with_reducible rfl))
  simp only [Act.put, List.setIfInBounds_toArray, List.set_cons_zero, List.set_cons_succ]
  refine' wpAnyH_take (i := 5) (oi := { dst := some 8, op := Op.fieldAddr 51 (Operand.tmp 1) 0, type := 0, pos := "ref.go:290", after := #[{ on := 4, ground := Ground.guard }], guard := some (4, false) }) (v := undef) rfl (by kernel_rfl) (by kernel_rfl) (by kernel_rfl) (fun _ _ _ h => h) (Or.inr ⟨by rfl, rfl⟩) (by assumption) ?_
  simp only [Act.put, List.setIfInBounds_toArray, List.set_cons_zero, List.set_cons_succ]
  refine' wpAnyH_take (i := 6) (oi := { dst := some 9, op := Op.load 3 (Operand.tmp 8), type := 3, pos := "ref.go:290", after := #[{ on := 5, ground := Ground.data }, { on := 4, ground := Ground.guard }], guard := some (4, false) }) (v := undef) rfl (by kernel_rfl) (by kernel_rfl) (by kernel_rfl) (fun _ _ _ h => h) (Or.inr ⟨by rfl, rfl⟩) (by assumption) ?_
  simp only [Act.put, List.setIfInBounds_toArray, List.set_cons_zero, List.set_cons_succ]
  refine' wpAnyH_take (i := 7) (oi := { dst := some 10, op := Op.binOp BinOp.eql 3 (Operand.tmp 9) (Operand.const (Value.int IntKind.i64 0)) 3, type := 4, pos := "ref.go:290", after := #[{ on := 6, ground := Ground.data }, { on := 4, ground := Ground.guard }], guard := some (4, false) }) (v := undef) rfl (by kernel_rfl) (by kernel_rfl) (by kernel_rfl) (fun _ _ _ h => h) (Or.inr ⟨by rfl, rfl⟩) (by assumption) ?_
  simp only [Act.put, List.setIfInBounds_toArray, List.set_cons_zero, List.set_cons_succ]
  refine' wpAnyH_take (i := 8) (oi := { dst := some 11, op := Op.pick (Operand.tmp 7) (Operand.const (Value.bool true)) (Operand.tmp 10), type := 4, pos := "ref.go:290", after := #[{ on := 4, ground := Ground.data }, { on := 7, ground := Ground.data }], guard := none }) (v := ?v3) rfl (by kernel_rfl) (by kernel_rfl) (by kernel_rfl) (fun _ _ _ h => h) (Or.inl ⟨by rfl, ?hy3⟩) (by assumption) ?rest3
  case hy3 => (intro w hSw; obtain ⟨⟨k0, k1, k2, k3, k4, k12, k13, k14⟩, kr⟩ := hSw; go_simp; (try with_reducible rfl))
  simp only [Act.put, List.setIfInBounds_toArray, List.set_cons_zero, List.set_cons_succ]
  refine' wpAnyH_take (i := 9) (oi := { dst := some 12, op := Op.move (Operand.tmp 11), type := 4, pos := "ref.go:290", after := #[{ on := 8, ground := Ground.data }, { on := 4, ground := Ground.chain }], guard := none }) (v := ?v4) rfl (by kernel_rfl) (by kernel_rfl) (by kernel_rfl) (fun _ _ _ h => h) (Or.inl ⟨by rfl, ?hy4⟩) (by assumption) ?rest4
  case hy4 => (intro w hSw; obtain ⟨⟨k0, k1, k2, k3, k4, k12, k13, k14⟩, kr⟩ := hSw; go_simp; (try with_reducible rfl))
  simp only [Act.put, List.setIfInBounds_toArray, List.set_cons_zero, List.set_cons_succ]
  refine' wpAnyH_take (i := 10) (oi := { dst := some 13, op := Op.fieldAddr 51 (Operand.tmp 1) 1, type := 0, pos := "ref.go:290", after := #[{ on := 9, ground := Ground.guard }], guard := some (9, false) }) (v := undef) rfl (by kernel_rfl) (by kernel_rfl) (by kernel_rfl) (fun _ _ _ h => h) (Or.inr ⟨by rfl, rfl⟩) (by assumption) ?_
  simp only [Act.put, List.setIfInBounds_toArray, List.set_cons_zero, List.set_cons_succ]
  refine' wpAnyH_take (i := 11) (oi := { dst := some 14, op := Op.load 3 (Operand.tmp 13), type := 3, pos := "ref.go:290", after := #[{ on := 10, ground := Ground.data }, { on := 9, ground := Ground.guard }], guard := some (9, false) }) (v := undef) rfl (by kernel_rfl) (by kernel_rfl) (by kernel_rfl) (fun _ _ _ h => h) (Or.inr ⟨by rfl, rfl⟩) (by assumption) ?_
  simp only [Act.put, List.setIfInBounds_toArray, List.set_cons_zero, List.set_cons_succ]
  refine' wpAnyH_take (i := 12) (oi := { dst := some 15, op := Op.call { callee := Callee.value (Operand.func 69), args := #[Operand.tmp 14], argTypes := #[3] }, type := 4, pos := "ref.go:290", after := #[{ on := 11, ground := Ground.data }, { on := 9, ground := Ground.chain }, { on := 9, ground := Ground.guard }], guard := some (9, false) }) (v := undef) rfl (by kernel_rfl) (by kernel_rfl) (by kernel_rfl) (fun _ _ _ h => h) (Or.inr ⟨by rfl, rfl⟩) (by assumption) ?_
  simp only [Act.put, List.setIfInBounds_toArray, List.set_cons_zero, List.set_cons_succ]
  refine' wpAnyH_take (i := 13) (oi := { dst := some 16, op := Op.pick (Operand.tmp 12) (Operand.const (Value.bool true)) (Operand.tmp 15), type := 4, pos := "ref.go:290", after := #[{ on := 9, ground := Ground.data }, { on := 12, ground := Ground.data }], guard := none }) (v := ?v5) rfl (by kernel_rfl) (by kernel_rfl) (by kernel_rfl) (fun _ _ _ h => h) (Or.inl ⟨by rfl, ?hy5⟩) (by assumption) ?rest5
  case hy5 => (intro w hSw; obtain ⟨⟨k0, k1, k2, k3, k4, k12, k13, k14⟩, kr⟩ := hSw; go_simp; (try with_reducible rfl))
  simp only [Act.put, List.setIfInBounds_toArray, List.set_cons_zero, List.set_cons_succ]
  refine' wpAnyH_take (i := 14) (oi := { dst := some 17, op := Op.move (Operand.tmp 16), type := 4, pos := "ref.go:290", after := #[{ on := 13, ground := Ground.data }, { on := 12, ground := Ground.chain }], guard := none }) (v := ?v6) rfl (by kernel_rfl) (by kernel_rfl) (by kernel_rfl) (fun _ _ _ h => h) (Or.inl ⟨by rfl, ?hy6⟩) (by assumption) ?rest6
  case hy6 => (intro w hSw; obtain ⟨⟨k0, k1, k2, k3, k4, k12, k13, k14⟩, kr⟩ := hSw; go_simp; (try with_reducible rfl))
  simp only [Act.put, List.setIfInBounds_toArray, List.set_cons_zero, List.set_cons_succ]
  refine' wpAnyH_take (i := 15) (oi := { dst := some 18, op := Op.fieldAddr 51 (Operand.tmp 1) 2, type := 0, pos := "ref.go:290", after := #[{ on := 14, ground := Ground.guard }], guard := some (14, false) }) (v := undef) rfl (by kernel_rfl) (by kernel_rfl) (by kernel_rfl) (fun _ _ _ h => h) (Or.inr ⟨by rfl, rfl⟩) (by assumption) ?_
  simp only [Act.put, List.setIfInBounds_toArray, List.set_cons_zero, List.set_cons_succ]
  refine' wpAnyH_take (i := 16) (oi := { dst := some 19, op := Op.load 3 (Operand.tmp 18), type := 3, pos := "ref.go:290", after := #[{ on := 15, ground := Ground.data }, { on := 14, ground := Ground.guard }], guard := some (14, false) }) (v := undef) rfl (by kernel_rfl) (by kernel_rfl) (by kernel_rfl) (fun _ _ _ h => h) (Or.inr ⟨by rfl, rfl⟩) (by assumption) ?_
  simp only [Act.put, List.setIfInBounds_toArray, List.set_cons_zero, List.set_cons_succ]
  refine' wpAnyH_take (i := 17) (oi := { dst := some 20, op := Op.call { callee := Callee.value (Operand.func 69), args := #[Operand.tmp 19], argTypes := #[3] }, type := 4, pos := "ref.go:290", after := #[{ on := 16, ground := Ground.data }, { on := 14, ground := Ground.chain }, { on := 14, ground := Ground.guard }], guard := some (14, false) }) (v := undef) rfl (by kernel_rfl) (by kernel_rfl) (by kernel_rfl) (fun _ _ _ h => h) (Or.inr ⟨by rfl, rfl⟩) (by assumption) ?_
  simp only [Act.put, List.setIfInBounds_toArray, List.set_cons_zero, List.set_cons_succ]
  refine' wpAnyH_take (i := 18) (oi := { dst := some 21, op := Op.pick (Operand.tmp 17) (Operand.const (Value.bool true)) (Operand.tmp 20), type := 4, pos := "ref.go:290", after := #[{ on := 14, ground := Ground.data }, { on := 17, ground := Ground.data }], guard := none }) (v := ?v7) rfl (by kernel_rfl) (by kernel_rfl) (by kernel_rfl) (fun _ _ _ h => h) (Or.inl ⟨by rfl, ?hy7⟩) (by assumption) ?rest7
  case hy7 => (intro w hSw; obtain ⟨⟨k0, k1, k2, k3, k4, k12, k13, k14⟩, kr⟩ := hSw; go_simp; (try with_reducible rfl))
  simp only [Act.put, List.setIfInBounds_toArray, List.set_cons_zero, List.set_cons_succ]
  refine' wpAnyH_take (i := 19) (oi := { dst := some 22, op := Op.move (Operand.tmp 21), type := 4, pos := "ref.go:290", after := #[{ on := 18, ground := Ground.data }, { on := 17, ground := Ground.chain }], guard := none }) (v := ?v8) rfl (by kernel_rfl) (by kernel_rfl) (by kernel_rfl) (fun _ _ _ h => h) (Or.inl ⟨by rfl, ?hy8⟩) (by assumption) ?rest8
  case hy8 => (intro w hSw; obtain ⟨⟨k0, k1, k2, k3, k4, k12, k13, k14⟩, kr⟩ := hSw; go_simp; (try with_reducible rfl))
  simp only [Act.put, List.setIfInBounds_toArray, List.set_cons_zero, List.set_cons_succ]
  refine' wpAnyH_take (i := 20) (oi := { dst := some 23, op := Op.fieldAddr 51 (Operand.tmp 1) 3, type := 0, pos := "ref.go:290", after := #[{ on := 19, ground := Ground.guard }], guard := some (19, false) }) (v := undef) rfl (by kernel_rfl) (by kernel_rfl) (by kernel_rfl) (fun _ _ _ h => h) (Or.inr ⟨by rfl, rfl⟩) (by assumption) ?_
  simp only [Act.put, List.setIfInBounds_toArray, List.set_cons_zero, List.set_cons_succ]
  refine' wpAnyH_take (i := 21) (oi := { dst := some 24, op := Op.load 3 (Operand.tmp 23), type := 3, pos := "ref.go:290", after := #[{ on := 20, ground := Ground.data }, { on := 19, ground := Ground.guard }], guard := some (19, false) }) (v := undef) rfl (by kernel_rfl) (by kernel_rfl) (by kernel_rfl) (fun _ _ _ h => h) (Or.inr ⟨by rfl, rfl⟩) (by assumption) ?_
  simp only [Act.put, List.setIfInBounds_toArray, List.set_cons_zero, List.set_cons_succ]
  refine' wpAnyH_take (i := 22) (oi := { dst := some 25, op := Op.call { callee := Callee.value (Operand.func 69), args := #[Operand.tmp 24], argTypes := #[3] }, type := 4, pos := "ref.go:290", after := #[{ on := 21, ground := Ground.data }, { on := 19, ground := Ground.chain }, { on := 19, ground := Ground.guard }], guard := some (19, false) }) (v := undef) rfl (by kernel_rfl) (by kernel_rfl) (by kernel_rfl) (fun _ _ _ h => h) (Or.inr ⟨by rfl, rfl⟩) (by assumption) ?_
  simp only [Act.put, List.setIfInBounds_toArray, List.set_cons_zero, List.set_cons_succ]
  refine' wpAnyH_take (i := 23) (oi := { dst := some 26, op := Op.pick (Operand.tmp 22) (Operand.const (Value.bool true)) (Operand.tmp 25), type := 4, pos := "ref.go:290", after := #[{ on := 19, ground := Ground.data }, { on := 22, ground := Ground.data }], guard := none }) (v := ?v9) rfl (by kernel_rfl) (by kernel_rfl) (by kernel_rfl) (fun _ _ _ h => h) (Or.inl ⟨by rfl, ?hy9⟩) (by assumption) ?rest9
  case hy9 => (intro w hSw; obtain ⟨⟨k0, k1, k2, k3, k4, k12, k13, k14⟩, kr⟩ := hSw; go_simp; (try with_reducible rfl))
  simp only [Act.put, List.setIfInBounds_toArray, List.set_cons_zero, List.set_cons_succ]
  refine' wpAnyH_take (i := 24) (oi := { dst := some 27, op := Op.move (Operand.tmp 26), type := 4, pos := "ref.go:290", after := #[{ on := 23, ground := Ground.data }, { on := 22, ground := Ground.chain }], guard := none }) (v := ?v10) rfl (by kernel_rfl) (by kernel_rfl) (by kernel_rfl) (fun _ _ _ h => h) (Or.inl ⟨by rfl, ?hy10⟩) (by assumption) ?rest10
  case hy10 => (intro w hSw; obtain ⟨⟨k0, k1, k2, k3, k4, k12, k13, k14⟩, kr⟩ := hSw; go_simp; (try with_reducible rfl))
  simp only [Act.put, List.setIfInBounds_toArray, List.set_cons_zero, List.set_cons_succ]
  refine' wpAnyH_take (i := 25) (oi := { dst := some 28, op := Op.fieldAddr 51 (Operand.tmp 1) 4, type := 0, pos := "ref.go:290", after := #[{ on := 24, ground := Ground.guard }], guard := some (24, false) }) (v := undef) rfl (by kernel_rfl) (by kernel_rfl) (by kernel_rfl) (fun _ _ _ h => h) (Or.inr ⟨by rfl, rfl⟩) (by assumption) ?_
  simp only [Act.put, List.setIfInBounds_toArray, List.set_cons_zero, List.set_cons_succ]
  refine' wpAnyH_take (i := 26) (oi := { dst := some 29, op := Op.load 3 (Operand.tmp 28), type := 3, pos := "ref.go:290", after := #[{ on := 25, ground := Ground.data }, { on := 24, ground := Ground.guard }], guard := some (24, false) }) (v := undef) rfl (by kernel_rfl) (by kernel_rfl) (by kernel_rfl) (fun _ _ _ h => h) (Or.inr ⟨by rfl, rfl⟩) (by assumption) ?_
  simp only [Act.put, List.setIfInBounds_toArray, List.set_cons_zero, List.set_cons_succ]
  refine' wpAnyH_take (i := 27) (oi := { dst := some 30, op := Op.call { callee := Callee.value (Operand.func 69), args := #[Operand.tmp 29], argTypes := #[3] }, type := 4, pos := "ref.go:290", after := #[{ on := 26, ground := Ground.data }, { on := 24, ground := Ground.chain }, { on := 24, ground := Ground.guard }], guard := some (24, false) }) (v := undef) rfl (by kernel_rfl) (by kernel_rfl) (by kernel_rfl) (fun _ _ _ h => h) (Or.inr ⟨by rfl, rfl⟩) (by assumption) ?_
  simp only [Act.put, List.setIfInBounds_toArray, List.set_cons_zero, List.set_cons_succ]
  refine' wpAnyH_take (i := 28) (oi := { dst := some 31, op := Op.pick (Operand.tmp 27) (Operand.const (Value.bool true)) (Operand.tmp 30), type := 4, pos := "ref.go:290", after := #[{ on := 24, ground := Ground.data }, { on := 27, ground := Ground.data }], guard := none }) (v := ?v11) rfl (by kernel_rfl) (by kernel_rfl) (by kernel_rfl) (fun _ _ _ h => h) (Or.inl ⟨by rfl, ?hy11⟩) (by assumption) ?rest11
  case hy11 => (intro w hSw; obtain ⟨⟨k0, k1, k2, k3, k4, k12, k13, k14⟩, kr⟩ := hSw; go_simp; (try with_reducible rfl))
  simp only [Act.put, List.setIfInBounds_toArray, List.set_cons_zero, List.set_cons_succ]
  refine' wpAnyH_take (i := 29) (oi := { dst := some 32, op := Op.move (Operand.tmp 31), type := 4, pos := "ref.go:290", after := #[{ on := 28, ground := Ground.data }, { on := 27, ground := Ground.chain }], guard := none }) (v := ?v12) rfl (by kernel_rfl) (by kernel_rfl) (by kernel_rfl) (fun _ _ _ h => h) (Or.inl ⟨by rfl, ?hy12⟩) (by assumption) ?rest12
  case hy12 => (intro w hSw; obtain ⟨⟨k0, k1, k2, k3, k4, k12, k13, k14⟩, kr⟩ := hSw; go_simp; (try with_reducible rfl))
  simp only [Act.put, List.setIfInBounds_toArray, List.set_cons_zero, List.set_cons_succ]
  refine' wpAnyH_take (i := 30) (oi := { dst := some 33, op := Op.fieldAddr 51 (Operand.tmp 1) 6, type := 0, pos := "ref.go:290", after := #[{ on := 29, ground := Ground.guard }], guard := some (29, false) }) (v := undef) rfl (by kernel_rfl) (by kernel_rfl) (by kernel_rfl) (fun _ _ _ h => h) (Or.inr ⟨by rfl, rfl⟩) (by assumption) ?_
  simp only [Act.put, List.setIfInBounds_toArray, List.set_cons_zero, List.set_cons_succ]
  refine' wpAnyH_take (i := 31) (oi := { dst := some 34, op := Op.fieldAddr 49 (Operand.tmp 33) 0, type := 0, pos := "ref.go:290", after := #[{ on := 30, ground := Ground.data }, { on := 29, ground := Ground.guard }], guard := some (29, false) }) (v := undef) rfl (by kernel_rfl) (by kernel_rfl) (by kernel_rfl) (fun _ _ _ h => h) (Or.inr ⟨by rfl, rfl⟩) (by assumption) ?_
  simp only [Act.put, List.setIfInBounds_toArray, List.set_cons_zero, List.set_cons_succ]
  refine' wpAnyH_take (i := 32) (oi := { dst := some 35, op := Op.load 3 (Operand.tmp 34), type := 3, pos := "ref.go:290", after := #[{ on := 31, ground := Ground.data }, { on := 29, ground := Ground.guard }], guard := some (29, false) }) (v := undef) rfl (by kernel_rfl) (by kernel_rfl) (by kernel_rfl) (fun _ _ _ h => h) (Or.inr ⟨by rfl, rfl⟩) (by assumption) ?_
  simp only [Act.put, List.setIfInBounds_toArray, List.set_cons_zero, List.set_cons_succ]
  refine' wpAnyH_take (i := 33) (oi := { dst := some 36, op := Op.call { callee := Callee.value (Operand.func 69), args := #[Operand.tmp 35], argTypes := #[3] }, type := 4, pos := "ref.go:290", after := #[{ on := 32, ground := Ground.data }, { on := 29, ground := Ground.chain }, { on := 29, ground := Ground.guard }], guard := some (29, false) }) (v := undef) rfl (by kernel_rfl) (by kernel_rfl) (by kernel_rfl) (fun _ _ _ h => h) (Or.inr ⟨by rfl, rfl⟩) (by assumption) ?_
  simp only [Act.put, List.setIfInBounds_toArray, List.set_cons_zero, List.set_cons_succ]
  refine' wpAnyH_take (i := 34) (oi := { dst := some 37, op := Op.pick (Operand.tmp 32) (Operand.const (Value.bool true)) (Operand.tmp 36), type := 4, pos := "ref.go:290", after := #[{ on := 29, ground := Ground.data }, { on := 33, ground := Ground.data }], guard := none }) (v := ?v13) rfl (by kernel_rfl) (by kernel_rfl) (by kernel_rfl) (fun _ _ _ h => h) (Or.inl ⟨by rfl, ?hy13⟩) (by assumption) ?rest13
  case hy13 => (intro w hSw; obtain ⟨⟨k0, k1, k2, k3, k4, k12, k13, k14⟩, kr⟩ := hSw; go_simp; (try with_reducible rfl))
  simp only [Act.put, List.setIfInBounds_toArray, List.set_cons_zero, List.set_cons_succ]
  refine' wpAnyH_take (i := 35) (oi := { dst := some 38, op := Op.move (Operand.tmp 37), type := 4, pos := "ref.go:290", after := #[{ on := 34, ground := Ground.data }, { on := 33, ground := Ground.chain }], guard := none }) (v := ?v14) rfl (by kernel_rfl) (by kernel_rfl) (by kernel_rfl) (fun _ _ _ h => h) (Or.inl ⟨by rfl, ?hy14⟩) (by assumption) ?rest14
  case hy14 => (intro w hSw; obtain ⟨⟨k0, k1, k2, k3, k4, k12, k13, k14⟩, kr⟩ := hSw; go_simp; (try with_reducible rfl))
  simp only [Act.put, List.setIfInBounds_toArray, List.set_cons_zero, List.set_cons_succ]
  refine' wpAnyH_take (i := 36) (oi := { dst := some 39, op := Op.fieldAddr 51 (Operand.tmp 1) 6, type := 0, pos := "ref.go:290", after := #[{ on := 35, ground := Ground.guard }], guard := some (35, false) }) (v := undef) rfl (by kernel_rfl) (by kernel_rfl) (by kernel_rfl) (fun _ _ _ h => h) (Or.inr ⟨by rfl, rfl⟩) (by assumption) ?_
  simp only [Act.put, List.setIfInBounds_toArray, List.set_cons_zero, List.set_cons_succ]
  refine' wpAnyH_take (i := 37) (oi := { dst := some 40, op := Op.fieldAddr 49 (Operand.tmp 39) 1, type := 0, pos := "ref.go:290", after := #[{ on := 36, ground := Ground.data }, { on := 35, ground := Ground.guard }], guard := some (35, false) }) (v := undef) rfl (by kernel_rfl) (by kernel_rfl) (by kernel_rfl) (fun _ _ _ h => h) (Or.inr ⟨by rfl, rfl⟩) (by assumption) ?_
  simp only [Act.put, List.setIfInBounds_toArray, List.set_cons_zero, List.set_cons_succ]
  refine' wpAnyH_take (i := 38) (oi := { dst := some 41, op := Op.load 3 (Operand.tmp 40), type := 3, pos := "ref.go:290", after := #[{ on := 37, ground := Ground.data }, { on := 35, ground := Ground.guard }], guard := some (35, false) }) (v := undef) rfl (by kernel_rfl) (by kernel_rfl) (by kernel_rfl) (fun _ _ _ h => h) (Or.inr ⟨by rfl, rfl⟩) (by assumption) ?_
  simp only [Act.put, List.setIfInBounds_toArray, List.set_cons_zero, List.set_cons_succ]
  refine' wpAnyH_take (i := 39) (oi := { dst := some 42, op := Op.call { callee := Callee.value (Operand.func 69), args := #[Operand.tmp 41], argTypes := #[3] }, type := 4, pos := "ref.go:290", after := #[{ on := 38, ground := Ground.data }, { on := 35, ground := Ground.chain }, { on := 35, ground := Ground.guard }], guard := some (35, false) }) (v := undef) rfl (by kernel_rfl) (by kernel_rfl) (by kernel_rfl) (fun _ _ _ h => h) (Or.inr ⟨by rfl, rfl⟩) (by assumption) ?_
  simp only [Act.put, List.setIfInBounds_toArray, List.set_cons_zero, List.set_cons_succ]
  refine' wpAnyH_take (i := 40) (oi := { dst := some 43, op := Op.pick (Operand.tmp 38) (Operand.const (Value.bool true)) (Operand.tmp 42), type := 4, pos := "ref.go:290", after := #[{ on := 35, ground := Ground.data }, { on := 39, ground := Ground.data }], guard := none }) (v := ?v15) rfl (by kernel_rfl) (by kernel_rfl) (by kernel_rfl) (fun _ _ _ h => h) (Or.inl ⟨by rfl, ?hy15⟩) (by assumption) ?rest15
  case hy15 => (intro w hSw; obtain ⟨⟨k0, k1, k2, k3, k4, k12, k13, k14⟩, kr⟩ := hSw; go_simp; (try with_reducible rfl))
  simp only [Act.put, List.setIfInBounds_toArray, List.set_cons_zero, List.set_cons_succ]
  refine' wpAnyH_take (i := 41) (oi := { dst := some 44, op := Op.move (Operand.tmp 43), type := 4, pos := "ref.go:290", after := #[{ on := 40, ground := Ground.data }, { on := 39, ground := Ground.chain }], guard := none }) (v := ?v16) rfl (by kernel_rfl) (by kernel_rfl) (by kernel_rfl) (fun _ _ _ h => h) (Or.inl ⟨by rfl, ?hy16⟩) (by assumption) ?rest16
  case hy16 => (intro w hSw; obtain ⟨⟨k0, k1, k2, k3, k4, k12, k13, k14⟩, kr⟩ := hSw; go_simp; (try with_reducible rfl))
  simp only [Act.put, List.setIfInBounds_toArray, List.set_cons_zero, List.set_cons_succ]
  refine' wpAnyH_take (i := 42) (oi := { dst := some 45, op := Op.fieldAddr 51 (Operand.tmp 1) 6, type := 0, pos := "ref.go:290", after := #[{ on := 41, ground := Ground.guard }], guard := some (41, false) }) (v := undef) rfl (by kernel_rfl) (by kernel_rfl) (by kernel_rfl) (fun _ _ _ h => h) (Or.inr ⟨by rfl, rfl⟩) (by assumption) ?_
  simp only [Act.put, List.setIfInBounds_toArray, List.set_cons_zero, List.set_cons_succ]
  refine' wpAnyH_take (i := 43) (oi := { dst := some 46, op := Op.fieldAddr 49 (Operand.tmp 45) 2, type := 0, pos := "ref.go:290", after := #[{ on := 42, ground := Ground.data }, { on := 41, ground := Ground.guard }], guard := some (41, false) }) (v := undef) rfl (by kernel_rfl) (by kernel_rfl) (by kernel_rfl) (fun _ _ _ h => h) (Or.inr ⟨by rfl, rfl⟩) (by assumption) ?_
  simp only [Act.put, List.setIfInBounds_toArray, List.set_cons_zero, List.set_cons_succ]
  refine' wpAnyH_take (i := 44) (oi := { dst := some 47, op := Op.load 29 (Operand.tmp 46), type := 29, pos := "ref.go:290", after := #[{ on := 43, ground := Ground.data }, { on := 41, ground := Ground.guard }], guard := some (41, false) }) (v := undef) rfl (by kernel_rfl) (by kernel_rfl) (by kernel_rfl) (fun _ _ _ h => h) (Or.inr ⟨by rfl, rfl⟩) (by assumption) ?_
  simp only [Act.put, List.setIfInBounds_toArray, List.set_cons_zero, List.set_cons_succ]
  refine' wpAnyH_take (i := 45) (oi := { dst := some 48, op := Op.call { callee := Callee.value (Operand.func 69), args := #[Operand.tmp 47], argTypes := #[3] }, type := 4, pos := "ref.go:290", after := #[{ on := 44, ground := Ground.data }, { on := 41, ground := Ground.chain }, { on := 41, ground := Ground.guard }], guard := some (41, false) }) (v := undef) rfl (by kernel_rfl) (by kernel_rfl) (by kernel_rfl) (fun _ _ _ h => h) (Or.inr ⟨by rfl, rfl⟩) (by assumption) ?_
  simp only [Act.put, List.setIfInBounds_toArray, List.set_cons_zero, List.set_cons_succ]
  refine' wpAnyH_take (i := 46) (oi := { dst := some 49, op := Op.pick (Operand.tmp 44) (Operand.const (Value.bool true)) (Operand.tmp 48), type := 4, pos := "ref.go:290", after := #[{ on := 41, ground := Ground.data }, { on := 45, ground := Ground.data }], guard := none }) (v := ?v17) rfl (by kernel_rfl) (by kernel_rfl) (by kernel_rfl) (fun _ _ _ h => h) (Or.inl ⟨by rfl, ?hy17⟩) (by assumption) ?rest17
  case hy17 => (intro w hSw; obtain ⟨⟨k0, k1, k2, k3, k4, k12, k13, k14⟩, kr⟩ := hSw; go_simp; (try with_reducible rfl))
  simp only [Act.put, List.setIfInBounds_toArray, List.set_cons_zero, List.set_cons_succ]
  refine wpAnyH_done (by kernel_rfl) ?_ _
  go_wp2_with fail
  go_ret
  exact ⟨bb hok.out.symm, B2⟩
set_option maxRecDepth 100000 in
set_option maxHeartbeats 8000000 in
theorem rplainNote_1 (n : NoteD) (xs : Array Value) (hx : IsNote xs n) (w : World) (hok : Hid (n.ok = false)) (hq : ∀ W' : World, (binOp .neq 51 (.agg n.cells.toArray) (.agg n.only.cells.toArray)).run Try.prog W' = .ok (.bool false) W') (h1 : (n.kind == 0) = true) : Calls Try.prog 48 #[.agg xs] w (Tells n.ok w) := by
  have hA : ∀ W, W = w.alloc (.cells xs 51) → NoteAt W w.heap.size n ∧ Below w.heap.size w W := by rw [hx.eq]; exact nat_add n w
  clear hx
  have hgt : ∀ W, W = w.alloc (.cells xs 51) → w.heap.size < W.heap.size := by rintro W rfl; simp
  obtain ⟨W, hW⟩ : ∃ W, W = w.alloc (.cells xs 51) := ⟨_, rfl⟩
  obtain ⟨hN, hB⟩ := hA W hW
  have hlt := hgt W hW
  have HW := Lib.hid hW
  have s0 : NS w.heap.size n W.drew := hN.ns
  clear hA hgt hW
  go_enter Try.func48, Try.ntmps48
  go_wp2_with fail
  rw [← HW.out]
  refine wp_region_held_drew (S := (fun w' => NS w.heap.size n w')) (by kernel_rfl) s0 (fun hHeld => ?_)
  refine' wpAnyH_take (i := 0) (oi := { dst := some 3, op := Op.load 51 (Operand.tmp 1), type := 51, pos := "ref.go:290", after := #[], guard := none }) (v := _) rfl (by kernel_rfl) (by kernel_rfl) (by kernel_rfl) (fun _ _ _ h => h) (yieldsIf_load_mid (by rfl) _ _ rfl _ _ rfl _ _ (fun w h => h.2) Try.underlying51 rfl size_note) (by assumption) ?_
  simp only [Act.put, List.setIfInBounds_toArray, List.set_cons_zero, List.set_cons_succ]
  refine' wpAnyH_take (i := 1) (oi := { dst := some 4, op := Op.load 51 (Operand.tmp 1), type := 51, pos := "ref.go:290", after := #[], guard := none }) (v := _) rfl (by kernel_rfl) (by kernel_rfl) (by kernel_rfl) (fun _ _ _ h => h) (yieldsIf_load_mid (by rfl) _ _ rfl _ _ rfl _ _ (fun w h => h.2) Try.underlying51 rfl size_note) (by assumption) ?_
  simp only [Act.put, List.setIfInBounds_toArray, List.set_cons_zero, List.set_cons_succ]
  refine wpAnyH_ready (rs := [2]) (by kernel_rfl) (by simp) ?_
  refine AllReadyH.cons (o := { dst := some 5, op := Op.call { callee := Callee.value (Operand.func 76), args := #[Operand.tmp 4], argTypes := #[51] }, type := 51, pos := "ref.go:290", after := #[{ on := 1, ground := Ground.data }], guard := none }) rfl (fun K hK => ?_) AllReadyH.nil
  go_simp
  refine (only_any n _ ⟨rfl⟩ _).mono ?_
  rintro e w2 ⟨ys, rfl, hys, b2'⟩
  obtain rfl := hys.eq
  have b2 := below_undrew b2'
  have hN2 := hN.below b2
  have B2 := bel_next hB b2
  go_wp2_with fail
  refine hK.out _ _ hN2.ns (fun hHeld => ?_)
  clear hK K
  try simp only [Act.put, List.setIfInBounds_toArray, List.set_cons_zero, List.set_cons_succ]
  refine' wpAnyH_take (i := 3) (oi := { dst := some 6, op := Op.binOp BinOp.neq 51 (Operand.tmp 3) (Operand.tmp 5) 51, type := 4, pos := "ref.go:290", after := #[{ on := 0, ground := Ground.data }, { on := 2, ground := Ground.data }], guard := none }) (v := ?v18) rfl (by kernel_rfl) (by kernel_rfl) (by kernel_rfl) (fun _ _ _ h => h) (Or.inl ⟨by rfl, ?hy18⟩) (by assumption) ?rest18
  case hy18 => (intro w hSw; obtain ⟨⟨k0, k1, k2, k3, k4, k12, k13, k14⟩, kr⟩ := hSw; go_simp; (try with_reducible rfl))
  simp only [Act.put, List.setIfInBounds_toArray, List.set_cons_zero, List.set_cons_succ]
  refine' wpAnyH_take (i := 4) (oi := { dst := some 7, op := Op.move (Operand.tmp 6), type := 4, pos := "ref.go:290", after := #[{ on := 3, ground := Ground.data }, { on := 2, ground := Ground.chain }], guard := none }) (v := ?v19) rfl (by kernel_rfl) (by kernel_rfl) (by kernel_rfl) (fun _ _ _ h => h) (Or.inl ⟨by rfl, ?hy19⟩) (by assumption) ?rest19
  case hy19 => (intro w hSw; obtain ⟨⟨k0, k1, k2, k3, k4, k12, k13, k14⟩, kr⟩ := hSw; go_simp; (try with_reducible rfl))
  simp only [Act.put, List.setIfInBounds_toArray, List.set_cons_zero, List.set_cons_succ]
  refine' wpAnyH_take (i := 5) (oi := { dst := some 8, op := Op.fieldAddr 51 (Operand.tmp 1) 0, type := 0, pos := "ref.go:290", after := #[{ on := 4, ground := Ground.guard }], guard := some (4, false) }) (v := ?v20) rfl (by kernel_rfl) (by kernel_rfl) (by kernel_rfl) (fun _ _ _ h => h) (Or.inl ⟨by rfl, ?hy20⟩) (by assumption) ?rest20
  case hy20 => (intro w hSw; obtain ⟨⟨k0, k1, k2, k3, k4, k12, k13, k14⟩, kr⟩ := hSw; go_simp; (try with_reducible rfl))
  simp only [Act.put, List.setIfInBounds_toArray, List.set_cons_zero, List.set_cons_succ]
  refine' wpAnyH_take (i := 6) (oi := { dst := some 9, op := Op.load 3 (Operand.tmp 8), type := 3, pos := "ref.go:290", after := #[{ on := 5, ground := Ground.data }, { on := 4, ground := Ground.guard }], guard := some (4, false) }) (v := ?v21) rfl (by kernel_rfl) (by kernel_rfl) (by kernel_rfl) (fun _ _ _ h => h) (Or.inl ⟨by rfl, ?hy21⟩) (by assumption) ?rest21
  case hy21 => (intro w hSw; obtain ⟨⟨k0, k1, k2, k3, k4, k12, k13, k14⟩, kr⟩ := hSw; go_simp; (try with_reducible rfl))
  simp only [Act.put, List.setIfInBounds_toArray, List.set_cons_zero, List.set_cons_succ]
  refine' wpAnyH_take (i := 7) (oi := { dst := some 10, op := Op.binOp BinOp.eql 3 (Operand.tmp 9) (Operand.const (Value.int IntKind.i64 0)) 3, type := 4, pos := "ref.go:290", after := #[{ on := 6, ground := Ground.data }, { on := 4, ground := Ground.guard }], guard := some (4, false) }) (v := ?v22) rfl (by kernel_rfl) (by kernel_rfl) (by kernel_rfl) (fun _ _ _ h => h) (Or.inl ⟨by rfl, ?hy22⟩) (by assumption) ?rest22
  case hy22 => (intro w hSw; obtain ⟨⟨k0, k1, k2, k3, k4, k12, k13, k14⟩, kr⟩ := hSw; go_simp; (try with_reducible rfl))
  simp only [Act.put, List.setIfInBounds_toArray, List.set_cons_zero, List.set_cons_succ]
  refine' wpAnyH_take (i := 8) (oi := { dst := some 11, op := Op.pick (Operand.tmp 7) (Operand.const (Value.bool true)) (Operand.tmp 10), type := 4, pos := "ref.go:290", after := #[{ on := 4, ground := Ground.data }, { on := 7, ground := Ground.data }], guard := none }) (v := ?v23) rfl (by kernel_rfl) (by kernel_rfl) (by kernel_rfl) (fun _ _ _ h => h) (Or.inl ⟨by rfl, ?hy23⟩) (by assumption) ?rest23
  case hy23 => (intro w hSw; obtain ⟨⟨k0, k1, k2, k3, k4, k12, k13, k14⟩, kr⟩ := hSw; go_simp; (try with_reducible rfl))
  simp only [Act.put, List.setIfInBounds_toArray, List.set_cons_zero, List.set_cons_succ]
  refine' wpAnyH_take (i := 9) (oi := { dst := some 12, op := Op.move (Operand.tmp 11), type := 4, pos := "ref.go:290", after := #[{ on := 8, ground := Ground.data }, { on := 4, ground := Ground.chain }], guard := none }) (v := ?v24) rfl (by kernel_rfl) (by kernel_rfl) (by kernel_rfl) (fun _ _ _ h => h) (Or.inl ⟨by rfl, ?hy24⟩) (by assumption) ?rest24
  case hy24 => (intro w hSw; obtain ⟨⟨k0, k1, k2, k3, k4, k12, k13, k14⟩, kr⟩ := hSw; go_simp; (try with_reducible rfl))
  simp only [Act.put, List.setIfInBounds_toArray, List.set_cons_zero, List.set_cons_succ]
  refine' wpAnyH_take (i := 10) (oi := { dst := some 13, op := Op.fieldAddr 51 (Operand.tmp 1) 1, type := 0, pos := "ref.go:290", after := #[{ on := 9, ground := Ground.guard }], guard := some (9, false) }) (v := undef) rfl (by kernel_rfl) (by kernel_rfl) (by kernel_rfl) (fun _ _ _ h => h) (Or.inr ⟨by rfl, rfl⟩) (by assumption) ?_
  simp only [Act.put, List.setIfInBounds_toArray, List.set_cons_zero, List.set_cons_succ]
  refine' wpAnyH_take (i := 11) (oi := { dst := some 14, op := Op.load 3 (Operand.tmp 13), type := 3, pos := "ref.go:290", after := #[{ on := 10, ground := Ground.data }, { on := 9, ground := Ground.guard }], guard := some (9, false) }) (v := undef) rfl (by kernel_rfl) (by kernel_rfl) (by kernel_rfl) (fun _ _ _ h => h) (Or.inr ⟨by rfl, rfl⟩) (by assumption) ?_
  simp only [Act.put, List.setIfInBounds_toArray, List.set_cons_zero, List.set_cons_succ]
  refine' wpAnyH_take (i := 12) (oi := { dst := some 15, op := Op.call { callee := Callee.value (Operand.func 69), args := #[Operand.tmp 14], argTypes := #[3] }, type := 4, pos := "ref.go:290", after := #[{ on := 11, ground := Ground.data }, { on := 9, ground := Ground.chain }, { on := 9, ground := Ground.guard }], guard := some (9, false) }) (v := undef) rfl (by kernel_rfl) (by kernel_rfl) (by kernel_rfl) (fun _ _ _ h => h) (Or.inr ⟨by rfl, rfl⟩) (by assumption) ?_
  simp only [Act.put, List.setIfInBounds_toArray, List.set_cons_zero, List.set_cons_succ]
  refine' wpAnyH_take (i := 13) (oi := { dst := some 16, op := Op.pick (Operand.tmp 12) (Operand.const (Value.bool true)) (Operand.tmp 15), type := 4, pos := "ref.go:290", after := #[{ on := 9, ground := Ground.data }, { on := 12, ground := Ground.data }], guard := none }) (v := ?v25) rfl (by kernel_rfl) (by kernel_rfl) (by kernel_rfl) (fun _ _ _ h => h) (Or.inl ⟨by rfl, ?hy25⟩) (by assumption) ?rest25
  case hy25 => (intro w hSw; obtain ⟨⟨k0, k1, k2, k3, k4, k12, k13, k14⟩, kr⟩ := hSw; go_simp; (try with_reducible rfl))
  simp only [Act.put, List.setIfInBounds_toArray, List.set_cons_zero, List.set_cons_succ]
  refine' wpAnyH_take (i := 14) (oi := { dst := some 17, op := Op.move (Operand.tmp 16), type := 4, pos := "ref.go:290", after := #[{ on := 13, ground := Ground.data }, { on := 12, ground := Ground.chain }], guard := none }) (v := ?v26) rfl (by kernel_rfl) (by kernel_rfl) (by kernel_rfl) (fun _ _ _ h => h) (Or.inl ⟨by rfl, ?hy26⟩) (by assumption) ?rest26
  case hy26 => (intro w hSw; obtain ⟨⟨k0, k1, k2, k3, k4, k12, k13, k14⟩, kr⟩ := hSw; go_simp; (try with_reducible rfl))
  simp only [Act.put, List.setIfInBounds_toArray, List.set_cons_zero, List.set_cons_succ]
  refine' wpAnyH_take (i := 15) (oi := { dst := some 18, op := Op.fieldAddr 51 (Operand.tmp 1) 2, type := 0, pos := "ref.go:290", after := #[{ on := 14, ground := Ground.guard }], guard := some (14, false) }) (v := undef) rfl (by kernel_rfl) (by kernel_rfl) (by kernel_rfl) (fun _ _ _ h => h) (Or.inr ⟨by rfl, rfl⟩) (by assumption) ?_
  simp only [Act.put, List.setIfInBounds_toArray, List.set_cons_zero, List.set_cons_succ]
  refine' wpAnyH_take (i := 16) (oi := { dst := some 19, op := Op.load 3 (Operand.tmp 18), type := 3, pos := "ref.go:290", after := #[{ on := 15, ground := Ground.data }, { on := 14, ground := Ground.guard }], guard := some (14, false) }) (v := undef) rfl (by kernel_rfl) (by kernel_rfl) (by kernel_rfl) (fun _ _ _ h => h) (Or.inr ⟨by rfl, rfl⟩) (by assumption) ?_
  simp only [Act.put, List.setIfInBounds_toArray, List.set_cons_zero, List.set_cons_succ]
  refine' wpAnyH_take (i := 17) (oi := { dst := some 20, op := Op.call { callee := Callee.value (Operand.func 69), args := #[Operand.tmp 19], argTypes := #[3] }, type := 4, pos := "ref.go:290", after := #[{ on := 16, ground := Ground.data }, { on := 14, ground := Ground.chain }, { on := 14, ground := Ground.guard }], guard := some (14, false) }) (v := undef) rfl (by kernel_rfl) (by kernel_rfl) (by kernel_rfl) (fun _ _ _ h => h) (Or.inr ⟨by rfl, rfl⟩) (by assumption) ?_
  simp only [Act.put, List.setIfInBounds_toArray, List.set_cons_zero, List.set_cons_succ]
  refine' wpAnyH_take (i := 18) (oi := { dst := some 21, op := Op.pick (Operand.tmp 17) (Operand.const (Value.bool true)) (Operand.tmp 20), type := 4, pos := "ref.go:290", after := #[{ on := 14, ground := Ground.data }, { on := 17, ground := Ground.data }], guard := none }) (v := ?v27) rfl (by kernel_rfl) (by kernel_rfl) (by kernel_rfl) (fun _ _ _ h => h) (Or.inl ⟨by rfl, ?hy27⟩) (by assumption) ?rest27
  case hy27 => (intro w hSw; obtain ⟨⟨k0, k1, k2, k3, k4, k12, k13, k14⟩, kr⟩ := hSw; go_simp; (try with_reducible rfl))
  simp only [Act.put, List.setIfInBounds_toArray, List.set_cons_zero, List.set_cons_succ]
  refine' wpAnyH_take (i := 19) (oi := { dst := some 22, op := Op.move (Operand.tmp 21), type := 4, pos := "ref.go:290", after := #[{ on := 18, ground := Ground.data }, { on := 17, ground := Ground.chain }], guard := none }) (v := ?v28) rfl (by kernel_rfl) (by kernel_rfl) (by kernel_rfl) (fun _ _ _ h => h) (Or.inl ⟨by rfl, ?hy28⟩) (by assumption) ?rest28
  case hy28 => (intro w hSw; obtain ⟨⟨k0, k1, k2, k3, k4, k12, k13, k14⟩, kr⟩ := hSw; go_simp; (try with_reducible rfl))
  simp only [Act.put, List.setIfInBounds_toArray, List.set_cons_zero, List.set_cons_succ]
  refine' wpAnyH_take (i := 20) (oi := { dst := some 23, op := Op.fieldAddr 51 (Operand.tmp 1) 3, type := 0, pos := "ref.go:290", after := #[{ on := 19, ground := Ground.guard }], guard := some (19, false) }) (v := undef) rfl (by kernel_rfl) (by kernel_rfl) (by kernel_rfl) (fun _ _ _ h => h) (Or.inr ⟨by rfl, rfl⟩) (by assumption) ?_
  simp only [Act.put, List.setIfInBounds_toArray, List.set_cons_zero, List.set_cons_succ]
  refine' wpAnyH_take (i := 21) (oi := { dst := some 24, op := Op.load 3 (Operand.tmp 23), type := 3, pos := "ref.go:290", after := #[{ on := 20, ground := Ground.data }, { on := 19, ground := Ground.guard }], guard := some (19, false) }) (v := undef) rfl (by kernel_rfl) (by kernel_rfl) (by kernel_rfl) (fun _ _ _ h => h) (Or.inr ⟨by rfl, rfl⟩) (by assumption) ?_
  simp only [Act.put, List.setIfInBounds_toArray, List.set_cons_zero, List.set_cons_succ]
  refine' wpAnyH_take (i := 22) (oi := { dst := some 25, op := Op.call { callee := Callee.value (Operand.func 69), args := #[Operand.tmp 24], argTypes := #[3] }, type := 4, pos := "ref.go:290", after := #[{ on := 21, ground := Ground.data }, { on := 19, ground := Ground.chain }, { on := 19, ground := Ground.guard }], guard := some (19, false) }) (v := undef) rfl (by kernel_rfl) (by kernel_rfl) (by kernel_rfl) (fun _ _ _ h => h) (Or.inr ⟨by rfl, rfl⟩) (by assumption) ?_
  simp only [Act.put, List.setIfInBounds_toArray, List.set_cons_zero, List.set_cons_succ]
  refine' wpAnyH_take (i := 23) (oi := { dst := some 26, op := Op.pick (Operand.tmp 22) (Operand.const (Value.bool true)) (Operand.tmp 25), type := 4, pos := "ref.go:290", after := #[{ on := 19, ground := Ground.data }, { on := 22, ground := Ground.data }], guard := none }) (v := ?v29) rfl (by kernel_rfl) (by kernel_rfl) (by kernel_rfl) (fun _ _ _ h => h) (Or.inl ⟨by rfl, ?hy29⟩) (by assumption) ?rest29
  case hy29 => (intro w hSw; obtain ⟨⟨k0, k1, k2, k3, k4, k12, k13, k14⟩, kr⟩ := hSw; go_simp; (try with_reducible rfl))
  simp only [Act.put, List.setIfInBounds_toArray, List.set_cons_zero, List.set_cons_succ]
  refine' wpAnyH_take (i := 24) (oi := { dst := some 27, op := Op.move (Operand.tmp 26), type := 4, pos := "ref.go:290", after := #[{ on := 23, ground := Ground.data }, { on := 22, ground := Ground.chain }], guard := none }) (v := ?v30) rfl (by kernel_rfl) (by kernel_rfl) (by kernel_rfl) (fun _ _ _ h => h) (Or.inl ⟨by rfl, ?hy30⟩) (by assumption) ?rest30
  case hy30 => (intro w hSw; obtain ⟨⟨k0, k1, k2, k3, k4, k12, k13, k14⟩, kr⟩ := hSw; go_simp; (try with_reducible rfl))
  simp only [Act.put, List.setIfInBounds_toArray, List.set_cons_zero, List.set_cons_succ]
  refine' wpAnyH_take (i := 25) (oi := { dst := some 28, op := Op.fieldAddr 51 (Operand.tmp 1) 4, type := 0, pos := "ref.go:290", after := #[{ on := 24, ground := Ground.guard }], guard := some (24, false) }) (v := undef) rfl (by kernel_rfl) (by kernel_rfl) (by kernel_rfl) (fun _ _ _ h => h) (Or.inr ⟨by rfl, rfl⟩) (by assumption) ?_
  simp only [Act.put, List.setIfInBounds_toArray, List.set_cons_zero, List.set_cons_succ]
  refine' wpAnyH_take (i := 26) (oi := { dst := some 29, op := Op.load 3 (Operand.tmp 28), type := 3, pos := "ref.go:290", after := #[{ on := 25, ground := Ground.data }, { on := 24, ground := Ground.guard }], guard := some (24, false) }) (v := undef) rfl (by kernel_rfl) (by kernel_rfl) (by kernel_rfl) (fun _ _ _ h => h) (Or.inr ⟨by rfl, rfl⟩) (by assumption) ?_
  simp only [Act.put, List.setIfInBounds_toArray, List.set_cons_zero, List.set_cons_succ]
  refine' wpAnyH_take (i := 27) (oi := { dst := some 30, op := Op.call { callee := Callee.value (Operand.func 69), args := #[Operand.tmp 29], argTypes := #[3] }, type := 4, pos := "ref.go:290", after := #[{ on := 26, ground := Ground.data }, { on := 24, ground := Ground.chain }, { on := 24, ground := Ground.guard }], guard := some (24, false) }) (v := undef) rfl (by kernel_rfl) (by kernel_rfl) (by kernel_rfl) (fun _ _ _ h => h) (Or.inr ⟨by rfl, rfl⟩) (by assumption) ?_
  simp only [Act.put, List.setIfInBounds_toArray, List.set_cons_zero, List.set_cons_succ]
  refine' wpAnyH_take (i := 28) (oi := { dst := some 31, op := Op.pick (Operand.tmp 27) (Operand.const (Value.bool true)) (Operand.tmp 30), type := 4, pos := "ref.go:290", after := #[{ on := 24, ground := Ground.data }, { on := 27, ground := Ground.data }], guard := none }) (v := ?v31) rfl (by kernel_rfl) (by kernel_rfl) (by kernel_rfl) (fun _ _ _ h => h) (Or.inl ⟨by rfl, ?hy31⟩) (by assumption) ?rest31
  case hy31 => (intro w hSw; obtain ⟨⟨k0, k1, k2, k3, k4, k12, k13, k14⟩, kr⟩ := hSw; go_simp; (try with_reducible rfl))
  simp only [Act.put, List.setIfInBounds_toArray, List.set_cons_zero, List.set_cons_succ]
  refine' wpAnyH_take (i := 29) (oi := { dst := some 32, op := Op.move (Operand.tmp 31), type := 4, pos := "ref.go:290", after := #[{ on := 28, ground := Ground.data }, { on := 27, ground := Ground.chain }], guard := none }) (v := ?v32) rfl (by kernel_rfl) (by kernel_rfl) (by kernel_rfl) (fun _ _ _ h => h) (Or.inl ⟨by rfl, ?hy32⟩) (by assumption) ?rest32
  case hy32 => (intro w hSw; obtain ⟨⟨k0, k1, k2, k3, k4, k12, k13, k14⟩, kr⟩ := hSw; go_simp; (try with_reducible rfl))
  simp only [Act.put, List.setIfInBounds_toArray, List.set_cons_zero, List.set_cons_succ]
  refine' wpAnyH_take (i := 30) (oi := { dst := some 33, op := Op.fieldAddr 51 (Operand.tmp 1) 6, type := 0, pos := "ref.go:290", after := #[{ on := 29, ground := Ground.guard }], guard := some (29, false) }) (v := undef) rfl (by kernel_rfl) (by kernel_rfl) (by kernel_rfl) (fun _ _ _ h => h) (Or.inr ⟨by rfl, rfl⟩) (by assumption) ?_
  simp only [Act.put, List.setIfInBounds_toArray, List.set_cons_zero, List.set_cons_succ]
  refine' wpAnyH_take (i := 31) (oi := { dst := some 34, op := Op.fieldAddr 49 (Operand.tmp 33) 0, type := 0, pos := "ref.go:290", after := #[{ on := 30, ground := Ground.data }, { on := 29, ground := Ground.guard }], guard := some (29, false) }) (v := undef) rfl (by kernel_rfl) (by kernel_rfl) (by kernel_rfl) (fun _ _ _ h => h) (Or.inr ⟨by rfl, rfl⟩) (by assumption) ?_
  simp only [Act.put, List.setIfInBounds_toArray, List.set_cons_zero, List.set_cons_succ]
  refine' wpAnyH_take (i := 32) (oi := { dst := some 35, op := Op.load 3 (Operand.tmp 34), type := 3, pos := "ref.go:290", after := #[{ on := 31, ground := Ground.data }, { on := 29, ground := Ground.guard }], guard := some (29, false) }) (v := undef) rfl (by kernel_rfl) (by kernel_rfl) (by kernel_rfl) (fun _ _ _ h => h) (Or.inr ⟨by rfl, rfl⟩) (by assumption) ?_
  simp only [Act.put, List.setIfInBounds_toArray, List.set_cons_zero, List.set_cons_succ]
  refine' wpAnyH_take (i := 33) (oi := { dst := some 36, op := Op.call { callee := Callee.value (Operand.func 69), args := #[Operand.tmp 35], argTypes := #[3] }, type := 4, pos := "ref.go:290", after := #[{ on := 32, ground := Ground.data }, { on := 29, ground := Ground.chain }, { on := 29, ground := Ground.guard }], guard := some (29, false) }) (v := undef) rfl (by kernel_rfl) (by kernel_rfl) (by kernel_rfl) (fun _ _ _ h => h) (Or.inr ⟨by rfl, rfl⟩) (by assumption) ?_
  simp only [Act.put, List.setIfInBounds_toArray, List.set_cons_zero, List.set_cons_succ]
  refine' wpAnyH_take (i := 34) (oi := { dst := some 37, op := Op.pick (Operand.tmp 32) (Operand.const (Value.bool true)) (Operand.tmp 36), type := 4, pos := "ref.go:290", after := #[{ on := 29, ground := Ground.data }, { on := 33, ground := Ground.data }], guard := none }) (v := ?v33) rfl (by kernel_rfl) (by kernel_rfl) (by kernel_rfl) (fun _ _ _ h => h) (Or.inl ⟨by rfl, ?hy33⟩) (by assumption) ?rest33
  case hy33 => (intro w hSw; obtain ⟨⟨k0, k1, k2, k3, k4, k12, k13, k14⟩, kr⟩ := hSw; go_simp; (try with_reducible rfl))
  simp only [Act.put, List.setIfInBounds_toArray, List.set_cons_zero, List.set_cons_succ]
  refine' wpAnyH_take (i := 35) (oi := { dst := some 38, op := Op.move (Operand.tmp 37), type := 4, pos := "ref.go:290", after := #[{ on := 34, ground := Ground.data }, { on := 33, ground := Ground.chain }], guard := none }) (v := ?v34) rfl (by kernel_rfl) (by kernel_rfl) (by kernel_rfl) (fun _ _ _ h => h) (Or.inl ⟨by rfl, ?hy34⟩) (by assumption) ?rest34
  case hy34 => (intro w hSw; obtain ⟨⟨k0, k1, k2, k3, k4, k12, k13, k14⟩, kr⟩ := hSw; go_simp; (try with_reducible rfl))
  simp only [Act.put, List.setIfInBounds_toArray, List.set_cons_zero, List.set_cons_succ]
  refine' wpAnyH_take (i := 36) (oi := { dst := some 39, op := Op.fieldAddr 51 (Operand.tmp 1) 6, type := 0, pos := "ref.go:290", after := #[{ on := 35, ground := Ground.guard }], guard := some (35, false) }) (v := undef) rfl (by kernel_rfl) (by kernel_rfl) (by kernel_rfl) (fun _ _ _ h => h) (Or.inr ⟨by rfl, rfl⟩) (by assumption) ?_
  simp only [Act.put, List.setIfInBounds_toArray, List.set_cons_zero, List.set_cons_succ]
  refine' wpAnyH_take (i := 37) (oi := { dst := some 40, op := Op.fieldAddr 49 (Operand.tmp 39) 1, type := 0, pos := "ref.go:290", after := #[{ on := 36, ground := Ground.data }, { on := 35, ground := Ground.guard }], guard := some (35, false) }) (v := undef) rfl (by kernel_rfl) (by kernel_rfl) (by kernel_rfl) (fun _ _ _ h => h) (Or.inr ⟨by rfl, rfl⟩) (by assumption) ?_
  simp only [Act.put, List.setIfInBounds_toArray, List.set_cons_zero, List.set_cons_succ]
  refine' wpAnyH_take (i := 38) (oi := { dst := some 41, op := Op.load 3 (Operand.tmp 40), type := 3, pos := "ref.go:290", after := #[{ on := 37, ground := Ground.data }, { on := 35, ground := Ground.guard }], guard := some (35, false) }) (v := undef) rfl (by kernel_rfl) (by kernel_rfl) (by kernel_rfl) (fun _ _ _ h => h) (Or.inr ⟨by rfl, rfl⟩) (by assumption) ?_
  simp only [Act.put, List.setIfInBounds_toArray, List.set_cons_zero, List.set_cons_succ]
  refine' wpAnyH_take (i := 39) (oi := { dst := some 42, op := Op.call { callee := Callee.value (Operand.func 69), args := #[Operand.tmp 41], argTypes := #[3] }, type := 4, pos := "ref.go:290", after := #[{ on := 38, ground := Ground.data }, { on := 35, ground := Ground.chain }, { on := 35, ground := Ground.guard }], guard := some (35, false) }) (v := undef) rfl (by kernel_rfl) (by kernel_rfl) (by kernel_rfl) (fun _ _ _ h => h) (Or.inr ⟨by rfl, rfl⟩) (by assumption) ?_
  simp only [Act.put, List.setIfInBounds_toArray, List.set_cons_zero, List.set_cons_succ]
  refine' wpAnyH_take (i := 40) (oi := { dst := some 43, op := Op.pick (Operand.tmp 38) (Operand.const (Value.bool true)) (Operand.tmp 42), type := 4, pos := "ref.go:290", after := #[{ on := 35, ground := Ground.data }, { on := 39, ground := Ground.data }], guard := none }) (v := ?v35) rfl (by kernel_rfl) (by kernel_rfl) (by kernel_rfl) (fun _ _ _ h => h) (Or.inl ⟨by rfl, ?hy35⟩) (by assumption) ?rest35
  case hy35 => (intro w hSw; obtain ⟨⟨k0, k1, k2, k3, k4, k12, k13, k14⟩, kr⟩ := hSw; go_simp; (try with_reducible rfl))
  simp only [Act.put, List.setIfInBounds_toArray, List.set_cons_zero, List.set_cons_succ]
  refine' wpAnyH_take (i := 41) (oi := { dst := some 44, op := Op.move (Operand.tmp 43), type := 4, pos := "ref.go:290", after := #[{ on := 40, ground := Ground.data }, { on := 39, ground := Ground.chain }], guard := none }) (v := ?v36) rfl (by kernel_rfl) (by kernel_rfl) (by kernel_rfl) (fun _ _ _ h => h) (Or.inl ⟨by rfl, ?hy36⟩) (by assumption) ?rest36
  case hy36 => (intro w hSw; obtain ⟨⟨k0, k1, k2, k3, k4, k12, k13, k14⟩, kr⟩ := hSw; go_simp; (try with_reducible rfl))
  simp only [Act.put, List.setIfInBounds_toArray, List.set_cons_zero, List.set_cons_succ]
  refine' wpAnyH_take (i := 42) (oi := { dst := some 45, op := Op.fieldAddr 51 (Operand.tmp 1) 6, type := 0, pos := "ref.go:290", after := #[{ on := 41, ground := Ground.guard }], guard := some (41, false) }) (v := undef) rfl (by kernel_rfl) (by kernel_rfl) (by kernel_rfl) (fun _ _ _ h => h) (Or.inr ⟨by rfl, rfl⟩) (by assumption) ?_
  simp only [Act.put, List.setIfInBounds_toArray, List.set_cons_zero, List.set_cons_succ]
  refine' wpAnyH_take (i := 43) (oi := { dst := some 46, op := Op.fieldAddr 49 (Operand.tmp 45) 2, type := 0, pos := "ref.go:290", after := #[{ on := 42, ground := Ground.data }, { on := 41, ground := Ground.guard }], guard := some (41, false) }) (v := undef) rfl (by kernel_rfl) (by kernel_rfl) (by kernel_rfl) (fun _ _ _ h => h) (Or.inr ⟨by rfl, rfl⟩) (by assumption) ?_
  simp only [Act.put, List.setIfInBounds_toArray, List.set_cons_zero, List.set_cons_succ]
  refine' wpAnyH_take (i := 44) (oi := { dst := some 47, op := Op.load 29 (Operand.tmp 46), type := 29, pos := "ref.go:290", after := #[{ on := 43, ground := Ground.data }, { on := 41, ground := Ground.guard }], guard := some (41, false) }) (v := undef) rfl (by kernel_rfl) (by kernel_rfl) (by kernel_rfl) (fun _ _ _ h => h) (Or.inr ⟨by rfl, rfl⟩) (by assumption) ?_
  simp only [Act.put, List.setIfInBounds_toArray, List.set_cons_zero, List.set_cons_succ]
  refine' wpAnyH_take (i := 45) (oi := { dst := some 48, op := Op.call { callee := Callee.value (Operand.func 69), args := #[Operand.tmp 47], argTypes := #[3] }, type := 4, pos := "ref.go:290", after := #[{ on := 44, ground := Ground.data }, { on := 41, ground := Ground.chain }, { on := 41, ground := Ground.guard }], guard := some (41, false) }) (v := undef) rfl (by kernel_rfl) (by kernel_rfl) (by kernel_rfl) (fun _ _ _ h => h) (Or.inr ⟨by rfl, rfl⟩) (by assumption) ?_
  simp only [Act.put, List.setIfInBounds_toArray, List.set_cons_zero, List.set_cons_succ]
  refine' wpAnyH_take (i := 46) (oi := { dst := some 49, op := Op.pick (Operand.tmp 44) (Operand.const (Value.bool true)) (Operand.tmp 48), type := 4, pos := "ref.go:290", after := #[{ on := 41, ground := Ground.data }, { on := 45, ground := Ground.data }], guard := none }) (v := ?v37) rfl (by kernel_rfl) (by kernel_rfl) (by kernel_rfl) (fun _ _ _ h => h) (Or.inl ⟨by rfl, ?hy37⟩) (by assumption) ?rest37
  case hy37 => (intro w hSw; obtain ⟨⟨k0, k1, k2, k3, k4, k12, k13, k14⟩, kr⟩ := hSw; go_simp; (try with_reducible rfl))
  simp only [Act.put, List.setIfInBounds_toArray, List.set_cons_zero, List.set_cons_succ]
  refine wpAnyH_done (by kernel_rfl) ?_ _
  go_wp2_with fail
  go_ret
  exact ⟨bb hok.out.symm, B2⟩
set_option maxRecDepth 100000 in
set_option maxHeartbeats 8000000 in
theorem rplainNote_2 (n : NoteD) (xs : Array Value) (hx : IsNote xs n) (w : World) (hok : Hid (n.ok = false)) (hq : ∀ W' : World, (binOp .neq 51 (.agg n.cells.toArray) (.agg n.only.cells.toArray)).run Try.prog W' = .ok (.bool false) W') (h1 : (n.kind == 0) = false) (h2 : okN n.epoch = false) : Calls Try.prog 48 #[.agg xs] w (Tells n.ok w) := by
  have hA : ∀ W, W = w.alloc (.cells xs 51) → NoteAt W w.heap.size n ∧ Below w.heap.size w W := by rw [hx.eq]; exact nat_add n w
  clear hx
  have hgt : ∀ W, W = w.alloc (.cells xs 51) → w.heap.size < W.heap.size := by rintro W rfl; simp
  obtain ⟨W, hW⟩ : ∃ W, W = w.alloc (.cells xs 51) := ⟨_, rfl⟩
  obtain ⟨hN, hB⟩ := hA W hW
  have hlt := hgt W hW
  have HW := Lib.hid hW
  have s0 : NS w.heap.size n W.drew := hN.ns
  clear hA hgt hW
  go_enter Try.func48, Try.ntmps48
  go_wp2_with fail
  rw [← HW.out]
  refine wp_region_held_drew (S := (fun w' => NS w.heap.size n w')) (by kernel_rfl) s0 (fun hHeld => ?_)
  refine' wpAnyH_take (i := 0) (oi := { dst := some 3, op := Op.load 51 (Operand.tmp 1), type := 51, pos := "ref.go:290", after := #[], guard := none }) (v := _) rfl (by kernel_rfl) (by kernel_rfl) (by kernel_rfl) (fun _ _ _ h => h) (yieldsIf_load_mid (by rfl) _ _ rfl _ _ rfl _ _ (fun w h => h.2) Try.underlying51 rfl size_note) (by assumption) ?_
  simp only [Act.put, List.setIfInBounds_toArray, List.set_cons_zero, List.set_cons_succ]
  refine' wpAnyH_take (i := 1) (oi := { dst := some 4, op := Op.load 51 (Operand.tmp 1), type := 51, pos := "ref.go:290", after := #[], guard := none }) (v := _) rfl (by kernel_rfl) (by kernel_rfl) (by kernel_rfl) (fun _ _ _ h => h) (yieldsIf_load_mid (by rfl) _ _ rfl _ _ rfl _ _ (fun w h => h.2) Try.underlying51 rfl size_note) (by assumption) ?_
  simp only [Act.put, List.setIfInBounds_toArray, List.set_cons_zero, List.set_cons_succ]
  refine wpAnyH_ready (rs := [2]) (by kernel_rfl) (by simp) ?_
  refine AllReadyH.cons (o := { dst := some 5, op := Op.call { callee := Callee.value (Operand.func 76), args := #[Operand.tmp 4], argTypes := #[51] }, type := 51, pos := "ref.go:290", after := #[{ on := 1, ground := Ground.data }], guard := none }) rfl (fun K hK => ?_) AllReadyH.nil
  go_simp
  refine (only_any n _ ⟨rfl⟩ _).mono ?_
  rintro e w2 ⟨ys, rfl, hys, b2'⟩
  obtain rfl := hys.eq
  have b2 := below_undrew b2'
  have hN2 := hN.below b2
  have B2 := bel_next hB b2
  go_wp2_with fail
  refine hK.out _ _ hN2.ns (fun hHeld => ?_)
  clear hK K
  try simp only [Act.put, List.setIfInBounds_toArray, List.set_cons_zero, List.set_cons_succ]
  refine' wpAnyH_take (i := 3) (oi := { dst := some 6, op := Op.binOp BinOp.neq 51 (Operand.tmp 3) (Operand.tmp 5) 51, type := 4, pos := "ref.go:290", after := #[{ on := 0, ground := Ground.data }, { on := 2, ground := Ground.data }], guard := none }) (v := ?v38) rfl (by kernel_rfl) (by kernel_rfl) (by kernel_rfl) (fun _ _ _ h => h) (Or.inl ⟨by rfl, ?hy38⟩) (by assumption) ?rest38
  case hy38 => (intro w hSw; obtain ⟨⟨k0, k1, k2, k3, k4, k12, k13, k14⟩, kr⟩ := hSw; go_simp; (try with_reducible rfl))
  simp only [Act.put, List.setIfInBounds_toArray, List.set_cons_zero, List.set_cons_succ]
  refine' wpAnyH_take (i := 4) (oi := { dst := some 7, op := Op.move (Operand.tmp 6), type := 4, pos := "ref.go:290", after := #[{ on := 3, ground := Ground.data }, { on := 2, ground := Ground.chain }], guard := none }) (v := ?v39) rfl (by kernel_rfl) (by kernel_rfl) (by kernel_rfl) (fun _ _ _ h => h) (Or.inl ⟨by rfl, ?hy39⟩) (by assumption) ?rest39
  case hy39 => (intro w hSw; obtain ⟨⟨k0, k1, k2, k3, k4, k12, k13, k14⟩, kr⟩ := hSw; go_simp; (try with_reducible rfl))
  simp only [Act.put, List.setIfInBounds_toArray, List.set_cons_zero, List.set_cons_succ]
  refine' wpAnyH_take (i := 5) (oi := { dst := some 8, op := Op.fieldAddr 51 (Operand.tmp 1) 0, type := 0, pos := "ref.go:290", after := #[{ on := 4, ground := Ground.guard }], guard := some (4, false) }) (v := ?v40) rfl (by kernel_rfl) (by kernel_rfl) (by kernel_rfl) (fun _ _ _ h => h) (Or.inl ⟨by rfl, ?hy40⟩) (by assumption) ?rest40
  case hy40 => (intro w hSw; obtain ⟨⟨k0, k1, k2, k3, k4, k12, k13, k14⟩, kr⟩ := hSw; go_simp; (try with_reducible rfl))
  simp only [Act.put, List.setIfInBounds_toArray, List.set_cons_zero, List.set_cons_succ]
  refine' wpAnyH_take (i := 6) (oi := { dst := some 9, op := Op.load 3 (Operand.tmp 8), type := 3, pos := "ref.go:290", after := #[{ on := 5, ground := Ground.data }, { on := 4, ground := Ground.guard }], guard := some (4, false) }) (v := ?v41) rfl (by kernel_rfl) (by kernel_rfl) (by kernel_rfl) (fun _ _ _ h => h) (Or.inl ⟨by rfl, ?hy41⟩) (by assumption) ?rest41
  case hy41 => (intro w hSw; obtain ⟨⟨k0, k1, k2, k3, k4, k12, k13, k14⟩, kr⟩ := hSw; go_simp; (try with_reducible rfl))
  simp only [Act.put, List.setIfInBounds_toArray, List.set_cons_zero, List.set_cons_succ]
  refine' wpAnyH_take (i := 7) (oi := { dst := some 10, op := Op.binOp BinOp.eql 3 (Operand.tmp 9) (Operand.const (Value.int IntKind.i64 0)) 3, type := 4, pos := "ref.go:290", after := #[{ on := 6, ground := Ground.data }, { on := 4, ground := Ground.guard }], guard := some (4, false) }) (v := ?v42) rfl (by kernel_rfl) (by kernel_rfl) (by kernel_rfl) (fun _ _ _ h => h) (Or.inl ⟨by rfl, ?hy42⟩) (by assumption) ?rest42
  case hy42 => (intro w hSw; obtain ⟨⟨k0, k1, k2, k3, k4, k12, k13, k14⟩, kr⟩ := hSw; go_simp; (try with_reducible rfl))
  simp only [Act.put, List.setIfInBounds_toArray, List.set_cons_zero, List.set_cons_succ]
  refine' wpAnyH_take (i := 8) (oi := { dst := some 11, op := Op.pick (Operand.tmp 7) (Operand.const (Value.bool true)) (Operand.tmp 10), type := 4, pos := "ref.go:290", after := #[{ on := 4, ground := Ground.data }, { on := 7, ground := Ground.data }], guard := none }) (v := ?v43) rfl (by kernel_rfl) (by kernel_rfl) (by kernel_rfl) (fun _ _ _ h => h) (Or.inl ⟨by rfl, ?hy43⟩) (by assumption) ?rest43
  case hy43 => (intro w hSw; obtain ⟨⟨k0, k1, k2, k3, k4, k12, k13, k14⟩, kr⟩ := hSw; go_simp; (try with_reducible rfl))
  simp only [Act.put, List.setIfInBounds_toArray, List.set_cons_zero, List.set_cons_succ]
  refine' wpAnyH_take (i := 9) (oi := { dst := some 12, op := Op.move (Operand.tmp 11), type := 4, pos := "ref.go:290", after := #[{ on := 8, ground := Ground.data }, { on := 4, ground := Ground.chain }], guard := none }) (v := ?v44) rfl (by kernel_rfl) (by kernel_rfl) (by kernel_rfl) (fun _ _ _ h => h) (Or.inl ⟨by rfl, ?hy44⟩) (by assumption) ?rest44
  case hy44 => (intro w hSw; obtain ⟨⟨k0, k1, k2, k3, k4, k12, k13, k14⟩, kr⟩ := hSw; go_simp; (try with_reducible rfl))
  simp only [Act.put, List.setIfInBounds_toArray, List.set_cons_zero, List.set_cons_succ]
  refine' wpAnyH_take (i := 10) (oi := { dst := some 13, op := Op.fieldAddr 51 (Operand.tmp 1) 1, type := 0, pos := "ref.go:290", after := #[{ on := 9, ground := Ground.guard }], guard := some (9, false) }) (v := ?v45) rfl (by kernel_rfl) (by kernel_rfl) (by kernel_rfl) (fun _ _ _ h => h) (Or.inl ⟨by rfl, ?hy45⟩) (by assumption) ?rest45
  case hy45 => (intro w hSw; obtain ⟨⟨k0, k1, k2, k3, k4, k12, k13, k14⟩, kr⟩ := hSw; go_simp; (try with_reducible rfl))
  simp only [Act.put, List.setIfInBounds_toArray, List.set_cons_zero, List.set_cons_succ]
  refine' wpAnyH_take (i := 11) (oi := { dst := some 14, op := Op.load 3 (Operand.tmp 13), type := 3, pos := "ref.go:290", after := #[{ on := 10, ground := Ground.data }, { on := 9, ground := Ground.guard }], guard := some (9, false) }) (v := ?v46) rfl (by kernel_rfl) (by kernel_rfl) (by kernel_rfl) (fun _ _ _ h => h) (Or.inl ⟨by rfl, ?hy46⟩) (by assumption) ?rest46
  case hy46 => (intro w hSw; obtain ⟨⟨k0, k1, k2, k3, k4, k12, k13, k14⟩, kr⟩ := hSw; go_simp; (try with_reducible rfl))
  simp only [Act.put, List.setIfInBounds_toArray, List.set_cons_zero, List.set_cons_succ]
  refine wpAnyH_ready (rs := [12]) (by kernel_rfl) (by simp) ?_
  refine AllReadyH.cons (o := { dst := some 15, op := Op.call { callee := Callee.value (Operand.func 69), args := #[Operand.tmp 14], argTypes := #[3] }, type := 4, pos := "ref.go:290", after := #[{ on := 11, ground := Ground.data }, { on := 9, ground := Ground.chain }, { on := 9, ground := Ground.guard }], guard := some (9, false) }) rfl (fun K hK => ?_) AllReadyH.nil
  go_simp
  refine (bad_any _ _).mono ?_
  rintro e w1 ⟨rfl, rfl⟩
  rw [h2]
  go_wp2_with fail
  refine hK.out _ _ hN2.ns (fun hHeld => ?_)
  clear hK K
  try simp only [Act.put, List.setIfInBounds_toArray, List.set_cons_zero, List.set_cons_succ]
  refine' wpAnyH_take (i := 13) (oi := { dst := some 16, op := Op.pick (Operand.tmp 12) (Operand.const (Value.bool true)) (Operand.tmp 15), type := 4, pos := "ref.go:290", after := #[{ on := 9, ground := Ground.data }, { on := 12, ground := Ground.data }], guard := none }) (v := ?v47) rfl (by kernel_rfl) (by kernel_rfl) (by kernel_rfl) (fun _ _ _ h => h) (Or.inl ⟨by rfl, ?hy47⟩) (by assumption) ?rest47
  case hy47 => (intro w hSw; obtain ⟨⟨k0, k1, k2, k3, k4, k12, k13, k14⟩, kr⟩ := hSw; go_simp; (try with_reducible rfl))
  simp only [Act.put, List.setIfInBounds_toArray, List.set_cons_zero, List.set_cons_succ]
  refine' wpAnyH_take (i := 14) (oi := { dst := some 17, op := Op.move (Operand.tmp 16), type := 4, pos := "ref.go:290", after := #[{ on := 13, ground := Ground.data }, { on := 12, ground := Ground.chain }], guard := none }) (v := ?v48) rfl (by kernel_rfl) (by kernel_rfl) (by kernel_rfl) (fun _ _ _ h => h) (Or.inl ⟨by rfl, ?hy48⟩) (by assumption) ?rest48
  case hy48 => (intro w hSw; obtain ⟨⟨k0, k1, k2, k3, k4, k12, k13, k14⟩, kr⟩ := hSw; go_simp; (try with_reducible rfl))
  simp only [Act.put, List.setIfInBounds_toArray, List.set_cons_zero, List.set_cons_succ]
  refine' wpAnyH_take (i := 15) (oi := { dst := some 18, op := Op.fieldAddr 51 (Operand.tmp 1) 2, type := 0, pos := "ref.go:290", after := #[{ on := 14, ground := Ground.guard }], guard := some (14, false) }) (v := undef) rfl (by kernel_rfl) (by kernel_rfl) (by kernel_rfl) (fun _ _ _ h => h) (Or.inr ⟨by rfl, rfl⟩) (by assumption) ?_
  simp only [Act.put, List.setIfInBounds_toArray, List.set_cons_zero, List.set_cons_succ]
  refine' wpAnyH_take (i := 16) (oi := { dst := some 19, op := Op.load 3 (Operand.tmp 18), type := 3, pos := "ref.go:290", after := #[{ on := 15, ground := Ground.data }, { on := 14, ground := Ground.guard }], guard := some (14, false) }) (v := undef) rfl (by kernel_rfl) (by kernel_rfl) (by kernel_rfl) (fun _ _ _ h => h) (Or.inr ⟨by rfl, rfl⟩) (by assumption) ?_
  simp only [Act.put, List.setIfInBounds_toArray, List.set_cons_zero, List.set_cons_succ]
  refine' wpAnyH_take (i := 17) (oi := { dst := some 20, op := Op.call { callee := Callee.value (Operand.func 69), args := #[Operand.tmp 19], argTypes := #[3] }, type := 4, pos := "ref.go:290", after := #[{ on := 16, ground := Ground.data }, { on := 14, ground := Ground.chain }, { on := 14, ground := Ground.guard }], guard := some (14, false) }) (v := undef) rfl (by kernel_rfl) (by kernel_rfl) (by kernel_rfl) (fun _ _ _ h => h) (Or.inr ⟨by rfl, rfl⟩) (by assumption) ?_
  simp only [Act.put, List.setIfInBounds_toArray, List.set_cons_zero, List.set_cons_succ]
  refine' wpAnyH_take (i := 18) (oi := { dst := some 21, op := Op.pick (Operand.tmp 17) (Operand.const (Value.bool true)) (Operand.tmp 20), type := 4, pos := "ref.go:290", after := #[{ on := 14, ground := Ground.data }, { on := 17, ground := Ground.data }], guard := none }) (v := ?v49) rfl (by kernel_rfl) (by kernel_rfl) (by kernel_rfl) (fun _ _ _ h => h) (Or.inl ⟨by rfl, ?hy49⟩) (by assumption) ?rest49
  case hy49 => (intro w hSw; obtain ⟨⟨k0, k1, k2, k3, k4, k12, k13, k14⟩, kr⟩ := hSw; go_simp; (try with_reducible rfl))
  simp only [Act.put, List.setIfInBounds_toArray, List.set_cons_zero, List.set_cons_succ]
  refine' wpAnyH_take (i := 19) (oi := { dst := some 22, op := Op.move (Operand.tmp 21), type := 4, pos := "ref.go:290", after := #[{ on := 18, ground := Ground.data }, { on := 17, ground := Ground.chain }], guard := none }) (v := ?v50) rfl (by kernel_rfl) (by kernel_rfl) (by kernel_rfl) (fun _ _ _ h => h) (Or.inl ⟨by rfl, ?hy50⟩) (by assumption) ?rest50
  case hy50 => (intro w hSw; obtain ⟨⟨k0, k1, k2, k3, k4, k12, k13, k14⟩, kr⟩ := hSw; go_simp; (try with_reducible rfl))
  simp only [Act.put, List.setIfInBounds_toArray, List.set_cons_zero, List.set_cons_succ]
  refine' wpAnyH_take (i := 20) (oi := { dst := some 23, op := Op.fieldAddr 51 (Operand.tmp 1) 3, type := 0, pos := "ref.go:290", after := #[{ on := 19, ground := Ground.guard }], guard := some (19, false) }) (v := undef) rfl (by kernel_rfl) (by kernel_rfl) (by kernel_rfl) (fun _ _ _ h => h) (Or.inr ⟨by rfl, rfl⟩) (by assumption) ?_
  simp only [Act.put, List.setIfInBounds_toArray, List.set_cons_zero, List.set_cons_succ]
  refine' wpAnyH_take (i := 21) (oi := { dst := some 24, op := Op.load 3 (Operand.tmp 23), type := 3, pos := "ref.go:290", after := #[{ on := 20, ground := Ground.data }, { on := 19, ground := Ground.guard }], guard := some (19, false) }) (v := undef) rfl (by kernel_rfl) (by kernel_rfl) (by kernel_rfl) (fun _ _ _ h => h) (Or.inr ⟨by rfl, rfl⟩) (by assumption) ?_
  simp only [Act.put, List.setIfInBounds_toArray, List.set_cons_zero, List.set_cons_succ]
  refine' wpAnyH_take (i := 22) (oi := { dst := some 25, op := Op.call { callee := Callee.value (Operand.func 69), args := #[Operand.tmp 24], argTypes := #[3] }, type := 4, pos := "ref.go:290", after := #[{ on := 21, ground := Ground.data }, { on := 19, ground := Ground.chain }, { on := 19, ground := Ground.guard }], guard := some (19, false) }) (v := undef) rfl (by kernel_rfl) (by kernel_rfl) (by kernel_rfl) (fun _ _ _ h => h) (Or.inr ⟨by rfl, rfl⟩) (by assumption) ?_
  simp only [Act.put, List.setIfInBounds_toArray, List.set_cons_zero, List.set_cons_succ]
  refine' wpAnyH_take (i := 23) (oi := { dst := some 26, op := Op.pick (Operand.tmp 22) (Operand.const (Value.bool true)) (Operand.tmp 25), type := 4, pos := "ref.go:290", after := #[{ on := 19, ground := Ground.data }, { on := 22, ground := Ground.data }], guard := none }) (v := ?v51) rfl (by kernel_rfl) (by kernel_rfl) (by kernel_rfl) (fun _ _ _ h => h) (Or.inl ⟨by rfl, ?hy51⟩) (by assumption) ?rest51
  case hy51 => (intro w hSw; obtain ⟨⟨k0, k1, k2, k3, k4, k12, k13, k14⟩, kr⟩ := hSw; go_simp; (try with_reducible rfl))
  simp only [Act.put, List.setIfInBounds_toArray, List.set_cons_zero, List.set_cons_succ]
  refine' wpAnyH_take (i := 24) (oi := { dst := some 27, op := Op.move (Operand.tmp 26), type := 4, pos := "ref.go:290", after := #[{ on := 23, ground := Ground.data }, { on := 22, ground := Ground.chain }], guard := none }) (v := ?v52) rfl (by kernel_rfl) (by kernel_rfl) (by kernel_rfl) (fun _ _ _ h => h) (Or.inl ⟨by rfl, ?hy52⟩) (by assumption) ?rest52
  case hy52 => (intro w hSw; obtain ⟨⟨k0, k1, k2, k3, k4, k12, k13, k14⟩, kr⟩ := hSw; go_simp; (try with_reducible rfl))
  simp only [Act.put, List.setIfInBounds_toArray, List.set_cons_zero, List.set_cons_succ]
  refine' wpAnyH_take (i := 25) (oi := { dst := some 28, op := Op.fieldAddr 51 (Operand.tmp 1) 4, type := 0, pos := "ref.go:290", after := #[{ on := 24, ground := Ground.guard }], guard := some (24, false) }) (v := undef) rfl (by kernel_rfl) (by kernel_rfl) (by kernel_rfl) (fun _ _ _ h => h) (Or.inr ⟨by rfl, rfl⟩) (by assumption) ?_
  simp only [Act.put, List.setIfInBounds_toArray, List.set_cons_zero, List.set_cons_succ]
  refine' wpAnyH_take (i := 26) (oi := { dst := some 29, op := Op.load 3 (Operand.tmp 28), type := 3, pos := "ref.go:290", after := #[{ on := 25, ground := Ground.data }, { on := 24, ground := Ground.guard }], guard := some (24, false) }) (v := undef) rfl (by kernel_rfl) (by kernel_rfl) (by kernel_rfl) (fun _ _ _ h => h) (Or.inr ⟨by rfl, rfl⟩) (by assumption) ?_
  simp only [Act.put, List.setIfInBounds_toArray, List.set_cons_zero, List.set_cons_succ]
  refine' wpAnyH_take (i := 27) (oi := { dst := some 30, op := Op.call { callee := Callee.value (Operand.func 69), args := #[Operand.tmp 29], argTypes := #[3] }, type := 4, pos := "ref.go:290", after := #[{ on := 26, ground := Ground.data }, { on := 24, ground := Ground.chain }, { on := 24, ground := Ground.guard }], guard := some (24, false) }) (v := undef) rfl (by kernel_rfl) (by kernel_rfl) (by kernel_rfl) (fun _ _ _ h => h) (Or.inr ⟨by rfl, rfl⟩) (by assumption) ?_
  simp only [Act.put, List.setIfInBounds_toArray, List.set_cons_zero, List.set_cons_succ]
  refine' wpAnyH_take (i := 28) (oi := { dst := some 31, op := Op.pick (Operand.tmp 27) (Operand.const (Value.bool true)) (Operand.tmp 30), type := 4, pos := "ref.go:290", after := #[{ on := 24, ground := Ground.data }, { on := 27, ground := Ground.data }], guard := none }) (v := ?v53) rfl (by kernel_rfl) (by kernel_rfl) (by kernel_rfl) (fun _ _ _ h => h) (Or.inl ⟨by rfl, ?hy53⟩) (by assumption) ?rest53
  case hy53 => (intro w hSw; obtain ⟨⟨k0, k1, k2, k3, k4, k12, k13, k14⟩, kr⟩ := hSw; go_simp; (try with_reducible rfl))
  simp only [Act.put, List.setIfInBounds_toArray, List.set_cons_zero, List.set_cons_succ]
  refine' wpAnyH_take (i := 29) (oi := { dst := some 32, op := Op.move (Operand.tmp 31), type := 4, pos := "ref.go:290", after := #[{ on := 28, ground := Ground.data }, { on := 27, ground := Ground.chain }], guard := none }) (v := ?v54) rfl (by kernel_rfl) (by kernel_rfl) (by kernel_rfl) (fun _ _ _ h => h) (Or.inl ⟨by rfl, ?hy54⟩) (by assumption) ?rest54
  case hy54 => (intro w hSw; obtain ⟨⟨k0, k1, k2, k3, k4, k12, k13, k14⟩, kr⟩ := hSw; go_simp; (try with_reducible rfl))
  simp only [Act.put, List.setIfInBounds_toArray, List.set_cons_zero, List.set_cons_succ]
  refine' wpAnyH_take (i := 30) (oi := { dst := some 33, op := Op.fieldAddr 51 (Operand.tmp 1) 6, type := 0, pos := "ref.go:290", after := #[{ on := 29, ground := Ground.guard }], guard := some (29, false) }) (v := undef) rfl (by kernel_rfl) (by kernel_rfl) (by kernel_rfl) (fun _ _ _ h => h) (Or.inr ⟨by rfl, rfl⟩) (by assumption) ?_
  simp only [Act.put, List.setIfInBounds_toArray, List.set_cons_zero, List.set_cons_succ]
  refine' wpAnyH_take (i := 31) (oi := { dst := some 34, op := Op.fieldAddr 49 (Operand.tmp 33) 0, type := 0, pos := "ref.go:290", after := #[{ on := 30, ground := Ground.data }, { on := 29, ground := Ground.guard }], guard := some (29, false) }) (v := undef) rfl (by kernel_rfl) (by kernel_rfl) (by kernel_rfl) (fun _ _ _ h => h) (Or.inr ⟨by rfl, rfl⟩) (by assumption) ?_
  simp only [Act.put, List.setIfInBounds_toArray, List.set_cons_zero, List.set_cons_succ]
  refine' wpAnyH_take (i := 32) (oi := { dst := some 35, op := Op.load 3 (Operand.tmp 34), type := 3, pos := "ref.go:290", after := #[{ on := 31, ground := Ground.data }, { on := 29, ground := Ground.guard }], guard := some (29, false) }) (v := undef) rfl (by kernel_rfl) (by kernel_rfl) (by kernel_rfl) (fun _ _ _ h => h) (Or.inr ⟨by rfl, rfl⟩) (by assumption) ?_
  simp only [Act.put, List.setIfInBounds_toArray, List.set_cons_zero, List.set_cons_succ]
  refine' wpAnyH_take (i := 33) (oi := { dst := some 36, op := Op.call { callee := Callee.value (Operand.func 69), args := #[Operand.tmp 35], argTypes := #[3] }, type := 4, pos := "ref.go:290", after := #[{ on := 32, ground := Ground.data }, { on := 29, ground := Ground.chain }, { on := 29, ground := Ground.guard }], guard := some (29, false) }) (v := undef) rfl (by kernel_rfl) (by kernel_rfl) (by kernel_rfl) (fun _ _ _ h => h) (Or.inr ⟨by rfl, rfl⟩) (by assumption) ?_
  simp only [Act.put, List.setIfInBounds_toArray, List.set_cons_zero, List.set_cons_succ]
  refine' wpAnyH_take (i := 34) (oi := { dst := some 37, op := Op.pick (Operand.tmp 32) (Operand.const (Value.bool true)) (Operand.tmp 36), type := 4, pos := "ref.go:290", after := #[{ on := 29, ground := Ground.data }, { on := 33, ground := Ground.data }], guard := none }) (v := ?v55) rfl (by kernel_rfl) (by kernel_rfl) (by kernel_rfl) (fun _ _ _ h => h) (Or.inl ⟨by rfl, ?hy55⟩) (by assumption) ?rest55
  case hy55 => (intro w hSw; obtain ⟨⟨k0, k1, k2, k3, k4, k12, k13, k14⟩, kr⟩ := hSw; go_simp; (try with_reducible rfl))
  simp only [Act.put, List.setIfInBounds_toArray, List.set_cons_zero, List.set_cons_succ]
  refine' wpAnyH_take (i := 35) (oi := { dst := some 38, op := Op.move (Operand.tmp 37), type := 4, pos := "ref.go:290", after := #[{ on := 34, ground := Ground.data }, { on := 33, ground := Ground.chain }], guard := none }) (v := ?v56) rfl (by kernel_rfl) (by kernel_rfl) (by kernel_rfl) (fun _ _ _ h => h) (Or.inl ⟨by rfl, ?hy56⟩) (by assumption) ?rest56
  case hy56 => (intro w hSw; obtain ⟨⟨k0, k1, k2, k3, k4, k12, k13, k14⟩, kr⟩ := hSw; go_simp; (try with_reducible rfl))
  simp only [Act.put, List.setIfInBounds_toArray, List.set_cons_zero, List.set_cons_succ]
  refine' wpAnyH_take (i := 36) (oi := { dst := some 39, op := Op.fieldAddr 51 (Operand.tmp 1) 6, type := 0, pos := "ref.go:290", after := #[{ on := 35, ground := Ground.guard }], guard := some (35, false) }) (v := undef) rfl (by kernel_rfl) (by kernel_rfl) (by kernel_rfl) (fun _ _ _ h => h) (Or.inr ⟨by rfl, rfl⟩) (by assumption) ?_
  simp only [Act.put, List.setIfInBounds_toArray, List.set_cons_zero, List.set_cons_succ]
  refine' wpAnyH_take (i := 37) (oi := { dst := some 40, op := Op.fieldAddr 49 (Operand.tmp 39) 1, type := 0, pos := "ref.go:290", after := #[{ on := 36, ground := Ground.data }, { on := 35, ground := Ground.guard }], guard := some (35, false) }) (v := undef) rfl (by kernel_rfl) (by kernel_rfl) (by kernel_rfl) (fun _ _ _ h => h) (Or.inr ⟨by rfl, rfl⟩) (by assumption) ?_
  simp only [Act.put, List.setIfInBounds_toArray, List.set_cons_zero, List.set_cons_succ]
  refine' wpAnyH_take (i := 38) (oi := { dst := some 41, op := Op.load 3 (Operand.tmp 40), type := 3, pos := "ref.go:290", after := #[{ on := 37, ground := Ground.data }, { on := 35, ground := Ground.guard }], guard := some (35, false) }) (v := undef) rfl (by kernel_rfl) (by kernel_rfl) (by kernel_rfl) (fun _ _ _ h => h) (Or.inr ⟨by rfl, rfl⟩) (by assumption) ?_
  simp only [Act.put, List.setIfInBounds_toArray, List.set_cons_zero, List.set_cons_succ]
  refine' wpAnyH_take (i := 39) (oi := { dst := some 42, op := Op.call { callee := Callee.value (Operand.func 69), args := #[Operand.tmp 41], argTypes := #[3] }, type := 4, pos := "ref.go:290", after := #[{ on := 38, ground := Ground.data }, { on := 35, ground := Ground.chain }, { on := 35, ground := Ground.guard }], guard := some (35, false) }) (v := undef) rfl (by kernel_rfl) (by kernel_rfl) (by kernel_rfl) (fun _ _ _ h => h) (Or.inr ⟨by rfl, rfl⟩) (by assumption) ?_
  simp only [Act.put, List.setIfInBounds_toArray, List.set_cons_zero, List.set_cons_succ]
  refine' wpAnyH_take (i := 40) (oi := { dst := some 43, op := Op.pick (Operand.tmp 38) (Operand.const (Value.bool true)) (Operand.tmp 42), type := 4, pos := "ref.go:290", after := #[{ on := 35, ground := Ground.data }, { on := 39, ground := Ground.data }], guard := none }) (v := ?v57) rfl (by kernel_rfl) (by kernel_rfl) (by kernel_rfl) (fun _ _ _ h => h) (Or.inl ⟨by rfl, ?hy57⟩) (by assumption) ?rest57
  case hy57 => (intro w hSw; obtain ⟨⟨k0, k1, k2, k3, k4, k12, k13, k14⟩, kr⟩ := hSw; go_simp; (try with_reducible rfl))
  simp only [Act.put, List.setIfInBounds_toArray, List.set_cons_zero, List.set_cons_succ]
  refine' wpAnyH_take (i := 41) (oi := { dst := some 44, op := Op.move (Operand.tmp 43), type := 4, pos := "ref.go:290", after := #[{ on := 40, ground := Ground.data }, { on := 39, ground := Ground.chain }], guard := none }) (v := ?v58) rfl (by kernel_rfl) (by kernel_rfl) (by kernel_rfl) (fun _ _ _ h => h) (Or.inl ⟨by rfl, ?hy58⟩) (by assumption) ?rest58
  case hy58 => (intro w hSw; obtain ⟨⟨k0, k1, k2, k3, k4, k12, k13, k14⟩, kr⟩ := hSw; go_simp; (try with_reducible rfl))
  simp only [Act.put, List.setIfInBounds_toArray, List.set_cons_zero, List.set_cons_succ]
  refine' wpAnyH_take (i := 42) (oi := { dst := some 45, op := Op.fieldAddr 51 (Operand.tmp 1) 6, type := 0, pos := "ref.go:290", after := #[{ on := 41, ground := Ground.guard }], guard := some (41, false) }) (v := undef) rfl (by kernel_rfl) (by kernel_rfl) (by kernel_rfl) (fun _ _ _ h => h) (Or.inr ⟨by rfl, rfl⟩) (by assumption) ?_
  simp only [Act.put, List.setIfInBounds_toArray, List.set_cons_zero, List.set_cons_succ]
  refine' wpAnyH_take (i := 43) (oi := { dst := some 46, op := Op.fieldAddr 49 (Operand.tmp 45) 2, type := 0, pos := "ref.go:290", after := #[{ on := 42, ground := Ground.data }, { on := 41, ground := Ground.guard }], guard := some (41, false) }) (v := undef) rfl (by kernel_rfl) (by kernel_rfl) (by kernel_rfl) (fun _ _ _ h => h) (Or.inr ⟨by rfl, rfl⟩) (by assumption) ?_
  simp only [Act.put, List.setIfInBounds_toArray, List.set_cons_zero, List.set_cons_succ]
  refine' wpAnyH_take (i := 44) (oi := { dst := some 47, op := Op.load 29 (Operand.tmp 46), type := 29, pos := "ref.go:290", after := #[{ on := 43, ground := Ground.data }, { on := 41, ground := Ground.guard }], guard := some (41, false) }) (v := undef) rfl (by kernel_rfl) (by kernel_rfl) (by kernel_rfl) (fun _ _ _ h => h) (Or.inr ⟨by rfl, rfl⟩) (by assumption) ?_
  simp only [Act.put, List.setIfInBounds_toArray, List.set_cons_zero, List.set_cons_succ]
  refine' wpAnyH_take (i := 45) (oi := { dst := some 48, op := Op.call { callee := Callee.value (Operand.func 69), args := #[Operand.tmp 47], argTypes := #[3] }, type := 4, pos := "ref.go:290", after := #[{ on := 44, ground := Ground.data }, { on := 41, ground := Ground.chain }, { on := 41, ground := Ground.guard }], guard := some (41, false) }) (v := undef) rfl (by kernel_rfl) (by kernel_rfl) (by kernel_rfl) (fun _ _ _ h => h) (Or.inr ⟨by rfl, rfl⟩) (by assumption) ?_
  simp only [Act.put, List.setIfInBounds_toArray, List.set_cons_zero, List.set_cons_succ]
  refine' wpAnyH_take (i := 46) (oi := { dst := some 49, op := Op.pick (Operand.tmp 44) (Operand.const (Value.bool true)) (Operand.tmp 48), type := 4, pos := "ref.go:290", after := #[{ on := 41, ground := Ground.data }, { on := 45, ground := Ground.data }], guard := none }) (v := ?v59) rfl (by kernel_rfl) (by kernel_rfl) (by kernel_rfl) (fun _ _ _ h => h) (Or.inl ⟨by rfl, ?hy59⟩) (by assumption) ?rest59
  case hy59 => (intro w hSw; obtain ⟨⟨k0, k1, k2, k3, k4, k12, k13, k14⟩, kr⟩ := hSw; go_simp; (try with_reducible rfl))
  simp only [Act.put, List.setIfInBounds_toArray, List.set_cons_zero, List.set_cons_succ]
  refine wpAnyH_done (by kernel_rfl) ?_ _
  go_wp2_with fail
  go_ret
  exact ⟨bb hok.out.symm, B2⟩
set_option maxRecDepth 100000 in
set_option maxHeartbeats 8000000 in
theorem rplainNote_3 (n : NoteD) (xs : Array Value) (hx : IsNote xs n) (w : World) (hok : Hid (n.ok = false)) (hq : ∀ W' : World, (binOp .neq 51 (.agg n.cells.toArray) (.agg n.only.cells.toArray)).run Try.prog W' = .ok (.bool false) W') (h1 : (n.kind == 0) = false) (h2 : okN n.epoch = true) (h3 : okN n.version = false) : Calls Try.prog 48 #[.agg xs] w (Tells n.ok w) := by
  have hA : ∀ W, W = w.alloc (.cells xs 51) → NoteAt W w.heap.size n ∧ Below w.heap.size w W := by rw [hx.eq]; exact nat_add n w
  clear hx
  have hgt : ∀ W, W = w.alloc (.cells xs 51) → w.heap.size < W.heap.size := by rintro W rfl; simp
  obtain ⟨W, hW⟩ : ∃ W, W = w.alloc (.cells xs 51) := ⟨_, rfl⟩
  obtain ⟨hN, hB⟩ := hA W hW
  have hlt := hgt W hW
  have HW := Lib.hid hW
  have s0 : NS w.heap.size n W.drew := hN.ns
  clear hA hgt hW
  go_enter Try.func48, Try.ntmps48
  go_wp2_with fail
  rw [← HW.out]
  refine wp_region_held_drew (S := (fun w' => NS w.heap.size n w')) (by kernel_rfl) s0 (fun hHeld => ?_)
  refine' wpAnyH_take (i := 0) (oi := { dst := some 3, op := Op.load 51 (Operand.tmp 1), type := 51, pos := "ref.go:290", after := #[], guard := none }) (v := _) rfl (by kernel_rfl) (by kernel_rfl) (by kernel_rfl) (fun _ _ _ h => h) (yieldsIf_load_mid (by rfl) _ _ rfl _ _ rfl _ _ (fun w h => h.2) Try.underlying51 rfl size_note) (by assumption) ?_
  simp only [Act.put, List.setIfInBounds_toArray, List.set_cons_zero, List.set_cons_succ]
  refine' wpAnyH_take (i := 1) (oi := { dst := some 4, op := Op.load 51 (Operand.tmp 1), type := 51, pos := "ref.go:290", after := #[], guard := none }) (v := _) rfl (by kernel_rfl) (by kernel_rfl) (by kernel_rfl) (fun _ _ _ h => h) (yieldsIf_load_mid (by rfl) _ _ rfl _ _ rfl _ _ (fun w h => h.2) Try.underlying51 rfl size_note) (by assumption) ?_
  simp only [Act.put, List.setIfInBounds_toArray, List.set_cons_zero, List.set_cons_succ]
  refine wpAnyH_ready (rs := [2]) (by kernel_rfl) (by simp) ?_
  refine AllReadyH.cons (o := { dst := some 5, op := Op.call { callee := Callee.value (Operand.func 76), args := #[Operand.tmp 4], argTypes := #[51] }, type := 51, pos := "ref.go:290", after := #[{ on := 1, ground := Ground.data }], guard := none }) rfl (fun K hK => ?_) AllReadyH.nil
  go_simp
  refine (only_any n _ ⟨rfl⟩ _).mono ?_
  rintro e w2 ⟨ys, rfl, hys, b2'⟩
  obtain rfl := hys.eq
  have b2 := below_undrew b2'
  have hN2 := hN.below b2
  have B2 := bel_next hB b2
  go_wp2_with fail
  refine hK.out _ _ hN2.ns (fun hHeld => ?_)
  clear hK K
  try simp only [Act.put, List.setIfInBounds_toArray, List.set_cons_zero, List.set_cons_succ]
  refine' wpAnyH_take (i := 3) (oi := { dst := some 6, op := Op.binOp BinOp.neq 51 (Operand.tmp 3) (Operand.tmp 5) 51, type := 4, pos := "ref.go:290", after := #[{ on := 0, ground := Ground.data }, { on := 2, ground := Ground.data }], guard := none }) (v := ?v60) rfl (by kernel_rfl) (by kernel_rfl) (by kernel_rfl) (fun _ _ _ h => h) (Or.inl ⟨by rfl, ?hy60⟩) (by assumption) ?rest60
  case hy60 => (intro w hSw; obtain ⟨⟨k0, k1, k2, k3, k4, k12, k13, k14⟩, kr⟩ := hSw; go_simp; (try with_reducible rfl))
  simp only [Act.put, List.setIfInBounds_toArray, List.set_cons_zero, List.set_cons_succ]
  refine' wpAnyH_take (i := 4) (oi := { dst := some 7, op := Op.move (Operand.tmp 6), type := 4, pos := "ref.go:290", after := #[{ on := 3, ground := Ground.data }, { on := 2, ground := Ground.chain }], guard := none }) (v := ?v61) rfl (by kernel_rfl) (by kernel_rfl) (by kernel_rfl) (fun _ _ _ h => h) (Or.inl ⟨by rfl, ?hy61⟩) (by assumption) ?rest61
  case hy61 => (intro w hSw; obtain ⟨⟨k0, k1, k2, k3, k4, k12, k13, k14⟩, kr⟩ := hSw; go_simp; (try with_reducible rfl))
  simp only [Act.put, List.setIfInBounds_toArray, List.set_cons_zero, List.set_cons_succ]
  refine' wpAnyH_take (i := 5) (oi := { dst := some 8, op := Op.fieldAddr 51 (Operand.tmp 1) 0, type := 0, pos := "ref.go:290", after := #[{ on := 4, ground := Ground.guard }], guard := some (4, false) }) (v := ?v62) rfl (by kernel_rfl) (by kernel_rfl) (by kernel_rfl) (fun _ _ _ h => h) (Or.inl ⟨by rfl, ?hy62⟩) (by assumption) ?rest62
  case hy62 => (intro w hSw; obtain ⟨⟨k0, k1, k2, k3, k4, k12, k13, k14⟩, kr⟩ := hSw; go_simp; (try with_reducible rfl))
  simp only [Act.put, List.setIfInBounds_toArray, List.set_cons_zero, List.set_cons_succ]
  refine' wpAnyH_take (i := 6) (oi := { dst := some 9, op := Op.load 3 (Operand.tmp 8), type := 3, pos := "ref.go:290", after := #[{ on := 5, ground := Ground.data }, { on := 4, ground := Ground.guard }], guard := some (4, false) }) (v := ?v63) rfl (by kernel_rfl) (by kernel_rfl) (by kernel_rfl) (fun _ _ _ h => h) (Or.inl ⟨by rfl, ?hy63⟩) (by assumption) ?rest63
  case hy63 => (intro w hSw; obtain ⟨⟨k0, k1, k2, k3, k4, k12, k13, k14⟩, kr⟩ := hSw; go_simp; (try with_reducible rfl))
  simp only [Act.put, List.setIfInBounds_toArray, List.set_cons_zero, List.set_cons_succ]
  refine' wpAnyH_take (i := 7) (oi := { dst := some 10, op := Op.binOp BinOp.eql 3 (Operand.tmp 9) (Operand.const (Value.int IntKind.i64 0)) 3, type := 4, pos := "ref.go:290", after := #[{ on := 6, ground := Ground.data }, { on := 4, ground := Ground.guard }], guard := some (4, false) }) (v := ?v64) rfl (by kernel_rfl) (by kernel_rfl) (by kernel_rfl) (fun _ _ _ h => h) (Or.inl ⟨by rfl, ?hy64⟩) (by assumption) ?rest64
  case hy64 => (intro w hSw; obtain ⟨⟨k0, k1, k2, k3, k4, k12, k13, k14⟩, kr⟩ := hSw; go_simp; (try with_reducible rfl))
  simp only [Act.put, List.setIfInBounds_toArray, List.set_cons_zero, List.set_cons_succ]
  refine' wpAnyH_take (i := 8) (oi := { dst := some 11, op := Op.pick (Operand.tmp 7) (Operand.const (Value.bool true)) (Operand.tmp 10), type := 4, pos := "ref.go:290", after := #[{ on := 4, ground := Ground.data }, { on := 7, ground := Ground.data }], guard := none }) (v := ?v65) rfl (by kernel_rfl) (by kernel_rfl) (by kernel_rfl) (fun _ _ _ h => h) (Or.inl ⟨by rfl, ?hy65⟩) (by assumption) ?rest65
  case hy65 => (intro w hSw; obtain ⟨⟨k0, k1, k2, k3, k4, k12, k13, k14⟩, kr⟩ := hSw; go_simp; (try with_reducible rfl))
  simp only [Act.put, List.setIfInBounds_toArray, List.set_cons_zero, List.set_cons_succ]
  refine' wpAnyH_take (i := 9) (oi := { dst := some 12, op := Op.move (Operand.tmp 11), type := 4, pos := "ref.go:290", after := #[{ on := 8, ground := Ground.data }, { on := 4, ground := Ground.chain }], guard := none }) (v := ?v66) rfl (by kernel_rfl) (by kernel_rfl) (by kernel_rfl) (fun _ _ _ h => h) (Or.inl ⟨by rfl, ?hy66⟩) (by assumption) ?rest66
  case hy66 => (intro w hSw; obtain ⟨⟨k0, k1, k2, k3, k4, k12, k13, k14⟩, kr⟩ := hSw; go_simp; (try with_reducible rfl))
  simp only [Act.put, List.setIfInBounds_toArray, List.set_cons_zero, List.set_cons_succ]
  refine' wpAnyH_take (i := 10) (oi := { dst := some 13, op := Op.fieldAddr 51 (Operand.tmp 1) 1, type := 0, pos := "ref.go:290", after := #[{ on := 9, ground := Ground.guard }], guard := some (9, false) }) (v := ?v67) rfl (by kernel_rfl) (by kernel_rfl) (by kernel_rfl) (fun _ _ _ h => h) (Or.inl ⟨by rfl, ?hy67⟩) (by assumption) ?rest67
  case hy67 => (intro w hSw; obtain ⟨⟨k0, k1, k2, k3, k4, k12, k13, k14⟩, kr⟩ := hSw; go_simp; (try with_reducible rfl))
  simp only [Act.put, List.setIfInBounds_toArray, List.set_cons_zero, List.set_cons_succ]
  refine' wpAnyH_take (i := 11) (oi := { dst := some 14, op := Op.load 3 (Operand.tmp 13), type := 3, pos := "ref.go:290", after := #[{ on := 10, ground := Ground.data }, { on := 9, ground := Ground.guard }], guard := some (9, false) }) (v := ?v68) rfl (by kernel_rfl) (by kernel_rfl) (by kernel_rfl) (fun _ _ _ h => h) (Or.inl ⟨by rfl, ?hy68⟩) (by assumption) ?rest68
  case hy68 => (intro w hSw; obtain ⟨⟨k0, k1, k2, k3, k4, k12, k13, k14⟩, kr⟩ := hSw; go_simp; (try with_reducible rfl))
  simp only [Act.put, List.setIfInBounds_toArray, List.set_cons_zero, List.set_cons_succ]
  refine wpAnyH_ready (rs := [12]) (by kernel_rfl) (by simp) ?_
  refine AllReadyH.cons (o := { dst := some 15, op := Op.call { callee := Callee.value (Operand.func 69), args := #[Operand.tmp 14], argTypes := #[3] }, type := 4, pos := "ref.go:290", after := #[{ on := 11, ground := Ground.data }, { on := 9, ground := Ground.chain }, { on := 9, ground := Ground.guard }], guard := some (9, false) }) rfl (fun K hK => ?_) AllReadyH.nil
  go_simp
  refine (bad_any _ _).mono ?_
  rintro e w1 ⟨rfl, rfl⟩
  rw [h2]
  go_wp2_with fail
  refine hK.out _ _ hN2.ns (fun hHeld => ?_)
  clear hK K
  try simp only [Act.put, List.setIfInBounds_toArray, List.set_cons_zero, List.set_cons_succ]
  refine' wpAnyH_take (i := 13) (oi := { dst := some 16, op := Op.pick (Operand.tmp 12) (Operand.const (Value.bool true)) (Operand.tmp 15), type := 4, pos := "ref.go:290", after := #[{ on := 9, ground := Ground.data }, { on := 12, ground := Ground.data }], guard := none }) (v := ?v69) rfl (by kernel_rfl) (by kernel_rfl) (by kernel_rfl) (fun _ _ _ h => h) (Or.inl ⟨by rfl, ?hy69⟩) (by assumption) ?rest69
  case hy69 => (intro w hSw; obtain ⟨⟨k0, k1, k2, k3, k4, k12, k13, k14⟩, kr⟩ := hSw; go_simp; (try with_reducible rfl))
  simp only [Act.put, List.setIfInBounds_toArray, List.set_cons_zero, List.set_cons_succ]
  refine' wpAnyH_take (i := 14) (oi := { dst := some 17, op := Op.move (Operand.tmp 16), type := 4, pos := "ref.go:290", after := #[{ on := 13, ground := Ground.data }, { on := 12, ground := Ground.chain }], guard := none }) (v := ?v70) rfl (by kernel_rfl) (by kernel_rfl) (by kernel_rfl) (fun _ _ _ h => h) (Or.inl ⟨by rfl, ?hy70⟩) (by assumption) ?rest70
  case hy70 => (intro w hSw; obtain ⟨⟨k0, k1, k2, k3, k4, k12, k13, k14⟩, kr⟩ := hSw; go_simp; (try with_reducible rfl))
  simp only [Act.put, List.setIfInBounds_toArray, List.set_cons_zero, List.set_cons_succ]
  refine' wpAnyH_take (i := 15) (oi := { dst := some 18, op := Op.fieldAddr 51 (Operand.tmp 1) 2, type := 0, pos := "ref.go:290", after := #[{ on := 14, ground := Ground.guard }], guard := some (14, false) }) (v := ?v71) rfl (by kernel_rfl) (by kernel_rfl) (by kernel_rfl) (fun _ _ _ h => h) (Or.inl ⟨by rfl, ?hy71⟩) (by assumption) ?rest71
  case hy71 => (intro w hSw; obtain ⟨⟨k0, k1, k2, k3, k4, k12, k13, k14⟩, kr⟩ := hSw; go_simp; (try with_reducible rfl))
  simp only [Act.put, List.setIfInBounds_toArray, List.set_cons_zero, List.set_cons_succ]
  refine' wpAnyH_take (i := 16) (oi := { dst := some 19, op := Op.load 3 (Operand.tmp 18), type := 3, pos := "ref.go:290", after := #[{ on := 15, ground := Ground.data }, { on := 14, ground := Ground.guard }], guard := some (14, false) }) (v := ?v72) rfl (by kernel_rfl) (by kernel_rfl) (by kernel_rfl) (fun _ _ _ h => h) (Or.inl ⟨by rfl, ?hy72⟩) (by assumption) ?rest72
  case hy72 => (intro w hSw; obtain ⟨⟨k0, k1, k2, k3, k4, k12, k13, k14⟩, kr⟩ := hSw; go_simp; (try with_reducible rfl))
  simp only [Act.put, List.setIfInBounds_toArray, List.set_cons_zero, List.set_cons_succ]
  refine wpAnyH_ready (rs := [17]) (by kernel_rfl) (by simp) ?_
  refine AllReadyH.cons (o := { dst := some 20, op := Op.call { callee := Callee.value (Operand.func 69), args := #[Operand.tmp 19], argTypes := #[3] }, type := 4, pos := "ref.go:290", after := #[{ on := 16, ground := Ground.data }, { on := 14, ground := Ground.chain }, { on := 14, ground := Ground.guard }], guard := some (14, false) }) rfl (fun K hK => ?_) AllReadyH.nil
  go_simp
  refine (bad_any _ _).mono ?_
  rintro e w1 ⟨rfl, rfl⟩
  rw [h3]
  go_wp2_with fail
  refine hK.out _ _ hN2.ns (fun hHeld => ?_)
  clear hK K
  try simp only [Act.put, List.setIfInBounds_toArray, List.set_cons_zero, List.set_cons_succ]
  refine' wpAnyH_take (i := 18) (oi := { dst := some 21, op := Op.pick (Operand.tmp 17) (Operand.const (Value.bool true)) (Operand.tmp 20), type := 4, pos := "ref.go:290", after := #[{ on := 14, ground := Ground.data }, { on := 17, ground := Ground.data }], guard := none }) (v := ?v73) rfl (by kernel_rfl) (by kernel_rfl) (by kernel_rfl) (fun _ _ _ h => h) (Or.inl ⟨by rfl, ?hy73⟩) (by assumption) ?rest73
  case hy73 => (intro w hSw; obtain ⟨⟨k0, k1, k2, k3, k4, k12, k13, k14⟩, kr⟩ := hSw; go_simp; (try with_reducible rfl))
  simp only [Act.put, List.setIfInBounds_toArray, List.set_cons_zero, List.set_cons_succ]
  refine' wpAnyH_take (i := 19) (oi := { dst := some 22, op := Op.move (Operand.tmp 21), type := 4, pos := "ref.go:290", after := #[{ on := 18, ground := Ground.data }, { on := 17, ground := Ground.chain }], guard := none }) (v := ?v74) rfl (by kernel_rfl) (by kernel_rfl) (by kernel_rfl) (fun _ _ _ h => h) (Or.inl ⟨by rfl, ?hy74⟩) (by assumption) ?rest74
  case hy74 => (intro w hSw; obtain ⟨⟨k0, k1, k2, k3, k4, k12, k13, k14⟩, kr⟩ := hSw; go_simp; (try with_reducible rfl))
  simp only [Act.put, List.setIfInBounds_toArray, List.set_cons_zero, List.set_cons_succ]
  refine' wpAnyH_take (i := 20) (oi := { dst := some 23, op := Op.fieldAddr 51 (Operand.tmp 1) 3, type := 0, pos := "ref.go:290", after := #[{ on := 19, ground := Ground.guard }], guard := some (19, false) }) (v := undef) rfl (by kernel_rfl) (by kernel_rfl) (by kernel_rfl) (fun _ _ _ h => h) (Or.inr ⟨by rfl, rfl⟩) (by assumption) ?_
  simp only [Act.put, List.setIfInBounds_toArray, List.set_cons_zero, List.set_cons_succ]
  refine' wpAnyH_take (i := 21) (oi := { dst := some 24, op := Op.load 3 (Operand.tmp 23), type := 3, pos := "ref.go:290", after := #[{ on := 20, ground := Ground.data }, { on := 19, ground := Ground.guard }], guard := some (19, false) }) (v := undef) rfl (by kernel_rfl) (by kernel_rfl) (by kernel_rfl) (fun _ _ _ h => h) (Or.inr ⟨by rfl, rfl⟩) (by assumption) ?_
  simp only [Act.put, List.setIfInBounds_toArray, List.set_cons_zero, List.set_cons_succ]
  refine' wpAnyH_take (i := 22) (oi := { dst := some 25, op := Op.call { callee := Callee.value (Operand.func 69), args := #[Operand.tmp 24], argTypes := #[3] }, type := 4, pos := "ref.go:290", after := #[{ on := 21, ground := Ground.data }, { on := 19, ground := Ground.chain }, { on := 19, ground := Ground.guard }], guard := some (19, false) }) (v := undef) rfl (by kernel_rfl) (by kernel_rfl) (by kernel_rfl) (fun _ _ _ h => h) (Or.inr ⟨by rfl, rfl⟩) (by assumption) ?_
  simp only [Act.put, List.setIfInBounds_toArray, List.set_cons_zero, List.set_cons_succ]
  refine' wpAnyH_take (i := 23) (oi := { dst := some 26, op := Op.pick (Operand.tmp 22) (Operand.const (Value.bool true)) (Operand.tmp 25), type := 4, pos := "ref.go:290", after := #[{ on := 19, ground := Ground.data }, { on := 22, ground := Ground.data }], guard := none }) (v := ?v75) rfl (by kernel_rfl) (by kernel_rfl) (by kernel_rfl) (fun _ _ _ h => h) (Or.inl ⟨by rfl, ?hy75⟩) (by assumption) ?rest75
  case hy75 => (intro w hSw; obtain ⟨⟨k0, k1, k2, k3, k4, k12, k13, k14⟩, kr⟩ := hSw; go_simp; (try with_reducible rfl))
  simp only [Act.put, List.setIfInBounds_toArray, List.set_cons_zero, List.set_cons_succ]
  refine' wpAnyH_take (i := 24) (oi := { dst := some 27, op := Op.move (Operand.tmp 26), type := 4, pos := "ref.go:290", after := #[{ on := 23, ground := Ground.data }, { on := 22, ground := Ground.chain }], guard := none }) (v := ?v76) rfl (by kernel_rfl) (by kernel_rfl) (by kernel_rfl) (fun _ _ _ h => h) (Or.inl ⟨by rfl, ?hy76⟩) (by assumption) ?rest76
  case hy76 => (intro w hSw; obtain ⟨⟨k0, k1, k2, k3, k4, k12, k13, k14⟩, kr⟩ := hSw; go_simp; (try with_reducible rfl))
  simp only [Act.put, List.setIfInBounds_toArray, List.set_cons_zero, List.set_cons_succ]
  refine' wpAnyH_take (i := 25) (oi := { dst := some 28, op := Op.fieldAddr 51 (Operand.tmp 1) 4, type := 0, pos := "ref.go:290", after := #[{ on := 24, ground := Ground.guard }], guard := some (24, false) }) (v := undef) rfl (by kernel_rfl) (by kernel_rfl) (by kernel_rfl) (fun _ _ _ h => h) (Or.inr ⟨by rfl, rfl⟩) (by assumption) ?_
  simp only [Act.put, List.setIfInBounds_toArray, List.set_cons_zero, List.set_cons_succ]
  refine' wpAnyH_take (i := 26) (oi := { dst := some 29, op := Op.load 3 (Operand.tmp 28), type := 3, pos := "ref.go:290", after := #[{ on := 25, ground := Ground.data }, { on := 24, ground := Ground.guard }], guard := some (24, false) }) (v := undef) rfl (by kernel_rfl) (by kernel_rfl) (by kernel_rfl) (fun _ _ _ h => h) (Or.inr ⟨by rfl, rfl⟩) (by assumption) ?_
  simp only [Act.put, List.setIfInBounds_toArray, List.set_cons_zero, List.set_cons_succ]
  refine' wpAnyH_take (i := 27) (oi := { dst := some 30, op := Op.call { callee := Callee.value (Operand.func 69), args := #[Operand.tmp 29], argTypes := #[3] }, type := 4, pos := "ref.go:290", after := #[{ on := 26, ground := Ground.data }, { on := 24, ground := Ground.chain }, { on := 24, ground := Ground.guard }], guard := some (24, false) }) (v := undef) rfl (by kernel_rfl) (by kernel_rfl) (by kernel_rfl) (fun _ _ _ h => h) (Or.inr ⟨by rfl, rfl⟩) (by assumption) ?_
  simp only [Act.put, List.setIfInBounds_toArray, List.set_cons_zero, List.set_cons_succ]
  refine' wpAnyH_take (i := 28) (oi := { dst := some 31, op := Op.pick (Operand.tmp 27) (Operand.const (Value.bool true)) (Operand.tmp 30), type := 4, pos := "ref.go:290", after := #[{ on := 24, ground := Ground.data }, { on := 27, ground := Ground.data }], guard := none }) (v := ?v77) rfl (by kernel_rfl) (by kernel_rfl) (by kernel_rfl) (fun _ _ _ h => h) (Or.inl ⟨by rfl, ?hy77⟩) (by assumption) ?rest77
  case hy77 => (intro w hSw; obtain ⟨⟨k0, k1, k2, k3, k4, k12, k13, k14⟩, kr⟩ := hSw; go_simp; (try with_reducible rfl))
  simp only [Act.put, List.setIfInBounds_toArray, List.set_cons_zero, List.set_cons_succ]
  refine' wpAnyH_take (i := 29) (oi := { dst := some 32, op := Op.move (Operand.tmp 31), type := 4, pos := "ref.go:290", after := #[{ on := 28, ground := Ground.data }, { on := 27, ground := Ground.chain }], guard := none }) (v := ?v78) rfl (by kernel_rfl) (by kernel_rfl) (by kernel_rfl) (fun _ _ _ h => h) (Or.inl ⟨by rfl, ?hy78⟩) (by assumption) ?rest78
  case hy78 => (intro w hSw; obtain ⟨⟨k0, k1, k2, k3, k4, k12, k13, k14⟩, kr⟩ := hSw; go_simp; (try with_reducible rfl))
  simp only [Act.put, List.setIfInBounds_toArray, List.set_cons_zero, List.set_cons_succ]
  refine' wpAnyH_take (i := 30) (oi := { dst := some 33, op := Op.fieldAddr 51 (Operand.tmp 1) 6, type := 0, pos := "ref.go:290", after := #[{ on := 29, ground := Ground.guard }], guard := some (29, false) }) (v := undef) rfl (by kernel_rfl) (by kernel_rfl) (by kernel_rfl) (fun _ _ _ h => h) (Or.inr ⟨by rfl, rfl⟩) (by assumption) ?_
  simp only [Act.put, List.setIfInBounds_toArray, List.set_cons_zero, List.set_cons_succ]
  refine' wpAnyH_take (i := 31) (oi := { dst := some 34, op := Op.fieldAddr 49 (Operand.tmp 33) 0, type := 0, pos := "ref.go:290", after := #[{ on := 30, ground := Ground.data }, { on := 29, ground := Ground.guard }], guard := some (29, false) }) (v := undef) rfl (by kernel_rfl) (by kernel_rfl) (by kernel_rfl) (fun _ _ _ h => h) (Or.inr ⟨by rfl, rfl⟩) (by assumption) ?_
  simp only [Act.put, List.setIfInBounds_toArray, List.set_cons_zero, List.set_cons_succ]
  refine' wpAnyH_take (i := 32) (oi := { dst := some 35, op := Op.load 3 (Operand.tmp 34), type := 3, pos := "ref.go:290", after := #[{ on := 31, ground := Ground.data }, { on := 29, ground := Ground.guard }], guard := some (29, false) }) (v := undef) rfl (by kernel_rfl) (by kernel_rfl) (by kernel_rfl) (fun _ _ _ h => h) (Or.inr ⟨by rfl, rfl⟩) (by assumption) ?_
  simp only [Act.put, List.setIfInBounds_toArray, List.set_cons_zero, List.set_cons_succ]
  refine' wpAnyH_take (i := 33) (oi := { dst := some 36, op := Op.call { callee := Callee.value (Operand.func 69), args := #[Operand.tmp 35], argTypes := #[3] }, type := 4, pos := "ref.go:290", after := #[{ on := 32, ground := Ground.data }, { on := 29, ground := Ground.chain }, { on := 29, ground := Ground.guard }], guard := some (29, false) }) (v := undef) rfl (by kernel_rfl) (by kernel_rfl) (by kernel_rfl) (fun _ _ _ h => h) (Or.inr ⟨by rfl, rfl⟩) (by assumption) ?_
  simp only [Act.put, List.setIfInBounds_toArray, List.set_cons_zero, List.set_cons_succ]
  refine' wpAnyH_take (i := 34) (oi := { dst := some 37, op := Op.pick (Operand.tmp 32) (Operand.const (Value.bool true)) (Operand.tmp 36), type := 4, pos := "ref.go:290", after := #[{ on := 29, ground := Ground.data }, { on := 33, ground := Ground.data }], guard := none }) (v := ?v79) rfl (by kernel_rfl) (by kernel_rfl) (by kernel_rfl) (fun _ _ _ h => h) (Or.inl ⟨by rfl, ?hy79⟩) (by assumption) ?rest79
  case hy79 => (intro w hSw; obtain ⟨⟨k0, k1, k2, k3, k4, k12, k13, k14⟩, kr⟩ := hSw; go_simp; (try with_reducible rfl))
  simp only [Act.put, List.setIfInBounds_toArray, List.set_cons_zero, List.set_cons_succ]
  refine' wpAnyH_take (i := 35) (oi := { dst := some 38, op := Op.move (Operand.tmp 37), type := 4, pos := "ref.go:290", after := #[{ on := 34, ground := Ground.data }, { on := 33, ground := Ground.chain }], guard := none }) (v := ?v80) rfl (by kernel_rfl) (by kernel_rfl) (by kernel_rfl) (fun _ _ _ h => h) (Or.inl ⟨by rfl, ?hy80⟩) (by assumption) ?rest80
  case hy80 => (intro w hSw; obtain ⟨⟨k0, k1, k2, k3, k4, k12, k13, k14⟩, kr⟩ := hSw; go_simp; (try with_reducible rfl))
  simp only [Act.put, List.setIfInBounds_toArray, List.set_cons_zero, List.set_cons_succ]
  refine' wpAnyH_take (i := 36) (oi := { dst := some 39, op := Op.fieldAddr 51 (Operand.tmp 1) 6, type := 0, pos := "ref.go:290", after := #[{ on := 35, ground := Ground.guard }], guard := some (35, false) }) (v := undef) rfl (by kernel_rfl) (by kernel_rfl) (by kernel_rfl) (fun _ _ _ h => h) (Or.inr ⟨by rfl, rfl⟩) (by assumption) ?_
  simp only [Act.put, List.setIfInBounds_toArray, List.set_cons_zero, List.set_cons_succ]
  refine' wpAnyH_take (i := 37) (oi := { dst := some 40, op := Op.fieldAddr 49 (Operand.tmp 39) 1, type := 0, pos := "ref.go:290", after := #[{ on := 36, ground := Ground.data }, { on := 35, ground := Ground.guard }], guard := some (35, false) }) (v := undef) rfl (by kernel_rfl) (by kernel_rfl) (by kernel_rfl) (fun _ _ _ h => h) (Or.inr ⟨by rfl, rfl⟩) (by assumption) ?_
  simp only [Act.put, List.setIfInBounds_toArray, List.set_cons_zero, List.set_cons_succ]
  refine' wpAnyH_take (i := 38) (oi := { dst := some 41, op := Op.load 3 (Operand.tmp 40), type := 3, pos := "ref.go:290", after := #[{ on := 37, ground := Ground.data }, { on := 35, ground := Ground.guard }], guard := some (35, false) }) (v := undef) rfl (by kernel_rfl) (by kernel_rfl) (by kernel_rfl) (fun _ _ _ h => h) (Or.inr ⟨by rfl, rfl⟩) (by assumption) ?_
  simp only [Act.put, List.setIfInBounds_toArray, List.set_cons_zero, List.set_cons_succ]
  refine' wpAnyH_take (i := 39) (oi := { dst := some 42, op := Op.call { callee := Callee.value (Operand.func 69), args := #[Operand.tmp 41], argTypes := #[3] }, type := 4, pos := "ref.go:290", after := #[{ on := 38, ground := Ground.data }, { on := 35, ground := Ground.chain }, { on := 35, ground := Ground.guard }], guard := some (35, false) }) (v := undef) rfl (by kernel_rfl) (by kernel_rfl) (by kernel_rfl) (fun _ _ _ h => h) (Or.inr ⟨by rfl, rfl⟩) (by assumption) ?_
  simp only [Act.put, List.setIfInBounds_toArray, List.set_cons_zero, List.set_cons_succ]
  refine' wpAnyH_take (i := 40) (oi := { dst := some 43, op := Op.pick (Operand.tmp 38) (Operand.const (Value.bool true)) (Operand.tmp 42), type := 4, pos := "ref.go:290", after := #[{ on := 35, ground := Ground.data }, { on := 39, ground := Ground.data }], guard := none }) (v := ?v81) rfl (by kernel_rfl) (by kernel_rfl) (by kernel_rfl) (fun _ _ _ h => h) (Or.inl ⟨by rfl, ?hy81⟩) (by assumption) ?rest81
  case hy81 => (intro w hSw; obtain ⟨⟨k0, k1, k2, k3, k4, k12, k13, k14⟩, kr⟩ := hSw; go_simp; (try with_reducible rfl))
  simp only [Act.put, List.setIfInBounds_toArray, List.set_cons_zero, List.set_cons_succ]
  refine' wpAnyH_take (i := 41) (oi := { dst := some 44, op := Op.move (Operand.tmp 43), type := 4, pos := "ref.go:290", after := #[{ on := 40, ground := Ground.data }, { on := 39, ground := Ground.chain }], guard := none }) (v := ?v82) rfl (by kernel_rfl) (by kernel_rfl) (by kernel_rfl) (fun _ _ _ h => h) (Or.inl ⟨by rfl, ?hy82⟩) (by assumption) ?rest82
  case hy82 => (intro w hSw; obtain ⟨⟨k0, k1, k2, k3, k4, k12, k13, k14⟩, kr⟩ := hSw; go_simp; (try with_reducible rfl))
  simp only [Act.put, List.setIfInBounds_toArray, List.set_cons_zero, List.set_cons_succ]
  refine' wpAnyH_take (i := 42) (oi := { dst := some 45, op := Op.fieldAddr 51 (Operand.tmp 1) 6, type := 0, pos := "ref.go:290", after := #[{ on := 41, ground := Ground.guard }], guard := some (41, false) }) (v := undef) rfl (by kernel_rfl) (by kernel_rfl) (by kernel_rfl) (fun _ _ _ h => h) (Or.inr ⟨by rfl, rfl⟩) (by assumption) ?_
  simp only [Act.put, List.setIfInBounds_toArray, List.set_cons_zero, List.set_cons_succ]
  refine' wpAnyH_take (i := 43) (oi := { dst := some 46, op := Op.fieldAddr 49 (Operand.tmp 45) 2, type := 0, pos := "ref.go:290", after := #[{ on := 42, ground := Ground.data }, { on := 41, ground := Ground.guard }], guard := some (41, false) }) (v := undef) rfl (by kernel_rfl) (by kernel_rfl) (by kernel_rfl) (fun _ _ _ h => h) (Or.inr ⟨by rfl, rfl⟩) (by assumption) ?_
  simp only [Act.put, List.setIfInBounds_toArray, List.set_cons_zero, List.set_cons_succ]
  refine' wpAnyH_take (i := 44) (oi := { dst := some 47, op := Op.load 29 (Operand.tmp 46), type := 29, pos := "ref.go:290", after := #[{ on := 43, ground := Ground.data }, { on := 41, ground := Ground.guard }], guard := some (41, false) }) (v := undef) rfl (by kernel_rfl) (by kernel_rfl) (by kernel_rfl) (fun _ _ _ h => h) (Or.inr ⟨by rfl, rfl⟩) (by assumption) ?_
  simp only [Act.put, List.setIfInBounds_toArray, List.set_cons_zero, List.set_cons_succ]
  refine' wpAnyH_take (i := 45) (oi := { dst := some 48, op := Op.call { callee := Callee.value (Operand.func 69), args := #[Operand.tmp 47], argTypes := #[3] }, type := 4, pos := "ref.go:290", after := #[{ on := 44, ground := Ground.data }, { on := 41, ground := Ground.chain }, { on := 41, ground := Ground.guard }], guard := some (41, false) }) (v := undef) rfl (by kernel_rfl) (by kernel_rfl) (by kernel_rfl) (fun _ _ _ h => h) (Or.inr ⟨by rfl, rfl⟩) (by assumption) ?_
  simp only [Act.put, List.setIfInBounds_toArray, List.set_cons_zero, List.set_cons_succ]
  refine' wpAnyH_take (i := 46) (oi := { dst := some 49, op := Op.pick (Operand.tmp 44) (Operand.const (Value.bool true)) (Operand.tmp 48), type := 4, pos := "ref.go:290", after := #[{ on := 41, ground := Ground.data }, { on := 45, ground := Ground.data }], guard := none }) (v := ?v83) rfl (by kernel_rfl) (by kernel_rfl) (by kernel_rfl) (fun _ _ _ h => h) (Or.inl ⟨by rfl, ?hy83⟩) (by assumption) ?rest83
  case hy83 => (intro w hSw; obtain ⟨⟨k0, k1, k2, k3, k4, k12, k13, k14⟩, kr⟩ := hSw; go_simp; (try with_reducible rfl))
  simp only [Act.put, List.setIfInBounds_toArray, List.set_cons_zero, List.set_cons_succ]
  refine wpAnyH_done (by kernel_rfl) ?_ _
  go_wp2_with fail
  go_ret
  exact ⟨bb hok.out.symm, B2⟩
set_option maxRecDepth 100000 in
set_option maxHeartbeats 8000000 in
theorem rplainNote_4 (n : NoteD) (xs : Array Value) (hx : IsNote xs n) (w : World) (hok : Hid (n.ok = false)) (hq : ∀ W' : World, (binOp .neq 51 (.agg n.cells.toArray) (.agg n.only.cells.toArray)).run Try.prog W' = .ok (.bool false) W') (h1 : (n.kind == 0) = false) (h2 : okN n.epoch = true) (h3 : okN n.version = true) (h4 : okN n.next = false) : Calls Try.prog 48 #[.agg xs] w (Tells n.ok w) := by
  have hA : ∀ W, W = w.alloc (.cells xs 51) → NoteAt W w.heap.size n ∧ Below w.heap.size w W := by rw [hx.eq]; exact nat_add n w
  clear hx
  have hgt : ∀ W, W = w.alloc (.cells xs 51) → w.heap.size < W.heap.size := by rintro W rfl; simp
  obtain ⟨W, hW⟩ : ∃ W, W = w.alloc (.cells xs 51) := ⟨_, rfl⟩
  obtain ⟨hN, hB⟩ := hA W hW
  have hlt := hgt W hW
  have HW := Lib.hid hW
  have s0 : NS w.heap.size n W.drew := hN.ns
  clear hA hgt hW
  go_enter Try.func48, Try.ntmps48
  go_wp2_with fail
  rw [← HW.out]
  refine wp_region_held_drew (S := (fun w' => NS w.heap.size n w')) (by kernel_rfl) s0 (fun hHeld => ?_)
  refine' wpAnyH_take (i := 0) (oi := { dst := some 3, op := Op.load 51 (Operand.tmp 1), type := 51, pos := "ref.go:290", after := #[], guard := none }) (v := _) rfl (by kernel_rfl) (by kernel_rfl) (by kernel_rfl) (fun _ _ _ h => h) (yieldsIf_load_mid (by rfl) _ _ rfl _ _ rfl _ _ (fun w h => h.2) Try.underlying51 rfl size_note) (by assumption) ?_
  simp only [Act.put, List.setIfInBounds_toArray, List.set_cons_zero, List.set_cons_succ]
  refine' wpAnyH_take (i := 1) (oi := { dst := some 4, op := Op.load 51 (Operand.tmp 1), type := 51, pos := "ref.go:290", after := #[], guard := none }) (v := _) rfl (by kernel_rfl) (by kernel_rfl) (by kernel_rfl) (fun _ _ _ h => h) (yieldsIf_load_mid (by rfl) _ _ rfl _ _ rfl _ _ (fun w h => h.2) Try.underlying51 rfl size_note) (by assumption) ?_
  simp only [Act.put, List.setIfInBounds_toArray, List.set_cons_zero, List.set_cons_succ]
  refine wpAnyH_ready (rs := [2]) (by kernel_rfl) (by simp) ?_
  refine AllReadyH.cons (o := { dst := some 5, op := Op.call { callee := Callee.value (Operand.func 76), args := #[Operand.tmp 4], argTypes := #[51] }, type := 51, pos := "ref.go:290", after := #[{ on := 1, ground := Ground.data }], guard := none }) rfl (fun K hK => ?_) AllReadyH.nil
  go_simp
  refine (only_any n _ ⟨rfl⟩ _).mono ?_
  rintro e w2 ⟨ys, rfl, hys, b2'⟩
  obtain rfl := hys.eq
  have b2 := below_undrew b2'
  have hN2 := hN.below b2
  have B2 := bel_next hB b2
  go_wp2_with fail
  refine hK.out _ _ hN2.ns (fun hHeld => ?_)
  clear hK K
  try simp only [Act.put, List.setIfInBounds_toArray, List.set_cons_zero, List.set_cons_succ]
  refine' wpAnyH_take (i := 3) (oi := { dst := some 6, op := Op.binOp BinOp.neq 51 (Operand.tmp 3) (Operand.tmp 5) 51, type := 4, pos := "ref.go:290", after := #[{ on := 0, ground := Ground.data }, { on := 2, ground := Ground.data }], guard := none }) (v := ?v84) rfl (by kernel_rfl) (by kernel_rfl) (by kernel_rfl) (fun _ _ _ h => h) (Or.inl ⟨by rfl, ?hy84⟩) (by assumption) ?rest84
  case hy84 => (intro w hSw; obtain ⟨⟨k0, k1, k2, k3, k4, k12, k13, k14⟩, kr⟩ := hSw; go_simp; (try with_reducible rfl))
  simp only [Act.put, List.setIfInBounds_toArray, List.set_cons_zero, List.set_cons_succ]
  refine' wpAnyH_take (i := 4) (oi := { dst := some 7, op := Op.move (Operand.tmp 6), type := 4, pos := "ref.go:290", after := #[{ on := 3, ground := Ground.data }, { on := 2, ground := Ground.chain }], guard := none }) (v := ?v85) rfl (by kernel_rfl) (by kernel_rfl) (by kernel_rfl) (fun _ _ _ h => h) (Or.inl ⟨by rfl, ?hy85⟩) (by assumption) ?rest85
  case hy85 => (intro w hSw; obtain ⟨⟨k0, k1, k2, k3, k4, k12, k13, k14⟩, kr⟩ := hSw; go_simp; (try with_reducible rfl))
  simp only [Act.put, List.setIfInBounds_toArray, List.set_cons_zero, List.set_cons_succ]
  refine' wpAnyH_take (i := 5) (oi := { dst := some 8, op := Op.fieldAddr 51 (Operand.tmp 1) 0, type := 0, pos := "ref.go:290", after := #[{ on := 4, ground := Ground.guard }], guard := some (4, false) }) (v := ?v86) rfl (by kernel_rfl) (by kernel_rfl) (by kernel_rfl) (fun _ _ _ h => h) (Or.inl ⟨by rfl, ?hy86⟩) (by assumption) ?rest86
  case hy86 => (intro w hSw; obtain ⟨⟨k0, k1, k2, k3, k4, k12, k13, k14⟩, kr⟩ := hSw; go_simp; (try with_reducible rfl))
  simp only [Act.put, List.setIfInBounds_toArray, List.set_cons_zero, List.set_cons_succ]
  refine' wpAnyH_take (i := 6) (oi := { dst := some 9, op := Op.load 3 (Operand.tmp 8), type := 3, pos := "ref.go:290", after := #[{ on := 5, ground := Ground.data }, { on := 4, ground := Ground.guard }], guard := some (4, false) }) (v := ?v87) rfl (by kernel_rfl) (by kernel_rfl) (by kernel_rfl) (fun _ _ _ h => h) (Or.inl ⟨by rfl, ?hy87⟩) (by assumption) ?rest87
  case hy87 => (intro w hSw; obtain ⟨⟨k0, k1, k2, k3, k4, k12, k13, k14⟩, kr⟩ := hSw; go_simp; (try with_reducible rfl))
  simp only [Act.put, List.setIfInBounds_toArray, List.set_cons_zero, List.set_cons_succ]
  refine' wpAnyH_take (i := 7) (oi := { dst := some 10, op := Op.binOp BinOp.eql 3 (Operand.tmp 9) (Operand.const (Value.int IntKind.i64 0)) 3, type := 4, pos := "ref.go:290", after := #[{ on := 6, ground := Ground.data }, { on := 4, ground := Ground.guard }], guard := some (4, false) }) (v := ?v88) rfl (by kernel_rfl) (by kernel_rfl) (by kernel_rfl) (fun _ _ _ h => h) (Or.inl ⟨by rfl, ?hy88⟩) (by assumption) ?rest88
  case hy88 => (intro w hSw; obtain ⟨⟨k0, k1, k2, k3, k4, k12, k13, k14⟩, kr⟩ := hSw; go_simp; (try with_reducible rfl))
  simp only [Act.put, List.setIfInBounds_toArray, List.set_cons_zero, List.set_cons_succ]
  refine' wpAnyH_take (i := 8) (oi := { dst := some 11, op := Op.pick (Operand.tmp 7) (Operand.const (Value.bool true)) (Operand.tmp 10), type := 4, pos := "ref.go:290", after := #[{ on := 4, ground := Ground.data }, { on := 7, ground := Ground.data }], guard := none }) (v := ?v89) rfl (by kernel_rfl) (by kernel_rfl) (by kernel_rfl) (fun _ _ _ h => h) (Or.inl ⟨by rfl, ?hy89⟩) (by assumption) ?rest89
  case hy89 => (intro w hSw; obtain ⟨⟨k0, k1, k2, k3, k4, k12, k13, k14⟩, kr⟩ := hSw; go_simp; (try with_reducible rfl))
  simp only [Act.put, List.setIfInBounds_toArray, List.set_cons_zero, List.set_cons_succ]
  refine' wpAnyH_take (i := 9) (oi := { dst := some 12, op := Op.move (Operand.tmp 11), type := 4, pos := "ref.go:290", after := #[{ on := 8, ground := Ground.data }, { on := 4, ground := Ground.chain }], guard := none }) (v := ?v90) rfl (by kernel_rfl) (by kernel_rfl) (by kernel_rfl) (fun _ _ _ h => h) (Or.inl ⟨by rfl, ?hy90⟩) (by assumption) ?rest90
  case hy90 => (intro w hSw; obtain ⟨⟨k0, k1, k2, k3, k4, k12, k13, k14⟩, kr⟩ := hSw; go_simp; (try with_reducible rfl))
  simp only [Act.put, List.setIfInBounds_toArray, List.set_cons_zero, List.set_cons_succ]
  refine' wpAnyH_take (i := 10) (oi := { dst := some 13, op := Op.fieldAddr 51 (Operand.tmp 1) 1, type := 0, pos := "ref.go:290", after := #[{ on := 9, ground := Ground.guard }], guard := some (9, false) }) (v := ?v91) rfl (by kernel_rfl) (by kernel_rfl) (by kernel_rfl) (fun _ _ _ h => h) (Or.inl ⟨by rfl, ?hy91⟩) (by assumption) ?rest91
  case hy91 => (intro w hSw; obtain ⟨⟨k0, k1, k2, k3, k4, k12, k13, k14⟩, kr⟩ := hSw; go_simp; (try with_reducible rfl))
  simp only [Act.put, List.setIfInBounds_toArray, List.set_cons_zero, List.set_cons_succ]
  refine' wpAnyH_take (i := 11) (oi := { dst := some 14, op := Op.load 3 (Operand.tmp 13), type := 3, pos := "ref.go:290", after := #[{ on := 10, ground := Ground.data }, { on := 9, ground := Ground.guard }], guard := some (9, false) }) (v := ?v92) rfl (by kernel_rfl) (by kernel_rfl) (by kernel_rfl) (fun _ _ _ h => h) (Or.inl ⟨by rfl, ?hy92⟩) (by assumption) ?rest92
  case hy92 => (intro w hSw; obtain ⟨⟨k0, k1, k2, k3, k4, k12, k13, k14⟩, kr⟩ := hSw; go_simp; (try with_reducible rfl))
  simp only [Act.put, List.setIfInBounds_toArray, List.set_cons_zero, List.set_cons_succ]
  refine wpAnyH_ready (rs := [12]) (by kernel_rfl) (by simp) ?_
  refine AllReadyH.cons (o := { dst := some 15, op := Op.call { callee := Callee.value (Operand.func 69), args := #[Operand.tmp 14], argTypes := #[3] }, type := 4, pos := "ref.go:290", after := #[{ on := 11, ground := Ground.data }, { on := 9, ground := Ground.chain }, { on := 9, ground := Ground.guard }], guard := some (9, false) }) rfl (fun K hK => ?_) AllReadyH.nil
  go_simp
  refine (bad_any _ _).mono ?_
  rintro e w1 ⟨rfl, rfl⟩
  rw [h2]
  go_wp2_with fail
  refine hK.out _ _ hN2.ns (fun hHeld => ?_)
  clear hK K
  try simp only [Act.put, List.setIfInBounds_toArray, List.set_cons_zero, List.set_cons_succ]
  refine' wpAnyH_take (i := 13) (oi := { dst := some 16, op := Op.pick (Operand.tmp 12) (Operand.const (Value.bool true)) (Operand.tmp 15), type := 4, pos := "ref.go:290", after := #[{ on := 9, ground := Ground.data }, { on := 12, ground := Ground.data }], guard := none }) (v := ?v93) rfl (by kernel_rfl) (by kernel_rfl) (by kernel_rfl) (fun _ _ _ h => h) (Or.inl ⟨by rfl, ?hy93⟩) (by assumption) ?rest93
  case hy93 => (intro w hSw; obtain ⟨⟨k0, k1, k2, k3, k4, k12, k13, k14⟩, kr⟩ := hSw; go_simp; (try with_reducible rfl))
  simp only [Act.put, List.setIfInBounds_toArray, List.set_cons_zero, List.set_cons_succ]
  refine' wpAnyH_take (i := 14) (oi := { dst := some 17, op := Op.move (Operand.tmp 16), type := 4, pos := "ref.go:290", after := #[{ on := 13, ground := Ground.data }, { on := 12, ground := Ground.chain }], guard := none }) (v := ?v94) rfl (by kernel_rfl) (by kernel_rfl) (by kernel_rfl) (fun _ _ _ h => h) (Or.inl ⟨by rfl, ?hy94⟩) (by assumption) ?rest94
  case hy94 => (intro w hSw; obtain ⟨⟨k0, k1, k2, k3, k4, k12, k13, k14⟩, kr⟩ := hSw; go_simp; (try with_reducible rfl))
  simp only [Act.put, List.setIfInBounds_toArray, List.set_cons_zero, List.set_cons_succ]
  refine' wpAnyH_take (i := 15) (oi := { dst := some 18, op := Op.fieldAddr 51 (Operand.tmp 1) 2, type := 0, pos := "ref.go:290", after := #[{ on := 14, ground := Ground.guard }], guard := some (14, false) }) (v := ?v95) rfl (by kernel_rfl) (by kernel_rfl) (by kernel_rfl) (fun _ _ _ h => h) (Or.inl ⟨by rfl, ?hy95⟩) (by assumption) ?rest95
  case hy95 => (intro w hSw; obtain ⟨⟨k0, k1, k2, k3, k4, k12, k13, k14⟩, kr⟩ := hSw; go_simp; (try with_reducible rfl))
  simp only [Act.put, List.setIfInBounds_toArray, List.set_cons_zero, List.set_cons_succ]
  refine' wpAnyH_take (i := 16) (oi := { dst := some 19, op := Op.load 3 (Operand.tmp 18), type := 3, pos := "ref.go:290", after := #[{ on := 15, ground := Ground.data }, { on := 14, ground := Ground.guard }], guard := some (14, false) }) (v := ?v96) rfl (by kernel_rfl) (by kernel_rfl) (by kernel_rfl) (fun _ _ _ h => h) (Or.inl ⟨by rfl, ?hy96⟩) (by assumption) ?rest96
  case hy96 => (intro w hSw; obtain ⟨⟨k0, k1, k2, k3, k4, k12, k13, k14⟩, kr⟩ := hSw; go_simp; (try with_reducible rfl))
  simp only [Act.put, List.setIfInBounds_toArray, List.set_cons_zero, List.set_cons_succ]
  refine wpAnyH_ready (rs := [17]) (by kernel_rfl) (by simp) ?_
  refine AllReadyH.cons (o := { dst := some 20, op := Op.call { callee := Callee.value (Operand.func 69), args := #[Operand.tmp 19], argTypes := #[3] }, type := 4, pos := "ref.go:290", after := #[{ on := 16, ground := Ground.data }, { on := 14, ground := Ground.chain }, { on := 14, ground := Ground.guard }], guard := some (14, false) }) rfl (fun K hK => ?_) AllReadyH.nil
  go_simp
  refine (bad_any _ _).mono ?_
  rintro e w1 ⟨rfl, rfl⟩
  rw [h3]
  go_wp2_with fail
  refine hK.out _ _ hN2.ns (fun hHeld => ?_)
  clear hK K
  try simp only [Act.put, List.setIfInBounds_toArray, List.set_cons_zero, List.set_cons_succ]
  refine' wpAnyH_take (i := 18) (oi := { dst := some 21, op := Op.pick (Operand.tmp 17) (Operand.const (Value.bool true)) (Operand.tmp 20), type := 4, pos := "ref.go:290", after := #[{ on := 14, ground := Ground.data }, { on := 17, ground := Ground.data }], guard := none }) (v := ?v97) rfl (by kernel_rfl) (by kernel_rfl) (by kernel_rfl) (fun _ _ _ h => h) (Or.inl ⟨by rfl, ?hy97⟩) (by assumption) ?rest97
  case hy97 => (intro w hSw; obtain ⟨⟨k0, k1, k2, k3, k4, k12, k13, k14⟩, kr⟩ := hSw; go_simp; (try with_reducible rfl))
  simp only [Act.put, List.setIfInBounds_toArray, List.set_cons_zero, List.set_cons_succ]
  refine' wpAnyH_take (i := 19) (oi := { dst := some 22, op := Op.move (Operand.tmp 21), type := 4, pos := "ref.go:290", after := #[{ on := 18, ground := Ground.data }, { on := 17, ground := Ground.chain }], guard := none }) (v := ?v98) rfl (by kernel_rfl) (by kernel_rfl) (by kernel_rfl) (fun _ _ _ h => h) (Or.inl ⟨by rfl, ?hy98⟩) (by assumption) ?rest98
  case hy98 => (intro w hSw; obtain ⟨⟨k0, k1, k2, k3, k4, k12, k13, k14⟩, kr⟩ := hSw; go_simp; (try with_reducible rfl))
  simp only [Act.put, List.setIfInBounds_toArray, List.set_cons_zero, List.set_cons_succ]
  refine' wpAnyH_take (i := 20) (oi := { dst := some 23, op := Op.fieldAddr 51 (Operand.tmp 1) 3, type := 0, pos := "ref.go:290", after := #[{ on := 19, ground := Ground.guard }], guard := some (19, false) }) (v := ?v99) rfl (by kernel_rfl) (by kernel_rfl) (by kernel_rfl) (fun _ _ _ h => h) (Or.inl ⟨by rfl, ?hy99⟩) (by assumption) ?rest99
  case hy99 => (intro w hSw; obtain ⟨⟨k0, k1, k2, k3, k4, k12, k13, k14⟩, kr⟩ := hSw; go_simp; (try with_reducible rfl))
  simp only [Act.put, List.setIfInBounds_toArray, List.set_cons_zero, List.set_cons_succ]
  refine' wpAnyH_take (i := 21) (oi := { dst := some 24, op := Op.load 3 (Operand.tmp 23), type := 3, pos := "ref.go:290", after := #[{ on := 20, ground := Ground.data }, { on := 19, ground := Ground.guard }], guard := some (19, false) }) (v := ?v100) rfl (by kernel_rfl) (by kernel_rfl) (by kernel_rfl) (fun _ _ _ h => h) (Or.inl ⟨by rfl, ?hy100⟩) (by assumption) ?rest100
  case hy100 => (intro w hSw; obtain ⟨⟨k0, k1, k2, k3, k4, k12, k13, k14⟩, kr⟩ := hSw; go_simp; (try with_reducible rfl))
  simp only [Act.put, List.setIfInBounds_toArray, List.set_cons_zero, List.set_cons_succ]
  refine wpAnyH_ready (rs := [22]) (by kernel_rfl) (by simp) ?_
  refine AllReadyH.cons (o := { dst := some 25, op := Op.call { callee := Callee.value (Operand.func 69), args := #[Operand.tmp 24], argTypes := #[3] }, type := 4, pos := "ref.go:290", after := #[{ on := 21, ground := Ground.data }, { on := 19, ground := Ground.chain }, { on := 19, ground := Ground.guard }], guard := some (19, false) }) rfl (fun K hK => ?_) AllReadyH.nil
  go_simp
  refine (bad_any _ _).mono ?_
  rintro e w1 ⟨rfl, rfl⟩
  rw [h4]
  go_wp2_with fail
  refine hK.out _ _ hN2.ns (fun hHeld => ?_)
  clear hK K
  try simp only [Act.put, List.setIfInBounds_toArray, List.set_cons_zero, List.set_cons_succ]
  refine' wpAnyH_take (i := 23) (oi := { dst := some 26, op := Op.pick (Operand.tmp 22) (Operand.const (Value.bool true)) (Operand.tmp 25), type := 4, pos := "ref.go:290", after := #[{ on := 19, ground := Ground.data }, { on := 22, ground := Ground.data }], guard := none }) (v := ?v101) rfl (by kernel_rfl) (by kernel_rfl) (by kernel_rfl) (fun _ _ _ h => h) (Or.inl ⟨by rfl, ?hy101⟩) (by assumption) ?rest101
  case hy101 => (intro w hSw; obtain ⟨⟨k0, k1, k2, k3, k4, k12, k13, k14⟩, kr⟩ := hSw; go_simp; (try with_reducible rfl))
  simp only [Act.put, List.setIfInBounds_toArray, List.set_cons_zero, List.set_cons_succ]
  refine' wpAnyH_take (i := 24) (oi := { dst := some 27, op := Op.move (Operand.tmp 26), type := 4, pos := "ref.go:290", after := #[{ on := 23, ground := Ground.data }, { on := 22, ground := Ground.chain }], guard := none }) (v := ?v102) rfl (by kernel_rfl) (by kernel_rfl) (by kernel_rfl) (fun _ _ _ h => h) (Or.inl ⟨by rfl, ?hy102⟩) (by assumption) ?rest102
  case hy102 => (intro w hSw; obtain ⟨⟨k0, k1, k2, k3, k4, k12, k13, k14⟩, kr⟩ := hSw; go_simp; (try with_reducible rfl))
  simp only [Act.put, List.setIfInBounds_toArray, List.set_cons_zero, List.set_cons_succ]
  refine' wpAnyH_take (i := 25) (oi := { dst := some 28, op := Op.fieldAddr 51 (Operand.tmp 1) 4, type := 0, pos := "ref.go:290", after := #[{ on := 24, ground := Ground.guard }], guard := some (24, false) }) (v := undef) rfl (by kernel_rfl) (by kernel_rfl) (by kernel_rfl) (fun _ _ _ h => h) (Or.inr ⟨by rfl, rfl⟩) (by assumption) ?_
  simp only [Act.put, List.setIfInBounds_toArray, List.set_cons_zero, List.set_cons_succ]
  refine' wpAnyH_take (i := 26) (oi := { dst := some 29, op := Op.load 3 (Operand.tmp 28), type := 3, pos := "ref.go:290", after := #[{ on := 25, ground := Ground.data }, { on := 24, ground := Ground.guard }], guard := some (24, false) }) (v := undef) rfl (by kernel_rfl) (by kernel_rfl) (by kernel_rfl) (fun _ _ _ h => h) (Or.inr ⟨by rfl, rfl⟩) (by assumption) ?_
  simp only [Act.put, List.setIfInBounds_toArray, List.set_cons_zero, List.set_cons_succ]
  refine' wpAnyH_take (i := 27) (oi := { dst := some 30, op := Op.call { callee := Callee.value (Operand.func 69), args := #[Operand.tmp 29], argTypes := #[3] }, type := 4, pos := "ref.go:290", after := #[{ on := 26, ground := Ground.data }, { on := 24, ground := Ground.chain }, { on := 24, ground := Ground.guard }], guard := some (24, false) }) (v := undef) rfl (by kernel_rfl) (by kernel_rfl) (by kernel_rfl) (fun _ _ _ h => h) (Or.inr ⟨by rfl, rfl⟩) (by assumption) ?_
  simp only [Act.put, List.setIfInBounds_toArray, List.set_cons_zero, List.set_cons_succ]
  refine' wpAnyH_take (i := 28) (oi := { dst := some 31, op := Op.pick (Operand.tmp 27) (Operand.const (Value.bool true)) (Operand.tmp 30), type := 4, pos := "ref.go:290", after := #[{ on := 24, ground := Ground.data }, { on := 27, ground := Ground.data }], guard := none }) (v := ?v103) rfl (by kernel_rfl) (by kernel_rfl) (by kernel_rfl) (fun _ _ _ h => h) (Or.inl ⟨by rfl, ?hy103⟩) (by assumption) ?rest103
  case hy103 => (intro w hSw; obtain ⟨⟨k0, k1, k2, k3, k4, k12, k13, k14⟩, kr⟩ := hSw; go_simp; (try with_reducible rfl))
  simp only [Act.put, List.setIfInBounds_toArray, List.set_cons_zero, List.set_cons_succ]
  refine' wpAnyH_take (i := 29) (oi := { dst := some 32, op := Op.move (Operand.tmp 31), type := 4, pos := "ref.go:290", after := #[{ on := 28, ground := Ground.data }, { on := 27, ground := Ground.chain }], guard := none }) (v := ?v104) rfl (by kernel_rfl) (by kernel_rfl) (by kernel_rfl) (fun _ _ _ h => h) (Or.inl ⟨by rfl, ?hy104⟩) (by assumption) ?rest104
  case hy104 => (intro w hSw; obtain ⟨⟨k0, k1, k2, k3, k4, k12, k13, k14⟩, kr⟩ := hSw; go_simp; (try with_reducible rfl))
  simp only [Act.put, List.setIfInBounds_toArray, List.set_cons_zero, List.set_cons_succ]
  refine' wpAnyH_take (i := 30) (oi := { dst := some 33, op := Op.fieldAddr 51 (Operand.tmp 1) 6, type := 0, pos := "ref.go:290", after := #[{ on := 29, ground := Ground.guard }], guard := some (29, false) }) (v := undef) rfl (by kernel_rfl) (by kernel_rfl) (by kernel_rfl) (fun _ _ _ h => h) (Or.inr ⟨by rfl, rfl⟩) (by assumption) ?_
  simp only [Act.put, List.setIfInBounds_toArray, List.set_cons_zero, List.set_cons_succ]
  refine' wpAnyH_take (i := 31) (oi := { dst := some 34, op := Op.fieldAddr 49 (Operand.tmp 33) 0, type := 0, pos := "ref.go:290", after := #[{ on := 30, ground := Ground.data }, { on := 29, ground := Ground.guard }], guard := some (29, false) }) (v := undef) rfl (by kernel_rfl) (by kernel_rfl) (by kernel_rfl) (fun _ _ _ h => h) (Or.inr ⟨by rfl, rfl⟩) (by assumption) ?_
  simp only [Act.put, List.setIfInBounds_toArray, List.set_cons_zero, List.set_cons_succ]
  refine' wpAnyH_take (i := 32) (oi := { dst := some 35, op := Op.load 3 (Operand.tmp 34), type := 3, pos := "ref.go:290", after := #[{ on := 31, ground := Ground.data }, { on := 29, ground := Ground.guard }], guard := some (29, false) }) (v := undef) rfl (by kernel_rfl) (by kernel_rfl) (by kernel_rfl) (fun _ _ _ h => h) (Or.inr ⟨by rfl, rfl⟩) (by assumption) ?_
  simp only [Act.put, List.setIfInBounds_toArray, List.set_cons_zero, List.set_cons_succ]
  refine' wpAnyH_take (i := 33) (oi := { dst := some 36, op := Op.call { callee := Callee.value (Operand.func 69), args := #[Operand.tmp 35], argTypes := #[3] }, type := 4, pos := "ref.go:290", after := #[{ on := 32, ground := Ground.data }, { on := 29, ground := Ground.chain }, { on := 29, ground := Ground.guard }], guard := some (29, false) }) (v := undef) rfl (by kernel_rfl) (by kernel_rfl) (by kernel_rfl) (fun _ _ _ h => h) (Or.inr ⟨by rfl, rfl⟩) (by assumption) ?_
  simp only [Act.put, List.setIfInBounds_toArray, List.set_cons_zero, List.set_cons_succ]
  refine' wpAnyH_take (i := 34) (oi := { dst := some 37, op := Op.pick (Operand.tmp 32) (Operand.const (Value.bool true)) (Operand.tmp 36), type := 4, pos := "ref.go:290", after := #[{ on := 29, ground := Ground.data }, { on := 33, ground := Ground.data }], guard := none }) (v := ?v105) rfl (by kernel_rfl) (by kernel_rfl) (by kernel_rfl) (fun _ _ _ h => h) (Or.inl ⟨by rfl, ?hy105⟩) (by assumption) ?rest105
  case hy105 => (intro w hSw; obtain ⟨⟨k0, k1, k2, k3, k4, k12, k13, k14⟩, kr⟩ := hSw; go_simp; (try with_reducible rfl))
  simp only [Act.put, List.setIfInBounds_toArray, List.set_cons_zero, List.set_cons_succ]
  refine' wpAnyH_take (i := 35) (oi := { dst := some 38, op := Op.move (Operand.tmp 37), type := 4, pos := "ref.go:290", after := #[{ on := 34, ground := Ground.data }, { on := 33, ground := Ground.chain }], guard := none }) (v := ?v106) rfl (by kernel_rfl) (by kernel_rfl) (by kernel_rfl) (fun _ _ _ h => h) (Or.inl ⟨by rfl, ?hy106⟩) (by assumption) ?rest106
  case hy106 => (intro w hSw; obtain ⟨⟨k0, k1, k2, k3, k4, k12, k13, k14⟩, kr⟩ := hSw; go_simp; (try with_reducible rfl))
  simp only [Act.put, List.setIfInBounds_toArray, List.set_cons_zero, List.set_cons_succ]
  refine' wpAnyH_take (i := 36) (oi := { dst := some 39, op := Op.fieldAddr 51 (Operand.tmp 1) 6, type := 0, pos := "ref.go:290", after := #[{ on := 35, ground := Ground.guard }], guard := some (35, false) }) (v := undef) rfl (by kernel_rfl) (by kernel_rfl) (by kernel_rfl) (fun _ _ _ h => h) (Or.inr ⟨by rfl, rfl⟩) (by assumption) ?_
  simp only [Act.put, List.setIfInBounds_toArray, List.set_cons_zero, List.set_cons_succ]
  refine' wpAnyH_take (i := 37) (oi := { dst := some 40, op := Op.fieldAddr 49 (Operand.tmp 39) 1, type := 0, pos := "ref.go:290", after := #[{ on := 36, ground := Ground.data }, { on := 35, ground := Ground.guard }], guard := some (35, false) }) (v := undef) rfl (by kernel_rfl) (by kernel_rfl) (by kernel_rfl) (fun _ _ _ h => h) (Or.inr ⟨by rfl, rfl⟩) (by assumption) ?_
  simp only [Act.put, List.setIfInBounds_toArray, List.set_cons_zero, List.set_cons_succ]
  refine' wpAnyH_take (i := 38) (oi := { dst := some 41, op := Op.load 3 (Operand.tmp 40), type := 3, pos := "ref.go:290", after := #[{ on := 37, ground := Ground.data }, { on := 35, ground := Ground.guard }], guard := some (35, false) }) (v := undef) rfl (by kernel_rfl) (by kernel_rfl) (by kernel_rfl) (fun _ _ _ h => h) (Or.inr ⟨by rfl, rfl⟩) (by assumption) ?_
  simp only [Act.put, List.setIfInBounds_toArray, List.set_cons_zero, List.set_cons_succ]
  refine' wpAnyH_take (i := 39) (oi := { dst := some 42, op := Op.call { callee := Callee.value (Operand.func 69), args := #[Operand.tmp 41], argTypes := #[3] }, type := 4, pos := "ref.go:290", after := #[{ on := 38, ground := Ground.data }, { on := 35, ground := Ground.chain }, { on := 35, ground := Ground.guard }], guard := some (35, false) }) (v := undef) rfl (by kernel_rfl) (by kernel_rfl) (by kernel_rfl) (fun _ _ _ h => h) (Or.inr ⟨by rfl, rfl⟩) (by assumption) ?_
  simp only [Act.put, List.setIfInBounds_toArray, List.set_cons_zero, List.set_cons_succ]
  refine' wpAnyH_take (i := 40) (oi := { dst := some 43, op := Op.pick (Operand.tmp 38) (Operand.const (Value.bool true)) (Operand.tmp 42), type := 4, pos := "ref.go:290", after := #[{ on := 35, ground := Ground.data }, { on := 39, ground := Ground.data }], guard := none }) (v := ?v107) rfl (by kernel_rfl) (by kernel_rfl) (by kernel_rfl) (fun _ _ _ h => h) (Or.inl ⟨by rfl, ?hy107⟩) (by assumption) ?rest107
  case hy107 => (intro w hSw; obtain ⟨⟨k0, k1, k2, k3, k4, k12, k13, k14⟩, kr⟩ := hSw; go_simp; (try with_reducible rfl))
  simp only [Act.put, List.setIfInBounds_toArray, List.set_cons_zero, List.set_cons_succ]
  refine' wpAnyH_take (i := 41) (oi := { dst := some 44, op := Op.move (Operand.tmp 43), type := 4, pos := "ref.go:290", after := #[{ on := 40, ground := Ground.data }, { on := 39, ground := Ground.chain }], guard := none }) (v := ?v108) rfl (by kernel_rfl) (by kernel_rfl) (by kernel_rfl) (fun _ _ _ h => h) (Or.inl ⟨by rfl, ?hy108⟩) (by assumption) ?rest108
  case hy108 => (intro w hSw; obtain ⟨⟨k0, k1, k2, k3, k4, k12, k13, k14⟩, kr⟩ := hSw; go_simp; (try with_reducible rfl))
  simp only [Act.put, List.setIfInBounds_toArray, List.set_cons_zero, List.set_cons_succ]
  refine' wpAnyH_take (i := 42) (oi := { dst := some 45, op := Op.fieldAddr 51 (Operand.tmp 1) 6, type := 0, pos := "ref.go:290", after := #[{ on := 41, ground := Ground.guard }], guard := some (41, false) }) (v := undef) rfl (by kernel_rfl) (by kernel_rfl) (by kernel_rfl) (fun _ _ _ h => h) (Or.inr ⟨by rfl, rfl⟩) (by assumption) ?_
  simp only [Act.put, List.setIfInBounds_toArray, List.set_cons_zero, List.set_cons_succ]
  refine' wpAnyH_take (i := 43) (oi := { dst := some 46, op := Op.fieldAddr 49 (Operand.tmp 45) 2, type := 0, pos := "ref.go:290", after := #[{ on := 42, ground := Ground.data }, { on := 41, ground := Ground.guard }], guard := some (41, false) }) (v := undef) rfl (by kernel_rfl) (by kernel_rfl) (by kernel_rfl) (fun _ _ _ h => h) (Or.inr ⟨by rfl, rfl⟩) (by assumption) ?_
  simp only [Act.put, List.setIfInBounds_toArray, List.set_cons_zero, List.set_cons_succ]
  refine' wpAnyH_take (i := 44) (oi := { dst := some 47, op := Op.load 29 (Operand.tmp 46), type := 29, pos := "ref.go:290", after := #[{ on := 43, ground := Ground.data }, { on := 41, ground := Ground.guard }], guard := some (41, false) }) (v := undef) rfl (by kernel_rfl) (by kernel_rfl) (by kernel_rfl) (fun _ _ _ h => h) (Or.inr ⟨by rfl, rfl⟩) (by assumption) ?_
  simp only [Act.put, List.setIfInBounds_toArray, List.set_cons_zero, List.set_cons_succ]
  refine' wpAnyH_take (i := 45) (oi := { dst := some 48, op := Op.call { callee := Callee.value (Operand.func 69), args := #[Operand.tmp 47], argTypes := #[3] }, type := 4, pos := "ref.go:290", after := #[{ on := 44, ground := Ground.data }, { on := 41, ground := Ground.chain }, { on := 41, ground := Ground.guard }], guard := some (41, false) }) (v := undef) rfl (by kernel_rfl) (by kernel_rfl) (by kernel_rfl) (fun _ _ _ h => h) (Or.inr ⟨by rfl, rfl⟩) (by assumption) ?_
  simp only [Act.put, List.setIfInBounds_toArray, List.set_cons_zero, List.set_cons_succ]
  refine' wpAnyH_take (i := 46) (oi := { dst := some 49, op := Op.pick (Operand.tmp 44) (Operand.const (Value.bool true)) (Operand.tmp 48), type := 4, pos := "ref.go:290", after := #[{ on := 41, ground := Ground.data }, { on := 45, ground := Ground.data }], guard := none }) (v := ?v109) rfl (by kernel_rfl) (by kernel_rfl) (by kernel_rfl) (fun _ _ _ h => h) (Or.inl ⟨by rfl, ?hy109⟩) (by assumption) ?rest109
  case hy109 => (intro w hSw; obtain ⟨⟨k0, k1, k2, k3, k4, k12, k13, k14⟩, kr⟩ := hSw; go_simp; (try with_reducible rfl))
  simp only [Act.put, List.setIfInBounds_toArray, List.set_cons_zero, List.set_cons_succ]
  refine wpAnyH_done (by kernel_rfl) ?_ _
  go_wp2_with fail
  go_ret
  exact ⟨bb hok.out.symm, B2⟩

end Go.Proofs.Ytmhcjkiaogimgaa
