/- Which notes are plain: the check of the document, the rest. -/
import Derived.Test.YtmhcjkiaogimgaaWirF
namespace Go.Proofs.Ytmhcjkiaogimgaa
open Go.RowKit

set_option maxRecDepth 100000 in
set_option maxHeartbeats 8000000 in
theorem rplainNote_5 (n : NoteD) (xs : Array Value) (hx : IsNote xs n) (w : World) (hok : Hid (n.ok = false)) (hq : ∀ W' : World, (binOp .neq 51 (.agg n.cells.toArray) (.agg n.only.cells.toArray)).run Try.prog W' = .ok (.bool false) W') (h1 : (n.kind == 0) = false) (h2 : okN n.epoch = true) (h3 : okN n.version = true) (h4 : okN n.next = true) (h5 : okN n.client = false) : Calls Try.prog 48 #[.agg xs] w (Tells n.ok w) := by
  have hA : ∀ W, W = w.alloc (.cells xs 51) → NoteAt W w.heap.size n ∧ Below w.heap.size w W := by rw [hx.eq]; exact nat_add n w
  clear hx
  have hgt : ∀ W, W = w.alloc (.cells xs 51) → w.heap.size < W.heap.size := by rintro W rfl; simp
  obtain ⟨W, hW⟩ : ∃ W, W = w.alloc (.cells xs 51) := ⟨_, rfl⟩
  obtain ⟨hN, hB⟩ := hA W hW
  have hlt := hgt W hW
  have HW := Lib.hid hW
  have s0 : NS w.heap.size n W.drew := hN.ns
  clear hA hgt hW
  go_enter Try.func48, Try.ntmps48
  go_wp2_with fail
  rw [← HW.out]
  refine wp_region_held_drew (S := (fun w' => NS w.heap.size n w')) (by kernel_rfl) s0 (fun hHeld => ?_)
  refine' wpAnyH_take (i := 0) (oi := { dst := some 3, op := Op.load 51 (Operand.tmp 1), type := 51, pos := "ref.go:290", after := #[], guard := none }) (v := _) rfl (by kernel_rfl) (by kernel_rfl) (by kernel_rfl) (fun _ _ _ h => h) (yieldsIf_load_mid (by rfl) _ _ rfl _ _ rfl _ _ (fun w h => h.2) Try.underlying51 rfl size_note) (by assumption) ?_
  simp only [Act.put, List.setIfInBounds_toArray, List.set_cons_zero, List.set_cons_succ]
  refine' wpAnyH_take (i := 1) (oi := { dst := some 4, op := Op.load 51 (Operand.tmp 1), type := 51, pos := "ref.go:290", after := #[], guard := none }) (v := _) rfl (by kernel_rfl) (by kernel_rfl) (by kernel_rfl) (fun _ _ _ h => h) (yieldsIf_load_mid (by rfl) _ _ rfl _ _ rfl _ _ (fun w h => h.2) Try.underlying51 rfl size_note) (by assumption) ?_
  simp only [Act.put, List.setIfInBounds_toArray, List.set_cons_zero, List.set_cons_succ]
  refine wpAnyH_ready (rs := [2]) (by kernel_rfl) (by simp) ?_
  refine AllReadyH.cons (o := { dst := some 5, op := Op.call { callee := Callee.value (Operand.func 76), args := #[Operand.tmp 4], argTypes := #[51] }, type := 51, pos := "ref.go:290", after := #[{ on := 1, ground := Ground.data }], guard := none }) rfl (fun K hK => ?_) AllReadyH.nil
  go_simp
  refine (only_any n _ ⟨rfl⟩ _).mono ?_
  rintro e w2 ⟨ys, rfl, hys, b2'⟩
  obtain rfl := hys.eq
  have b2 := below_undrew b2'
  have hN2 := hN.below b2
  have B2 := bel_next hB b2
  go_wp2_with fail
  refine hK.out _ _ hN2.ns (fun hHeld => ?_)
  clear hK K
  try simp only [Act.put, List.setIfInBounds_toArray, List.set_cons_zero, List.set_cons_succ]
  refine' wpAnyH_take (i := 3) (oi := { dst := some 6, op := Op.binOp BinOp.neq 51 (Operand.tmp 3) (Operand.tmp 5) 51, type := 4, pos := "ref.go:290", after := #[{ on := 0, ground := Ground.data }, { on := 2, ground := Ground.data }], guard := none }) (v := ?v110) rfl (by kernel_rfl) (by kernel_rfl) (by kernel_rfl) (fun _ _ _ h => h) (Or.inl ⟨by rfl, ?hy110⟩) (by assumption) ?rest110
  case hy110 => (intro w hSw; obtain ⟨⟨k0, k1, k2, k3, k4, k12, k13, k14⟩, kr⟩ := hSw; go_simp; (try with_reducible rfl))
  simp only [Act.put, List.setIfInBounds_toArray, List.set_cons_zero, List.set_cons_succ]
  refine' wpAnyH_take (i := 4) (oi := { dst := some 7, op := Op.move (Operand.tmp 6), type := 4, pos := "ref.go:290", after := #[{ on := 3, ground := Ground.data }, { on := 2, ground := Ground.chain }], guard := none }) (v := ?v111) rfl (by kernel_rfl) (by kernel_rfl) (by kernel_rfl) (fun _ _ _ h => h) (Or.inl ⟨by rfl, ?hy111⟩) (by assumption) ?rest111
  case hy111 => (intro w hSw; obtain ⟨⟨k0, k1, k2, k3, k4, k12, k13, k14⟩, kr⟩ := hSw; go_simp; (try with_reducible rfl))
  simp only [Act.put, List.setIfInBounds_toArray, List.set_cons_zero, List.set_cons_succ]
  refine' wpAnyH_take (i := 5) (oi := { dst := some 8, op := Op.fieldAddr 51 (Operand.tmp 1) 0, type := 0, pos := "ref.go:290", after := #[{ on := 4, ground := Ground.guard }], guard := some (4, false) }) (v := ?v112) rfl (by kernel_rfl) (by kernel_rfl) (by kernel_rfl) (fun _ _ _ h => h) (Or.inl ⟨by rfl, ?hy112⟩) (by assumption) ?rest112
  case hy112 => (intro w hSw; obtain ⟨⟨k0, k1, k2, k3, k4, k12, k13, k14⟩, kr⟩ := hSw; go_simp; (try with_reducible rfl))
  simp only [Act.put, List.setIfInBounds_toArray, List.set_cons_zero, List.set_cons_succ]
  refine' wpAnyH_take (i := 6) (oi := { dst := some 9, op := Op.load 3 (Operand.tmp 8), type := 3, pos := "ref.go:290", after := #[{ on := 5, ground := Ground.data }, { on := 4, ground := Ground.guard }], guard := some (4, false) }) (v := ?v113) rfl (by kernel_rfl) (by kernel_rfl) (by kernel_rfl) (fun _ _ _ h => h) (Or.inl ⟨by rfl, ?hy113⟩) (by assumption) ?rest113
  case hy113 => (intro w hSw; obtain ⟨⟨k0, k1, k2, k3, k4, k12, k13, k14⟩, kr⟩ := hSw; go_simp; (try with_reducible rfl))
  simp only [Act.put, List.setIfInBounds_toArray, List.set_cons_zero, List.set_cons_succ]
  refine' wpAnyH_take (i := 7) (oi := { dst := some 10, op := Op.binOp BinOp.eql 3 (Operand.tmp 9) (Operand.const (Value.int IntKind.i64 0)) 3, type := 4, pos := "ref.go:290", after := #[{ on := 6, ground := Ground.data }, { on := 4, ground := Ground.guard }], guard := some (4, false) }) (v := ?v114) rfl (by kernel_rfl) (by kernel_rfl) (by kernel_rfl) (fun _ _ _ h => h) (Or.inl ⟨by rfl, ?hy114⟩) (by assumption) ?rest114
  case hy114 => (intro w hSw; obtain ⟨⟨k0, k1, k2, k3, k4, k12, k13, k14⟩, kr⟩ := hSw; go_simp; (try with_reducible rfl))
  simp only [Act.put, List.setIfInBounds_toArray, List.set_cons_zero, List.set_cons_succ]
  refine' wpAnyH_take (i := 8) (oi := { dst := some 11, op := Op.pick (Operand.tmp 7) (Operand.const (Value.bool true)) (Operand.tmp 10), type := 4, pos := "ref.go:290", after := #[{ on := 4, ground := Ground.data }, { on := 7, ground := Ground.data }], guard := none }) (v := ?v115) rfl (by kernel_rfl) (by kernel_rfl) (by kernel_rfl) (fun _ _ _ h => h) (Or.inl ⟨by rfl, ?hy115⟩) (by assumption) ?rest115
  case hy115 => (intro w hSw; obtain ⟨⟨k0, k1, k2, k3, k4, k12, k13, k14⟩, kr⟩ := hSw; go_simp; (try with_reducible rfl))
  simp only [Act.put, List.setIfInBounds_toArray, List.set_cons_zero, List.set_cons_succ]
  refine' wpAnyH_take (i := 9) (oi := { dst := some 12, op := Op.move (Operand.tmp 11), type := 4, pos := "ref.go:290", after := #[{ on := 8, ground := Ground.data }, { on := 4, ground := Ground.chain }], guard := none }) (v := ?v116) rfl (by kernel_rfl) (by kernel_rfl) (by kernel_rfl) (fun _ _ _ h => h) (Or.inl ⟨by rfl, ?hy116⟩) (by assumption) ?rest116
  case hy116 => (intro w hSw; obtain ⟨⟨k0, k1, k2, k3, k4, k12, k13, k14⟩, kr⟩ := hSw; go_simp; (try with_reducible rfl))
  simp only [Act.put, List.setIfInBounds_toArray, List.set_cons_zero, List.set_cons_succ]
  refine' wpAnyH_take (i := 10) (oi := { dst := some 13, op := Op.fieldAddr 51 (Operand.tmp 1) 1, type := 0, pos := "ref.go:290", after := #[{ on := 9, ground := Ground.guard }], guard := some (9, false) }) (v := ?v117) rfl (by kernel_rfl) (by kernel_rfl) (by kernel_rfl) (fun _ _ _ h => h) (Or.inl ⟨by rfl, ?hy117⟩) (by assumption) ?rest117
  case hy117 => (intro w hSw; obtain ⟨⟨k0, k1, k2, k3, k4, k12, k13, k14⟩, kr⟩ := hSw; go_simp; (try with_reducible rfl))
  simp only [Act.put, List.setIfInBounds_toArray, List.set_cons_zero, List.set_cons_succ]
  refine' wpAnyH_take (i := 11) (oi := { dst := some 14, op := Op.load 3 (Operand.tmp 13), type := 3, pos := "ref.go:290", after := #[{ on := 10, ground := Ground.data }, { on := 9, ground := Ground.guard }], guard := some (9, false) }) (v := ?v118) rfl (by kernel_rfl) (by kernel_rfl) (by kernel_rfl) (fun _ _ _ h => h) (Or.inl ⟨by rfl, ?hy118⟩) (by assumption) ?rest118
  case hy118 => (intro w hSw; obtain ⟨⟨k0, k1, k2, k3, k4, k12, k13, k14⟩, kr⟩ := hSw; go_simp; (try with_reducible rfl))
  simp only [Act.put, List.setIfInBounds_toArray, List.set_cons_zero, List.set_cons_succ]
  refine wpAnyH_ready (rs := [12]) (by kernel_rfl) (by simp) ?_
  refine AllReadyH.cons (o := { dst := some 15, op := Op.call { callee := Callee.value (Operand.func 69), args := #[Operand.tmp 14], argTypes := #[3] }, type := 4, pos := "ref.go:290", after := #[{ on := 11, ground := Ground.data }, { on := 9, ground := Ground.chain }, { on := 9, ground := Ground.guard }], guard := some (9, false) }) rfl (fun K hK => ?_) AllReadyH.nil
  go_simp
  refine (bad_any _ _).mono ?_
  rintro e w1 ⟨rfl, rfl⟩
  rw [h2]
  go_wp2_with fail
  refine hK.out _ _ hN2.ns (fun hHeld => ?_)
  clear hK K
  try simp only [Act.put, List.setIfInBounds_toArray, List.set_cons_zero, List.set_cons_succ]
  refine' wpAnyH_take (i := 13) (oi := { dst := some 16, op := Op.pick (Operand.tmp 12) (Operand.const (Value.bool true)) (Operand.tmp 15), type := 4, pos := "ref.go:290", after := #[{ on := 9, ground := Ground.data }, { on := 12, ground := Ground.data }], guard := none }) (v := ?v119) rfl (by kernel_rfl) (by kernel_rfl) (by kernel_rfl) (fun _ _ _ h => h) (Or.inl ⟨by rfl, ?hy119⟩) (by assumption) ?rest119
  case hy119 => (intro w hSw; obtain ⟨⟨k0, k1, k2, k3, k4, k12, k13, k14⟩, kr⟩ := hSw; go_simp; (try with_reducible rfl))
  simp only [Act.put, List.setIfInBounds_toArray, List.set_cons_zero, List.set_cons_succ]
  refine' wpAnyH_take (i := 14) (oi := { dst := some 17, op := Op.move (Operand.tmp 16), type := 4, pos := "ref.go:290", after := #[{ on := 13, ground := Ground.data }, { on := 12, ground := Ground.chain }], guard := none }) (v := ?v120) rfl (by kernel_rfl) (by kernel_rfl) (by kernel_rfl) (fun _ _ _ h => h) (Or.inl ⟨by rfl, ?hy120⟩) (by assumption) ?rest120
  case hy120 => (intro w hSw; obtain ⟨⟨k0, k1, k2, k3, k4, k12, k13, k14⟩, kr⟩ := hSw; go_simp; (try with_reducible rfl))
  simp only [Act.put, List.setIfInBounds_toArray, List.set_cons_zero, List.set_cons_succ]
  refine' wpAnyH_take (i := 15) (oi := { dst := some 18, op := Op.fieldAddr 51 (Operand.tmp 1) 2, type := 0, pos := "ref.go:290", after := #[{ on := 14, ground := Ground.guard }], guard := some (14, false) }) (v := ?v121) rfl (by kernel_rfl) (by kernel_rfl) (by kernel_rfl) (fun _ _ _ h => h) (Or.inl ⟨by rfl, ?hy121⟩) (by assumption) ?rest121
  case hy121 => (intro w hSw; obtain ⟨⟨k0, k1, k2, k3, k4, k12, k13, k14⟩, kr⟩ := hSw; go_simp; (try with_reducible rfl))
  simp only [Act.put, List.setIfInBounds_toArray, List.set_cons_zero, List.set_cons_succ]
  refine' wpAnyH_take (i := 16) (oi := { dst := some 19, op := Op.load 3 (Operand.tmp 18), type := 3, pos := "ref.go:290", after := #[{ on := 15, ground := Ground.data }, { on := 14, ground := Ground.guard }], guard := some (14, false) }) (v := ?v122) rfl (by kernel_rfl) (by kernel_rfl) (by kernel_rfl) (fun _ _ _ h => h) (Or.inl ⟨by rfl, ?hy122⟩) (by assumption) ?rest122
  case hy122 => (intro w hSw; obtain ⟨⟨k0, k1, k2, k3, k4, k12, k13, k14⟩, kr⟩ := hSw; go_simp; (try with_reducible rfl))
  simp only [Act.put, List.setIfInBounds_toArray, List.set_cons_zero, List.set_cons_succ]
  refine wpAnyH_ready (rs := [17]) (by kernel_rfl) (by simp) ?_
  refine AllReadyH.cons (o := { dst := some 20, op := Op.call { callee := Callee.value (Operand.func 69), args := #[Operand.tmp 19], argTypes := #[3] }, type := 4, pos := "ref.go:290", after := #[{ on := 16, ground := Ground.data }, { on := 14, ground := Ground.chain }, { on := 14, ground := Ground.guard }], guard := some (14, false) }) rfl (fun K hK => ?_) AllReadyH.nil
  go_simp
  refine (bad_any _ _).mono ?_
  rintro e w1 ⟨rfl, rfl⟩
  rw [h3]
  go_wp2_with fail
  refine hK.out _ _ hN2.ns (fun hHeld => ?_)
  clear hK K
  try simp only [Act.put, List.setIfInBounds_toArray, List.set_cons_zero, List.set_cons_succ]
  refine' wpAnyH_take (i := 18) (oi := { dst := some 21, op := Op.pick (Operand.tmp 17) (Operand.const (Value.bool true)) (Operand.tmp 20), type := 4, pos := "ref.go:290", after := #[{ on := 14, ground := Ground.data }, { on := 17, ground := Ground.data }], guard := none }) (v := ?v123) rfl (by kernel_rfl) (by kernel_rfl) (by kernel_rfl) (fun _ _ _ h => h) (Or.inl ⟨by rfl, ?hy123⟩) (by assumption) ?rest123
  case hy123 => (intro w hSw; obtain ⟨⟨k0, k1, k2, k3, k4, k12, k13, k14⟩, kr⟩ := hSw; go_simp; (try with_reducible rfl))
  simp only [Act.put, List.setIfInBounds_toArray, List.set_cons_zero, List.set_cons_succ]
  refine' wpAnyH_take (i := 19) (oi := { dst := some 22, op := Op.move (Operand.tmp 21), type := 4, pos := "ref.go:290", after := #[{ on := 18, ground := Ground.data }, { on := 17, ground := Ground.chain }], guard := none }) (v := ?v124) rfl (by kernel_rfl) (by kernel_rfl) (by kernel_rfl) (fun _ _ _ h => h) (Or.inl ⟨by rfl, ?hy124⟩) (by assumption) ?rest124
  case hy124 => (intro w hSw; obtain ⟨⟨k0, k1, k2, k3, k4, k12, k13, k14⟩, kr⟩ := hSw; go_simp; (try with_reducible rfl))
  simp only [Act.put, List.setIfInBounds_toArray, List.set_cons_zero, List.set_cons_succ]
  refine' wpAnyH_take (i := 20) (oi := { dst := some 23, op := Op.fieldAddr 51 (Operand.tmp 1) 3, type := 0, pos := "ref.go:290", after := #[{ on := 19, ground := Ground.guard }], guard := some (19, false) }) (v := ?v125) rfl (by kernel_rfl) (by kernel_rfl) (by kernel_rfl) (fun _ _ _ h => h) (Or.inl ⟨by rfl, ?hy125⟩) (by assumption) ?rest125
  case hy125 => (intro w hSw; obtain ⟨⟨k0, k1, k2, k3, k4, k12, k13, k14⟩, kr⟩ := hSw; go_simp; (try with_reducible rfl))
  simp only [Act.put, List.setIfInBounds_toArray, List.set_cons_zero, List.set_cons_succ]
  refine' wpAnyH_take (i := 21) (oi := { dst := some 24, op := Op.load 3 (Operand.tmp 23), type := 3, pos := "ref.go:290", after := #[{ on := 20, ground := Ground.data }, { on := 19, ground := Ground.guard }], guard := some (19, false) }) (v := ?v126) rfl (by kernel_rfl) (by kernel_rfl) (by kernel_rfl) (fun _ _ _ h => h) (Or.inl ⟨by rfl, ?hy126⟩) (by assumption) ?rest126
  case hy126 => (intro w hSw; obtain ⟨⟨k0, k1, k2, k3, k4, k12, k13, k14⟩, kr⟩ := hSw; go_simp; (try with_reducible rfl))
  simp only [Act.put, List.setIfInBounds_toArray, List.set_cons_zero, List.set_cons_succ]
  refine wpAnyH_ready (rs := [22]) (by kernel_rfl) (by simp) ?_
  refine AllReadyH.cons (o := { dst := some 25, op := Op.call { callee := Callee.value (Operand.func 69), args := #[Operand.tmp 24], argTypes := #[3] }, type := 4, pos := "ref.go:290", after := #[{ on := 21, ground := Ground.data }, { on := 19, ground := Ground.chain }, { on := 19, ground := Ground.guard }], guard := some (19, false) }) rfl (fun K hK => ?_) AllReadyH.nil
  go_simp
  refine (bad_any _ _).mono ?_
  rintro e w1 ⟨rfl, rfl⟩
  rw [h4]
  go_wp2_with fail
  refine hK.out _ _ hN2.ns (fun hHeld => ?_)
  clear hK K
  try simp only [Act.put, List.setIfInBounds_toArray, List.set_cons_zero, List.set_cons_succ]
  refine' wpAnyH_take (i := 23) (oi := { dst := some 26, op := Op.pick (Operand.tmp 22) (Operand.const (Value.bool true)) (Operand.tmp 25), type := 4, pos := "ref.go:290", after := #[{ on := 19, ground := Ground.data }, { on := 22, ground := Ground.data }], guard := none }) (v := ?v127) rfl (by kernel_rfl) (by kernel_rfl) (by kernel_rfl) (fun _ _ _ h => h) (Or.inl ⟨by rfl, ?hy127⟩) (by assumption) ?rest127
  case hy127 => (intro w hSw; obtain ⟨⟨k0, k1, k2, k3, k4, k12, k13, k14⟩, kr⟩ := hSw; go_simp; (try with_reducible rfl))
  simp only [Act.put, List.setIfInBounds_toArray, List.set_cons_zero, List.set_cons_succ]
  refine' wpAnyH_take (i := 24) (oi := { dst := some 27, op := Op.move (Operand.tmp 26), type := 4, pos := "ref.go:290", after := #[{ on := 23, ground := Ground.data }, { on := 22, ground := Ground.chain }], guard := none }) (v := ?v128) rfl (by kernel_rfl) (by kernel_rfl) (by kernel_rfl) (fun _ _ _ h => h) (Or.inl ⟨by rfl, ?hy128⟩) (by assumption) ?rest128
  case hy128 => (intro w hSw; obtain ⟨⟨k0, k1, k2, k3, k4, k12, k13, k14⟩, kr⟩ := hSw; go_simp; (try with_reducible rfl))
  simp only [Act.put, List.setIfInBounds_toArray, List.set_cons_zero, List.set_cons_succ]
  refine' wpAnyH_take (i := 25) (oi := { dst := some 28, op := Op.fieldAddr 51 (Operand.tmp 1) 4, type := 0, pos := "ref.go:290", after := #[{ on := 24, ground := Ground.guard }], guard := some (24, false) }) (v := ?v129) rfl (by kernel_rfl) (by kernel_rfl) (by kernel_rfl) (fun _ _ _ h => h) (Or.inl ⟨by rfl, ?hy129⟩) (by assumption) ?rest129
  case hy129 => (intro w hSw; obtain ⟨⟨k0, k1, k2, k3, k4, k12, k13, k14⟩, kr⟩ := hSw; go_simp; (try with_reducible rfl))
  simp only [Act.put, List.setIfInBounds_toArray, List.set_cons_zero, List.set_cons_succ]
  refine' wpAnyH_take (i := 26) (oi := { dst := some 29, op := Op.load 3 (Operand.tmp 28), type := 3, pos := "ref.go:290", after := #[{ on := 25, ground := Ground.data }, { on := 24, ground := Ground.guard }], guard := some (24, false) }) (v := ?v130) rfl (by kernel_rfl) (by kernel_rfl) (by kernel_rfl) (fun _ _ _ h => h) (Or.inl ⟨by rfl, ?hy130⟩) (by assumption) ?rest130
  case hy130 => (intro w hSw; obtain ⟨⟨k0, k1, k2, k3, k4, k12, k13, k14⟩, kr⟩ := hSw; go_simp; (try with_reducible rfl))
  simp only [Act.put, List.setIfInBounds_toArray, List.set_cons_zero, List.set_cons_succ]
  refine wpAnyH_ready (rs := [27]) (by kernel_rfl) (by simp) ?_
  refine AllReadyH.cons (o := { dst := some 30, op := Op.call { callee := Callee.value (Operand.func 69), args := #[Operand.tmp 29], argTypes := #[3] }, type := 4, pos := "ref.go:290", after := #[{ on := 26, ground := Ground.data }, { on := 24, ground := Ground.chain }, { on := 24, ground := Ground.guard }], guard := some (24, false) }) rfl (fun K hK => ?_) AllReadyH.nil
  go_simp
  refine (bad_any _ _).mono ?_
  rintro e w1 ⟨rfl, rfl⟩
  rw [h5]
  go_wp2_with fail
  refine hK.out _ _ hN2.ns (fun hHeld => ?_)
  clear hK K
  try simp only [Act.put, List.setIfInBounds_toArray, List.set_cons_zero, List.set_cons_succ]
  refine' wpAnyH_take (i := 28) (oi := { dst := some 31, op := Op.pick (Operand.tmp 27) (Operand.const (Value.bool true)) (Operand.tmp 30), type := 4, pos := "ref.go:290", after := #[{ on := 24, ground := Ground.data }, { on := 27, ground := Ground.data }], guard := none }) (v := ?v131) rfl (by kernel_rfl) (by kernel_rfl) (by kernel_rfl) (fun _ _ _ h => h) (Or.inl ⟨by rfl, ?hy131⟩) (by assumption) ?rest131
  case hy131 => (intro w hSw; obtain ⟨⟨k0, k1, k2, k3, k4, k12, k13, k14⟩, kr⟩ := hSw; go_simp; (try with_reducible rfl))
  simp only [Act.put, List.setIfInBounds_toArray, List.set_cons_zero, List.set_cons_succ]
  refine' wpAnyH_take (i := 29) (oi := { dst := some 32, op := Op.move (Operand.tmp 31), type := 4, pos := "ref.go:290", after := #[{ on := 28, ground := Ground.data }, { on := 27, ground := Ground.chain }], guard := none }) (v := ?v132) rfl (by kernel_rfl) (by kernel_rfl) (by kernel_rfl) (fun _ _ _ h => h) (Or.inl ⟨by rfl, ?hy132⟩) (by assumption) ?rest132
  case hy132 => (intro w hSw; obtain ⟨⟨k0, k1, k2, k3, k4, k12, k13, k14⟩, kr⟩ := hSw; go_simp; (try with_reducible rfl))
  simp only [Act.put, List.setIfInBounds_toArray, List.set_cons_zero, List.set_cons_succ]
  refine' wpAnyH_take (i := 30) (oi := { dst := some 33, op := Op.fieldAddr 51 (Operand.tmp 1) 6, type := 0, pos := "ref.go:290", after := #[{ on := 29, ground := Ground.guard }], guard := some (29, false) }) (v := undef) rfl (by kernel_rfl) (by kernel_rfl) (by kernel_rfl) (fun _ _ _ h => h) (Or.inr ⟨by rfl, rfl⟩) (by assumption) ?_
  simp only [Act.put, List.setIfInBounds_toArray, List.set_cons_zero, List.set_cons_succ]
  refine' wpAnyH_take (i := 31) (oi := { dst := some 34, op := Op.fieldAddr 49 (Operand.tmp 33) 0, type := 0, pos := "ref.go:290", after := #[{ on := 30, ground := Ground.data }, { on := 29, ground := Ground.guard }], guard := some (29, false) }) (v := undef) rfl (by kernel_rfl) (by kernel_rfl) (by kernel_rfl) (fun _ _ _ h => h) (Or.inr ⟨by rfl, rfl⟩) (by assumption) ?_
  simp only [Act.put, List.setIfInBounds_toArray, List.set_cons_zero, List.set_cons_succ]
  refine' wpAnyH_take (i := 32) (oi := { dst := some 35, op := Op.load 3 (Operand.tmp 34), type := 3, pos := "ref.go:290", after := #[{ on := 31, ground := Ground.data }, { on := 29, ground := Ground.guard }], guard := some (29, false) }) (v := undef) rfl (by kernel_rfl) (by kernel_rfl) (by kernel_rfl) (fun _ _ _ h => h) (Or.inr ⟨by rfl, rfl⟩) (by assumption) ?_
  simp only [Act.put, List.setIfInBounds_toArray, List.set_cons_zero, List.set_cons_succ]
  refine' wpAnyH_take (i := 33) (oi := { dst := some 36, op := Op.call { callee := Callee.value (Operand.func 69), args := #[Operand.tmp 35], argTypes := #[3] }, type := 4, pos := "ref.go:290", after := #[{ on := 32, ground := Ground.data }, { on := 29, ground := Ground.chain }, { on := 29, ground := Ground.guard }], guard := some (29, false) }) (v := undef) rfl (by kernel_rfl) (by kernel_rfl) (by kernel_rfl) (fun _ _ _ h => h) (Or.inr ⟨by rfl, rfl⟩) (by assumption) ?_
  simp only [Act.put, List.setIfInBounds_toArray, List.set_cons_zero, List.set_cons_succ]
  refine' wpAnyH_take (i := 34) (oi := { dst := some 37, op := Op.pick (Operand.tmp 32) (Operand.const (Value.bool true)) (Operand.tmp 36), type := 4, pos := "ref.go:290", after := #[{ on := 29, ground := Ground.data }, { on := 33, ground := Ground.data }], guard := none }) (v := ?v133) rfl (by kernel_rfl) (by kernel_rfl) (by kernel_rfl) (fun _ _ _ h => h) (Or.inl ⟨by rfl, ?hy133⟩) (by assumption) ?rest133
  case hy133 => (intro w hSw; obtain ⟨⟨k0, k1, k2, k3, k4, k12, k13, k14⟩, kr⟩ := hSw; go_simp; (try with_reducible rfl))
  simp only [Act.put, List.setIfInBounds_toArray, List.set_cons_zero, List.set_cons_succ]
  refine' wpAnyH_take (i := 35) (oi := { dst := some 38, op := Op.move (Operand.tmp 37), type := 4, pos := "ref.go:290", after := #[{ on := 34, ground := Ground.data }, { on := 33, ground := Ground.chain }], guard := none }) (v := ?v134) rfl (by kernel_rfl) (by kernel_rfl) (by kernel_rfl) (fun _ _ _ h => h) (Or.inl ⟨by rfl, ?hy134⟩) (by assumption) ?rest134
  case hy134 => (intro w hSw; obtain ⟨⟨k0, k1, k2, k3, k4, k12, k13, k14⟩, kr⟩ := hSw; go_simp; (try with_reducible rfl))
  simp only [Act.put, List.setIfInBounds_toArray, List.set_cons_zero, List.set_cons_succ]
  refine' wpAnyH_take (i := 36) (oi := { dst := some 39, op := Op.fieldAddr 51 (Operand.tmp 1) 6, type := 0, pos := "ref.go:290", after := #[{ on := 35, ground := Ground.guard }], guard := some (35, false) }) (v := undef) rfl (by kernel_rfl) (by kernel_rfl) (by kernel_rfl) (fun _ _ _ h => h) (Or.inr ⟨by rfl, rfl⟩) (by assumption) ?_
  simp only [Act.put, List.setIfInBounds_toArray, List.set_cons_zero, List.set_cons_succ]
  refine' wpAnyH_take (i := 37) (oi := { dst := some 40, op := Op.fieldAddr 49 (Operand.tmp 39) 1, type := 0, pos := "ref.go:290", after := #[{ on := 36, ground := Ground.data }, { on := 35, ground := Ground.guard }], guard := some (35, false) }) (v := undef) rfl (by kernel_rfl) (by kernel_rfl) (by kernel_rfl) (fun _ _ _ h => h) (Or.inr ⟨by rfl, rfl⟩) (by assumption) ?_
  simp only [Act.put, List.setIfInBounds_toArray, List.set_cons_zero, List.set_cons_succ]
  refine' wpAnyH_take (i := 38) (oi := { dst := some 41, op := Op.load 3 (Operand.tmp 40), type := 3, pos := "ref.go:290", after := #[{ on := 37, ground := Ground.data }, { on := 35, ground := Ground.guard }], guard := some (35, false) }) (v := undef) rfl (by kernel_rfl) (by kernel_rfl) (by kernel_rfl) (fun _ _ _ h => h) (Or.inr ⟨by rfl, rfl⟩) (by assumption) ?_
  simp only [Act.put, List.setIfInBounds_toArray, List.set_cons_zero, List.set_cons_succ]
  refine' wpAnyH_take (i := 39) (oi := { dst := some 42, op := Op.call { callee := Callee.value (Operand.func 69), args := #[Operand.tmp 41], argTypes := #[3] }, type := 4, pos := "ref.go:290", after := #[{ on := 38, ground := Ground.data }, { on := 35, ground := Ground.chain }, { on := 35, ground := Ground.guard }], guard := some (35, false) }) (v := undef) rfl (by kernel_rfl) (by kernel_rfl) (by kernel_rfl) (fun _ _ _ h => h) (Or.inr ⟨by rfl, rfl⟩) (by assumption) ?_
  simp only [Act.put, List.setIfInBounds_toArray, List.set_cons_zero, List.set_cons_succ]
  refine' wpAnyH_take (i := 40) (oi := { dst := some 43, op := Op.pick (Operand.tmp 38) (Operand.const (Value.bool true)) (Operand.tmp 42), type := 4, pos := "ref.go:290", after := #[{ on := 35, ground := Ground.data }, { on := 39, ground := Ground.data }], guard := none }) (v := ?v135) rfl (by kernel_rfl) (by kernel_rfl) (by kernel_rfl) (fun _ _ _ h => h) (Or.inl ⟨by rfl, ?hy135⟩) (by assumption) ?rest135
  case hy135 => (intro w hSw; obtain ⟨⟨k0, k1, k2, k3, k4, k12, k13, k14⟩, kr⟩ := hSw; go_simp; (try with_reducible rfl))
  simp only [Act.put, List.setIfInBounds_toArray, List.set_cons_zero, List.set_cons_succ]
  refine' wpAnyH_take (i := 41) (oi := { dst := some 44, op := Op.move (Operand.tmp 43), type := 4, pos := "ref.go:290", after := #[{ on := 40, ground := Ground.data }, { on := 39, ground := Ground.chain }], guard := none }) (v := ?v136) rfl (by kernel_rfl) (by kernel_rfl) (by kernel_rfl) (fun _ _ _ h => h) (Or.inl ⟨by rfl, ?hy136⟩) (by assumption) ?rest136
  case hy136 => (intro w hSw; obtain ⟨⟨k0, k1, k2, k3, k4, k12, k13, k14⟩, kr⟩ := hSw; go_simp; (try with_reducible rfl))
  simp only [Act.put, List.setIfInBounds_toArray, List.set_cons_zero, List.set_cons_succ]
  refine' wpAnyH_take (i := 42) (oi := { dst := some 45, op := Op.fieldAddr 51 (Operand.tmp 1) 6, type := 0, pos := "ref.go:290", after := #[{ on := 41, ground := Ground.guard }], guard := some (41, false) }) (v := undef) rfl (by kernel_rfl) (by kernel_rfl) (by kernel_rfl) (fun _ _ _ h => h) (Or.inr ⟨by rfl, rfl⟩) (by assumption) ?_
  simp only [Act.put, List.setIfInBounds_toArray, List.set_cons_zero, List.set_cons_succ]
  refine' wpAnyH_take (i := 43) (oi := { dst := some 46, op := Op.fieldAddr 49 (Operand.tmp 45) 2, type := 0, pos := "ref.go:290", after := #[{ on := 42, ground := Ground.data }, { on := 41, ground := Ground.guard }], guard := some (41, false) }) (v := undef) rfl (by kernel_rfl) (by kernel_rfl) (by kernel_rfl) (fun _ _ _ h => h) (Or.inr ⟨by rfl, rfl⟩) (by assumption) ?_
  simp only [Act.put, List.setIfInBounds_toArray, List.set_cons_zero, List.set_cons_succ]
  refine' wpAnyH_take (i := 44) (oi := { dst := some 47, op := Op.load 29 (Operand.tmp 46), type := 29, pos := "ref.go:290", after := #[{ on := 43, ground := Ground.data }, { on := 41, ground := Ground.guard }], guard := some (41, false) }) (v := undef) rfl (by kernel_rfl) (by kernel_rfl) (by kernel_rfl) (fun _ _ _ h => h) (Or.inr ⟨by rfl, rfl⟩) (by assumption) ?_
  simp only [Act.put, List.setIfInBounds_toArray, List.set_cons_zero, List.set_cons_succ]
  refine' wpAnyH_take (i := 45) (oi := { dst := some 48, op := Op.call { callee := Callee.value (Operand.func 69), args := #[Operand.tmp 47], argTypes := #[3] }, type := 4, pos := "ref.go:290", after := #[{ on := 44, ground := Ground.data }, { on := 41, ground := Ground.chain }, { on := 41, ground := Ground.guard }], guard := some (41, false) }) (v := undef) rfl (by kernel_rfl) (by kernel_rfl) (by kernel_rfl) (fun _ _ _ h => h) (Or.inr ⟨by rfl, rfl⟩) (by assumption) ?_
  simp only [Act.put, List.setIfInBounds_toArray, List.set_cons_zero, List.set_cons_succ]
  refine' wpAnyH_take (i := 46) (oi := { dst := some 49, op := Op.pick (Operand.tmp 44) (Operand.const (Value.bool true)) (Operand.tmp 48), type := 4, pos := "ref.go:290", after := #[{ on := 41, ground := Ground.data }, { on := 45, ground := Ground.data }], guard := none }) (v := ?v137) rfl (by kernel_rfl) (by kernel_rfl) (by kernel_rfl) (fun _ _ _ h => h) (Or.inl ⟨by rfl, ?hy137⟩) (by assumption) ?rest137
  case hy137 => (intro w hSw; obtain ⟨⟨k0, k1, k2, k3, k4, k12, k13, k14⟩, kr⟩ := hSw; go_simp; (try with_reducible rfl))
  simp only [Act.put, List.setIfInBounds_toArray, List.set_cons_zero, List.set_cons_succ]
  refine wpAnyH_done (by kernel_rfl) ?_ _
  go_wp2_with fail
  go_ret
  exact ⟨bb hok.out.symm, B2⟩
set_option maxRecDepth 100000 in
set_option maxHeartbeats 8000000 in
theorem rplainNote_6 (n : NoteD) (xs : Array Value) (hx : IsNote xs n) (w : World) (hok : Hid (n.ok = false)) (hq : ∀ W' : World, (binOp .neq 51 (.agg n.cells.toArray) (.agg n.only.cells.toArray)).run Try.prog W' = .ok (.bool false) W') (h1 : (n.kind == 0) = false) (h2 : okN n.epoch = true) (h3 : okN n.version = true) (h4 : okN n.next = true) (h5 : okN n.client = true) (h6 : okN n.seen.life = false) : Calls Try.prog 48 #[.agg xs] w (Tells n.ok w) := by
  have hA : ∀ W, W = w.alloc (.cells xs 51) → NoteAt W w.heap.size n ∧ Below w.heap.size w W := by rw [hx.eq]; exact nat_add n w
  clear hx
  have hgt : ∀ W, W = w.alloc (.cells xs 51) → w.heap.size < W.heap.size := by rintro W rfl; simp
  obtain ⟨W, hW⟩ : ∃ W, W = w.alloc (.cells xs 51) := ⟨_, rfl⟩
  obtain ⟨hN, hB⟩ := hA W hW
  have hlt := hgt W hW
  have HW := Lib.hid hW
  have s0 : NS w.heap.size n W.drew := hN.ns
  clear hA hgt hW
  go_enter Try.func48, Try.ntmps48
  go_wp2_with fail
  rw [← HW.out]
  refine wp_region_held_drew (S := (fun w' => NS w.heap.size n w')) (by kernel_rfl) s0 (fun hHeld => ?_)
  refine' wpAnyH_take (i := 0) (oi := { dst := some 3, op := Op.load 51 (Operand.tmp 1), type := 51, pos := "ref.go:290", after := #[], guard := none }) (v := _) rfl (by kernel_rfl) (by kernel_rfl) (by kernel_rfl) (fun _ _ _ h => h) (yieldsIf_load_mid (by rfl) _ _ rfl _ _ rfl _ _ (fun w h => h.2) Try.underlying51 rfl size_note) (by assumption) ?_
  simp only [Act.put, List.setIfInBounds_toArray, List.set_cons_zero, List.set_cons_succ]
  refine' wpAnyH_take (i := 1) (oi := { dst := some 4, op := Op.load 51 (Operand.tmp 1), type := 51, pos := "ref.go:290", after := #[], guard := none }) (v := _) rfl (by kernel_rfl) (by kernel_rfl) (by kernel_rfl) (fun _ _ _ h => h) (yieldsIf_load_mid (by rfl) _ _ rfl _ _ rfl _ _ (fun w h => h.2) Try.underlying51 rfl size_note) (by assumption) ?_
  simp only [Act.put, List.setIfInBounds_toArray, List.set_cons_zero, List.set_cons_succ]
  refine wpAnyH_ready (rs := [2]) (by kernel_rfl) (by simp) ?_
  refine AllReadyH.cons (o := { dst := some 5, op := Op.call { callee := Callee.value (Operand.func 76), args := #[Operand.tmp 4], argTypes := #[51] }, type := 51, pos := "ref.go:290", after := #[{ on := 1, ground := Ground.data }], guard := none }) rfl (fun K hK => ?_) AllReadyH.nil
  go_simp
  refine (only_any n _ ⟨rfl⟩ _).mono ?_
  rintro e w2 ⟨ys, rfl, hys, b2'⟩
  obtain rfl := hys.eq
  have b2 := below_undrew b2'
  have hN2 := hN.below b2
  have B2 := bel_next hB b2
  go_wp2_with fail
  refine hK.out _ _ hN2.ns (fun hHeld => ?_)
  clear hK K
  try simp only [Act.put, List.setIfInBounds_toArray, List.set_cons_zero, List.set_cons_succ]
  refine' wpAnyH_take (i := 3) (oi := { dst := some 6, op := Op.binOp BinOp.neq 51 (Operand.tmp 3) (Operand.tmp 5) 51, type := 4, pos := "ref.go:290", after := #[{ on := 0, ground := Ground.data }, { on := 2, ground := Ground.data }], guard := none }) (v := ?v138) rfl (by kernel_rfl) (by kernel_rfl) (by kernel_rfl) (fun _ _ _ h => h) (Or.inl ⟨by rfl, ?hy138⟩) (by assumption) ?rest138
  case hy138 => (intro w hSw; obtain ⟨⟨k0, k1, k2, k3, k4, k12, k13, k14⟩, kr⟩ := hSw; go_simp; (try with_reducible rfl))
  simp only [Act.put, List.setIfInBounds_toArray, List.set_cons_zero, List.set_cons_succ]
  refine' wpAnyH_take (i := 4) (oi := { dst := some 7, op := Op.move (Operand.tmp 6), type := 4, pos := "ref.go:290", after := #[{ on := 3, ground := Ground.data }, { on := 2, ground := Ground.chain }], guard := none }) (v := ?v139) rfl (by kernel_rfl) (by kernel_rfl) (by kernel_rfl) (fun _ _ _ h => h) (Or.inl ⟨by rfl, ?hy139⟩) (by assumption) ?rest139
  case hy139 => (intro w hSw; obtain ⟨⟨k0, k1, k2, k3, k4, k12, k13, k14⟩, kr⟩ := hSw; go_simp; (try with_reducible rfl))
  simp only [Act.put, List.setIfInBounds_toArray, List.set_cons_zero, List.set_cons_succ]
  refine' wpAnyH_take (i := 5) (oi := { dst := some 8, op := Op.fieldAddr 51 (Operand.tmp 1) 0, type := 0, pos := "ref.go:290", after := #[{ on := 4, ground := Ground.guard }], guard := some (4, false) }) (v := ?v140) rfl (by kernel_rfl) (by kernel_rfl) (by kernel_rfl) (fun _ _ _ h => h) (Or.inl ⟨by rfl, ?hy140⟩) (by assumption) ?rest140
  case hy140 => (intro w hSw; obtain ⟨⟨k0, k1, k2, k3, k4, k12, k13, k14⟩, kr⟩ := hSw; go_simp; (try with_reducible rfl))
  simp only [Act.put, List.setIfInBounds_toArray, List.set_cons_zero, List.set_cons_succ]
  refine' wpAnyH_take (i := 6) (oi := { dst := some 9, op := Op.load 3 (Operand.tmp 8), type := 3, pos := "ref.go:290", after := #[{ on := 5, ground := Ground.data }, { on := 4, ground := Ground.guard }], guard := some (4, false) }) (v := ?v141) rfl (by kernel_rfl) (by kernel_rfl) (by kernel_rfl) (fun _ _ _ h => h) (Or.inl ⟨by rfl, ?hy141⟩) (by assumption) ?rest141
  case hy141 => (intro w hSw; obtain ⟨⟨k0, k1, k2, k3, k4, k12, k13, k14⟩, kr⟩ := hSw; go_simp; (try with_reducible rfl))
  simp only [Act.put, List.setIfInBounds_toArray, List.set_cons_zero, List.set_cons_succ]
  refine' wpAnyH_take (i := 7) (oi := { dst := some 10, op := Op.binOp BinOp.eql 3 (Operand.tmp 9) (Operand.const (Value.int IntKind.i64 0)) 3, type := 4, pos := "ref.go:290", after := #[{ on := 6, ground := Ground.data }, { on := 4, ground := Ground.guard }], guard := some (4, false) }) (v := ?v142) rfl (by kernel_rfl) (by kernel_rfl) (by kernel_rfl) (fun _ _ _ h => h) (Or.inl ⟨by rfl, ?hy142⟩) (by assumption) ?rest142
  case hy142 => (intro w hSw; obtain ⟨⟨k0, k1, k2, k3, k4, k12, k13, k14⟩, kr⟩ := hSw; go_simp; (try with_reducible rfl))
  simp only [Act.put, List.setIfInBounds_toArray, List.set_cons_zero, List.set_cons_succ]
  refine' wpAnyH_take (i := 8) (oi := { dst := some 11, op := Op.pick (Operand.tmp 7) (Operand.const (Value.bool true)) (Operand.tmp 10), type := 4, pos := "ref.go:290", after := #[{ on := 4, ground := Ground.data }, { on := 7, ground := Ground.data }], guard := none }) (v := ?v143) rfl (by kernel_rfl) (by kernel_rfl) (by kernel_rfl) (fun _ _ _ h => h) (Or.inl ⟨by rfl, ?hy143⟩) (by assumption) ?rest143
  case hy143 => (intro w hSw; obtain ⟨⟨k0, k1, k2, k3, k4, k12, k13, k14⟩, kr⟩ := hSw; go_simp; (try with_reducible rfl))
  simp only [Act.put, List.setIfInBounds_toArray, List.set_cons_zero, List.set_cons_succ]
  refine' wpAnyH_take (i := 9) (oi := { dst := some 12, op := Op.move (Operand.tmp 11), type := 4, pos := "ref.go:290", after := #[{ on := 8, ground := Ground.data }, { on := 4, ground := Ground.chain }], guard := none }) (v := ?v144) rfl (by kernel_rfl) (by kernel_rfl) (by kernel_rfl) (fun _ _ _ h => h) (Or.inl ⟨by rfl, ?hy144⟩) (by assumption) ?rest144
  case hy144 => (intro w hSw; obtain ⟨⟨k0, k1, k2, k3, k4, k12, k13, k14⟩, kr⟩ := hSw; go_simp; (try with_reducible rfl))
  simp only [Act.put, List.setIfInBounds_toArray, List.set_cons_zero, List.set_cons_succ]
  refine' wpAnyH_take (i := 10) (oi := { dst := some 13, op := Op.fieldAddr 51 (Operand.tmp 1) 1, type := 0, pos := "ref.go:290", after := #[{ on := 9, ground := Ground.guard }], guard := some (9, false) }) (v := ?v145) rfl (by kernel_rfl) (by kernel_rfl) (by kernel_rfl) (fun _ _ _ h => h) (Or.inl ⟨by rfl, ?hy145⟩) (by assumption) ?rest145
  case hy145 => (intro w hSw; obtain ⟨⟨k0, k1, k2, k3, k4, k12, k13, k14⟩, kr⟩ := hSw; go_simp; (try with_reducible rfl))
  simp only [Act.put, List.setIfInBounds_toArray, List.set_cons_zero, List.set_cons_succ]
  refine' wpAnyH_take (i := 11) (oi := { dst := some 14, op := Op.load 3 (Operand.tmp 13), type := 3, pos := "ref.go:290", after := #[{ on := 10, ground := Ground.data }, { on := 9, ground := Ground.guard }], guard := some (9, false) }) (v := ?v146) rfl (by kernel_rfl) (by kernel_rfl) (by kernel_rfl) (fun _ _ _ h => h) (Or.inl ⟨by rfl, ?hy146⟩) (by assumption) ?rest146
  case hy146 => (intro w hSw; obtain ⟨⟨k0, k1, k2, k3, k4, k12, k13, k14⟩, kr⟩ := hSw; go_simp; (try with_reducible rfl))
  simp only [Act.put, List.setIfInBounds_toArray, List.set_cons_zero, List.set_cons_succ]
  refine wpAnyH_ready (rs := [12]) (by kernel_rfl) (by simp) ?_
  refine AllReadyH.cons (o := { dst := some 15, op := Op.call { callee := Callee.value (Operand.func 69), args := #[Operand.tmp 14], argTypes := #[3] }, type := 4, pos := "ref.go:290", after := #[{ on := 11, ground := Ground.data }, { on := 9, ground := Ground.chain }, { on := 9, ground := Ground.guard }], guard := some (9, false) }) rfl (fun K hK => ?_) AllReadyH.nil
  go_simp
  refine (bad_any _ _).mono ?_
  rintro e w1 ⟨rfl, rfl⟩
  rw [h2]
  go_wp2_with fail
  refine hK.out _ _ hN2.ns (fun hHeld => ?_)
  clear hK K
  try simp only [Act.put, List.setIfInBounds_toArray, List.set_cons_zero, List.set_cons_succ]
  refine' wpAnyH_take (i := 13) (oi := { dst := some 16, op := Op.pick (Operand.tmp 12) (Operand.const (Value.bool true)) (Operand.tmp 15), type := 4, pos := "ref.go:290", after := #[{ on := 9, ground := Ground.data }, { on := 12, ground := Ground.data }], guard := none }) (v := ?v147) rfl (by kernel_rfl) (by kernel_rfl) (by kernel_rfl) (fun _ _ _ h => h) (Or.inl ⟨by rfl, ?hy147⟩) (by assumption) ?rest147
  case hy147 => (intro w hSw; obtain ⟨⟨k0, k1, k2, k3, k4, k12, k13, k14⟩, kr⟩ := hSw; go_simp; (try with_reducible rfl))
  simp only [Act.put, List.setIfInBounds_toArray, List.set_cons_zero, List.set_cons_succ]
  refine' wpAnyH_take (i := 14) (oi := { dst := some 17, op := Op.move (Operand.tmp 16), type := 4, pos := "ref.go:290", after := #[{ on := 13, ground := Ground.data }, { on := 12, ground := Ground.chain }], guard := none }) (v := ?v148) rfl (by kernel_rfl) (by kernel_rfl) (by kernel_rfl) (fun _ _ _ h => h) (Or.inl ⟨by rfl, ?hy148⟩) (by assumption) ?rest148
  case hy148 => (intro w hSw; obtain ⟨⟨k0, k1, k2, k3, k4, k12, k13, k14⟩, kr⟩ := hSw; go_simp; (try with_reducible rfl))
  simp only [Act.put, List.setIfInBounds_toArray, List.set_cons_zero, List.set_cons_succ]
  refine' wpAnyH_take (i := 15) (oi := { dst := some 18, op := Op.fieldAddr 51 (Operand.tmp 1) 2, type := 0, pos := "ref.go:290", after := #[{ on := 14, ground := Ground.guard }], guard := some (14, false) }) (v := ?v149) rfl (by kernel_rfl) (by kernel_rfl) (by kernel_rfl) (fun _ _ _ h => h) (Or.inl ⟨by rfl, ?hy149⟩) (by assumption) ?rest149
  case hy149 => (intro w hSw; obtain ⟨⟨k0, k1, k2, k3, k4, k12, k13, k14⟩, kr⟩ := hSw; go_simp; (try with_reducible rfl))
  simp only [Act.put, List.setIfInBounds_toArray, List.set_cons_zero, List.set_cons_succ]
  refine' wpAnyH_take (i := 16) (oi := { dst := some 19, op := Op.load 3 (Operand.tmp 18), type := 3, pos := "ref.go:290", after := #[{ on := 15, ground := Ground.data }, { on := 14, ground := Ground.guard }], guard := some (14, false) }) (v := ?v150) rfl (by kernel_rfl) (by kernel_rfl) (by kernel_rfl) (fun _ _ _ h => h) (Or.inl ⟨by rfl, ?hy150⟩) (by assumption) ?rest150
  case hy150 => (intro w hSw; obtain ⟨⟨k0, k1, k2, k3, k4, k12, k13, k14⟩, kr⟩ := hSw; go_simp; (try with_reducible rfl))
  simp only [Act.put, List.setIfInBounds_toArray, List.set_cons_zero, List.set_cons_succ]
  refine wpAnyH_ready (rs := [17]) (by kernel_rfl) (by simp) ?_
  refine AllReadyH.cons (o := { dst := some 20, op := Op.call { callee := Callee.value (Operand.func 69), args := #[Operand.tmp 19], argTypes := #[3] }, type := 4, pos := "ref.go:290", after := #[{ on := 16, ground := Ground.data }, { on := 14, ground := Ground.chain }, { on := 14, ground := Ground.guard }], guard := some (14, false) }) rfl (fun K hK => ?_) AllReadyH.nil
  go_simp
  refine (bad_any _ _).mono ?_
  rintro e w1 ⟨rfl, rfl⟩
  rw [h3]
  go_wp2_with fail
  refine hK.out _ _ hN2.ns (fun hHeld => ?_)
  clear hK K
  try simp only [Act.put, List.setIfInBounds_toArray, List.set_cons_zero, List.set_cons_succ]
  refine' wpAnyH_take (i := 18) (oi := { dst := some 21, op := Op.pick (Operand.tmp 17) (Operand.const (Value.bool true)) (Operand.tmp 20), type := 4, pos := "ref.go:290", after := #[{ on := 14, ground := Ground.data }, { on := 17, ground := Ground.data }], guard := none }) (v := ?v151) rfl (by kernel_rfl) (by kernel_rfl) (by kernel_rfl) (fun _ _ _ h => h) (Or.inl ⟨by rfl, ?hy151⟩) (by assumption) ?rest151
  case hy151 => (intro w hSw; obtain ⟨⟨k0, k1, k2, k3, k4, k12, k13, k14⟩, kr⟩ := hSw; go_simp; (try with_reducible rfl))
  simp only [Act.put, List.setIfInBounds_toArray, List.set_cons_zero, List.set_cons_succ]
  refine' wpAnyH_take (i := 19) (oi := { dst := some 22, op := Op.move (Operand.tmp 21), type := 4, pos := "ref.go:290", after := #[{ on := 18, ground := Ground.data }, { on := 17, ground := Ground.chain }], guard := none }) (v := ?v152) rfl (by kernel_rfl) (by kernel_rfl) (by kernel_rfl) (fun _ _ _ h => h) (Or.inl ⟨by rfl, ?hy152⟩) (by assumption) ?rest152
  case hy152 => (intro w hSw; obtain ⟨⟨k0, k1, k2, k3, k4, k12, k13, k14⟩, kr⟩ := hSw; go_simp; (try with_reducible rfl))
  simp only [Act.put, List.setIfInBounds_toArray, List.set_cons_zero, List.set_cons_succ]
  refine' wpAnyH_take (i := 20) (oi := { dst := some 23, op := Op.fieldAddr 51 (Operand.tmp 1) 3, type := 0, pos := "ref.go:290", after := #[{ on := 19, ground := Ground.guard }], guard := some (19, false) }) (v := ?v153) rfl (by kernel_rfl) (by kernel_rfl) (by kernel_rfl) (fun _ _ _ h => h) (Or.inl ⟨by rfl, ?hy153⟩) (by assumption) ?rest153
  case hy153 => (intro w hSw; obtain ⟨⟨k0, k1, k2, k3, k4, k12, k13, k14⟩, kr⟩ := hSw; go_simp; (try with_reducible rfl))
  simp only [Act.put, List.setIfInBounds_toArray, List.set_cons_zero, List.set_cons_succ]
  refine' wpAnyH_take (i := 21) (oi := { dst := some 24, op := Op.load 3 (Operand.tmp 23), type := 3, pos := "ref.go:290", after := #[{ on := 20, ground := Ground.data }, { on := 19, ground := Ground.guard }], guard := some (19, false) }) (v := ?v154) rfl (by kernel_rfl) (by kernel_rfl) (by kernel_rfl) (fun _ _ _ h => h) (Or.inl ⟨by rfl, ?hy154⟩) (by assumption) ?rest154
  case hy154 => (intro w hSw; obtain ⟨⟨k0, k1, k2, k3, k4, k12, k13, k14⟩, kr⟩ := hSw; go_simp; (try with_reducible rfl))
  simp only [Act.put, List.setIfInBounds_toArray, List.set_cons_zero, List.set_cons_succ]
  refine wpAnyH_ready (rs := [22]) (by kernel_rfl) (by simp) ?_
  refine AllReadyH.cons (o := { dst := some 25, op := Op.call { callee := Callee.value (Operand.func 69), args := #[Operand.tmp 24], argTypes := #[3] }, type := 4, pos := "ref.go:290", after := #[{ on := 21, ground := Ground.data }, { on := 19, ground := Ground.chain }, { on := 19, ground := Ground.guard }], guard := some (19, false) }) rfl (fun K hK => ?_) AllReadyH.nil
  go_simp
  refine (bad_any _ _).mono ?_
  rintro e w1 ⟨rfl, rfl⟩
  rw [h4]
  go_wp2_with fail
  refine hK.out _ _ hN2.ns (fun hHeld => ?_)
  clear hK K
  try simp only [Act.put, List.setIfInBounds_toArray, List.set_cons_zero, List.set_cons_succ]
  refine' wpAnyH_take (i := 23) (oi := { dst := some 26, op := Op.pick (Operand.tmp 22) (Operand.const (Value.bool true)) (Operand.tmp 25), type := 4, pos := "ref.go:290", after := #[{ on := 19, ground := Ground.data }, { on := 22, ground := Ground.data }], guard := none }) (v := ?v155) rfl (by kernel_rfl) (by kernel_rfl) (by kernel_rfl) (fun _ _ _ h => h) (Or.inl ⟨by rfl, ?hy155⟩) (by assumption) ?rest155
  case hy155 => (intro w hSw; obtain ⟨⟨k0, k1, k2, k3, k4, k12, k13, k14⟩, kr⟩ := hSw; go_simp; (try with_reducible rfl))
  simp only [Act.put, List.setIfInBounds_toArray, List.set_cons_zero, List.set_cons_succ]
  refine' wpAnyH_take (i := 24) (oi := { dst := some 27, op := Op.move (Operand.tmp 26), type := 4, pos := "ref.go:290", after := #[{ on := 23, ground := Ground.data }, { on := 22, ground := Ground.chain }], guard := none }) (v := ?v156) rfl (by kernel_rfl) (by kernel_rfl) (by kernel_rfl) (fun _ _ _ h => h) (Or.inl ⟨by rfl, ?hy156⟩) (by assumption) ?rest156
  case hy156 => (intro w hSw; obtain ⟨⟨k0, k1, k2, k3, k4, k12, k13, k14⟩, kr⟩ := hSw; go_simp; (try with_reducible rfl))
  simp only [Act.put, List.setIfInBounds_toArray, List.set_cons_zero, List.set_cons_succ]
  refine' wpAnyH_take (i := 25) (oi := { dst := some 28, op := Op.fieldAddr 51 (Operand.tmp 1) 4, type := 0, pos := "ref.go:290", after := #[{ on := 24, ground := Ground.guard }], guard := some (24, false) }) (v := ?v157) rfl (by kernel_rfl) (by kernel_rfl) (by kernel_rfl) (fun _ _ _ h => h) (Or.inl ⟨by rfl, ?hy157⟩) (by assumption) ?rest157
  case hy157 => (intro w hSw; obtain ⟨⟨k0, k1, k2, k3, k4, k12, k13, k14⟩, kr⟩ := hSw; go_simp; (try with_reducible rfl))
  simp only [Act.put, List.setIfInBounds_toArray, List.set_cons_zero, List.set_cons_succ]
  refine' wpAnyH_take (i := 26) (oi := { dst := some 29, op := Op.load 3 (Operand.tmp 28), type := 3, pos := "ref.go:290", after := #[{ on := 25, ground := Ground.data }, { on := 24, ground := Ground.guard }], guard := some (24, false) }) (v := ?v158) rfl (by kernel_rfl) (by kernel_rfl) (by kernel_rfl) (fun _ _ _ h => h) (Or.inl ⟨by rfl, ?hy158⟩) (by assumption) ?rest158
  case hy158 => (intro w hSw; obtain ⟨⟨k0, k1, k2, k3, k4, k12, k13, k14⟩, kr⟩ := hSw; go_simp; (try with_reducible rfl))
  simp only [Act.put, List.setIfInBounds_toArray, List.set_cons_zero, List.set_cons_succ]
  refine wpAnyH_ready (rs := [27]) (by kernel_rfl) (by simp) ?_
  refine AllReadyH.cons (o := { dst := some 30, op := Op.call { callee := Callee.value (Operand.func 69), args := #[Operand.tmp 29], argTypes := #[3] }, type := 4, pos := "ref.go:290", after := #[{ on := 26, ground := Ground.data }, { on := 24, ground := Ground.chain }, { on := 24, ground := Ground.guard }], guard := some (24, false) }) rfl (fun K hK => ?_) AllReadyH.nil
  go_simp
  refine (bad_any _ _).mono ?_
  rintro e w1 ⟨rfl, rfl⟩
  rw [h5]
  go_wp2_with fail
  refine hK.out _ _ hN2.ns (fun hHeld => ?_)
  clear hK K
  try simp only [Act.put, List.setIfInBounds_toArray, List.set_cons_zero, List.set_cons_succ]
  refine' wpAnyH_take (i := 28) (oi := { dst := some 31, op := Op.pick (Operand.tmp 27) (Operand.const (Value.bool true)) (Operand.tmp 30), type := 4, pos := "ref.go:290", after := #[{ on := 24, ground := Ground.data }, { on := 27, ground := Ground.data }], guard := none }) (v := ?v159) rfl (by kernel_rfl) (by kernel_rfl) (by kernel_rfl) (fun _ _ _ h => h) (Or.inl ⟨by rfl, ?hy159⟩) (by assumption) ?rest159
  case hy159 => (intro w hSw; obtain ⟨⟨k0, k1, k2, k3, k4, k12, k13, k14⟩, kr⟩ := hSw; go_simp; (try with_reducible rfl))
  simp only [Act.put, List.setIfInBounds_toArray, List.set_cons_zero, List.set_cons_succ]
  refine' wpAnyH_take (i := 29) (oi := { dst := some 32, op := Op.move (Operand.tmp 31), type := 4, pos := "ref.go:290", after := #[{ on := 28, ground := Ground.data }, { on := 27, ground := Ground.chain }], guard := none }) (v := ?v160) rfl (by kernel_rfl) (by kernel_rfl) (by kernel_rfl) (fun _ _ _ h => h) (Or.inl ⟨by rfl, ?hy160⟩) (by assumption) ?rest160
  case hy160 => (intro w hSw; obtain ⟨⟨k0, k1, k2, k3, k4, k12, k13, k14⟩, kr⟩ := hSw; go_simp; (try with_reducible rfl))
  simp only [Act.put, List.setIfInBounds_toArray, List.set_cons_zero, List.set_cons_succ]
  refine' wpAnyH_take (i := 30) (oi := { dst := some 33, op := Op.fieldAddr 51 (Operand.tmp 1) 6, type := 0, pos := "ref.go:290", after := #[{ on := 29, ground := Ground.guard }], guard := some (29, false) }) (v := ?v161) rfl (by kernel_rfl) (by kernel_rfl) (by kernel_rfl) (fun _ _ _ h => h) (Or.inl ⟨by rfl, ?hy161⟩) (by assumption) ?rest161
  case hy161 => (intro w hSw; obtain ⟨⟨k0, k1, k2, k3, k4, k12, k13, k14⟩, kr⟩ := hSw; go_simp; (try with_reducible rfl))
  simp only [Act.put, List.setIfInBounds_toArray, List.set_cons_zero, List.set_cons_succ]
  refine' wpAnyH_take (i := 31) (oi := { dst := some 34, op := Op.fieldAddr 49 (Operand.tmp 33) 0, type := 0, pos := "ref.go:290", after := #[{ on := 30, ground := Ground.data }, { on := 29, ground := Ground.guard }], guard := some (29, false) }) (v := ?v162) rfl (by kernel_rfl) (by kernel_rfl) (by kernel_rfl) (fun _ _ _ h => h) (Or.inl ⟨by rfl, ?hy162⟩) (by assumption) ?rest162
  case hy162 => (intro w hSw; obtain ⟨⟨k0, k1, k2, k3, k4, k12, k13, k14⟩, kr⟩ := hSw; go_simp; (try with_reducible rfl))
  simp only [Act.put, List.setIfInBounds_toArray, List.set_cons_zero, List.set_cons_succ]
  refine' wpAnyH_take (i := 32) (oi := { dst := some 35, op := Op.load 3 (Operand.tmp 34), type := 3, pos := "ref.go:290", after := #[{ on := 31, ground := Ground.data }, { on := 29, ground := Ground.guard }], guard := some (29, false) }) (v := ?v163) rfl (by kernel_rfl) (by kernel_rfl) (by kernel_rfl) (fun _ _ _ h => h) (Or.inl ⟨by rfl, ?hy163⟩) (by assumption) ?rest163
  case hy163 => (intro w hSw; obtain ⟨⟨k0, k1, k2, k3, k4, k12, k13, k14⟩, kr⟩ := hSw; go_simp; (try with_reducible rfl))
  simp only [Act.put, List.setIfInBounds_toArray, List.set_cons_zero, List.set_cons_succ]
  refine wpAnyH_ready (rs := [33]) (by kernel_rfl) (by simp) ?_
  refine AllReadyH.cons (o := { dst := some 36, op := Op.call { callee := Callee.value (Operand.func 69), args := #[Operand.tmp 35], argTypes := #[3] }, type := 4, pos := "ref.go:290", after := #[{ on := 32, ground := Ground.data }, { on := 29, ground := Ground.chain }, { on := 29, ground := Ground.guard }], guard := some (29, false) }) rfl (fun K hK => ?_) AllReadyH.nil
  go_simp
  refine (bad_any _ _).mono ?_
  rintro e w1 ⟨rfl, rfl⟩
  rw [h6]
  go_wp2_with fail
  refine hK.out _ _ hN2.ns (fun hHeld => ?_)
  clear hK K
  try simp only [Act.put, List.setIfInBounds_toArray, List.set_cons_zero, List.set_cons_succ]
  refine' wpAnyH_take (i := 34) (oi := { dst := some 37, op := Op.pick (Operand.tmp 32) (Operand.const (Value.bool true)) (Operand.tmp 36), type := 4, pos := "ref.go:290", after := #[{ on := 29, ground := Ground.data }, { on := 33, ground := Ground.data }], guard := none }) (v := ?v164) rfl (by kernel_rfl) (by kernel_rfl) (by kernel_rfl) (fun _ _ _ h => h) (Or.inl ⟨by rfl, ?hy164⟩) (by assumption) ?rest164
  case hy164 => (intro w hSw; obtain ⟨⟨k0, k1, k2, k3, k4, k12, k13, k14⟩, kr⟩ := hSw; go_simp; (try with_reducible rfl))
  simp only [Act.put, List.setIfInBounds_toArray, List.set_cons_zero, List.set_cons_succ]
  refine' wpAnyH_take (i := 35) (oi := { dst := some 38, op := Op.move (Operand.tmp 37), type := 4, pos := "ref.go:290", after := #[{ on := 34, ground := Ground.data }, { on := 33, ground := Ground.chain }], guard := none }) (v := ?v165) rfl (by kernel_rfl) (by kernel_rfl) (by kernel_rfl) (fun _ _ _ h => h) (Or.inl ⟨by rfl, ?hy165⟩) (by assumption) ?rest165
  case hy165 => (intro w hSw; obtain ⟨⟨k0, k1, k2, k3, k4, k12, k13, k14⟩, kr⟩ := hSw; go_simp; (try with_reducible rfl))
  simp only [Act.put, List.setIfInBounds_toArray, List.set_cons_zero, List.set_cons_succ]
  refine' wpAnyH_take (i := 36) (oi := { dst := some 39, op := Op.fieldAddr 51 (Operand.tmp 1) 6, type := 0, pos := "ref.go:290", after := #[{ on := 35, ground := Ground.guard }], guard := some (35, false) }) (v := undef) rfl (by kernel_rfl) (by kernel_rfl) (by kernel_rfl) (fun _ _ _ h => h) (Or.inr ⟨by rfl, rfl⟩) (by assumption) ?_
  simp only [Act.put, List.setIfInBounds_toArray, List.set_cons_zero, List.set_cons_succ]
  refine' wpAnyH_take (i := 37) (oi := { dst := some 40, op := Op.fieldAddr 49 (Operand.tmp 39) 1, type := 0, pos := "ref.go:290", after := #[{ on := 36, ground := Ground.data }, { on := 35, ground := Ground.guard }], guard := some (35, false) }) (v := undef) rfl (by kernel_rfl) (by kernel_rfl) (by kernel_rfl) (fun _ _ _ h => h) (Or.inr ⟨by rfl, rfl⟩) (by assumption) ?_
  simp only [Act.put, List.setIfInBounds_toArray, List.set_cons_zero, List.set_cons_succ]
  refine' wpAnyH_take (i := 38) (oi := { dst := some 41, op := Op.load 3 (Operand.tmp 40), type := 3, pos := "ref.go:290", after := #[{ on := 37, ground := Ground.data }, { on := 35, ground := Ground.guard }], guard := some (35, false) }) (v := undef) rfl (by kernel_rfl) (by kernel_rfl) (by kernel_rfl) (fun _ _ _ h => h) (Or.inr ⟨by rfl, rfl⟩) (by assumption) ?_
  simp only [Act.put, List.setIfInBounds_toArray, List.set_cons_zero, List.set_cons_succ]
  refine' wpAnyH_take (i := 39) (oi := { dst := some 42, op := Op.call { callee := Callee.value (Operand.func 69), args := #[Operand.tmp 41], argTypes := #[3] }, type := 4, pos := "ref.go:290", after := #[{ on := 38, ground := Ground.data }, { on := 35, ground := Ground.chain }, { on := 35, ground := Ground.guard }], guard := some (35, false) }) (v := undef) rfl (by kernel_rfl) (by kernel_rfl) (by kernel_rfl) (fun _ _ _ h => h) (Or.inr ⟨by rfl, rfl⟩) (by assumption) ?_
  simp only [Act.put, List.setIfInBounds_toArray, List.set_cons_zero, List.set_cons_succ]
  refine' wpAnyH_take (i := 40) (oi := { dst := some 43, op := Op.pick (Operand.tmp 38) (Operand.const (Value.bool true)) (Operand.tmp 42), type := 4, pos := "ref.go:290", after := #[{ on := 35, ground := Ground.data }, { on := 39, ground := Ground.data }], guard := none }) (v := ?v166) rfl (by kernel_rfl) (by kernel_rfl) (by kernel_rfl) (fun _ _ _ h => h) (Or.inl ⟨by rfl, ?hy166⟩) (by assumption) ?rest166
  case hy166 => (intro w hSw; obtain ⟨⟨k0, k1, k2, k3, k4, k12, k13, k14⟩, kr⟩ := hSw; go_simp; (try with_reducible rfl))
  simp only [Act.put, List.setIfInBounds_toArray, List.set_cons_zero, List.set_cons_succ]
  refine' wpAnyH_take (i := 41) (oi := { dst := some 44, op := Op.move (Operand.tmp 43), type := 4, pos := "ref.go:290", after := #[{ on := 40, ground := Ground.data }, { on := 39, ground := Ground.chain }], guard := none }) (v := ?v167) rfl (by kernel_rfl) (by kernel_rfl) (by kernel_rfl) (fun _ _ _ h => h) (Or.inl ⟨by rfl, ?hy167⟩) (by assumption) ?rest167
  case hy167 => (intro w hSw; obtain ⟨⟨k0, k1, k2, k3, k4, k12, k13, k14⟩, kr⟩ := hSw; go_simp; (try with_reducible rfl))
  simp only [Act.put, List.setIfInBounds_toArray, List.set_cons_zero, List.set_cons_succ]
  refine' wpAnyH_take (i := 42) (oi := { dst := some 45, op := Op.fieldAddr 51 (Operand.tmp 1) 6, type := 0, pos := "ref.go:290", after := #[{ on := 41, ground := Ground.guard }], guard := some (41, false) }) (v := undef) rfl (by kernel_rfl) (by kernel_rfl) (by kernel_rfl) (fun _ _ _ h => h) (Or.inr ⟨by rfl, rfl⟩) (by assumption) ?_
  simp only [Act.put, List.setIfInBounds_toArray, List.set_cons_zero, List.set_cons_succ]
  refine' wpAnyH_take (i := 43) (oi := { dst := some 46, op := Op.fieldAddr 49 (Operand.tmp 45) 2, type := 0, pos := "ref.go:290", after := #[{ on := 42, ground := Ground.data }, { on := 41, ground := Ground.guard }], guard := some (41, false) }) (v := undef) rfl (by kernel_rfl) (by kernel_rfl) (by kernel_rfl) (fun _ _ _ h => h) (Or.inr ⟨by rfl, rfl⟩) (by assumption) ?_
  simp only [Act.put, List.setIfInBounds_toArray, List.set_cons_zero, List.set_cons_succ]
  refine' wpAnyH_take (i := 44) (oi := { dst := some 47, op := Op.load 29 (Operand.tmp 46), type := 29, pos := "ref.go:290", after := #[{ on := 43, ground := Ground.data }, { on := 41, ground := Ground.guard }], guard := some (41, false) }) (v := undef) rfl (by kernel_rfl) (by kernel_rfl) (by kernel_rfl) (fun _ _ _ h => h) (Or.inr ⟨by rfl, rfl⟩) (by assumption) ?_
  simp only [Act.put, List.setIfInBounds_toArray, List.set_cons_zero, List.set_cons_succ]
  refine' wpAnyH_take (i := 45) (oi := { dst := some 48, op := Op.call { callee := Callee.value (Operand.func 69), args := #[Operand.tmp 47], argTypes := #[3] }, type := 4, pos := "ref.go:290", after := #[{ on := 44, ground := Ground.data }, { on := 41, ground := Ground.chain }, { on := 41, ground := Ground.guard }], guard := some (41, false) }) (v := undef) rfl (by kernel_rfl) (by kernel_rfl) (by kernel_rfl) (fun _ _ _ h => h) (Or.inr ⟨by rfl, rfl⟩) (by assumption) ?_
  simp only [Act.put, List.setIfInBounds_toArray, List.set_cons_zero, List.set_cons_succ]
  refine' wpAnyH_take (i := 46) (oi := { dst := some 49, op := Op.pick (Operand.tmp 44) (Operand.const (Value.bool true)) (Operand.tmp 48), type := 4, pos := "ref.go:290", after := #[{ on := 41, ground := Ground.data }, { on := 45, ground := Ground.data }], guard := none }) (v := ?v168) rfl (by kernel_rfl) (by kernel_rfl) (by kernel_rfl) (fun _ _ _ h => h) (Or.inl ⟨by rfl, ?hy168⟩) (by assumption) ?rest168
  case hy168 => (intro w hSw; obtain ⟨⟨k0, k1, k2, k3, k4, k12, k13, k14⟩, kr⟩ := hSw; go_simp; (try with_reducible rfl))
  simp only [Act.put, List.setIfInBounds_toArray, List.set_cons_zero, List.set_cons_succ]
  refine wpAnyH_done (by kernel_rfl) ?_ _
  go_wp2_with fail
  go_ret
  exact ⟨bb hok.out.symm, B2⟩
set_option maxRecDepth 100000 in
set_option maxHeartbeats 8000000 in
theorem rplainNote_7 (n : NoteD) (xs : Array Value) (hx : IsNote xs n) (w : World) (hok : Hid (n.ok = false)) (hq : ∀ W' : World, (binOp .neq 51 (.agg n.cells.toArray) (.agg n.only.cells.toArray)).run Try.prog W' = .ok (.bool false) W') (h1 : (n.kind == 0) = false) (h2 : okN n.epoch = true) (h3 : okN n.version = true) (h4 : okN n.next = true) (h5 : okN n.client = true) (h6 : okN n.seen.life = true) (h7 : okN n.seen.seq = false) : Calls Try.prog 48 #[.agg xs] w (Tells n.ok w) := by
  have hA : ∀ W, W = w.alloc (.cells xs 51) → NoteAt W w.heap.size n ∧ Below w.heap.size w W := by rw [hx.eq]; exact nat_add n w
  clear hx
  have hgt : ∀ W, W = w.alloc (.cells xs 51) → w.heap.size < W.heap.size := by rintro W rfl; simp
  obtain ⟨W, hW⟩ : ∃ W, W = w.alloc (.cells xs 51) := ⟨_, rfl⟩
  obtain ⟨hN, hB⟩ := hA W hW
  have hlt := hgt W hW
  have HW := Lib.hid hW
  have s0 : NS w.heap.size n W.drew := hN.ns
  clear hA hgt hW
  go_enter Try.func48, Try.ntmps48
  go_wp2_with fail
  rw [← HW.out]
  refine wp_region_held_drew (S := (fun w' => NS w.heap.size n w')) (by kernel_rfl) s0 (fun hHeld => ?_)
  refine' wpAnyH_take (i := 0) (oi := { dst := some 3, op := Op.load 51 (Operand.tmp 1), type := 51, pos := "ref.go:290", after := #[], guard := none }) (v := _) rfl (by kernel_rfl) (by kernel_rfl) (by kernel_rfl) (fun _ _ _ h => h) (yieldsIf_load_mid (by rfl) _ _ rfl _ _ rfl _ _ (fun w h => h.2) Try.underlying51 rfl size_note) (by assumption) ?_
  simp only [Act.put, List.setIfInBounds_toArray, List.set_cons_zero, List.set_cons_succ]
  refine' wpAnyH_take (i := 1) (oi := { dst := some 4, op := Op.load 51 (Operand.tmp 1), type := 51, pos := "ref.go:290", after := #[], guard := none }) (v := _) rfl (by kernel_rfl) (by kernel_rfl) (by kernel_rfl) (fun _ _ _ h => h) (yieldsIf_load_mid (by rfl) _ _ rfl _ _ rfl _ _ (fun w h => h.2) Try.underlying51 rfl size_note) (by assumption) ?_
  simp only [Act.put, List.setIfInBounds_toArray, List.set_cons_zero, List.set_cons_succ]
  refine wpAnyH_ready (rs := [2]) (by kernel_rfl) (by simp) ?_
  refine AllReadyH.cons (o := { dst := some 5, op := Op.call { callee := Callee.value (Operand.func 76), args := #[Operand.tmp 4], argTypes := #[51] }, type := 51, pos := "ref.go:290", after := #[{ on := 1, ground := Ground.data }], guard := none }) rfl (fun K hK => ?_) AllReadyH.nil
  go_simp
  refine (only_any n _ ⟨rfl⟩ _).mono ?_
  rintro e w2 ⟨ys, rfl, hys, b2'⟩
  obtain rfl := hys.eq
  have b2 := below_undrew b2'
  have hN2 := hN.below b2
  have B2 := bel_next hB b2
  go_wp2_with fail
  refine hK.out _ _ hN2.ns (fun hHeld => ?_)
  clear hK K
  try simp only [Act.put, List.setIfInBounds_toArray, List.set_cons_zero, List.set_cons_succ]
  refine' wpAnyH_take (i := 3) (oi := { dst := some 6, op := Op.binOp BinOp.neq 51 (Operand.tmp 3) (Operand.tmp 5) 51, type := 4, pos := "ref.go:290", after := #[{ on := 0, ground := Ground.data }, { on := 2, ground := Ground.data }], guard := none }) (v := ?v169) rfl (by kernel_rfl) (by kernel_rfl) (by kernel_rfl) (fun _ _ _ h => h) (Or.inl ⟨by rfl, ?hy169⟩) (by assumption) ?rest169
  case hy169 => (intro w hSw; obtain ⟨⟨k0, k1, k2, k3, k4, k12, k13, k14⟩, kr⟩ := hSw; go_simp; (try with_reducible rfl))
  simp only [Act.put, List.setIfInBounds_toArray, List.set_cons_zero, List.set_cons_succ]
  refine' wpAnyH_take (i := 4) (oi := { dst := some 7, op := Op.move (Operand.tmp 6), type := 4, pos := "ref.go:290", after := #[{ on := 3, ground := Ground.data }, { on := 2, ground := Ground.chain }], guard := none }) (v := ?v170) rfl (by kernel_rfl) (by kernel_rfl) (by kernel_rfl) (fun _ _ _ h => h) (Or.inl ⟨by rfl, ?hy170⟩) (by assumption) ?rest170
  case hy170 => (intro w hSw; obtain ⟨⟨k0, k1, k2, k3, k4, k12, k13, k14⟩, kr⟩ := hSw; go_simp; (try with_reducible rfl))
  simp only [Act.put, List.setIfInBounds_toArray, List.set_cons_zero, List.set_cons_succ]
  refine' wpAnyH_take (i := 5) (oi := { dst := some 8, op := Op.fieldAddr 51 (Operand.tmp 1) 0, type := 0, pos := "ref.go:290", after := #[{ on := 4, ground := Ground.guard }], guard := some (4, false) }) (v := ?v171) rfl (by kernel_rfl) (by kernel_rfl) (by kernel_rfl) (fun _ _ _ h => h) (Or.inl ⟨by rfl, ?hy171⟩) (by assumption) ?rest171
  case hy171 => (intro w hSw; obtain ⟨⟨k0, k1, k2, k3, k4, k12, k13, k14⟩, kr⟩ := hSw; go_simp; (try with_reducible rfl))
  simp only [Act.put, List.setIfInBounds_toArray, List.set_cons_zero, List.set_cons_succ]
  refine' wpAnyH_take (i := 6) (oi := { dst := some 9, op := Op.load 3 (Operand.tmp 8), type := 3, pos := "ref.go:290", after := #[{ on := 5, ground := Ground.data }, { on := 4, ground := Ground.guard }], guard := some (4, false) }) (v := ?v172) rfl (by kernel_rfl) (by kernel_rfl) (by kernel_rfl) (fun _ _ _ h => h) (Or.inl ⟨by rfl, ?hy172⟩) (by assumption) ?rest172
  case hy172 => (intro w hSw; obtain ⟨⟨k0, k1, k2, k3, k4, k12, k13, k14⟩, kr⟩ := hSw; go_simp; (try with_reducible rfl))
  simp only [Act.put, List.setIfInBounds_toArray, List.set_cons_zero, List.set_cons_succ]
  refine' wpAnyH_take (i := 7) (oi := { dst := some 10, op := Op.binOp BinOp.eql 3 (Operand.tmp 9) (Operand.const (Value.int IntKind.i64 0)) 3, type := 4, pos := "ref.go:290", after := #[{ on := 6, ground := Ground.data }, { on := 4, ground := Ground.guard }], guard := some (4, false) }) (v := ?v173) rfl (by kernel_rfl) (by kernel_rfl) (by kernel_rfl) (fun _ _ _ h => h) (Or.inl ⟨by rfl, ?hy173⟩) (by assumption) ?rest173
  case hy173 => (intro w hSw; obtain ⟨⟨k0, k1, k2, k3, k4, k12, k13, k14⟩, kr⟩ := hSw; go_simp; (try with_reducible rfl))
  simp only [Act.put, List.setIfInBounds_toArray, List.set_cons_zero, List.set_cons_succ]
  refine' wpAnyH_take (i := 8) (oi := { dst := some 11, op := Op.pick (Operand.tmp 7) (Operand.const (Value.bool true)) (Operand.tmp 10), type := 4, pos := "ref.go:290", after := #[{ on := 4, ground := Ground.data }, { on := 7, ground := Ground.data }], guard := none }) (v := ?v174) rfl (by kernel_rfl) (by kernel_rfl) (by kernel_rfl) (fun _ _ _ h => h) (Or.inl ⟨by rfl, ?hy174⟩) (by assumption) ?rest174
  case hy174 => (intro w hSw; obtain ⟨⟨k0, k1, k2, k3, k4, k12, k13, k14⟩, kr⟩ := hSw; go_simp; (try with_reducible rfl))
  simp only [Act.put, List.setIfInBounds_toArray, List.set_cons_zero, List.set_cons_succ]
  refine' wpAnyH_take (i := 9) (oi := { dst := some 12, op := Op.move (Operand.tmp 11), type := 4, pos := "ref.go:290", after := #[{ on := 8, ground := Ground.data }, { on := 4, ground := Ground.chain }], guard := none }) (v := ?v175) rfl (by kernel_rfl) (by kernel_rfl) (by kernel_rfl) (fun _ _ _ h => h) (Or.inl ⟨by rfl, ?hy175⟩) (by assumption) ?rest175
  case hy175 => (intro w hSw; obtain ⟨⟨k0, k1, k2, k3, k4, k12, k13, k14⟩, kr⟩ := hSw; go_simp; (try with_reducible rfl))
  simp only [Act.put, List.setIfInBounds_toArray, List.set_cons_zero, List.set_cons_succ]
  refine' wpAnyH_take (i := 10) (oi := { dst := some 13, op := Op.fieldAddr 51 (Operand.tmp 1) 1, type := 0, pos := "ref.go:290", after := #[{ on := 9, ground := Ground.guard }], guard := some (9, false) }) (v := ?v176) rfl (by kernel_rfl) (by kernel_rfl) (by kernel_rfl) (fun _ _ _ h => h) (Or.inl ⟨by rfl, ?hy176⟩) (by assumption) ?rest176
  case hy176 => (intro w hSw; obtain ⟨⟨k0, k1, k2, k3, k4, k12, k13, k14⟩, kr⟩ := hSw; go_simp; (try with_reducible rfl))
  simp only [Act.put, List.setIfInBounds_toArray, List.set_cons_zero, List.set_cons_succ]
  refine' wpAnyH_take (i := 11) (oi := { dst := some 14, op := Op.load 3 (Operand.tmp 13), type := 3, pos := "ref.go:290", after := #[{ on := 10, ground := Ground.data }, { on := 9, ground := Ground.guard }], guard := some (9, false) }) (v := ?v177) rfl (by kernel_rfl) (by kernel_rfl) (by kernel_rfl) (fun _ _ _ h => h) (Or.inl ⟨by rfl, ?hy177⟩) (by assumption) ?rest177
  case hy177 => (intro w hSw; obtain ⟨⟨k0, k1, k2, k3, k4, k12, k13, k14⟩, kr⟩ := hSw; go_simp; (try with_reducible rfl))
  simp only [Act.put, List.setIfInBounds_toArray, List.set_cons_zero, List.set_cons_succ]
  refine wpAnyH_ready (rs := [12]) (by kernel_rfl) (by simp) ?_
  refine AllReadyH.cons (o := { dst := some 15, op := Op.call { callee := Callee.value (Operand.func 69), args := #[Operand.tmp 14], argTypes := #[3] }, type := 4, pos := "ref.go:290", after := #[{ on := 11, ground := Ground.data }, { on := 9, ground := Ground.chain }, { on := 9, ground := Ground.guard }], guard := some (9, false) }) rfl (fun K hK => ?_) AllReadyH.nil
  go_simp
  refine (bad_any _ _).mono ?_
  rintro e w1 ⟨rfl, rfl⟩
  rw [h2]
  go_wp2_with fail
  refine hK.out _ _ hN2.ns (fun hHeld => ?_)
  clear hK K
  try simp only [Act.put, List.setIfInBounds_toArray, List.set_cons_zero, List.set_cons_succ]
  refine' wpAnyH_take (i := 13) (oi := { dst := some 16, op := Op.pick (Operand.tmp 12) (Operand.const (Value.bool true)) (Operand.tmp 15), type := 4, pos := "ref.go:290", after := #[{ on := 9, ground := Ground.data }, { on := 12, ground := Ground.data }], guard := none }) (v := ?v178) rfl (by kernel_rfl) (by kernel_rfl) (by kernel_rfl) (fun _ _ _ h => h) (Or.inl ⟨by rfl, ?hy178⟩) (by assumption) ?rest178
  case hy178 => (intro w hSw; obtain ⟨⟨k0, k1, k2, k3, k4, k12, k13, k14⟩, kr⟩ := hSw; go_simp; (try with_reducible rfl))
  simp only [Act.put, List.setIfInBounds_toArray, List.set_cons_zero, List.set_cons_succ]
  refine' wpAnyH_take (i := 14) (oi := { dst := some 17, op := Op.move (Operand.tmp 16), type := 4, pos := "ref.go:290", after := #[{ on := 13, ground := Ground.data }, { on := 12, ground := Ground.chain }], guard := none }) (v := ?v179) rfl (by kernel_rfl) (by kernel_rfl) (by kernel_rfl) (fun _ _ _ h => h) (Or.inl ⟨by rfl, ?hy179⟩) (by assumption) ?rest179
  case hy179 => (intro w hSw; obtain ⟨⟨k0, k1, k2, k3, k4, k12, k13, k14⟩, kr⟩ := hSw; go_simp; (try with_reducible rfl))
  simp only [Act.put, List.setIfInBounds_toArray, List.set_cons_zero, List.set_cons_succ]
  refine' wpAnyH_take (i := 15) (oi := { dst := some 18, op := Op.fieldAddr 51 (Operand.tmp 1) 2, type := 0, pos := "ref.go:290", after := #[{ on := 14, ground := Ground.guard }], guard := some (14, false) }) (v := ?v180) rfl (by kernel_rfl) (by kernel_rfl) (by kernel_rfl) (fun _ _ _ h => h) (Or.inl ⟨by rfl, ?hy180⟩) (by assumption) ?rest180
  case hy180 => (intro w hSw; obtain ⟨⟨k0, k1, k2, k3, k4, k12, k13, k14⟩, kr⟩ := hSw; go_simp; (try with_reducible rfl))
  simp only [Act.put, List.setIfInBounds_toArray, List.set_cons_zero, List.set_cons_succ]
  refine' wpAnyH_take (i := 16) (oi := { dst := some 19, op := Op.load 3 (Operand.tmp 18), type := 3, pos := "ref.go:290", after := #[{ on := 15, ground := Ground.data }, { on := 14, ground := Ground.guard }], guard := some (14, false) }) (v := ?v181) rfl (by kernel_rfl) (by kernel_rfl) (by kernel_rfl) (fun _ _ _ h => h) (Or.inl ⟨by rfl, ?hy181⟩) (by assumption) ?rest181
  case hy181 => (intro w hSw; obtain ⟨⟨k0, k1, k2, k3, k4, k12, k13, k14⟩, kr⟩ := hSw; go_simp; (try with_reducible rfl))
  simp only [Act.put, List.setIfInBounds_toArray, List.set_cons_zero, List.set_cons_succ]
  refine wpAnyH_ready (rs := [17]) (by kernel_rfl) (by simp) ?_
  refine AllReadyH.cons (o := { dst := some 20, op := Op.call { callee := Callee.value (Operand.func 69), args := #[Operand.tmp 19], argTypes := #[3] }, type := 4, pos := "ref.go:290", after := #[{ on := 16, ground := Ground.data }, { on := 14, ground := Ground.chain }, { on := 14, ground := Ground.guard }], guard := some (14, false) }) rfl (fun K hK => ?_) AllReadyH.nil
  go_simp
  refine (bad_any _ _).mono ?_
  rintro e w1 ⟨rfl, rfl⟩
  rw [h3]
  go_wp2_with fail
  refine hK.out _ _ hN2.ns (fun hHeld => ?_)
  clear hK K
  try simp only [Act.put, List.setIfInBounds_toArray, List.set_cons_zero, List.set_cons_succ]
  refine' wpAnyH_take (i := 18) (oi := { dst := some 21, op := Op.pick (Operand.tmp 17) (Operand.const (Value.bool true)) (Operand.tmp 20), type := 4, pos := "ref.go:290", after := #[{ on := 14, ground := Ground.data }, { on := 17, ground := Ground.data }], guard := none }) (v := ?v182) rfl (by kernel_rfl) (by kernel_rfl) (by kernel_rfl) (fun _ _ _ h => h) (Or.inl ⟨by rfl, ?hy182⟩) (by assumption) ?rest182
  case hy182 => (intro w hSw; obtain ⟨⟨k0, k1, k2, k3, k4, k12, k13, k14⟩, kr⟩ := hSw; go_simp; (try with_reducible rfl))
  simp only [Act.put, List.setIfInBounds_toArray, List.set_cons_zero, List.set_cons_succ]
  refine' wpAnyH_take (i := 19) (oi := { dst := some 22, op := Op.move (Operand.tmp 21), type := 4, pos := "ref.go:290", after := #[{ on := 18, ground := Ground.data }, { on := 17, ground := Ground.chain }], guard := none }) (v := ?v183) rfl (by kernel_rfl) (by kernel_rfl) (by kernel_rfl) (fun _ _ _ h => h) (Or.inl ⟨by rfl, ?hy183⟩) (by assumption) ?rest183
  case hy183 => (intro w hSw; obtain ⟨⟨k0, k1, k2, k3, k4, k12, k13, k14⟩, kr⟩ := hSw; go_simp; (try with_reducible rfl))
  simp only [Act.put, List.setIfInBounds_toArray, List.set_cons_zero, List.set_cons_succ]
  refine' wpAnyH_take (i := 20) (oi := { dst := some 23, op := Op.fieldAddr 51 (Operand.tmp 1) 3, type := 0, pos := "ref.go:290", after := #[{ on := 19, ground := Ground.guard }], guard := some (19, false) }) (v := ?v184) rfl (by kernel_rfl) (by kernel_rfl) (by kernel_rfl) (fun _ _ _ h => h) (Or.inl ⟨by rfl, ?hy184⟩) (by assumption) ?rest184
  case hy184 => (intro w hSw; obtain ⟨⟨k0, k1, k2, k3, k4, k12, k13, k14⟩, kr⟩ := hSw; go_simp; (try with_reducible rfl))
  simp only [Act.put, List.setIfInBounds_toArray, List.set_cons_zero, List.set_cons_succ]
  refine' wpAnyH_take (i := 21) (oi := { dst := some 24, op := Op.load 3 (Operand.tmp 23), type := 3, pos := "ref.go:290", after := #[{ on := 20, ground := Ground.data }, { on := 19, ground := Ground.guard }], guard := some (19, false) }) (v := ?v185) rfl (by kernel_rfl) (by kernel_rfl) (by kernel_rfl) (fun _ _ _ h => h) (Or.inl ⟨by rfl, ?hy185⟩) (by assumption) ?rest185
  case hy185 => (intro w hSw; obtain ⟨⟨k0, k1, k2, k3, k4, k12, k13, k14⟩, kr⟩ := hSw; go_simp; (try with_reducible rfl))
  simp only [Act.put, List.setIfInBounds_toArray, List.set_cons_zero, List.set_cons_succ]
  refine wpAnyH_ready (rs := [22]) (by kernel_rfl) (by simp) ?_
  refine AllReadyH.cons (o := { dst := some 25, op := Op.call { callee := Callee.value (Operand.func 69), args := #[Operand.tmp 24], argTypes := #[3] }, type := 4, pos := "ref.go:290", after := #[{ on := 21, ground := Ground.data }, { on := 19, ground := Ground.chain }, { on := 19, ground := Ground.guard }], guard := some (19, false) }) rfl (fun K hK => ?_) AllReadyH.nil
  go_simp
  refine (bad_any _ _).mono ?_
  rintro e w1 ⟨rfl, rfl⟩
  rw [h4]
  go_wp2_with fail
  refine hK.out _ _ hN2.ns (fun hHeld => ?_)
  clear hK K
  try simp only [Act.put, List.setIfInBounds_toArray, List.set_cons_zero, List.set_cons_succ]
  refine' wpAnyH_take (i := 23) (oi := { dst := some 26, op := Op.pick (Operand.tmp 22) (Operand.const (Value.bool true)) (Operand.tmp 25), type := 4, pos := "ref.go:290", after := #[{ on := 19, ground := Ground.data }, { on := 22, ground := Ground.data }], guard := none }) (v := ?v186) rfl (by kernel_rfl) (by kernel_rfl) (by kernel_rfl) (fun _ _ _ h => h) (Or.inl ⟨by rfl, ?hy186⟩) (by assumption) ?rest186
  case hy186 => (intro w hSw; obtain ⟨⟨k0, k1, k2, k3, k4, k12, k13, k14⟩, kr⟩ := hSw; go_simp; (try with_reducible rfl))
  simp only [Act.put, List.setIfInBounds_toArray, List.set_cons_zero, List.set_cons_succ]
  refine' wpAnyH_take (i := 24) (oi := { dst := some 27, op := Op.move (Operand.tmp 26), type := 4, pos := "ref.go:290", after := #[{ on := 23, ground := Ground.data }, { on := 22, ground := Ground.chain }], guard := none }) (v := ?v187) rfl (by kernel_rfl) (by kernel_rfl) (by kernel_rfl) (fun _ _ _ h => h) (Or.inl ⟨by rfl, ?hy187⟩) (by assumption) ?rest187
  case hy187 => (intro w hSw; obtain ⟨⟨k0, k1, k2, k3, k4, k12, k13, k14⟩, kr⟩ := hSw; go_simp; (try with_reducible rfl))
  simp only [Act.put, List.setIfInBounds_toArray, List.set_cons_zero, List.set_cons_succ]
  refine' wpAnyH_take (i := 25) (oi := { dst := some 28, op := Op.fieldAddr 51 (Operand.tmp 1) 4, type := 0, pos := "ref.go:290", after := #[{ on := 24, ground := Ground.guard }], guard := some (24, false) }) (v := ?v188) rfl (by kernel_rfl) (by kernel_rfl) (by kernel_rfl) (fun _ _ _ h => h) (Or.inl ⟨by rfl, ?hy188⟩) (by assumption) ?rest188
  case hy188 => (intro w hSw; obtain ⟨⟨k0, k1, k2, k3, k4, k12, k13, k14⟩, kr⟩ := hSw; go_simp; (try with_reducible rfl))
  simp only [Act.put, List.setIfInBounds_toArray, List.set_cons_zero, List.set_cons_succ]
  refine' wpAnyH_take (i := 26) (oi := { dst := some 29, op := Op.load 3 (Operand.tmp 28), type := 3, pos := "ref.go:290", after := #[{ on := 25, ground := Ground.data }, { on := 24, ground := Ground.guard }], guard := some (24, false) }) (v := ?v189) rfl (by kernel_rfl) (by kernel_rfl) (by kernel_rfl) (fun _ _ _ h => h) (Or.inl ⟨by rfl, ?hy189⟩) (by assumption) ?rest189
  case hy189 => (intro w hSw; obtain ⟨⟨k0, k1, k2, k3, k4, k12, k13, k14⟩, kr⟩ := hSw; go_simp; (try with_reducible rfl))
  simp only [Act.put, List.setIfInBounds_toArray, List.set_cons_zero, List.set_cons_succ]
  refine wpAnyH_ready (rs := [27]) (by kernel_rfl) (by simp) ?_
  refine AllReadyH.cons (o := { dst := some 30, op := Op.call { callee := Callee.value (Operand.func 69), args := #[Operand.tmp 29], argTypes := #[3] }, type := 4, pos := "ref.go:290", after := #[{ on := 26, ground := Ground.data }, { on := 24, ground := Ground.chain }, { on := 24, ground := Ground.guard }], guard := some (24, false) }) rfl (fun K hK => ?_) AllReadyH.nil
  go_simp
  refine (bad_any _ _).mono ?_
  rintro e w1 ⟨rfl, rfl⟩
  rw [h5]
  go_wp2_with fail
  refine hK.out _ _ hN2.ns (fun hHeld => ?_)
  clear hK K
  try simp only [Act.put, List.setIfInBounds_toArray, List.set_cons_zero, List.set_cons_succ]
  refine' wpAnyH_take (i := 28) (oi := { dst := some 31, op := Op.pick (Operand.tmp 27) (Operand.const (Value.bool true)) (Operand.tmp 30), type := 4, pos := "ref.go:290", after := #[{ on := 24, ground := Ground.data }, { on := 27, ground := Ground.data }], guard := none }) (v := ?v190) rfl (by kernel_rfl) (by kernel_rfl) (by kernel_rfl) (fun _ _ _ h => h) (Or.inl ⟨by rfl, ?hy190⟩) (by assumption) ?rest190
  case hy190 => (intro w hSw; obtain ⟨⟨k0, k1, k2, k3, k4, k12, k13, k14⟩, kr⟩ := hSw; go_simp; (try with_reducible rfl))
  simp only [Act.put, List.setIfInBounds_toArray, List.set_cons_zero, List.set_cons_succ]
  refine' wpAnyH_take (i := 29) (oi := { dst := some 32, op := Op.move (Operand.tmp 31), type := 4, pos := "ref.go:290", after := #[{ on := 28, ground := Ground.data }, { on := 27, ground := Ground.chain }], guard := none }) (v := ?v191) rfl (by kernel_rfl) (by kernel_rfl) (by kernel_rfl) (fun _ _ _ h => h) (Or.inl ⟨by rfl, ?hy191⟩) (by assumption) ?rest191
  case hy191 => (intro w hSw; obtain ⟨⟨k0, k1, k2, k3, k4, k12, k13, k14⟩, kr⟩ := hSw; go_simp; (try with_reducible rfl))
  simp only [Act.put, List.setIfInBounds_toArray, List.set_cons_zero, List.set_cons_succ]
  refine' wpAnyH_take (i := 30) (oi := { dst := some 33, op := Op.fieldAddr 51 (Operand.tmp 1) 6, type := 0, pos := "ref.go:290", after := #[{ on := 29, ground := Ground.guard }], guard := some (29, false) }) (v := ?v192) rfl (by kernel_rfl) (by kernel_rfl) (by kernel_rfl) (fun _ _ _ h => h) (Or.inl ⟨by rfl, ?hy192⟩) (by assumption) ?rest192
  case hy192 => (intro w hSw; obtain ⟨⟨k0, k1, k2, k3, k4, k12, k13, k14⟩, kr⟩ := hSw; go_simp; (try with_reducible rfl))
  simp only [Act.put, List.setIfInBounds_toArray, List.set_cons_zero, List.set_cons_succ]
  refine' wpAnyH_take (i := 31) (oi := { dst := some 34, op := Op.fieldAddr 49 (Operand.tmp 33) 0, type := 0, pos := "ref.go:290", after := #[{ on := 30, ground := Ground.data }, { on := 29, ground := Ground.guard }], guard := some (29, false) }) (v := ?v193) rfl (by kernel_rfl) (by kernel_rfl) (by kernel_rfl) (fun _ _ _ h => h) (Or.inl ⟨by rfl, ?hy193⟩) (by assumption) ?rest193
  case hy193 => (intro w hSw; obtain ⟨⟨k0, k1, k2, k3, k4, k12, k13, k14⟩, kr⟩ := hSw; go_simp; (try with_reducible rfl))
  simp only [Act.put, List.setIfInBounds_toArray, List.set_cons_zero, List.set_cons_succ]
  refine' wpAnyH_take (i := 32) (oi := { dst := some 35, op := Op.load 3 (Operand.tmp 34), type := 3, pos := "ref.go:290", after := #[{ on := 31, ground := Ground.data }, { on := 29, ground := Ground.guard }], guard := some (29, false) }) (v := ?v194) rfl (by kernel_rfl) (by kernel_rfl) (by kernel_rfl) (fun _ _ _ h => h) (Or.inl ⟨by rfl, ?hy194⟩) (by assumption) ?rest194
  case hy194 => (intro w hSw; obtain ⟨⟨k0, k1, k2, k3, k4, k12, k13, k14⟩, kr⟩ := hSw; go_simp; (try with_reducible rfl))
  simp only [Act.put, List.setIfInBounds_toArray, List.set_cons_zero, List.set_cons_succ]
  refine wpAnyH_ready (rs := [33]) (by kernel_rfl) (by simp) ?_
  refine AllReadyH.cons (o := { dst := some 36, op := Op.call { callee := Callee.value (Operand.func 69), args := #[Operand.tmp 35], argTypes := #[3] }, type := 4, pos := "ref.go:290", after := #[{ on := 32, ground := Ground.data }, { on := 29, ground := Ground.chain }, { on := 29, ground := Ground.guard }], guard := some (29, false) }) rfl (fun K hK => ?_) AllReadyH.nil
  go_simp
  refine (bad_any _ _).mono ?_
  rintro e w1 ⟨rfl, rfl⟩
  rw [h6]
  go_wp2_with fail
  refine hK.out _ _ hN2.ns (fun hHeld => ?_)
  clear hK K
  try simp only [Act.put, List.setIfInBounds_toArray, List.set_cons_zero, List.set_cons_succ]
  refine' wpAnyH_take (i := 34) (oi := { dst := some 37, op := Op.pick (Operand.tmp 32) (Operand.const (Value.bool true)) (Operand.tmp 36), type := 4, pos := "ref.go:290", after := #[{ on := 29, ground := Ground.data }, { on := 33, ground := Ground.data }], guard := none }) (v := ?v195) rfl (by kernel_rfl) (by kernel_rfl) (by kernel_rfl) (fun _ _ _ h => h) (Or.inl ⟨by rfl, ?hy195⟩) (by assumption) ?rest195
  case hy195 => (intro w hSw; obtain ⟨⟨k0, k1, k2, k3, k4, k12, k13, k14⟩, kr⟩ := hSw; go_simp; (try with_reducible rfl))
  simp only [Act.put, List.setIfInBounds_toArray, List.set_cons_zero, List.set_cons_succ]
  refine' wpAnyH_take (i := 35) (oi := { dst := some 38, op := Op.move (Operand.tmp 37), type := 4, pos := "ref.go:290", after := #[{ on := 34, ground := Ground.data }, { on := 33, ground := Ground.chain }], guard := none }) (v := ?v196) rfl (by kernel_rfl) (by kernel_rfl) (by kernel_rfl) (fun _ _ _ h => h) (Or.inl ⟨by rfl, ?hy196⟩) (by assumption) ?rest196
  case hy196 => (intro w hSw; obtain ⟨⟨k0, k1, k2, k3, k4, k12, k13, k14⟩, kr⟩ := hSw; go_simp; (try with_reducible rfl))
  simp only [Act.put, List.setIfInBounds_toArray, List.set_cons_zero, List.set_cons_succ]
  refine' wpAnyH_take (i := 36) (oi := { dst := some 39, op := Op.fieldAddr 51 (Operand.tmp 1) 6, type := 0, pos := "ref.go:290", after := #[{ on := 35, ground := Ground.guard }], guard := some (35, false) }) (v := ?v197) rfl (by kernel_rfl) (by kernel_rfl) (by kernel_rfl) (fun _ _ _ h => h) (Or.inl ⟨by rfl, ?hy197⟩) (by assumption) ?rest197
  case hy197 => (intro w hSw; obtain ⟨⟨k0, k1, k2, k3, k4, k12, k13, k14⟩, kr⟩ := hSw; go_simp; (try with_reducible rfl))
  simp only [Act.put, List.setIfInBounds_toArray, List.set_cons_zero, List.set_cons_succ]
  refine' wpAnyH_take (i := 37) (oi := { dst := some 40, op := Op.fieldAddr 49 (Operand.tmp 39) 1, type := 0, pos := "ref.go:290", after := #[{ on := 36, ground := Ground.data }, { on := 35, ground := Ground.guard }], guard := some (35, false) }) (v := ?v198) rfl (by kernel_rfl) (by kernel_rfl) (by kernel_rfl) (fun _ _ _ h => h) (Or.inl ⟨by rfl, ?hy198⟩) (by assumption) ?rest198
  case hy198 => (intro w hSw; obtain ⟨⟨k0, k1, k2, k3, k4, k12, k13, k14⟩, kr⟩ := hSw; go_simp; (try with_reducible rfl))
  simp only [Act.put, List.setIfInBounds_toArray, List.set_cons_zero, List.set_cons_succ]
  refine' wpAnyH_take (i := 38) (oi := { dst := some 41, op := Op.load 3 (Operand.tmp 40), type := 3, pos := "ref.go:290", after := #[{ on := 37, ground := Ground.data }, { on := 35, ground := Ground.guard }], guard := some (35, false) }) (v := ?v199) rfl (by kernel_rfl) (by kernel_rfl) (by kernel_rfl) (fun _ _ _ h => h) (Or.inl ⟨by rfl, ?hy199⟩) (by assumption) ?rest199
  case hy199 => (intro w hSw; obtain ⟨⟨k0, k1, k2, k3, k4, k12, k13, k14⟩, kr⟩ := hSw; go_simp; (try with_reducible rfl))
  simp only [Act.put, List.setIfInBounds_toArray, List.set_cons_zero, List.set_cons_succ]
  refine wpAnyH_ready (rs := [39]) (by kernel_rfl) (by simp) ?_
  refine AllReadyH.cons (o := { dst := some 42, op := Op.call { callee := Callee.value (Operand.func 69), args := #[Operand.tmp 41], argTypes := #[3] }, type := 4, pos := "ref.go:290", after := #[{ on := 38, ground := Ground.data }, { on := 35, ground := Ground.chain }, { on := 35, ground := Ground.guard }], guard := some (35, false) }) rfl (fun K hK => ?_) AllReadyH.nil
  go_simp
  refine (bad_any _ _).mono ?_
  rintro e w1 ⟨rfl, rfl⟩
  rw [h7]
  go_wp2_with fail
  refine hK.out _ _ hN2.ns (fun hHeld => ?_)
  clear hK K
  try simp only [Act.put, List.setIfInBounds_toArray, List.set_cons_zero, List.set_cons_succ]
  refine' wpAnyH_take (i := 40) (oi := { dst := some 43, op := Op.pick (Operand.tmp 38) (Operand.const (Value.bool true)) (Operand.tmp 42), type := 4, pos := "ref.go:290", after := #[{ on := 35, ground := Ground.data }, { on := 39, ground := Ground.data }], guard := none }) (v := ?v200) rfl (by kernel_rfl) (by kernel_rfl) (by kernel_rfl) (fun _ _ _ h => h) (Or.inl ⟨by rfl, ?hy200⟩) (by assumption) ?rest200
  case hy200 => (intro w hSw; obtain ⟨⟨k0, k1, k2, k3, k4, k12, k13, k14⟩, kr⟩ := hSw; go_simp; (try with_reducible rfl))
  simp only [Act.put, List.setIfInBounds_toArray, List.set_cons_zero, List.set_cons_succ]
  refine' wpAnyH_take (i := 41) (oi := { dst := some 44, op := Op.move (Operand.tmp 43), type := 4, pos := "ref.go:290", after := #[{ on := 40, ground := Ground.data }, { on := 39, ground := Ground.chain }], guard := none }) (v := ?v201) rfl (by kernel_rfl) (by kernel_rfl) (by kernel_rfl) (fun _ _ _ h => h) (Or.inl ⟨by rfl, ?hy201⟩) (by assumption) ?rest201
  case hy201 => (intro w hSw; obtain ⟨⟨k0, k1, k2, k3, k4, k12, k13, k14⟩, kr⟩ := hSw; go_simp; (try with_reducible rfl))
  simp only [Act.put, List.setIfInBounds_toArray, List.set_cons_zero, List.set_cons_succ]
  refine' wpAnyH_take (i := 42) (oi := { dst := some 45, op := Op.fieldAddr 51 (Operand.tmp 1) 6, type := 0, pos := "ref.go:290", after := #[{ on := 41, ground := Ground.guard }], guard := some (41, false) }) (v := undef) rfl (by kernel_rfl) (by kernel_rfl) (by kernel_rfl) (fun _ _ _ h => h) (Or.inr ⟨by rfl, rfl⟩) (by assumption) ?_
  simp only [Act.put, List.setIfInBounds_toArray, List.set_cons_zero, List.set_cons_succ]
  refine' wpAnyH_take (i := 43) (oi := { dst := some 46, op := Op.fieldAddr 49 (Operand.tmp 45) 2, type := 0, pos := "ref.go:290", after := #[{ on := 42, ground := Ground.data }, { on := 41, ground := Ground.guard }], guard := some (41, false) }) (v := undef) rfl (by kernel_rfl) (by kernel_rfl) (by kernel_rfl) (fun _ _ _ h => h) (Or.inr ⟨by rfl, rfl⟩) (by assumption) ?_
  simp only [Act.put, List.setIfInBounds_toArray, List.set_cons_zero, List.set_cons_succ]
  refine' wpAnyH_take (i := 44) (oi := { dst := some 47, op := Op.load 29 (Operand.tmp 46), type := 29, pos := "ref.go:290", after := #[{ on := 43, ground := Ground.data }, { on := 41, ground := Ground.guard }], guard := some (41, false) }) (v := undef) rfl (by kernel_rfl) (by kernel_rfl) (by kernel_rfl) (fun _ _ _ h => h) (Or.inr ⟨by rfl, rfl⟩) (by assumption) ?_
  simp only [Act.put, List.setIfInBounds_toArray, List.set_cons_zero, List.set_cons_succ]
  refine' wpAnyH_take (i := 45) (oi := { dst := some 48, op := Op.call { callee := Callee.value (Operand.func 69), args := #[Operand.tmp 47], argTypes := #[3] }, type := 4, pos := "ref.go:290", after := #[{ on := 44, ground := Ground.data }, { on := 41, ground := Ground.chain }, { on := 41, ground := Ground.guard }], guard := some (41, false) }) (v := undef) rfl (by kernel_rfl) (by kernel_rfl) (by kernel_rfl) (fun _ _ _ h => h) (Or.inr ⟨by rfl, rfl⟩) (by assumption) ?_
  simp only [Act.put, List.setIfInBounds_toArray, List.set_cons_zero, List.set_cons_succ]
  refine' wpAnyH_take (i := 46) (oi := { dst := some 49, op := Op.pick (Operand.tmp 44) (Operand.const (Value.bool true)) (Operand.tmp 48), type := 4, pos := "ref.go:290", after := #[{ on := 41, ground := Ground.data }, { on := 45, ground := Ground.data }], guard := none }) (v := ?v202) rfl (by kernel_rfl) (by kernel_rfl) (by kernel_rfl) (fun _ _ _ h => h) (Or.inl ⟨by rfl, ?hy202⟩) (by assumption) ?rest202
  case hy202 => (intro w hSw; obtain ⟨⟨k0, k1, k2, k3, k4, k12, k13, k14⟩, kr⟩ := hSw; go_simp; (try with_reducible rfl))
  simp only [Act.put, List.setIfInBounds_toArray, List.set_cons_zero, List.set_cons_succ]
  refine wpAnyH_done (by kernel_rfl) ?_ _
  go_wp2_with fail
  go_ret
  exact ⟨bb hok.out.symm, B2⟩
set_option maxRecDepth 100000 in
set_option maxHeartbeats 8000000 in
theorem rplainNote_8 (n : NoteD) (xs : Array Value) (hx : IsNote xs n) (w : World) (hok : Hid (n.ok = false)) (hq : ∀ W' : World, (binOp .neq 51 (.agg n.cells.toArray) (.agg n.only.cells.toArray)).run Try.prog W' = .ok (.bool false) W') (h1 : (n.kind == 0) = false) (h2 : okN n.epoch = true) (h3 : okN n.version = true) (h4 : okN n.next = true) (h5 : okN n.client = true) (h6 : okN n.seen.life = true) (h7 : okN n.seen.seq = true) (h8 : okN n.seen.err = false) : Calls Try.prog 48 #[.agg xs] w (Tells n.ok w) := by
  have hA : ∀ W, W = w.alloc (.cells xs 51) → NoteAt W w.heap.size n ∧ Below w.heap.size w W := by rw [hx.eq]; exact nat_add n w
  clear hx
  have hgt : ∀ W, W = w.alloc (.cells xs 51) → w.heap.size < W.heap.size := by rintro W rfl; simp
  obtain ⟨W, hW⟩ : ∃ W, W = w.alloc (.cells xs 51) := ⟨_, rfl⟩
  obtain ⟨hN, hB⟩ := hA W hW
  have hlt := hgt W hW
  have HW := Lib.hid hW
  have s0 : NS w.heap.size n W.drew := hN.ns
  clear hA hgt hW
  go_enter Try.func48, Try.ntmps48
  go_wp2_with fail
  rw [← HW.out]
  refine wp_region_held_drew (S := (fun w' => NS w.heap.size n w')) (by kernel_rfl) s0 (fun hHeld => ?_)
  refine' wpAnyH_take (i := 0) (oi := { dst := some 3, op := Op.load 51 (Operand.tmp 1), type := 51, pos := "ref.go:290", after := #[], guard := none }) (v := _) rfl (by kernel_rfl) (by kernel_rfl) (by kernel_rfl) (fun _ _ _ h => h) (yieldsIf_load_mid (by rfl) _ _ rfl _ _ rfl _ _ (fun w h => h.2) Try.underlying51 rfl size_note) (by assumption) ?_
  simp only [Act.put, List.setIfInBounds_toArray, List.set_cons_zero, List.set_cons_succ]
  refine' wpAnyH_take (i := 1) (oi := { dst := some 4, op := Op.load 51 (Operand.tmp 1), type := 51, pos := "ref.go:290", after := #[], guard := none }) (v := _) rfl (by kernel_rfl) (by kernel_rfl) (by kernel_rfl) (fun _ _ _ h => h) (yieldsIf_load_mid (by rfl) _ _ rfl _ _ rfl _ _ (fun w h => h.2) Try.underlying51 rfl size_note) (by assumption) ?_
  simp only [Act.put, List.setIfInBounds_toArray, List.set_cons_zero, List.set_cons_succ]
  refine wpAnyH_ready (rs := [2]) (by kernel_rfl) (by simp) ?_
  refine AllReadyH.cons (o := { dst := some 5, op := Op.call { callee := Callee.value (Operand.func 76), args := #[Operand.tmp 4], argTypes := #[51] }, type := 51, pos := "ref.go:290", after := #[{ on := 1, ground := Ground.data }], guard := none }) rfl (fun K hK => ?_) AllReadyH.nil
  go_simp
  refine (only_any n _ ⟨rfl⟩ _).mono ?_
  rintro e w2 ⟨ys, rfl, hys, b2'⟩
  obtain rfl := hys.eq
  have b2 := below_undrew b2'
  have hN2 := hN.below b2
  have B2 := bel_next hB b2
  go_wp2_with fail
  refine hK.out _ _ hN2.ns (fun hHeld => ?_)
  clear hK K
  try simp only [Act.put, List.setIfInBounds_toArray, List.set_cons_zero, List.set_cons_succ]
  refine' wpAnyH_take (i := 3) (oi := { dst := some 6, op := Op.binOp BinOp.neq 51 (Operand.tmp 3) (Operand.tmp 5) 51, type := 4, pos := "ref.go:290", after := #[{ on := 0, ground := Ground.data }, { on := 2, ground := Ground.data }], guard := none }) (v := ?v203) rfl (by kernel_rfl) (by kernel_rfl) (by kernel_rfl) (fun _ _ _ h => h) (Or.inl ⟨by rfl, ?hy203⟩) (by assumption) ?rest203
  case hy203 => (intro w hSw; obtain ⟨⟨k0, k1, k2, k3, k4, k12, k13, k14⟩, kr⟩ := hSw; go_simp; (try with_reducible rfl))
  simp only [Act.put, List.setIfInBounds_toArray, List.set_cons_zero, List.set_cons_succ]
  refine' wpAnyH_take (i := 4) (oi := { dst := some 7, op := Op.move (Operand.tmp 6), type := 4, pos := "ref.go:290", after := #[{ on := 3, ground := Ground.data }, { on := 2, ground := Ground.chain }], guard := none }) (v := ?v204) rfl (by kernel_rfl) (by kernel_rfl) (by kernel_rfl) (fun _ _ _ h => h) (Or.inl ⟨by rfl, ?hy204⟩) (by assumption) ?rest204
  case hy204 => (intro w hSw; obtain ⟨⟨k0, k1, k2, k3, k4, k12, k13, k14⟩, kr⟩ := hSw; go_simp; (try with_reducible rfl))
  simp only [Act.put, List.setIfInBounds_toArray, List.set_cons_zero, List.set_cons_succ]
  refine' wpAnyH_take (i := 5) (oi := { dst := some 8, op := Op.fieldAddr 51 (Operand.tmp 1) 0, type := 0, pos := "ref.go:290", after := #[{ on := 4, ground := Ground.guard }], guard := some (4, false) }) (v := ?v205) rfl (by kernel_rfl) (by kernel_rfl) (by kernel_rfl) (fun _ _ _ h => h) (Or.inl ⟨by rfl, ?hy205⟩) (by assumption) ?rest205
  case hy205 => (intro w hSw; obtain ⟨⟨k0, k1, k2, k3, k4, k12, k13, k14⟩, kr⟩ := hSw; go_simp; (try with_reducible rfl))
  simp only [Act.put, List.setIfInBounds_toArray, List.set_cons_zero, List.set_cons_succ]
  refine' wpAnyH_take (i := 6) (oi := { dst := some 9, op := Op.load 3 (Operand.tmp 8), type := 3, pos := "ref.go:290", after := #[{ on := 5, ground := Ground.data }, { on := 4, ground := Ground.guard }], guard := some (4, false) }) (v := ?v206) rfl (by kernel_rfl) (by kernel_rfl) (by kernel_rfl) (fun _ _ _ h => h) (Or.inl ⟨by rfl, ?hy206⟩) (by assumption) ?rest206
  case hy206 => (intro w hSw; obtain ⟨⟨k0, k1, k2, k3, k4, k12, k13, k14⟩, kr⟩ := hSw; go_simp; (try with_reducible rfl))
  simp only [Act.put, List.setIfInBounds_toArray, List.set_cons_zero, List.set_cons_succ]
  refine' wpAnyH_take (i := 7) (oi := { dst := some 10, op := Op.binOp BinOp.eql 3 (Operand.tmp 9) (Operand.const (Value.int IntKind.i64 0)) 3, type := 4, pos := "ref.go:290", after := #[{ on := 6, ground := Ground.data }, { on := 4, ground := Ground.guard }], guard := some (4, false) }) (v := ?v207) rfl (by kernel_rfl) (by kernel_rfl) (by kernel_rfl) (fun _ _ _ h => h) (Or.inl ⟨by rfl, ?hy207⟩) (by assumption) ?rest207
  case hy207 => (intro w hSw; obtain ⟨⟨k0, k1, k2, k3, k4, k12, k13, k14⟩, kr⟩ := hSw; go_simp; (try with_reducible rfl))
  simp only [Act.put, List.setIfInBounds_toArray, List.set_cons_zero, List.set_cons_succ]
  refine' wpAnyH_take (i := 8) (oi := { dst := some 11, op := Op.pick (Operand.tmp 7) (Operand.const (Value.bool true)) (Operand.tmp 10), type := 4, pos := "ref.go:290", after := #[{ on := 4, ground := Ground.data }, { on := 7, ground := Ground.data }], guard := none }) (v := ?v208) rfl (by kernel_rfl) (by kernel_rfl) (by kernel_rfl) (fun _ _ _ h => h) (Or.inl ⟨by rfl, ?hy208⟩) (by assumption) ?rest208
  case hy208 => (intro w hSw; obtain ⟨⟨k0, k1, k2, k3, k4, k12, k13, k14⟩, kr⟩ := hSw; go_simp; (try with_reducible rfl))
  simp only [Act.put, List.setIfInBounds_toArray, List.set_cons_zero, List.set_cons_succ]
  refine' wpAnyH_take (i := 9) (oi := { dst := some 12, op := Op.move (Operand.tmp 11), type := 4, pos := "ref.go:290", after := #[{ on := 8, ground := Ground.data }, { on := 4, ground := Ground.chain }], guard := none }) (v := ?v209) rfl (by kernel_rfl) (by kernel_rfl) (by kernel_rfl) (fun _ _ _ h => h) (Or.inl ⟨by rfl, ?hy209⟩) (by assumption) ?rest209
  case hy209 => (intro w hSw; obtain ⟨⟨k0, k1, k2, k3, k4, k12, k13, k14⟩, kr⟩ := hSw; go_simp; (try with_reducible rfl))
  simp only [Act.put, List.setIfInBounds_toArray, List.set_cons_zero, List.set_cons_succ]
  refine' wpAnyH_take (i := 10) (oi := { dst := some 13, op := Op.fieldAddr 51 (Operand.tmp 1) 1, type := 0, pos := "ref.go:290", after := #[{ on := 9, ground := Ground.guard }], guard := some (9, false) }) (v := ?v210) rfl (by kernel_rfl) (by kernel_rfl) (by kernel_rfl) (fun _ _ _ h => h) (Or.inl ⟨by rfl, ?hy210⟩) (by assumption) ?rest210
  case hy210 => (intro w hSw; obtain ⟨⟨k0, k1, k2, k3, k4, k12, k13, k14⟩, kr⟩ := hSw; go_simp; (try with_reducible rfl))
  simp only [Act.put, List.setIfInBounds_toArray, List.set_cons_zero, List.set_cons_succ]
  refine' wpAnyH_take (i := 11) (oi := { dst := some 14, op := Op.load 3 (Operand.tmp 13), type := 3, pos := "ref.go:290", after := #[{ on := 10, ground := Ground.data }, { on := 9, ground := Ground.guard }], guard := some (9, false) }) (v := ?v211) rfl (by kernel_rfl) (by kernel_rfl) (by kernel_rfl) (fun _ _ _ h => h) (Or.inl ⟨by rfl, ?hy211⟩) (by assumption) ?rest211
  case hy211 => (intro w hSw; obtain ⟨⟨k0, k1, k2, k3, k4, k12, k13, k14⟩, kr⟩ := hSw; go_simp; (try with_reducible rfl))
  simp only [Act.put, List.setIfInBounds_toArray, List.set_cons_zero, List.set_cons_succ]
  refine wpAnyH_ready (rs := [12]) (by kernel_rfl) (by simp) ?_
  refine AllReadyH.cons (o := { dst := some 15, op := Op.call { callee := Callee.value (Operand.func 69), args := #[Operand.tmp 14], argTypes := #[3] }, type := 4, pos := "ref.go:290", after := #[{ on := 11, ground := Ground.data }, { on := 9, ground := Ground.chain }, { on := 9, ground := Ground.guard }], guard := some (9, false) }) rfl (fun K hK => ?_) AllReadyH.nil
  go_simp
  refine (bad_any _ _).mono ?_
  rintro e w1 ⟨rfl, rfl⟩
  rw [h2]
  go_wp2_with fail
  refine hK.out _ _ hN2.ns (fun hHeld => ?_)
  clear hK K
  try simp only [Act.put, List.setIfInBounds_toArray, List.set_cons_zero, List.set_cons_succ]
  refine' wpAnyH_take (i := 13) (oi := { dst := some 16, op := Op.pick (Operand.tmp 12) (Operand.const (Value.bool true)) (Operand.tmp 15), type := 4, pos := "ref.go:290", after := #[{ on := 9, ground := Ground.data }, { on := 12, ground := Ground.data }], guard := none }) (v := ?v212) rfl (by kernel_rfl) (by kernel_rfl) (by kernel_rfl) (fun _ _ _ h => h) (Or.inl ⟨by rfl, ?hy212⟩) (by assumption) ?rest212
  case hy212 => (intro w hSw; obtain ⟨⟨k0, k1, k2, k3, k4, k12, k13, k14⟩, kr⟩ := hSw; go_simp; (try with_reducible rfl))
  simp only [Act.put, List.setIfInBounds_toArray, List.set_cons_zero, List.set_cons_succ]
  refine' wpAnyH_take (i := 14) (oi := { dst := some 17, op := Op.move (Operand.tmp 16), type := 4, pos := "ref.go:290", after := #[{ on := 13, ground := Ground.data }, { on := 12, ground := Ground.chain }], guard := none }) (v := ?v213) rfl (by kernel_rfl) (by kernel_rfl) (by kernel_rfl) (fun _ _ _ h => h) (Or.inl ⟨by rfl, ?hy213⟩) (by assumption) ?rest213
  case hy213 => (intro w hSw; obtain ⟨⟨k0, k1, k2, k3, k4, k12, k13, k14⟩, kr⟩ := hSw; go_simp; (try with_reducible rfl))
  simp only [Act.put, List.setIfInBounds_toArray, List.set_cons_zero, List.set_cons_succ]
  refine' wpAnyH_take (i := 15) (oi := { dst := some 18, op := Op.fieldAddr 51 (Operand.tmp 1) 2, type := 0, pos := "ref.go:290", after := #[{ on := 14, ground := Ground.guard }], guard := some (14, false) }) (v := ?v214) rfl (by kernel_rfl) (by kernel_rfl) (by kernel_rfl) (fun _ _ _ h => h) (Or.inl ⟨by rfl, ?hy214⟩) (by assumption) ?rest214
  case hy214 => (intro w hSw; obtain ⟨⟨k0, k1, k2, k3, k4, k12, k13, k14⟩, kr⟩ := hSw; go_simp; (try with_reducible rfl))
  simp only [Act.put, List.setIfInBounds_toArray, List.set_cons_zero, List.set_cons_succ]
  refine' wpAnyH_take (i := 16) (oi := { dst := some 19, op := Op.load 3 (Operand.tmp 18), type := 3, pos := "ref.go:290", after := #[{ on := 15, ground := Ground.data }, { on := 14, ground := Ground.guard }], guard := some (14, false) }) (v := ?v215) rfl (by kernel_rfl) (by kernel_rfl) (by kernel_rfl) (fun _ _ _ h => h) (Or.inl ⟨by rfl, ?hy215⟩) (by assumption) ?rest215
  case hy215 => (intro w hSw; obtain ⟨⟨k0, k1, k2, k3, k4, k12, k13, k14⟩, kr⟩ := hSw; go_simp; (try with_reducible rfl))
  simp only [Act.put, List.setIfInBounds_toArray, List.set_cons_zero, List.set_cons_succ]
  refine wpAnyH_ready (rs := [17]) (by kernel_rfl) (by simp) ?_
  refine AllReadyH.cons (o := { dst := some 20, op := Op.call { callee := Callee.value (Operand.func 69), args := #[Operand.tmp 19], argTypes := #[3] }, type := 4, pos := "ref.go:290", after := #[{ on := 16, ground := Ground.data }, { on := 14, ground := Ground.chain }, { on := 14, ground := Ground.guard }], guard := some (14, false) }) rfl (fun K hK => ?_) AllReadyH.nil
  go_simp
  refine (bad_any _ _).mono ?_
  rintro e w1 ⟨rfl, rfl⟩
  rw [h3]
  go_wp2_with fail
  refine hK.out _ _ hN2.ns (fun hHeld => ?_)
  clear hK K
  try simp only [Act.put, List.setIfInBounds_toArray, List.set_cons_zero, List.set_cons_succ]
  refine' wpAnyH_take (i := 18) (oi := { dst := some 21, op := Op.pick (Operand.tmp 17) (Operand.const (Value.bool true)) (Operand.tmp 20), type := 4, pos := "ref.go:290", after := #[{ on := 14, ground := Ground.data }, { on := 17, ground := Ground.data }], guard := none }) (v := ?v216) rfl (by kernel_rfl) (by kernel_rfl) (by kernel_rfl) (fun _ _ _ h => h) (Or.inl ⟨by rfl, ?hy216⟩) (by assumption) ?rest216
  case hy216 => (intro w hSw; obtain ⟨⟨k0, k1, k2, k3, k4, k12, k13, k14⟩, kr⟩ := hSw; go_simp; (try with_reducible rfl))
  simp only [Act.put, List.setIfInBounds_toArray, List.set_cons_zero, List.set_cons_succ]
  refine' wpAnyH_take (i := 19) (oi := { dst := some 22, op := Op.move (Operand.tmp 21), type := 4, pos := "ref.go:290", after := #[{ on := 18, ground := Ground.data }, { on := 17, ground := Ground.chain }], guard := none }) (v := ?v217) rfl (by kernel_rfl) (by kernel_rfl) (by kernel_rfl) (fun _ _ _ h => h) (Or.inl ⟨by rfl, ?hy217⟩) (by assumption) ?rest217
  case hy217 => (intro w hSw; obtain ⟨⟨k0, k1, k2, k3, k4, k12, k13, k14⟩, kr⟩ := hSw; go_simp; (try with_reducible rfl))
  simp only [Act.put, List.setIfInBounds_toArray, List.set_cons_zero, List.set_cons_succ]
  refine' wpAnyH_take (i := 20) (oi := { dst := some 23, op := Op.fieldAddr 51 (Operand.tmp 1) 3, type := 0, pos := "ref.go:290", after := #[{ on := 19, ground := Ground.guard }], guard := some (19, false) }) (v := ?v218) rfl (by kernel_rfl) (by kernel_rfl) (by kernel_rfl) (fun _ _ _ h => h) (Or.inl ⟨by rfl, ?hy218⟩) (by assumption) ?rest218
  case hy218 => (intro w hSw; obtain ⟨⟨k0, k1, k2, k3, k4, k12, k13, k14⟩, kr⟩ := hSw; go_simp; (try with_reducible rfl))
  simp only [Act.put, List.setIfInBounds_toArray, List.set_cons_zero, List.set_cons_succ]
  refine' wpAnyH_take (i := 21) (oi := { dst := some 24, op := Op.load 3 (Operand.tmp 23), type := 3, pos := "ref.go:290", after := #[{ on := 20, ground := Ground.data }, { on := 19, ground := Ground.guard }], guard := some (19, false) }) (v := ?v219) rfl (by kernel_rfl) (by kernel_rfl) (by kernel_rfl) (fun _ _ _ h => h) (Or.inl ⟨by rfl, ?hy219⟩) (by assumption) ?rest219
  case hy219 => (intro w hSw; obtain ⟨⟨k0, k1, k2, k3, k4, k12, k13, k14⟩, kr⟩ := hSw; go_simp; (try with_reducible rfl))
  simp only [Act.put, List.setIfInBounds_toArray, List.set_cons_zero, List.set_cons_succ]
  refine wpAnyH_ready (rs := [22]) (by kernel_rfl) (by simp) ?_
  refine AllReadyH.cons (o := { dst := some 25, op := Op.call { callee := Callee.value (Operand.func 69), args := #[Operand.tmp 24], argTypes := #[3] }, type := 4, pos := "ref.go:290", after := #[{ on := 21, ground := Ground.data }, { on := 19, ground := Ground.chain }, { on := 19, ground := Ground.guard }], guard := some (19, false) }) rfl (fun K hK => ?_) AllReadyH.nil
  go_simp
  refine (bad_any _ _).mono ?_
  rintro e w1 ⟨rfl, rfl⟩
  rw [h4]
  go_wp2_with fail
  refine hK.out _ _ hN2.ns (fun hHeld => ?_)
  clear hK K
  try simp only [Act.put, List.setIfInBounds_toArray, List.set_cons_zero, List.set_cons_succ]
  refine' wpAnyH_take (i := 23) (oi := { dst := some 26, op := Op.pick (Operand.tmp 22) (Operand.const (Value.bool true)) (Operand.tmp 25), type := 4, pos := "ref.go:290", after := #[{ on := 19, ground := Ground.data }, { on := 22, ground := Ground.data }], guard := none }) (v := ?v220) rfl (by kernel_rfl) (by kernel_rfl) (by kernel_rfl) (fun _ _ _ h => h) (Or.inl ⟨by rfl, ?hy220⟩) (by assumption) ?rest220
  case hy220 => (intro w hSw; obtain ⟨⟨k0, k1, k2, k3, k4, k12, k13, k14⟩, kr⟩ := hSw; go_simp; (try with_reducible rfl))
  simp only [Act.put, List.setIfInBounds_toArray, List.set_cons_zero, List.set_cons_succ]
  refine' wpAnyH_take (i := 24) (oi := { dst := some 27, op := Op.move (Operand.tmp 26), type := 4, pos := "ref.go:290", after := #[{ on := 23, ground := Ground.data }, { on := 22, ground := Ground.chain }], guard := none }) (v := ?v221) rfl (by kernel_rfl) (by kernel_rfl) (by kernel_rfl) (fun _ _ _ h => h) (Or.inl ⟨by rfl, ?hy221⟩) (by assumption) ?rest221
  case hy221 => (intro w hSw; obtain ⟨⟨k0, k1, k2, k3, k4, k12, k13, k14⟩, kr⟩ := hSw; go_simp; (try with_reducible rfl))
  simp only [Act.put, List.setIfInBounds_toArray, List.set_cons_zero, List.set_cons_succ]
  refine' wpAnyH_take (i := 25) (oi := { dst := some 28, op := Op.fieldAddr 51 (Operand.tmp 1) 4, type := 0, pos := "ref.go:290", after := #[{ on := 24, ground := Ground.guard }], guard := some (24, false) }) (v := ?v222) rfl (by kernel_rfl) (by kernel_rfl) (by kernel_rfl) (fun _ _ _ h => h) (Or.inl ⟨by rfl, ?hy222⟩) (by assumption) ?rest222
  case hy222 => (intro w hSw; obtain ⟨⟨k0, k1, k2, k3, k4, k12, k13, k14⟩, kr⟩ := hSw; go_simp; (try with_reducible rfl))
  simp only [Act.put, List.setIfInBounds_toArray, List.set_cons_zero, List.set_cons_succ]
  refine' wpAnyH_take (i := 26) (oi := { dst := some 29, op := Op.load 3 (Operand.tmp 28), type := 3, pos := "ref.go:290", after := #[{ on := 25, ground := Ground.data }, { on := 24, ground := Ground.guard }], guard := some (24, false) }) (v := ?v223) rfl (by kernel_rfl) (by kernel_rfl) (by kernel_rfl) (fun _ _ _ h => h) (Or.inl ⟨by rfl, ?hy223⟩) (by assumption) ?rest223
  case hy223 => (intro w hSw; obtain ⟨⟨k0, k1, k2, k3, k4, k12, k13, k14⟩, kr⟩ := hSw; go_simp; (try with_reducible rfl))
  simp only [Act.put, List.setIfInBounds_toArray, List.set_cons_zero, List.set_cons_succ]
  refine wpAnyH_ready (rs := [27]) (by kernel_rfl) (by simp) ?_
  refine AllReadyH.cons (o := { dst := some 30, op := Op.call { callee := Callee.value (Operand.func 69), args := #[Operand.tmp 29], argTypes := #[3] }, type := 4, pos := "ref.go:290", after := #[{ on := 26, ground := Ground.data }, { on := 24, ground := Ground.chain }, { on := 24, ground := Ground.guard }], guard := some (24, false) }) rfl (fun K hK => ?_) AllReadyH.nil
  go_simp
  refine (bad_any _ _).mono ?_
  rintro e w1 ⟨rfl, rfl⟩
  rw [h5]
  go_wp2_with fail
  refine hK.out _ _ hN2.ns (fun hHeld => ?_)
  clear hK K
  try simp only [Act.put, List.setIfInBounds_toArray, List.set_cons_zero, List.set_cons_succ]
  refine' wpAnyH_take (i := 28) (oi := { dst := some 31, op := Op.pick (Operand.tmp 27) (Operand.const (Value.bool true)) (Operand.tmp 30), type := 4, pos := "ref.go:290", after := #[{ on := 24, ground := Ground.data }, { on := 27, ground := Ground.data }], guard := none }) (v := ?v224) rfl (by kernel_rfl) (by kernel_rfl) (by kernel_rfl) (fun _ _ _ h => h) (Or.inl ⟨by rfl, ?hy224⟩) (by assumption) ?rest224
  case hy224 => (intro w hSw; obtain ⟨⟨k0, k1, k2, k3, k4, k12, k13, k14⟩, kr⟩ := hSw; go_simp; (try with_reducible rfl))
  simp only [Act.put, List.setIfInBounds_toArray, List.set_cons_zero, List.set_cons_succ]
  refine' wpAnyH_take (i := 29) (oi := { dst := some 32, op := Op.move (Operand.tmp 31), type := 4, pos := "ref.go:290", after := #[{ on := 28, ground := Ground.data }, { on := 27, ground := Ground.chain }], guard := none }) (v := ?v225) rfl (by kernel_rfl) (by kernel_rfl) (by kernel_rfl) (fun _ _ _ h => h) (Or.inl ⟨by rfl, ?hy225⟩) (by assumption) ?rest225
  case hy225 => (intro w hSw; obtain ⟨⟨k0, k1, k2, k3, k4, k12, k13, k14⟩, kr⟩ := hSw; go_simp; (try with_reducible rfl))
  simp only [Act.put, List.setIfInBounds_toArray, List.set_cons_zero, List.set_cons_succ]
  refine' wpAnyH_take (i := 30) (oi := { dst := some 33, op := Op.fieldAddr 51 (Operand.tmp 1) 6, type := 0, pos := "ref.go:290", after := #[{ on := 29, ground := Ground.guard }], guard := some (29, false) }) (v := ?v226) rfl (by kernel_rfl) (by kernel_rfl) (by kernel_rfl) (fun _ _ _ h => h) (Or.inl ⟨by rfl, ?hy226⟩) (by assumption) ?rest226
  case hy226 => (intro w hSw; obtain ⟨⟨k0, k1, k2, k3, k4, k12, k13, k14⟩, kr⟩ := hSw; go_simp; (try with_reducible rfl))
  simp only [Act.put, List.setIfInBounds_toArray, List.set_cons_zero, List.set_cons_succ]
  refine' wpAnyH_take (i := 31) (oi := { dst := some 34, op := Op.fieldAddr 49 (Operand.tmp 33) 0, type := 0, pos := "ref.go:290", after := #[{ on := 30, ground := Ground.data }, { on := 29, ground := Ground.guard }], guard := some (29, false) }) (v := ?v227) rfl (by kernel_rfl) (by kernel_rfl) (by kernel_rfl) (fun _ _ _ h => h) (Or.inl ⟨by rfl, ?hy227⟩) (by assumption) ?rest227
  case hy227 => (intro w hSw; obtain ⟨⟨k0, k1, k2, k3, k4, k12, k13, k14⟩, kr⟩ := hSw; go_simp; (try with_reducible rfl))
  simp only [Act.put, List.setIfInBounds_toArray, List.set_cons_zero, List.set_cons_succ]
  refine' wpAnyH_take (i := 32) (oi := { dst := some 35, op := Op.load 3 (Operand.tmp 34), type := 3, pos := "ref.go:290", after := #[{ on := 31, ground := Ground.data }, { on := 29, ground := Ground.guard }], guard := some (29, false) }) (v := ?v228) rfl (by kernel_rfl) (by kernel_rfl) (by kernel_rfl) (fun _ _ _ h => h) (Or.inl ⟨by rfl, ?hy228⟩) (by assumption) ?rest228
  case hy228 => (intro w hSw; obtain ⟨⟨k0, k1, k2, k3, k4, k12, k13, k14⟩, kr⟩ := hSw; go_simp; (try with_reducible rfl))
  simp only [Act.put, List.setIfInBounds_toArray, List.set_cons_zero, List.set_cons_succ]
  refine wpAnyH_ready (rs := [33]) (by kernel_rfl) (by simp) ?_
  refine AllReadyH.cons (o := { dst := some 36, op := Op.call { callee := Callee.value (Operand.func 69), args := #[Operand.tmp 35], argTypes := #[3] }, type := 4, pos := "ref.go:290", after := #[{ on := 32, ground := Ground.data }, { on := 29, ground := Ground.chain }, { on := 29, ground := Ground.guard }], guard := some (29, false) }) rfl (fun K hK => ?_) AllReadyH.nil
  go_simp
  refine (bad_any _ _).mono ?_
  rintro e w1 ⟨rfl, rfl⟩
  rw [h6]
  go_wp2_with fail
  refine hK.out _ _ hN2.ns (fun hHeld => ?_)
  clear hK K
  try simp only [Act.put, List.setIfInBounds_toArray, List.set_cons_zero, List.set_cons_succ]
  refine' wpAnyH_take (i := 34) (oi := { dst := some 37, op := Op.pick (Operand.tmp 32) (Operand.const (Value.bool true)) (Operand.tmp 36), type := 4, pos := "ref.go:290", after := #[{ on := 29, ground := Ground.data }, { on := 33, ground := Ground.data }], guard := none }) (v := ?v229) rfl (by kernel_rfl) (by kernel_rfl) (by kernel_rfl) (fun _ _ _ h => h) (Or.inl ⟨by rfl, ?hy229⟩) (by assumption) ?rest229
  case hy229 => (intro w hSw; obtain ⟨⟨k0, k1, k2, k3, k4, k12, k13, k14⟩, kr⟩ := hSw; go_simp; (try with_reducible rfl))
  simp only [Act.put, List.setIfInBounds_toArray, List.set_cons_zero, List.set_cons_succ]
  refine' wpAnyH_take (i := 35) (oi := { dst := some 38, op := Op.move (Operand.tmp 37), type := 4, pos := "ref.go:290", after := #[{ on := 34, ground := Ground.data }, { on := 33, ground := Ground.chain }], guard := none }) (v := ?v230) rfl (by kernel_rfl) (by kernel_rfl) (by kernel_rfl) (fun _ _ _ h => h) (Or.inl ⟨by rfl, ?hy230⟩) (by assumption) ?rest230
  case hy230 => (intro w hSw; obtain ⟨⟨k0, k1, k2, k3, k4, k12, k13, k14⟩, kr⟩ := hSw; go_simp; (try with_reducible rfl))
  simp only [Act.put, List.setIfInBounds_toArray, List.set_cons_zero, List.set_cons_succ]
  refine' wpAnyH_take (i := 36) (oi := { dst := some 39, op := Op.fieldAddr 51 (Operand.tmp 1) 6, type := 0, pos := "ref.go:290", after := #[{ on := 35, ground := Ground.guard }], guard := some (35, false) }) (v := ?v231) rfl (by kernel_rfl) (by kernel_rfl) (by kernel_rfl) (fun _ _ _ h => h) (Or.inl ⟨by rfl, ?hy231⟩) (by assumption) ?rest231
  case hy231 => (intro w hSw; obtain ⟨⟨k0, k1, k2, k3, k4, k12, k13, k14⟩, kr⟩ := hSw; go_simp; (try with_reducible rfl))
  simp only [Act.put, List.setIfInBounds_toArray, List.set_cons_zero, List.set_cons_succ]
  refine' wpAnyH_take (i := 37) (oi := { dst := some 40, op := Op.fieldAddr 49 (Operand.tmp 39) 1, type := 0, pos := "ref.go:290", after := #[{ on := 36, ground := Ground.data }, { on := 35, ground := Ground.guard }], guard := some (35, false) }) (v := ?v232) rfl (by kernel_rfl) (by kernel_rfl) (by kernel_rfl) (fun _ _ _ h => h) (Or.inl ⟨by rfl, ?hy232⟩) (by assumption) ?rest232
  case hy232 => (intro w hSw; obtain ⟨⟨k0, k1, k2, k3, k4, k12, k13, k14⟩, kr⟩ := hSw; go_simp; (try with_reducible rfl))
  simp only [Act.put, List.setIfInBounds_toArray, List.set_cons_zero, List.set_cons_succ]
  refine' wpAnyH_take (i := 38) (oi := { dst := some 41, op := Op.load 3 (Operand.tmp 40), type := 3, pos := "ref.go:290", after := #[{ on := 37, ground := Ground.data }, { on := 35, ground := Ground.guard }], guard := some (35, false) }) (v := ?v233) rfl (by kernel_rfl) (by kernel_rfl) (by kernel_rfl) (fun _ _ _ h => h) (Or.inl ⟨by rfl, ?hy233⟩) (by assumption) ?rest233
  case hy233 => (intro w hSw; obtain ⟨⟨k0, k1, k2, k3, k4, k12, k13, k14⟩, kr⟩ := hSw; go_simp; (try with_reducible rfl))
  simp only [Act.put, List.setIfInBounds_toArray, List.set_cons_zero, List.set_cons_succ]
  refine wpAnyH_ready (rs := [39]) (by kernel_rfl) (by simp) ?_
  refine AllReadyH.cons (o := { dst := some 42, op := Op.call { callee := Callee.value (Operand.func 69), args := #[Operand.tmp 41], argTypes := #[3] }, type := 4, pos := "ref.go:290", after := #[{ on := 38, ground := Ground.data }, { on := 35, ground := Ground.chain }, { on := 35, ground := Ground.guard }], guard := some (35, false) }) rfl (fun K hK => ?_) AllReadyH.nil
  go_simp
  refine (bad_any _ _).mono ?_
  rintro e w1 ⟨rfl, rfl⟩
  rw [h7]
  go_wp2_with fail
  refine hK.out _ _ hN2.ns (fun hHeld => ?_)
  clear hK K
  try simp only [Act.put, List.setIfInBounds_toArray, List.set_cons_zero, List.set_cons_succ]
  refine' wpAnyH_take (i := 40) (oi := { dst := some 43, op := Op.pick (Operand.tmp 38) (Operand.const (Value.bool true)) (Operand.tmp 42), type := 4, pos := "ref.go:290", after := #[{ on := 35, ground := Ground.data }, { on := 39, ground := Ground.data }], guard := none }) (v := ?v234) rfl (by kernel_rfl) (by kernel_rfl) (by kernel_rfl) (fun _ _ _ h => h) (Or.inl ⟨by rfl, ?hy234⟩) (by assumption) ?rest234
  case hy234 => (intro w hSw; obtain ⟨⟨k0, k1, k2, k3, k4, k12, k13, k14⟩, kr⟩ := hSw; go_simp; (try with_reducible rfl))
  simp only [Act.put, List.setIfInBounds_toArray, List.set_cons_zero, List.set_cons_succ]
  refine' wpAnyH_take (i := 41) (oi := { dst := some 44, op := Op.move (Operand.tmp 43), type := 4, pos := "ref.go:290", after := #[{ on := 40, ground := Ground.data }, { on := 39, ground := Ground.chain }], guard := none }) (v := ?v235) rfl (by kernel_rfl) (by kernel_rfl) (by kernel_rfl) (fun _ _ _ h => h) (Or.inl ⟨by rfl, ?hy235⟩) (by assumption) ?rest235
  case hy235 => (intro w hSw; obtain ⟨⟨k0, k1, k2, k3, k4, k12, k13, k14⟩, kr⟩ := hSw; go_simp; (try with_reducible rfl))
  simp only [Act.put, List.setIfInBounds_toArray, List.set_cons_zero, List.set_cons_succ]
  refine' wpAnyH_take (i := 42) (oi := { dst := some 45, op := Op.fieldAddr 51 (Operand.tmp 1) 6, type := 0, pos := "ref.go:290", after := #[{ on := 41, ground := Ground.guard }], guard := some (41, false) }) (v := ?v236) rfl (by kernel_rfl) (by kernel_rfl) (by kernel_rfl) (fun _ _ _ h => h) (Or.inl ⟨by rfl, ?hy236⟩) (by assumption) ?rest236
  case hy236 => (intro w hSw; obtain ⟨⟨k0, k1, k2, k3, k4, k12, k13, k14⟩, kr⟩ := hSw; go_simp; (try with_reducible rfl))
  simp only [Act.put, List.setIfInBounds_toArray, List.set_cons_zero, List.set_cons_succ]
  refine' wpAnyH_take (i := 43) (oi := { dst := some 46, op := Op.fieldAddr 49 (Operand.tmp 45) 2, type := 0, pos := "ref.go:290", after := #[{ on := 42, ground := Ground.data }, { on := 41, ground := Ground.guard }], guard := some (41, false) }) (v := ?v237) rfl (by kernel_rfl) (by kernel_rfl) (by kernel_rfl) (fun _ _ _ h => h) (Or.inl ⟨by rfl, ?hy237⟩) (by assumption) ?rest237
  case hy237 => (intro w hSw; obtain ⟨⟨k0, k1, k2, k3, k4, k12, k13, k14⟩, kr⟩ := hSw; go_simp; (try with_reducible rfl))
  simp only [Act.put, List.setIfInBounds_toArray, List.set_cons_zero, List.set_cons_succ]
  refine' wpAnyH_take (i := 44) (oi := { dst := some 47, op := Op.load 29 (Operand.tmp 46), type := 29, pos := "ref.go:290", after := #[{ on := 43, ground := Ground.data }, { on := 41, ground := Ground.guard }], guard := some (41, false) }) (v := ?v238) rfl (by kernel_rfl) (by kernel_rfl) (by kernel_rfl) (fun _ _ _ h => h) (Or.inl ⟨by rfl, ?hy238⟩) (by assumption) ?rest238
  case hy238 => (intro w hSw; obtain ⟨⟨k0, k1, k2, k3, k4, k12, k13, k14⟩, kr⟩ := hSw; go_simp; (try with_reducible rfl))
  simp only [Act.put, List.setIfInBounds_toArray, List.set_cons_zero, List.set_cons_succ]
  refine wpAnyH_ready (rs := [45]) (by kernel_rfl) (by simp) ?_
  refine AllReadyH.cons (o := { dst := some 48, op := Op.call { callee := Callee.value (Operand.func 69), args := #[Operand.tmp 47], argTypes := #[3] }, type := 4, pos := "ref.go:290", after := #[{ on := 44, ground := Ground.data }, { on := 41, ground := Ground.chain }, { on := 41, ground := Ground.guard }], guard := some (41, false) }) rfl (fun K hK => ?_) AllReadyH.nil
  go_simp
  refine (bad_any _ _).mono ?_
  rintro e w1 ⟨rfl, rfl⟩
  rw [h8]
  go_wp2_with fail
  refine hK.out _ _ hN2.ns (fun hHeld => ?_)
  clear hK K
  try simp only [Act.put, List.setIfInBounds_toArray, List.set_cons_zero, List.set_cons_succ]
  refine' wpAnyH_take (i := 46) (oi := { dst := some 49, op := Op.pick (Operand.tmp 44) (Operand.const (Value.bool true)) (Operand.tmp 48), type := 4, pos := "ref.go:290", after := #[{ on := 41, ground := Ground.data }, { on := 45, ground := Ground.data }], guard := none }) (v := ?v239) rfl (by kernel_rfl) (by kernel_rfl) (by kernel_rfl) (fun _ _ _ h => h) (Or.inl ⟨by rfl, ?hy239⟩) (by assumption) ?rest239
  case hy239 => (intro w hSw; obtain ⟨⟨k0, k1, k2, k3, k4, k12, k13, k14⟩, kr⟩ := hSw; go_simp; (try with_reducible rfl))
  simp only [Act.put, List.setIfInBounds_toArray, List.set_cons_zero, List.set_cons_succ]
  refine wpAnyH_done (by kernel_rfl) ?_ _
  go_wp2_with fail
  go_ret
  exact ⟨bb hok.out.symm, B2⟩
set_option maxRecDepth 100000 in
set_option maxHeartbeats 8000000 in
theorem rplainNote_9 (n : NoteD) (xs : Array Value) (hx : IsNote xs n) (w : World) (hhd : Hid (n.ok = (if n.kind = 3 then !n.entry.neg && n.entry.ok else if n.kind = 5 then n.op.ok else true))) (hq : ∀ W' : World, (binOp .neq 51 (.agg n.cells.toArray) (.agg n.only.cells.toArray)).run Try.prog W' = .ok (.bool false) W') (h1 : (n.kind == 0) = false) (h2 : okN n.epoch = true) (h3 : okN n.version = true) (h4 : okN n.next = true) (h5 : okN n.client = true) (h6 : okN n.seen.life = true) (h7 : okN n.seen.seq = true) (h8 : okN n.seen.err = true) : Calls Try.prog 48 #[.agg xs] w (Tells n.ok w) := by
  have hA : ∀ W, W = w.alloc (.cells xs 51) → NoteAt W w.heap.size n ∧ Below w.heap.size w W := by rw [hx.eq]; exact nat_add n w
  clear hx
  have hgt : ∀ W, W = w.alloc (.cells xs 51) → w.heap.size < W.heap.size := by rintro W rfl; simp
  obtain ⟨W, hW⟩ : ∃ W, W = w.alloc (.cells xs 51) := ⟨_, rfl⟩
  obtain ⟨hN, hB⟩ := hA W hW
  have hlt := hgt W hW
  have HW := Lib.hid hW
  have s0 : NS w.heap.size n W.drew := hN.ns
  clear hA hgt hW
  go_enter Try.func48, Try.ntmps48
  go_wp2_with fail
  rw [← HW.out]
  refine wp_region_held_drew (S := (fun w' => NS w.heap.size n w')) (by kernel_rfl) s0 (fun hHeld => ?_)
  refine' wpAnyH_take (i := 0) (oi := { dst := some 3, op := Op.load 51 (Operand.tmp 1), type := 51, pos := "ref.go:290", after := #[], guard := none }) (v := _) rfl (by kernel_rfl) (by kernel_rfl) (by kernel_rfl) (fun _ _ _ h => h) (yieldsIf_load_mid (by rfl) _ _ rfl _ _ rfl _ _ (fun w h => h.2) Try.underlying51 rfl size_note) (by assumption) ?_
  simp only [Act.put, List.setIfInBounds_toArray, List.set_cons_zero, List.set_cons_succ]
  refine' wpAnyH_take (i := 1) (oi := { dst := some 4, op := Op.load 51 (Operand.tmp 1), type := 51, pos := "ref.go:290", after := #[], guard := none }) (v := _) rfl (by kernel_rfl) (by kernel_rfl) (by kernel_rfl) (fun _ _ _ h => h) (yieldsIf_load_mid (by rfl) _ _ rfl _ _ rfl _ _ (fun w h => h.2) Try.underlying51 rfl size_note) (by assumption) ?_
  simp only [Act.put, List.setIfInBounds_toArray, List.set_cons_zero, List.set_cons_succ]
  refine wpAnyH_ready (rs := [2]) (by kernel_rfl) (by simp) ?_
  refine AllReadyH.cons (o := { dst := some 5, op := Op.call { callee := Callee.value (Operand.func 76), args := #[Operand.tmp 4], argTypes := #[51] }, type := 51, pos := "ref.go:290", after := #[{ on := 1, ground := Ground.data }], guard := none }) rfl (fun K hK => ?_) AllReadyH.nil
  go_simp
  refine (only_any n _ ⟨rfl⟩ _).mono ?_
  rintro e w2 ⟨ys, rfl, hys, b2'⟩
  obtain rfl := hys.eq
  have b2 := below_undrew b2'
  have hN2 := hN.below b2
  have B2 := bel_next hB b2
  go_wp2_with fail
  refine hK.out _ _ hN2.ns (fun hHeld => ?_)
  clear hK K
  try simp only [Act.put, List.setIfInBounds_toArray, List.set_cons_zero, List.set_cons_succ]
  refine' wpAnyH_take (i := 3) (oi := { dst := some 6, op := Op.binOp BinOp.neq 51 (Operand.tmp 3) (Operand.tmp 5) 51, type := 4, pos := "ref.go:290", after := #[{ on := 0, ground := Ground.data }, { on := 2, ground := Ground.data }], guard := none }) (v := ?v240) rfl (by kernel_rfl) (by kernel_rfl) (by kernel_rfl) (fun _ _ _ h => h) (Or.inl ⟨by rfl, ?hy240⟩) (by assumption) ?rest240
  case hy240 => (intro w hSw; obtain ⟨⟨k0, k1, k2, k3, k4, k12, k13, k14⟩, kr⟩ := hSw; go_simp; (try with_reducible rfl))
  simp only [Act.put, List.setIfInBounds_toArray, List.set_cons_zero, List.set_cons_succ]
  refine' wpAnyH_take (i := 4) (oi := { dst := some 7, op := Op.move (Operand.tmp 6), type := 4, pos := "ref.go:290", after := #[{ on := 3, ground := Ground.data }, { on := 2, ground := Ground.chain }], guard := none }) (v := ?v241) rfl (by kernel_rfl) (by kernel_rfl) (by kernel_rfl) (fun _ _ _ h => h) (Or.inl ⟨by rfl, ?hy241⟩) (by assumption) ?rest241
  case hy241 => (intro w hSw; obtain ⟨⟨k0, k1, k2, k3, k4, k12, k13, k14⟩, kr⟩ := hSw; go_simp; (try with_reducible rfl))
  simp only [Act.put, List.setIfInBounds_toArray, List.set_cons_zero, List.set_cons_succ]
  refine' wpAnyH_take (i := 5) (oi := { dst := some 8, op := Op.fieldAddr 51 (Operand.tmp 1) 0, type := 0, pos := "ref.go:290", after := #[{ on := 4, ground := Ground.guard }], guard := some (4, false) }) (v := ?v242) rfl (by kernel_rfl) (by kernel_rfl) (by kernel_rfl) (fun _ _ _ h => h) (Or.inl ⟨by rfl, ?hy242⟩) (by assumption) ?rest242
  case hy242 => (intro w hSw; obtain ⟨⟨k0, k1, k2, k3, k4, k12, k13, k14⟩, kr⟩ := hSw; go_simp; (try with_reducible rfl))
  simp only [Act.put, List.setIfInBounds_toArray, List.set_cons_zero, List.set_cons_succ]
  refine' wpAnyH_take (i := 6) (oi := { dst := some 9, op := Op.load 3 (Operand.tmp 8), type := 3, pos := "ref.go:290", after := #[{ on := 5, ground := Ground.data }, { on := 4, ground := Ground.guard }], guard := some (4, false) }) (v := ?v243) rfl (by kernel_rfl) (by kernel_rfl) (by kernel_rfl) (fun _ _ _ h => h) (Or.inl ⟨by rfl, ?hy243⟩) (by assumption) ?rest243
  case hy243 => (intro w hSw; obtain ⟨⟨k0, k1, k2, k3, k4, k12, k13, k14⟩, kr⟩ := hSw; go_simp; (try with_reducible rfl))
  simp only [Act.put, List.setIfInBounds_toArray, List.set_cons_zero, List.set_cons_succ]
  refine' wpAnyH_take (i := 7) (oi := { dst := some 10, op := Op.binOp BinOp.eql 3 (Operand.tmp 9) (Operand.const (Value.int IntKind.i64 0)) 3, type := 4, pos := "ref.go:290", after := #[{ on := 6, ground := Ground.data }, { on := 4, ground := Ground.guard }], guard := some (4, false) }) (v := ?v244) rfl (by kernel_rfl) (by kernel_rfl) (by kernel_rfl) (fun _ _ _ h => h) (Or.inl ⟨by rfl, ?hy244⟩) (by assumption) ?rest244
  case hy244 => (intro w hSw; obtain ⟨⟨k0, k1, k2, k3, k4, k12, k13, k14⟩, kr⟩ := hSw; go_simp; (try with_reducible rfl))
  simp only [Act.put, List.setIfInBounds_toArray, List.set_cons_zero, List.set_cons_succ]
  refine' wpAnyH_take (i := 8) (oi := { dst := some 11, op := Op.pick (Operand.tmp 7) (Operand.const (Value.bool true)) (Operand.tmp 10), type := 4, pos := "ref.go:290", after := #[{ on := 4, ground := Ground.data }, { on := 7, ground := Ground.data }], guard := none }) (v := ?v245) rfl (by kernel_rfl) (by kernel_rfl) (by kernel_rfl) (fun _ _ _ h => h) (Or.inl ⟨by rfl, ?hy245⟩) (by assumption) ?rest245
  case hy245 => (intro w hSw; obtain ⟨⟨k0, k1, k2, k3, k4, k12, k13, k14⟩, kr⟩ := hSw; go_simp; (try with_reducible rfl))
  simp only [Act.put, List.setIfInBounds_toArray, List.set_cons_zero, List.set_cons_succ]
  refine' wpAnyH_take (i := 9) (oi := { dst := some 12, op := Op.move (Operand.tmp 11), type := 4, pos := "ref.go:290", after := #[{ on := 8, ground := Ground.data }, { on := 4, ground := Ground.chain }], guard := none }) (v := ?v246) rfl (by kernel_rfl) (by kernel_rfl) (by kernel_rfl) (fun _ _ _ h => h) (Or.inl ⟨by rfl, ?hy246⟩) (by assumption) ?rest246
  case hy246 => (intro w hSw; obtain ⟨⟨k0, k1, k2, k3, k4, k12, k13, k14⟩, kr⟩ := hSw; go_simp; (try with_reducible rfl))
  simp only [Act.put, List.setIfInBounds_toArray, List.set_cons_zero, List.set_cons_succ]
  refine' wpAnyH_take (i := 10) (oi := { dst := some 13, op := Op.fieldAddr 51 (Operand.tmp 1) 1, type := 0, pos := "ref.go:290", after := #[{ on := 9, ground := Ground.guard }], guard := some (9, false) }) (v := ?v247) rfl (by kernel_rfl) (by kernel_rfl) (by kernel_rfl) (fun _ _ _ h => h) (Or.inl ⟨by rfl, ?hy247⟩) (by assumption) ?rest247
  case hy247 => (intro w hSw; obtain ⟨⟨k0, k1, k2, k3, k4, k12, k13, k14⟩, kr⟩ := hSw; go_simp; (try with_reducible rfl))
  simp only [Act.put, List.setIfInBounds_toArray, List.set_cons_zero, List.set_cons_succ]
  refine' wpAnyH_take (i := 11) (oi := { dst := some 14, op := Op.load 3 (Operand.tmp 13), type := 3, pos := "ref.go:290", after := #[{ on := 10, ground := Ground.data }, { on := 9, ground := Ground.guard }], guard := some (9, false) }) (v := ?v248) rfl (by kernel_rfl) (by kernel_rfl) (by kernel_rfl) (fun _ _ _ h => h) (Or.inl ⟨by rfl, ?hy248⟩) (by assumption) ?rest248
  case hy248 => (intro w hSw; obtain ⟨⟨k0, k1, k2, k3, k4, k12, k13, k14⟩, kr⟩ := hSw; go_simp; (try with_reducible rfl))
  simp only [Act.put, List.setIfInBounds_toArray, List.set_cons_zero, List.set_cons_succ]
  refine wpAnyH_ready (rs := [12]) (by kernel_rfl) (by simp) ?_
  refine AllReadyH.cons (o := { dst := some 15, op := Op.call { callee := Callee.value (Operand.func 69), args := #[Operand.tmp 14], argTypes := #[3] }, type := 4, pos := "ref.go:290", after := #[{ on := 11, ground := Ground.data }, { on := 9, ground := Ground.chain }, { on := 9, ground := Ground.guard }], guard := some (9, false) }) rfl (fun K hK => ?_) AllReadyH.nil
  go_simp
  refine (bad_any _ _).mono ?_
  rintro e w1 ⟨rfl, rfl⟩
  rw [h2]
  go_wp2_with fail
  refine hK.out _ _ hN2.ns (fun hHeld => ?_)
  clear hK K
  try simp only [Act.put, List.setIfInBounds_toArray, List.set_cons_zero, List.set_cons_succ]
  refine' wpAnyH_take (i := 13) (oi := { dst := some 16, op := Op.pick (Operand.tmp 12) (Operand.const (Value.bool true)) (Operand.tmp 15), type := 4, pos := "ref.go:290", after := #[{ on := 9, ground := Ground.data }, { on := 12, ground := Ground.data }], guard := none }) (v := ?v249) rfl (by kernel_rfl) (by kernel_rfl) (by kernel_rfl) (fun _ _ _ h => h) (Or.inl ⟨by rfl, ?hy249⟩) (by assumption) ?rest249
  case hy249 => (intro w hSw; obtain ⟨⟨k0, k1, k2, k3, k4, k12, k13, k14⟩, kr⟩ := hSw; go_simp; (try with_reducible rfl))
  simp only [Act.put, List.setIfInBounds_toArray, List.set_cons_zero, List.set_cons_succ]
  refine' wpAnyH_take (i := 14) (oi := { dst := some 17, op := Op.move (Operand.tmp 16), type := 4, pos := "ref.go:290", after := #[{ on := 13, ground := Ground.data }, { on := 12, ground := Ground.chain }], guard := none }) (v := ?v250) rfl (by kernel_rfl) (by kernel_rfl) (by kernel_rfl) (fun _ _ _ h => h) (Or.inl ⟨by rfl, ?hy250⟩) (by assumption) ?rest250
  case hy250 => (intro w hSw; obtain ⟨⟨k0, k1, k2, k3, k4, k12, k13, k14⟩, kr⟩ := hSw; go_simp; (try with_reducible rfl))
  simp only [Act.put, List.setIfInBounds_toArray, List.set_cons_zero, List.set_cons_succ]
  refine' wpAnyH_take (i := 15) (oi := { dst := some 18, op := Op.fieldAddr 51 (Operand.tmp 1) 2, type := 0, pos := "ref.go:290", after := #[{ on := 14, ground := Ground.guard }], guard := some (14, false) }) (v := ?v251) rfl (by kernel_rfl) (by kernel_rfl) (by kernel_rfl) (fun _ _ _ h => h) (Or.inl ⟨by rfl, ?hy251⟩) (by assumption) ?rest251
  case hy251 => (intro w hSw; obtain ⟨⟨k0, k1, k2, k3, k4, k12, k13, k14⟩, kr⟩ := hSw; go_simp; (try with_reducible rfl))
  simp only [Act.put, List.setIfInBounds_toArray, List.set_cons_zero, List.set_cons_succ]
  refine' wpAnyH_take (i := 16) (oi := { dst := some 19, op := Op.load 3 (Operand.tmp 18), type := 3, pos := "ref.go:290", after := #[{ on := 15, ground := Ground.data }, { on := 14, ground := Ground.guard }], guard := some (14, false) }) (v := ?v252) rfl (by kernel_rfl) (by kernel_rfl) (by kernel_rfl) (fun _ _ _ h => h) (Or.inl ⟨by rfl, ?hy252⟩) (by assumption) ?rest252
  case hy252 => (intro w hSw; obtain ⟨⟨k0, k1, k2, k3, k4, k12, k13, k14⟩, kr⟩ := hSw; go_simp; (try with_reducible rfl))
  simp only [Act.put, List.setIfInBounds_toArray, List.set_cons_zero, List.set_cons_succ]
  refine wpAnyH_ready (rs := [17]) (by kernel_rfl) (by simp) ?_
  refine AllReadyH.cons (o := { dst := some 20, op := Op.call { callee := Callee.value (Operand.func 69), args := #[Operand.tmp 19], argTypes := #[3] }, type := 4, pos := "ref.go:290", after := #[{ on := 16, ground := Ground.data }, { on := 14, ground := Ground.chain }, { on := 14, ground := Ground.guard }], guard := some (14, false) }) rfl (fun K hK => ?_) AllReadyH.nil
  go_simp
  refine (bad_any _ _).mono ?_
  rintro e w1 ⟨rfl, rfl⟩
  rw [h3]
  go_wp2_with fail
  refine hK.out _ _ hN2.ns (fun hHeld => ?_)
  clear hK K
  try simp only [Act.put, List.setIfInBounds_toArray, List.set_cons_zero, List.set_cons_succ]
  refine' wpAnyH_take (i := 18) (oi := { dst := some 21, op := Op.pick (Operand.tmp 17) (Operand.const (Value.bool true)) (Operand.tmp 20), type := 4, pos := "ref.go:290", after := #[{ on := 14, ground := Ground.data }, { on := 17, ground := Ground.data }], guard := none }) (v := ?v253) rfl (by kernel_rfl) (by kernel_rfl) (by kernel_rfl) (fun _ _ _ h => h) (Or.inl ⟨by rfl, ?hy253⟩) (by assumption) ?rest253
  case hy253 => (intro w hSw; obtain ⟨⟨k0, k1, k2, k3, k4, k12, k13, k14⟩, kr⟩ := hSw; go_simp; (try with_reducible rfl))
  simp only [Act.put, List.setIfInBounds_toArray, List.set_cons_zero, List.set_cons_succ]
  refine' wpAnyH_take (i := 19) (oi := { dst := some 22, op := Op.move (Operand.tmp 21), type := 4, pos := "ref.go:290", after := #[{ on := 18, ground := Ground.data }, { on := 17, ground := Ground.chain }], guard := none }) (v := ?v254) rfl (by kernel_rfl) (by kernel_rfl) (by kernel_rfl) (fun _ _ _ h => h) (Or.inl ⟨by rfl, ?hy254⟩) (by assumption) ?rest254
  case hy254 => (intro w hSw; obtain ⟨⟨k0, k1, k2, k3, k4, k12, k13, k14⟩, kr⟩ := hSw; go_simp; (try with_reducible rfl))
  simp only [Act.put, List.setIfInBounds_toArray, List.set_cons_zero, List.set_cons_succ]
  refine' wpAnyH_take (i := 20) (oi := { dst := some 23, op := Op.fieldAddr 51 (Operand.tmp 1) 3, type := 0, pos := "ref.go:290", after := #[{ on := 19, ground := Ground.guard }], guard := some (19, false) }) (v := ?v255) rfl (by kernel_rfl) (by kernel_rfl) (by kernel_rfl) (fun _ _ _ h => h) (Or.inl ⟨by rfl, ?hy255⟩) (by assumption) ?rest255
  case hy255 => (intro w hSw; obtain ⟨⟨k0, k1, k2, k3, k4, k12, k13, k14⟩, kr⟩ := hSw; go_simp; (try with_reducible rfl))
  simp only [Act.put, List.setIfInBounds_toArray, List.set_cons_zero, List.set_cons_succ]
  refine' wpAnyH_take (i := 21) (oi := { dst := some 24, op := Op.load 3 (Operand.tmp 23), type := 3, pos := "ref.go:290", after := #[{ on := 20, ground := Ground.data }, { on := 19, ground := Ground.guard }], guard := some (19, false) }) (v := ?v256) rfl (by kernel_rfl) (by kernel_rfl) (by kernel_rfl) (fun _ _ _ h => h) (Or.inl ⟨by rfl, ?hy256⟩) (by assumption) ?rest256
  case hy256 => (intro w hSw; obtain ⟨⟨k0, k1, k2, k3, k4, k12, k13, k14⟩, kr⟩ := hSw; go_simp; (try with_reducible rfl))
  simp only [Act.put, List.setIfInBounds_toArray, List.set_cons_zero, List.set_cons_succ]
  refine wpAnyH_ready (rs := [22]) (by kernel_rfl) (by simp) ?_
  refine AllReadyH.cons (o := { dst := some 25, op := Op.call { callee := Callee.value (Operand.func 69), args := #[Operand.tmp 24], argTypes := #[3] }, type := 4, pos := "ref.go:290", after := #[{ on := 21, ground := Ground.data }, { on := 19, ground := Ground.chain }, { on := 19, ground := Ground.guard }], guard := some (19, false) }) rfl (fun K hK => ?_) AllReadyH.nil
  go_simp
  refine (bad_any _ _).mono ?_
  rintro e w1 ⟨rfl, rfl⟩
  rw [h4]
  go_wp2_with fail
  refine hK.out _ _ hN2.ns (fun hHeld => ?_)
  clear hK K
  try simp only [Act.put, List.setIfInBounds_toArray, List.set_cons_zero, List.set_cons_succ]
  refine' wpAnyH_take (i := 23) (oi := { dst := some 26, op := Op.pick (Operand.tmp 22) (Operand.const (Value.bool true)) (Operand.tmp 25), type := 4, pos := "ref.go:290", after := #[{ on := 19, ground := Ground.data }, { on := 22, ground := Ground.data }], guard := none }) (v := ?v257) rfl (by kernel_rfl) (by kernel_rfl) (by kernel_rfl) (fun _ _ _ h => h) (Or.inl ⟨by rfl, ?hy257⟩) (by assumption) ?rest257
  case hy257 => (intro w hSw; obtain ⟨⟨k0, k1, k2, k3, k4, k12, k13, k14⟩, kr⟩ := hSw; go_simp; (try with_reducible rfl))
  simp only [Act.put, List.setIfInBounds_toArray, List.set_cons_zero, List.set_cons_succ]
  refine' wpAnyH_take (i := 24) (oi := { dst := some 27, op := Op.move (Operand.tmp 26), type := 4, pos := "ref.go:290", after := #[{ on := 23, ground := Ground.data }, { on := 22, ground := Ground.chain }], guard := none }) (v := ?v258) rfl (by kernel_rfl) (by kernel_rfl) (by kernel_rfl) (fun _ _ _ h => h) (Or.inl ⟨by rfl, ?hy258⟩) (by assumption) ?rest258
  case hy258 => (intro w hSw; obtain ⟨⟨k0, k1, k2, k3, k4, k12, k13, k14⟩, kr⟩ := hSw; go_simp; (try with_reducible rfl))
  simp only [Act.put, List.setIfInBounds_toArray, List.set_cons_zero, List.set_cons_succ]
  refine' wpAnyH_take (i := 25) (oi := { dst := some 28, op := Op.fieldAddr 51 (Operand.tmp 1) 4, type := 0, pos := "ref.go:290", after := #[{ on := 24, ground := Ground.guard }], guard := some (24, false) }) (v := ?v259) rfl (by kernel_rfl) (by kernel_rfl) (by kernel_rfl) (fun _ _ _ h => h) (Or.inl ⟨by rfl, ?hy259⟩) (by assumption) ?rest259
  case hy259 => (intro w hSw; obtain ⟨⟨k0, k1, k2, k3, k4, k12, k13, k14⟩, kr⟩ := hSw; go_simp; (try with_reducible rfl))
  simp only [Act.put, List.setIfInBounds_toArray, List.set_cons_zero, List.set_cons_succ]
  refine' wpAnyH_take (i := 26) (oi := { dst := some 29, op := Op.load 3 (Operand.tmp 28), type := 3, pos := "ref.go:290", after := #[{ on := 25, ground := Ground.data }, { on := 24, ground := Ground.guard }], guard := some (24, false) }) (v := ?v260) rfl (by kernel_rfl) (by kernel_rfl) (by kernel_rfl) (fun _ _ _ h => h) (Or.inl ⟨by rfl, ?hy260⟩) (by assumption) ?rest260
  case hy260 => (intro w hSw; obtain ⟨⟨k0, k1, k2, k3, k4, k12, k13, k14⟩, kr⟩ := hSw; go_simp; (try with_reducible rfl))
  simp only [Act.put, List.setIfInBounds_toArray, List.set_cons_zero, List.set_cons_succ]
  refine wpAnyH_ready (rs := [27]) (by kernel_rfl) (by simp) ?_
  refine AllReadyH.cons (o := { dst := some 30, op := Op.call { callee := Callee.value (Operand.func 69), args := #[Operand.tmp 29], argTypes := #[3] }, type := 4, pos := "ref.go:290", after := #[{ on := 26, ground := Ground.data }, { on := 24, ground := Ground.chain }, { on := 24, ground := Ground.guard }], guard := some (24, false) }) rfl (fun K hK => ?_) AllReadyH.nil
  go_simp
  refine (bad_any _ _).mono ?_
  rintro e w1 ⟨rfl, rfl⟩
  rw [h5]
  go_wp2_with fail
  refine hK.out _ _ hN2.ns (fun hHeld => ?_)
  clear hK K
  try simp only [Act.put, List.setIfInBounds_toArray, List.set_cons_zero, List.set_cons_succ]
  refine' wpAnyH_take (i := 28) (oi := { dst := some 31, op := Op.pick (Operand.tmp 27) (Operand.const (Value.bool true)) (Operand.tmp 30), type := 4, pos := "ref.go:290", after := #[{ on := 24, ground := Ground.data }, { on := 27, ground := Ground.data }], guard := none }) (v := ?v261) rfl (by kernel_rfl) (by kernel_rfl) (by kernel_rfl) (fun _ _ _ h => h) (Or.inl ⟨by rfl, ?hy261⟩) (by assumption) ?rest261
  case hy261 => (intro w hSw; obtain ⟨⟨k0, k1, k2, k3, k4, k12, k13, k14⟩, kr⟩ := hSw; go_simp; (try with_reducible rfl))
  simp only [Act.put, List.setIfInBounds_toArray, List.set_cons_zero, List.set_cons_succ]
  refine' wpAnyH_take (i := 29) (oi := { dst := some 32, op := Op.move (Operand.tmp 31), type := 4, pos := "ref.go:290", after := #[{ on := 28, ground := Ground.data }, { on := 27, ground := Ground.chain }], guard := none }) (v := ?v262) rfl (by kernel_rfl) (by kernel_rfl) (by kernel_rfl) (fun _ _ _ h => h) (Or.inl ⟨by rfl, ?hy262⟩) (by assumption) ?rest262
  case hy262 => (intro w hSw; obtain ⟨⟨k0, k1, k2, k3, k4, k12, k13, k14⟩, kr⟩ := hSw; go_simp; (try with_reducible rfl))
  simp only [Act.put, List.setIfInBounds_toArray, List.set_cons_zero, List.set_cons_succ]
  refine' wpAnyH_take (i := 30) (oi := { dst := some 33, op := Op.fieldAddr 51 (Operand.tmp 1) 6, type := 0, pos := "ref.go:290", after := #[{ on := 29, ground := Ground.guard }], guard := some (29, false) }) (v := ?v263) rfl (by kernel_rfl) (by kernel_rfl) (by kernel_rfl) (fun _ _ _ h => h) (Or.inl ⟨by rfl, ?hy263⟩) (by assumption) ?rest263
  case hy263 => (intro w hSw; obtain ⟨⟨k0, k1, k2, k3, k4, k12, k13, k14⟩, kr⟩ := hSw; go_simp; (try with_reducible rfl))
  simp only [Act.put, List.setIfInBounds_toArray, List.set_cons_zero, List.set_cons_succ]
  refine' wpAnyH_take (i := 31) (oi := { dst := some 34, op := Op.fieldAddr 49 (Operand.tmp 33) 0, type := 0, pos := "ref.go:290", after := #[{ on := 30, ground := Ground.data }, { on := 29, ground := Ground.guard }], guard := some (29, false) }) (v := ?v264) rfl (by kernel_rfl) (by kernel_rfl) (by kernel_rfl) (fun _ _ _ h => h) (Or.inl ⟨by rfl, ?hy264⟩) (by assumption) ?rest264
  case hy264 => (intro w hSw; obtain ⟨⟨k0, k1, k2, k3, k4, k12, k13, k14⟩, kr⟩ := hSw; go_simp; (try with_reducible rfl))
  simp only [Act.put, List.setIfInBounds_toArray, List.set_cons_zero, List.set_cons_succ]
  refine' wpAnyH_take (i := 32) (oi := { dst := some 35, op := Op.load 3 (Operand.tmp 34), type := 3, pos := "ref.go:290", after := #[{ on := 31, ground := Ground.data }, { on := 29, ground := Ground.guard }], guard := some (29, false) }) (v := ?v265) rfl (by kernel_rfl) (by kernel_rfl) (by kernel_rfl) (fun _ _ _ h => h) (Or.inl ⟨by rfl, ?hy265⟩) (by assumption) ?rest265
  case hy265 => (intro w hSw; obtain ⟨⟨k0, k1, k2, k3, k4, k12, k13, k14⟩, kr⟩ := hSw; go_simp; (try with_reducible rfl))
  simp only [Act.put, List.setIfInBounds_toArray, List.set_cons_zero, List.set_cons_succ]
  refine wpAnyH_ready (rs := [33]) (by kernel_rfl) (by simp) ?_
  refine AllReadyH.cons (o := { dst := some 36, op := Op.call { callee := Callee.value (Operand.func 69), args := #[Operand.tmp 35], argTypes := #[3] }, type := 4, pos := "ref.go:290", after := #[{ on := 32, ground := Ground.data }, { on := 29, ground := Ground.chain }, { on := 29, ground := Ground.guard }], guard := some (29, false) }) rfl (fun K hK => ?_) AllReadyH.nil
  go_simp
  refine (bad_any _ _).mono ?_
  rintro e w1 ⟨rfl, rfl⟩
  rw [h6]
  go_wp2_with fail
  refine hK.out _ _ hN2.ns (fun hHeld => ?_)
  clear hK K
  try simp only [Act.put, List.setIfInBounds_toArray, List.set_cons_zero, List.set_cons_succ]
  refine' wpAnyH_take (i := 34) (oi := { dst := some 37, op := Op.pick (Operand.tmp 32) (Operand.const (Value.bool true)) (Operand.tmp 36), type := 4, pos := "ref.go:290", after := #[{ on := 29, ground := Ground.data }, { on := 33, ground := Ground.data }], guard := none }) (v := ?v266) rfl (by kernel_rfl) (by kernel_rfl) (by kernel_rfl) (fun _ _ _ h => h) (Or.inl ⟨by rfl, ?hy266⟩) (by assumption) ?rest266
  case hy266 => (intro w hSw; obtain ⟨⟨k0, k1, k2, k3, k4, k12, k13, k14⟩, kr⟩ := hSw; go_simp; (try with_reducible rfl))
  simp only [Act.put, List.setIfInBounds_toArray, List.set_cons_zero, List.set_cons_succ]
  refine' wpAnyH_take (i := 35) (oi := { dst := some 38, op := Op.move (Operand.tmp 37), type := 4, pos := "ref.go:290", after := #[{ on := 34, ground := Ground.data }, { on := 33, ground := Ground.chain }], guard := none }) (v := ?v267) rfl (by kernel_rfl) (by kernel_rfl) (by kernel_rfl) (fun _ _ _ h => h) (Or.inl ⟨by rfl, ?hy267⟩) (by assumption) ?rest267
  case hy267 => (intro w hSw; obtain ⟨⟨k0, k1, k2, k3, k4, k12, k13, k14⟩, kr⟩ := hSw; go_simp; (try with_reducible rfl))
  simp only [Act.put, List.setIfInBounds_toArray, List.set_cons_zero, List.set_cons_succ]
  refine' wpAnyH_take (i := 36) (oi := { dst := some 39, op := Op.fieldAddr 51 (Operand.tmp 1) 6, type := 0, pos := "ref.go:290", after := #[{ on := 35, ground := Ground.guard }], guard := some (35, false) }) (v := ?v268) rfl (by kernel_rfl) (by kernel_rfl) (by kernel_rfl) (fun _ _ _ h => h) (Or.inl ⟨by rfl, ?hy268⟩) (by assumption) ?rest268
  case hy268 => (intro w hSw; obtain ⟨⟨k0, k1, k2, k3, k4, k12, k13, k14⟩, kr⟩ := hSw; go_simp; (try with_reducible rfl))
  simp only [Act.put, List.setIfInBounds_toArray, List.set_cons_zero, List.set_cons_succ]
  refine' wpAnyH_take (i := 37) (oi := { dst := some 40, op := Op.fieldAddr 49 (Operand.tmp 39) 1, type := 0, pos := "ref.go:290", after := #[{ on := 36, ground := Ground.data }, { on := 35, ground := Ground.guard }], guard := some (35, false) }) (v := ?v269) rfl (by kernel_rfl) (by kernel_rfl) (by kernel_rfl) (fun _ _ _ h => h) (Or.inl ⟨by rfl, ?hy269⟩) (by assumption) ?rest269
  case hy269 => (intro w hSw; obtain ⟨⟨k0, k1, k2, k3, k4, k12, k13, k14⟩, kr⟩ := hSw; go_simp; (try with_reducible rfl))
  simp only [Act.put, List.setIfInBounds_toArray, List.set_cons_zero, List.set_cons_succ]
  refine' wpAnyH_take (i := 38) (oi := { dst := some 41, op := Op.load 3 (Operand.tmp 40), type := 3, pos := "ref.go:290", after := #[{ on := 37, ground := Ground.data }, { on := 35, ground := Ground.guard }], guard := some (35, false) }) (v := ?v270) rfl (by kernel_rfl) (by kernel_rfl) (by kernel_rfl) (fun _ _ _ h => h) (Or.inl ⟨by rfl, ?hy270⟩) (by assumption) ?rest270
  case hy270 => (intro w hSw; obtain ⟨⟨k0, k1, k2, k3, k4, k12, k13, k14⟩, kr⟩ := hSw; go_simp; (try with_reducible rfl))
  simp only [Act.put, List.setIfInBounds_toArray, List.set_cons_zero, List.set_cons_succ]
  refine wpAnyH_ready (rs := [39]) (by kernel_rfl) (by simp) ?_
  refine AllReadyH.cons (o := { dst := some 42, op := Op.call { callee := Callee.value (Operand.func 69), args := #[Operand.tmp 41], argTypes := #[3] }, type := 4, pos := "ref.go:290", after := #[{ on := 38, ground := Ground.data }, { on := 35, ground := Ground.chain }, { on := 35, ground := Ground.guard }], guard := some (35, false) }) rfl (fun K hK => ?_) AllReadyH.nil
  go_simp
  refine (bad_any _ _).mono ?_
  rintro e w1 ⟨rfl, rfl⟩
  rw [h7]
  go_wp2_with fail
  refine hK.out _ _ hN2.ns (fun hHeld => ?_)
  clear hK K
  try simp only [Act.put, List.setIfInBounds_toArray, List.set_cons_zero, List.set_cons_succ]
  refine' wpAnyH_take (i := 40) (oi := { dst := some 43, op := Op.pick (Operand.tmp 38) (Operand.const (Value.bool true)) (Operand.tmp 42), type := 4, pos := "ref.go:290", after := #[{ on := 35, ground := Ground.data }, { on := 39, ground := Ground.data }], guard := none }) (v := ?v271) rfl (by kernel_rfl) (by kernel_rfl) (by kernel_rfl) (fun _ _ _ h => h) (Or.inl ⟨by rfl, ?hy271⟩) (by assumption) ?rest271
  case hy271 => (intro w hSw; obtain ⟨⟨k0, k1, k2, k3, k4, k12, k13, k14⟩, kr⟩ := hSw; go_simp; (try with_reducible rfl))
  simp only [Act.put, List.setIfInBounds_toArray, List.set_cons_zero, List.set_cons_succ]
  refine' wpAnyH_take (i := 41) (oi := { dst := some 44, op := Op.move (Operand.tmp 43), type := 4, pos := "ref.go:290", after := #[{ on := 40, ground := Ground.data }, { on := 39, ground := Ground.chain }], guard := none }) (v := ?v272) rfl (by kernel_rfl) (by kernel_rfl) (by kernel_rfl) (fun _ _ _ h => h) (Or.inl ⟨by rfl, ?hy272⟩) (by assumption) ?rest272
  case hy272 => (intro w hSw; obtain ⟨⟨k0, k1, k2, k3, k4, k12, k13, k14⟩, kr⟩ := hSw; go_simp; (try with_reducible rfl))
  simp only [Act.put, List.setIfInBounds_toArray, List.set_cons_zero, List.set_cons_succ]
  refine' wpAnyH_take (i := 42) (oi := { dst := some 45, op := Op.fieldAddr 51 (Operand.tmp 1) 6, type := 0, pos := "ref.go:290", after := #[{ on := 41, ground := Ground.guard }], guard := some (41, false) }) (v := ?v273) rfl (by kernel_rfl) (by kernel_rfl) (by kernel_rfl) (fun _ _ _ h => h) (Or.inl ⟨by rfl, ?hy273⟩) (by assumption) ?rest273
  case hy273 => (intro w hSw; obtain ⟨⟨k0, k1, k2, k3, k4, k12, k13, k14⟩, kr⟩ := hSw; go_simp; (try with_reducible rfl))
  simp only [Act.put, List.setIfInBounds_toArray, List.set_cons_zero, List.set_cons_succ]
  refine' wpAnyH_take (i := 43) (oi := { dst := some 46, op := Op.fieldAddr 49 (Operand.tmp 45) 2, type := 0, pos := "ref.go:290", after := #[{ on := 42, ground := Ground.data }, { on := 41, ground := Ground.guard }], guard := some (41, false) }) (v := ?v274) rfl (by kernel_rfl) (by kernel_rfl) (by kernel_rfl) (fun _ _ _ h => h) (Or.inl ⟨by rfl, ?hy274⟩) (by assumption) ?rest274
  case hy274 => (intro w hSw; obtain ⟨⟨k0, k1, k2, k3, k4, k12, k13, k14⟩, kr⟩ := hSw; go_simp; (try with_reducible rfl))
  simp only [Act.put, List.setIfInBounds_toArray, List.set_cons_zero, List.set_cons_succ]
  refine' wpAnyH_take (i := 44) (oi := { dst := some 47, op := Op.load 29 (Operand.tmp 46), type := 29, pos := "ref.go:290", after := #[{ on := 43, ground := Ground.data }, { on := 41, ground := Ground.guard }], guard := some (41, false) }) (v := ?v275) rfl (by kernel_rfl) (by kernel_rfl) (by kernel_rfl) (fun _ _ _ h => h) (Or.inl ⟨by rfl, ?hy275⟩) (by assumption) ?rest275
  case hy275 => (intro w hSw; obtain ⟨⟨k0, k1, k2, k3, k4, k12, k13, k14⟩, kr⟩ := hSw; go_simp; (try with_reducible rfl))
  simp only [Act.put, List.setIfInBounds_toArray, List.set_cons_zero, List.set_cons_succ]
  refine wpAnyH_ready (rs := [45]) (by kernel_rfl) (by simp) ?_
  refine AllReadyH.cons (o := { dst := some 48, op := Op.call { callee := Callee.value (Operand.func 69), args := #[Operand.tmp 47], argTypes := #[3] }, type := 4, pos := "ref.go:290", after := #[{ on := 44, ground := Ground.data }, { on := 41, ground := Ground.chain }, { on := 41, ground := Ground.guard }], guard := some (41, false) }) rfl (fun K hK => ?_) AllReadyH.nil
  go_simp
  refine (bad_any _ _).mono ?_
  rintro e w1 ⟨rfl, rfl⟩
  rw [h8]
  go_wp2_with fail
  refine hK.out _ _ hN2.ns (fun hHeld => ?_)
  clear hK K
  try simp only [Act.put, List.setIfInBounds_toArray, List.set_cons_zero, List.set_cons_succ]
  refine' wpAnyH_take (i := 46) (oi := { dst := some 49, op := Op.pick (Operand.tmp 44) (Operand.const (Value.bool true)) (Operand.tmp 48), type := 4, pos := "ref.go:290", after := #[{ on := 41, ground := Ground.data }, { on := 45, ground := Ground.data }], guard := none }) (v := ?v276) rfl (by kernel_rfl) (by kernel_rfl) (by kernel_rfl) (fun _ _ _ h => h) (Or.inl ⟨by rfl, ?hy276⟩) (by assumption) ?rest276
  case hy276 => (intro w hSw; obtain ⟨⟨k0, k1, k2, k3, k4, k12, k13, k14⟩, kr⟩ := hSw; go_simp; (try with_reducible rfl))
  simp only [Act.put, List.setIfInBounds_toArray, List.set_cons_zero, List.set_cons_succ]
  refine wpAnyH_done (by kernel_rfl) ?_ _
  clear hq s0 b2 b2'
  obtain ⟨c0, c1, c2, c3, c4, c12, c13, c14⟩ := hN2.nums
  have c7 := hN2.neg
  by_cases k3 : n.kind = 3
  · rw [k3] at c0
    cases hneg : n.entry.neg with
    | true =>
      have hfin : Hid (n.ok = false) := by show _ = _; rw [hhd.out, if_pos k3, hneg]; rfl
      rw [hneg] at c7
      go_wp2_with fail
      go_ret
      exact ⟨bb hfin.out.symm, B2⟩
    | false =>
      have hfin : Hid (n.ok = n.entry.ok) := by show _ = _; rw [hhd.out, if_pos k3, hneg]; rfl
      rw [hneg] at c7
      go_wp2_with (first | ((with_reducible refine wpList_load_entry_g (op := ⟨_, Op.load 47 _, _, _, _, _⟩) ?_ _ rfl _ _ ?_ hN2 ?_); rfl; rfl))
      refine (rplainEntry_any n.entry _).mono ?_
      rintro e w4 ⟨rfl, b4⟩
      have c0' := (hN2.below b4).nums.1
      rw [k3] at c0'
      cases he : n.entry.ok with
      | true =>
        go_wp2_with fail
        go_ret
        exact ⟨bb (by rw [hfin.out, he]), bel_next B2 b4⟩
      | false =>
        go_wp2_with fail
        go_ret
        exact ⟨bb (by rw [hfin.out, he]), bel_next B2 b4⟩
  · have e3 : (n.kind == 3) = false := by simp [k3]
    by_cases k5 : n.kind = 5
    · have hfin : Hid (n.ok = n.op.ok) := by show _ = _; rw [hhd.out, if_neg k3, if_pos k5]
      rw [k5] at c0
      go_wp2_with (first | ((with_reducible refine wpList_load_op_g (op := ⟨_, Op.load 23 _, _, _, _, _⟩) ?_ _ rfl _ _ ?_ hN2 ?_); rfl; rfl))
      refine (rplainOp_any n.op _).mono ?_
      rintro e w4 ⟨rfl, b4⟩
      go_wp2_with fail
      go_ret
      exact ⟨bb hfin.out.symm, bel_next B2 b4⟩
    · have e5 : (n.kind != 5) = true := by simp [k5]
      have hfin : Hid (n.ok = true) := by show _ = _; rw [hhd.out, if_neg k3, if_neg k5]
      go_wp2_with fail
      go_ret
      exact ⟨bb hfin.out.symm, B2⟩

theorem rplainNote_any (n : NoteD) (xs : Array Value) (hx : IsNote xs n) (w : World) : Calls Try.prog 48 #[.agg xs] w (Tells n.ok w) := by
  have hneq : ∀ W' : World, (binOp .neq 51 (.agg n.cells.toArray) (.agg n.only.cells.toArray)).run Try.prog W' = .ok (.bool (!decide (n = n.only))) W' := fun W' => neq_run (w := W') rfl rfl (eq_note 9996 W' n n.only)
  by_cases e : n = n.only
  · have hq : ∀ W' : World, (binOp .neq 51 (.agg n.cells.toArray) (.agg n.only.cells.toArray)).run Try.prog W' = .ok (.bool false) W' := fun W' => by rw [hneq, decide_eq_true e]; rfl
    by_cases k0 : n.kind = 0
    · have hk : okIn n.kind 1 5 = false := by rw [k0]; rfl
      exact rplainNote_1 n xs hx w (by show _ = _; simp only [NoteD.ok, hk, Bool.false_and]) hq (by simp [k0])
    · have h1 : (n.kind == 0) = false := by simp [k0]
      obtain ⟨hi, hn⟩ := only_yes n e k0
      cases h2 : okN n.epoch with
      | false => exact rplainNote_2 n xs hx w (bad_no n _ (by simp [NoteD.nums]) h2) hq h1 h2
      | true =>
        cases h3 : okN n.version with
        | false => exact rplainNote_3 n xs hx w (bad_no n _ (by simp [NoteD.nums]) h3) hq h1 h2 h3
        | true =>
          cases h4 : okN n.next with
          | false => exact rplainNote_4 n xs hx w (bad_no n _ (by simp [NoteD.nums]) h4) hq h1 h2 h3 h4
          | true =>
            cases h5 : okN n.client with
            | false => exact rplainNote_5 n xs hx w (bad_no n _ (by simp [NoteD.nums]) h5) hq h1 h2 h3 h4 h5
            | true =>
              cases h6 : okN n.seen.life with
              | false => exact rplainNote_6 n xs hx w (bad_no n _ (by simp [NoteD.nums]) h6) hq h1 h2 h3 h4 h5 h6
              | true =>
                cases h7 : okN n.seen.seq with
                | false => exact rplainNote_7 n xs hx w (bad_no n _ (by simp [NoteD.nums]) h7) hq h1 h2 h3 h4 h5 h6 h7
                | true =>
                  cases h8 : okN n.seen.err with
                  | false => exact rplainNote_8 n xs hx w (bad_no n _ (by simp [NoteD.nums]) h8) hq h1 h2 h3 h4 h5 h6 h7 h8
                  | true =>
                    refine rplainNote_9 n xs hx w ?_ hq h1 h2 h3 h4 h5 h6 h7 h8
                    show _ = _
                    have hall : n.nums.all okN = true := by simp [NoteD.nums, h2, h3, h4, h5, h6, h7, h8]
                    simp only [NoteD.ok, hi, hall, decide_eq_true hn, Bool.true_and]
  · have hq : ∀ W' : World, (binOp .neq 51 (.agg n.cells.toArray) (.agg n.only.cells.toArray)).run Try.prog W' = .ok (.bool true) W' := fun W' => by rw [hneq, decide_eq_false e]; rfl
    exact rplainNote_0 n xs hx w (only_no n e) hq

end Go.Proofs.Ytmhcjkiaogimgaa
