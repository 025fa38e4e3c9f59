/- M.Msg: the message that an argument stands for. -/
import Derived.Test.YtmhcjkiaogimgaaWirS
namespace Go.Proofs.Ytmhcjkiaogimgaa
open Go.RowKit

theorem mark_any (a b : Int) (w : World) : Calls Try.prog 38 #[.int .i64 a, .int .i64 b] w fun e w' => e = .returned (.complex .f64 (FloatKind.f64.nearest a) (FloatKind.f64.nearest b)) ∧ w = w' := by
  go_enter Try.func38, Try.ntmps38
  go_wp2_with fail
  go_ret
  exact ⟨rfl, rfl⟩

/-- An argument M. -/
structure MD where
  kind : Int
  client : Int
  life : Int
  seq : Int
  epoch : Int
  number : Int
  version : Int
  err : Int
  op : OpD
  entries : List EntryD
  keys : List KeyD
def MD.cells (m : MD) (s : Sls) : List Value := [.int .i64 m.kind, .int .i64 m.client, .int .i64 m.life, .int .i64 m.seq, .int .i64 m.epoch, .int .i64 m.number, .int .i64 m.version, .int .i64 m.err,
  .int .i64 m.op.kind, .int .i64 m.op.dir, .string m.op.name, .int .i64 m.op.to, .string m.op.new, .int .i64 m.op.mode, .string m.op.target, .slice s.ea m.entries.length s.ec, .slice s.ka m.keys.length s.kc]
def MD.msg (m : MD) : MsgD := ⟨m.kind, m.client, m.life, m.seq, FloatKind.f64.nearest m.epoch, FloatKind.f64.nearest m.number, m.version, m.err, m.op, m.entries, m.keys⟩
/-- An argument M by value. -/
structure MArg (w : World) (xs : Array Value) (m : MD) (s : Sls) : Prop where
  is : xs = (m.cells s).toArray
  ents : RowsAt w s.ea 7 (m.entries.map EntryD.cells)
  keys : RowsAt w s.ka 2 (m.keys.map KeyD.cells)
  el : m.entries.length * 72 ≤ 140737488355328
  kl : m.keys.length * 24 ≤ 140737488355328
theorem MArg.below {w w' : World} {xs : Array Value} {m : MD} {s : Sls} (h : MArg w xs m s) (hb : Below w.heap.size w w') : MArg w' xs m s := ⟨h.is, h.ents.below hb, h.keys.below hb, h.el, h.kl⟩
/-- The argument's cells in its box. -/
abbrev MS (g : Nat) (m : MD) (s : Sls) (w : World) : Prop := (w.cell? ⟨g, 0, none⟩ = some (.int .i64 m.kind) ∧ w.cell? ⟨g, 1, none⟩ = some (.int .i64 m.client) ∧ w.cell? ⟨g, 2, none⟩ = some (.int .i64 m.life) ∧ w.cell? ⟨g, 3, none⟩ = some (.int .i64 m.seq) ∧
    w.cell? ⟨g, 4, none⟩ = some (.int .i64 m.epoch) ∧ w.cell? ⟨g, 5, none⟩ = some (.int .i64 m.number) ∧ w.cell? ⟨g, 6, none⟩ = some (.int .i64 m.version) ∧ w.cell? ⟨g, 7, none⟩ = some (.int .i64 m.err) ∧ w.cell? ⟨g, 15, none⟩ = some (.slice s.ea m.entries.length s.ec) ∧ w.cell? ⟨g, 16, none⟩ = some (.slice s.ka m.keys.length s.kc)) ∧ w.rangeAt g 8 m.op.cells
theorem ms_of {w : World} {g : Nat} {m : MD} {s : Sls} {t : TypeId} (h : Blk w g (m.cells s).toArray t) : MS g m s w := by
  refine ⟨⟨by rw [h.cell]; rfl, by rw [h.cell]; rfl, by rw [h.cell]; rfl, by rw [h.cell]; rfl, by rw [h.cell]; rfl, by rw [h.cell]; rfl, by rw [h.cell]; rfl, by rw [h.cell]; rfl, by rw [h.cell]; rfl, by rw [h.cell]; rfl⟩, fun j v hj => ?_⟩
  rw [h.cell, List.getElem?_toArray, ← hj]
  have hl : j < 7 := (List.getElem?_eq_some_iff.1 hj).1
  match j, hl with
  | 0, _ | 1, _ | 2, _ | 3, _ | 4, _ | 5, _ | 6, _ => rfl

/-- The rows of a copy. -/
theorem rows_own {w : World} {base n c size : Nat} {e : TypeId} {A : Option Addr} {rows : List (List Value)} (h : w.ownsRow base e size (.slice A n c) n rows.flatten) (hl : ∀ r ∈ rows, r.length = size) (hs : 0 < size) : RowsAt w A size rows := by
  refine ⟨fun i cs hi => ?_⟩
  have hr := RdV.of_own h
  have hm : cs ∈ rows := List.mem_of_getElem? hi
  obtain ⟨hlen, ⟨_, h2⟩ | ⟨g, cap, cur, h1, _, hb, _⟩⟩ := h
  · subst h2
    rw [Nat.zero_mul, List.length_eq_zero_iff, List.flatten_eq_nil_iff] at hlen
    have := hl cs hm
    rw [hlen cs hm] at this
    simp at this
    omega
  · injection h1 with h1
    subst h1
    refine ⟨g, 0, rfl, (Array.getElem?_eq_some_iff.1 hb).1, flat_range rows 0 hl (fun j v hj => ?_) i cs hi⟩
    obtain ⟨x, hx, _, hc⟩ := hr.at_ j v hj
    injection hx with hx
    subst hx
    rwa [Addr.add_mid] at hc
/-- A struct built of parts, in a region. -/
theorem yieldsIf_build_run {P : Program} {ops : Array Oper} {S : World → Prop} {op : Oper} {a : Act} (hw : Region.wanted op (yielded ops a.tmps) = true) (t : TypeId) (parts : Array (Nat × Operand)) (ho : op.op = .build t parts)
    (vs : Array (Nat × Value)) (hvs : parts.map (fun x => (x.1, a.eval x.2)) = vs) (v : Value) (hr : ∀ w, (Instr.build t vs).run P w = .ok v w) : YieldsIf P ops S op v a :=
  .inl ⟨hw, fun w _ => by
    unfold execOp
    subst hvs
    simp only [ho, Sem.run_bind, Sem.run_pure, Result.andThen_ok, hr]⟩
theorem build_msg (m : MD) (s : Sls) (w : World) : (Instr.build 34 #[(0, .int .i64 m.kind), (1, .int .i64 m.client), (2, .int .i64 m.life), (3, .int .i64 m.seq), (4, .complex .f64 (FloatKind.f64.nearest m.epoch) (FloatKind.f64.nearest m.number)), (5, .int .i64 m.version), (6, .int .i64 m.err),
    (7, .agg m.op.cells.toArray), (8, .slice s.ea m.entries.length s.ec), (9, .slice s.ka m.keys.length s.kc)]).run Try.prog w = .ok (.agg (m.msg.cells s).toArray) w := by
  simp only [OpD.cells]; go_simp; rfl
theorem msg_one (m : MsgD) (s : Sls) : ((m.cells s).toArray).all (·.oneCell') = true := by simp [MsgD.cells, Value.oneCell']
def ZERO : List Value := [.int .i64 0, .int .i64 0, .int .i64 0, .int .i64 0, .complex .f64 0 0, .int .i64 0, .int .i64 0, .int .i64 0, .int .i64 0, .string ⟨#[]⟩, .int .i64 0, .string ⟨#[]⟩, .int .i64 0, .string ⟨#[]⟩, .slice none 0 0, .slice none 0 0]
theorem zero_eq : ZERO.toArray = #[.int .i64 0, .int .i64 0, .int .i64 0, .int .i64 0, .complex .f64 0 0, .int .i64 0, .int .i64 0, .int .i64 0, .int .i64 0, .string ⟨#[]⟩, .int .i64 0, .string ⟨#[]⟩, .int .i64 0, .string ⟨#[]⟩, .slice none 0 0, .slice none 0 0] := rfl

/-- A message's rows in memory of its own. -/
structure MsgOwn (base : Nat) (w : World) (m : MsgD) (s : Sls) : Prop where
  ents : w.ownsRow base 47 7 (.slice s.ea m.entries.length s.ec) m.entries.length (m.entries.map EntryD.cells).flatten
  keys : w.ownsRow base 43 2 (.slice s.ka m.keys.length s.kc) m.keys.length (m.keys.map KeyD.cells).flatten
set_option maxRecDepth 100000 in
set_option maxHeartbeats 8000000 in
theorem msg_own (m : MD) (s : Sls) (xs : Array Value) (w : World) (hx : MArg w xs m s) : Calls Try.prog 15 #[.agg xs] w fun e w' => ∃ ys s2, e = .returned (.agg ys) ∧ MsgArg w' ys m.msg s2 ∧ Below w.heap.size w w' ∧ MsgOwn w.heap.size w' m.msg s2 := by
  have hA : ∀ V, V = (w.alloc (.cells xs 27)).alloc (.cells ZERO.toArray 34) → Blk V w.heap.size (m.cells s).toArray 27 ∧ Blk V (w.heap.size + 1) ZERO.toArray 34 ∧ Below w.heap.size w V := by
    rintro V rfl
    rw [hx.is]
    refine ⟨(Blk.new w _ _).alloc _, ?_, bel_al (bel_al (Below.refl _ _) _) _⟩
    have := Blk.new (w.alloc (.cells (m.cells s).toArray 27)) ZERO.toArray 34
    simpa using this
  have HX := Lib.hid hx
  clear hx
  go_enter Try.func15, Try.ntmps15
  go_upto_region 1 with fail
  obtain ⟨V, hV⟩ : ∃ V, V = (w.alloc (.cells xs 27)).alloc (.cells ZERO.toArray 34) := ⟨_, rfl⟩
  obtain ⟨k1, k2, B⟩ := hA V hV
  rw [zero_eq] at hV
  rw [← hV]
  have s0 : MS w.heap.size m s V.drew := ms_of k1
  clear hV hA
  refine wp_region_held_drew (S := (fun w' => MS w.heap.size m s w')) (by kernel_rfl) s0 (fun hHeld => ?_)
  refine' wpAnyH_take (i := 0) (oi := { dst := some 3, op := Op.fieldAddr 27 (Operand.tmp 1) 0, type := 0, pos := "law.go:22", after := #[], guard := none }) (v := ?v1) rfl (by kernel_rfl) (by kernel_rfl) (by kernel_rfl) (fun _ _ _ h => h) (Or.inl ⟨by rfl, ?hy1⟩) (by assumption) ?rest1
  case hy1 => (intro w hSw; obtain ⟨⟨k0, k1, k2, k3, k4, k5, k6, k7, k15, k16⟩, kr⟩ := hSw; go_simp; (try with_reducible rfl))
  simp only [Act.put, List.setIfInBounds_toArray, List.set_cons_zero, List.set_cons_succ]
  refine' wpAnyH_take (i := 1) (oi := { dst := some 4, op := Op.load 3 (Operand.tmp 3), type := 3, pos := "law.go:22", after := #[{ on := 0, ground := Ground.data }], guard := none }) (v := ?v2) rfl (by kernel_rfl) (by kernel_rfl) (by kernel_rfl) (fun _ _ _ h => h) (Or.inl ⟨by rfl, ?hy2⟩) (by assumption) ?rest2
  case hy2 => (intro w hSw; obtain ⟨⟨k0, k1, k2, k3, k4, k5, k6, k7, k15, k16⟩, kr⟩ := hSw; go_simp; (try with_reducible rfl))
  simp only [Act.put, List.setIfInBounds_toArray, List.set_cons_zero, List.set_cons_succ]
  refine' wpAnyH_take (i := 2) (oi := { dst := some 5, op := Op.fieldAddr 27 (Operand.tmp 1) 1, type := 0, pos := "law.go:22", after := #[], guard := none }) (v := ?v3) rfl (by kernel_rfl) (by kernel_rfl) (by kernel_rfl) (fun _ _ _ h => h) (Or.inl ⟨by rfl, ?hy3⟩) (by assumption) ?rest3
  case hy3 => (intro w hSw; obtain ⟨⟨k0, k1, k2, k3, k4, k5, k6, k7, k15, k16⟩, kr⟩ := hSw; go_simp; (try with_reducible rfl))
  simp only [Act.put, List.setIfInBounds_toArray, List.set_cons_zero, List.set_cons_succ]
  refine' wpAnyH_take (i := 3) (oi := { dst := some 6, op := Op.load 3 (Operand.tmp 5), type := 3, pos := "law.go:22", after := #[{ on := 2, ground := Ground.data }], guard := none }) (v := ?v4) rfl (by kernel_rfl) (by kernel_rfl) (by kernel_rfl) (fun _ _ _ h => h) (Or.inl ⟨by rfl, ?hy4⟩) (by assumption) ?rest4
  case hy4 => (intro w hSw; obtain ⟨⟨k0, k1, k2, k3, k4, k5, k6, k7, k15, k16⟩, kr⟩ := hSw; go_simp; (try with_reducible rfl))
  simp only [Act.put, List.setIfInBounds_toArray, List.set_cons_zero, List.set_cons_succ]
  refine' wpAnyH_take (i := 4) (oi := { dst := some 7, op := Op.fieldAddr 27 (Operand.tmp 1) 2, type := 0, pos := "law.go:22", after := #[], guard := none }) (v := ?v5) rfl (by kernel_rfl) (by kernel_rfl) (by kernel_rfl) (fun _ _ _ h => h) (Or.inl ⟨by rfl, ?hy5⟩) (by assumption) ?rest5
  case hy5 => (intro w hSw; obtain ⟨⟨k0, k1, k2, k3, k4, k5, k6, k7, k15, k16⟩, kr⟩ := hSw; go_simp; (try with_reducible rfl))
  simp only [Act.put, List.setIfInBounds_toArray, List.set_cons_zero, List.set_cons_succ]
  refine' wpAnyH_take (i := 5) (oi := { dst := some 8, op := Op.load 3 (Operand.tmp 7), type := 3, pos := "law.go:22", after := #[{ on := 4, ground := Ground.data }], guard := none }) (v := ?v6) rfl (by kernel_rfl) (by kernel_rfl) (by kernel_rfl) (fun _ _ _ h => h) (Or.inl ⟨by rfl, ?hy6⟩) (by assumption) ?rest6
  case hy6 => (intro w hSw; obtain ⟨⟨k0, k1, k2, k3, k4, k5, k6, k7, k15, k16⟩, kr⟩ := hSw; go_simp; (try with_reducible rfl))
  simp only [Act.put, List.setIfInBounds_toArray, List.set_cons_zero, List.set_cons_succ]
  refine' wpAnyH_take (i := 6) (oi := { dst := some 9, op := Op.fieldAddr 27 (Operand.tmp 1) 3, type := 0, pos := "law.go:22", after := #[], guard := none }) (v := ?v7) rfl (by kernel_rfl) (by kernel_rfl) (by kernel_rfl) (fun _ _ _ h => h) (Or.inl ⟨by rfl, ?hy7⟩) (by assumption) ?rest7
  case hy7 => (intro w hSw; obtain ⟨⟨k0, k1, k2, k3, k4, k5, k6, k7, k15, k16⟩, kr⟩ := hSw; go_simp; (try with_reducible rfl))
  simp only [Act.put, List.setIfInBounds_toArray, List.set_cons_zero, List.set_cons_succ]
  refine' wpAnyH_take (i := 7) (oi := { dst := some 10, op := Op.load 3 (Operand.tmp 9), type := 3, pos := "law.go:22", after := #[{ on := 6, ground := Ground.data }], guard := none }) (v := ?v8) rfl (by kernel_rfl) (by kernel_rfl) (by kernel_rfl) (fun _ _ _ h => h) (Or.inl ⟨by rfl, ?hy8⟩) (by assumption) ?rest8
  case hy8 => (intro w hSw; obtain ⟨⟨k0, k1, k2, k3, k4, k5, k6, k7, k15, k16⟩, kr⟩ := hSw; go_simp; (try with_reducible rfl))
  simp only [Act.put, List.setIfInBounds_toArray, List.set_cons_zero, List.set_cons_succ]
  refine' wpAnyH_take (i := 8) (oi := { dst := some 11, op := Op.fieldAddr 27 (Operand.tmp 1) 4, type := 0, pos := "law.go:22", after := #[], guard := none }) (v := ?v9) rfl (by kernel_rfl) (by kernel_rfl) (by kernel_rfl) (fun _ _ _ h => h) (Or.inl ⟨by rfl, ?hy9⟩) (by assumption) ?rest9
  case hy9 => (intro w hSw; obtain ⟨⟨k0, k1, k2, k3, k4, k5, k6, k7, k15, k16⟩, kr⟩ := hSw; go_simp; (try with_reducible rfl))
  simp only [Act.put, List.setIfInBounds_toArray, List.set_cons_zero, List.set_cons_succ]
  refine' wpAnyH_take (i := 9) (oi := { dst := some 12, op := Op.load 3 (Operand.tmp 11), type := 3, pos := "law.go:22", after := #[{ on := 8, ground := Ground.data }], guard := none }) (v := ?v10) rfl (by kernel_rfl) (by kernel_rfl) (by kernel_rfl) (fun _ _ _ h => h) (Or.inl ⟨by rfl, ?hy10⟩) (by assumption) ?rest10
  case hy10 => (intro w hSw; obtain ⟨⟨k0, k1, k2, k3, k4, k5, k6, k7, k15, k16⟩, kr⟩ := hSw; go_simp; (try with_reducible rfl))
  simp only [Act.put, List.setIfInBounds_toArray, List.set_cons_zero, List.set_cons_succ]
  refine' wpAnyH_take (i := 10) (oi := { dst := some 13, op := Op.fieldAddr 27 (Operand.tmp 1) 5, type := 0, pos := "law.go:22", after := #[], guard := none }) (v := ?v11) rfl (by kernel_rfl) (by kernel_rfl) (by kernel_rfl) (fun _ _ _ h => h) (Or.inl ⟨by rfl, ?hy11⟩) (by assumption) ?rest11
  case hy11 => (intro w hSw; obtain ⟨⟨k0, k1, k2, k3, k4, k5, k6, k7, k15, k16⟩, kr⟩ := hSw; go_simp; (try with_reducible rfl))
  simp only [Act.put, List.setIfInBounds_toArray, List.set_cons_zero, List.set_cons_succ]
  refine' wpAnyH_take (i := 11) (oi := { dst := some 14, op := Op.load 3 (Operand.tmp 13), type := 3, pos := "law.go:22", after := #[{ on := 10, ground := Ground.data }], guard := none }) (v := ?v12) rfl (by kernel_rfl) (by kernel_rfl) (by kernel_rfl) (fun _ _ _ h => h) (Or.inl ⟨by rfl, ?hy12⟩) (by assumption) ?rest12
  case hy12 => (intro w hSw; obtain ⟨⟨k0, k1, k2, k3, k4, k5, k6, k7, k15, k16⟩, kr⟩ := hSw; go_simp; (try with_reducible rfl))
  simp only [Act.put, List.setIfInBounds_toArray, List.set_cons_zero, List.set_cons_succ]
  refine' wpAnyH_take (i := 13) (oi := { dst := some 16, op := Op.fieldAddr 27 (Operand.tmp 1) 6, type := 0, pos := "law.go:22", after := #[], guard := none }) (v := ?v13) rfl (by kernel_rfl) (by kernel_rfl) (by kernel_rfl) (fun _ _ _ h => h) (Or.inl ⟨by rfl, ?hy13⟩) (by assumption) ?rest13
  case hy13 => (intro w hSw; obtain ⟨⟨k0, k1, k2, k3, k4, k5, k6, k7, k15, k16⟩, kr⟩ := hSw; go_simp; (try with_reducible rfl))
  simp only [Act.put, List.setIfInBounds_toArray, List.set_cons_zero, List.set_cons_succ]
  refine' wpAnyH_take (i := 14) (oi := { dst := some 17, op := Op.load 3 (Operand.tmp 16), type := 3, pos := "law.go:22", after := #[{ on := 13, ground := Ground.data }], guard := none }) (v := ?v14) rfl (by kernel_rfl) (by kernel_rfl) (by kernel_rfl) (fun _ _ _ h => h) (Or.inl ⟨by rfl, ?hy14⟩) (by assumption) ?rest14
  case hy14 => (intro w hSw; obtain ⟨⟨k0, k1, k2, k3, k4, k5, k6, k7, k15, k16⟩, kr⟩ := hSw; go_simp; (try with_reducible rfl))
  simp only [Act.put, List.setIfInBounds_toArray, List.set_cons_zero, List.set_cons_succ]
  refine' wpAnyH_take (i := 15) (oi := { dst := some 18, op := Op.fieldAddr 27 (Operand.tmp 1) 7, type := 0, pos := "law.go:22", after := #[], guard := none }) (v := ?v15) rfl (by kernel_rfl) (by kernel_rfl) (by kernel_rfl) (fun _ _ _ h => h) (Or.inl ⟨by rfl, ?hy15⟩) (by assumption) ?rest15
  case hy15 => (intro w hSw; obtain ⟨⟨k0, k1, k2, k3, k4, k5, k6, k7, k15, k16⟩, kr⟩ := hSw; go_simp; (try with_reducible rfl))
  simp only [Act.put, List.setIfInBounds_toArray, List.set_cons_zero, List.set_cons_succ]
  refine' wpAnyH_take (i := 16) (oi := { dst := some 19, op := Op.load 3 (Operand.tmp 18), type := 3, pos := "law.go:22", after := #[{ on := 15, ground := Ground.data }], guard := none }) (v := ?v16) rfl (by kernel_rfl) (by kernel_rfl) (by kernel_rfl) (fun _ _ _ h => h) (Or.inl ⟨by rfl, ?hy16⟩) (by assumption) ?rest16
  case hy16 => (intro w hSw; obtain ⟨⟨k0, k1, k2, k3, k4, k5, k6, k7, k15, k16⟩, kr⟩ := hSw; go_simp; (try with_reducible rfl))
  simp only [Act.put, List.setIfInBounds_toArray, List.set_cons_zero, List.set_cons_succ]
  refine' wpAnyH_take (i := 17) (oi := { dst := some 20, op := Op.fieldAddr 27 (Operand.tmp 1) 8, type := 0, pos := "law.go:22", after := #[], guard := none }) (v := ?v17) rfl (by kernel_rfl) (by kernel_rfl) (by kernel_rfl) (fun _ _ _ h => h) (Or.inl ⟨by rfl, ?hy17⟩) (by assumption) ?rest17
  case hy17 => (intro w hSw; obtain ⟨⟨k0, k1, k2, k3, k4, k5, k6, k7, k15, k16⟩, kr⟩ := hSw; go_simp; (try with_reducible rfl))
  simp only [Act.put, List.setIfInBounds_toArray, List.set_cons_zero, List.set_cons_succ]
  refine' wpAnyH_take (i := 18) (oi := { dst := some 21, op := Op.load 23 (Operand.tmp 20), type := 23, pos := "law.go:22", after := #[{ on := 17, ground := Ground.data }], guard := none }) (v := _) rfl (by kernel_rfl) (by kernel_rfl) (by kernel_rfl) (fun _ _ _ h => h) (yieldsIf_load_mid (by rfl) _ _ rfl _ _ rfl _ _ (fun w h => h.2) Try.underlying23 rfl size_op) (by assumption) ?_
  simp only [Act.put, List.setIfInBounds_toArray, List.set_cons_zero, List.set_cons_succ]
  refine' wpAnyH_take (i := 19) (oi := { dst := some 22, op := Op.fieldAddr 27 (Operand.tmp 1) 9, type := 0, pos := "law.go:22", after := #[], guard := none }) (v := ?v18) rfl (by kernel_rfl) (by kernel_rfl) (by kernel_rfl) (fun _ _ _ h => h) (Or.inl ⟨by rfl, ?hy18⟩) (by assumption) ?rest18
  case hy18 => (intro w hSw; obtain ⟨⟨k0, k1, k2, k3, k4, k5, k6, k7, k15, k16⟩, kr⟩ := hSw; go_simp; (try with_reducible rfl))
  simp only [Act.put, List.setIfInBounds_toArray, List.set_cons_zero, List.set_cons_succ]
  refine' wpAnyH_take (i := 20) (oi := { dst := some 23, op := Op.load 24 (Operand.tmp 22), type := 24, pos := "law.go:22", after := #[{ on := 19, ground := Ground.data }], guard := none }) (v := ?v19) rfl (by kernel_rfl) (by kernel_rfl) (by kernel_rfl) (fun _ _ _ h => h) (Or.inl ⟨by rfl, ?hy19⟩) (by assumption) ?rest19
  case hy19 => (intro w hSw; obtain ⟨⟨k0, k1, k2, k3, k4, k5, k6, k7, k15, k16⟩, kr⟩ := hSw; go_simp; (try with_reducible rfl))
  simp only [Act.put, List.setIfInBounds_toArray, List.set_cons_zero, List.set_cons_succ]
  refine' wpAnyH_take (i := 22) (oi := { dst := some 25, op := Op.fieldAddr 27 (Operand.tmp 1) 10, type := 0, pos := "law.go:22", after := #[], guard := none }) (v := ?v20) rfl (by kernel_rfl) (by kernel_rfl) (by kernel_rfl) (fun _ _ _ h => h) (Or.inl ⟨by rfl, ?hy20⟩) (by assumption) ?rest20
  case hy20 => (intro w hSw; obtain ⟨⟨k0, k1, k2, k3, k4, k5, k6, k7, k15, k16⟩, kr⟩ := hSw; go_simp; (try with_reducible rfl))
  simp only [Act.put, List.setIfInBounds_toArray, List.set_cons_zero, List.set_cons_succ]
  refine' wpAnyH_take (i := 23) (oi := { dst := some 26, op := Op.load 25 (Operand.tmp 25), type := 25, pos := "law.go:22", after := #[{ on := 22, ground := Ground.data }], guard := none }) (v := ?v21) rfl (by kernel_rfl) (by kernel_rfl) (by kernel_rfl) (fun _ _ _ h => h) (Or.inl ⟨by rfl, ?hy21⟩) (by assumption) ?rest21
  case hy21 => (intro w hSw; obtain ⟨⟨k0, k1, k2, k3, k4, k5, k6, k7, k15, k16⟩, kr⟩ := hSw; go_simp; (try with_reducible rfl))
  simp only [Act.put, List.setIfInBounds_toArray, List.set_cons_zero, List.set_cons_succ]
  refine wpAnyH_ready (rs := [12]) (by kernel_rfl) (by simp) ?_
  refine AllReadyH.cons (o := { dst := some 15, op := Op.call { callee := Callee.value (Operand.func 38), args := #[Operand.tmp 12, Operand.tmp 14], argTypes := #[3, 3] }, type := 32, pos := "law.go:22", after := #[{ on := 9, ground := Ground.data }, { on := 11, ground := Ground.data }], guard := none }) rfl (fun K hK => ?_) AllReadyH.nil
  go_simp
  refine (mark_any _ _ _).mono ?_
  rintro e w3 ⟨rfl, rfl⟩
  go_wp2_with fail
  refine hK.out _ _ s0 (fun hHeld => ?_)
  clear hK K
  try simp only [Act.put, List.setIfInBounds_toArray, List.set_cons_zero, List.set_cons_succ]
  refine wpAnyH_ready (rs := [21]) (by kernel_rfl) (by simp) ?_
  refine AllReadyH.cons (o := { dst := some 24, op := Op.call { callee := Callee.value (Operand.func 39), args := #[Operand.tmp 23], argTypes := #[24] }, type := 24, pos := "law.go:22", after := #[{ on := 20, ground := Ground.data }, { on := 12, ground := Ground.chain }], guard := none }) rfl (fun K hK => ?_) AllReadyH.nil
  go_simp
  refine (copyE_any m.entries s.ea s.ec _ (HX.out.below (B.trans ((Drawn.refl V).drew.below _))).ents HX.out.el).mono ?_
  rintro e w3 ⟨A2, c2, rfl, o2, b2⟩
  have s1 : MS w.heap.size m s w3 := ms_of ((k1.drew).kp (S := fun _ => False) (Kp.of_below b2) (fun h => h))
  go_wp2_with fail
  refine hK.out _ _ s1 (fun hHeld => ?_)
  clear hK K
  try simp only [Act.put, List.setIfInBounds_toArray, List.set_cons_zero, List.set_cons_succ]
  refine wpAnyH_ready (rs := [24]) (by kernel_rfl) (by simp) ?_
  refine AllReadyH.cons (o := { dst := some 27, op := Op.call { callee := Callee.value (Operand.func 40), args := #[Operand.tmp 26], argTypes := #[25] }, type := 25, pos := "law.go:22", after := #[{ on := 23, ground := Ground.data }, { on := 21, ground := Ground.chain }], guard := none }) rfl (fun K hK => ?_) AllReadyH.nil
  go_simp
  refine (copyK_any m.keys s.ka s.kc _ (HX.out.below ((B.trans ((Drawn.refl V).drew.below _)).trans (b2.mono B.size))).keys HX.out.kl).mono ?_
  rintro e w4 ⟨A3, c3, rfl, o3, b3⟩
  have s2 : MS w.heap.size m s w4 := ms_of (((k1.drew).kp (S := fun _ => False) (Kp.of_below b2) (fun h => h)).kp (S := fun _ => False) (Kp.of_below b3) (fun h => h))
  go_wp2_with fail
  refine hK.out _ _ s2 (fun hHeld => ?_)
  clear hK K
  try simp only [Act.put, List.setIfInBounds_toArray, List.set_cons_zero, List.set_cons_succ]
  refine' wpAnyH_take (i := 25) (oi := { dst := some 28, op := Op.build 34 #[(0, Operand.tmp 4), (1, Operand.tmp 6), (2, Operand.tmp 8), (3, Operand.tmp 10), (4, Operand.tmp 15), (5, Operand.tmp 17), (6, Operand.tmp 19), (7, Operand.tmp 21), (8, Operand.tmp 24), (9, Operand.tmp 27)], type := 34, pos := "law.go:22", after := #[{ on := 1, ground := Ground.data }, { on := 3, ground := Ground.data }, { on := 5, ground := Ground.data }, { on := 7, ground := Ground.data }, { on := 12, ground := Ground.data }, { on := 14, ground := Ground.data }, { on := 16, ground := Ground.data }, { on := 18, ground := Ground.data }, { on := 21, ground := Ground.data }, { on := 24, ground := Ground.data }], guard := none }) (v := .agg (m.msg.cells ⟨A2, c2, A3, c3⟩).toArray) rfl (by kernel_rfl) (by kernel_rfl) (by kernel_rfl) (fun _ _ _ h => h) (yieldsIf_build_run (by rfl) _ _ rfl _ ?hb _ (build_msg m ⟨A2, c2, A3, c3⟩)) (by assumption) ?_
  case hb => first | (go_simp; done) | (go_simp; rfl)
  simp only [Act.put, List.setIfInBounds_toArray, List.set_cons_zero, List.set_cons_succ]
  refine wpAnyH_ready (rs := [26]) (by kernel_rfl) (by simp) ?_
  refine AllReadyH.cons rfl (fun K hK => ?_) AllReadyH.nil
  have kz : Blk w4 (w.heap.size + 1) ZERO.toArray 34 := ((k2.drew).kp (S := fun _ => False) (Kp.of_below b2) (fun h => h)).kp (S := fun _ => False) (Kp.of_below b3) (fun h => h)
  have kw : Blk w4 w.heap.size (m.cells s).toArray 27 := ((k1.drew).kp (S := fun _ => False) (Kp.of_below b2) (fun h => h)).kp (S := fun _ => False) (Kp.of_below b3) (fun h => h)
  refine wp_store_mid 34 (.tmp 2) (.tmp 28) rfl (w.heap.size + 1) 0 (m.msg.cells ⟨A2, c2, A3, c3⟩).toArray rfl rfl ?hth size_msg (msg_one _ _) ?_
  case hth =>
    intro j hj
    rw [Nat.zero_add]
    refine ⟨?_, kz.frozen _⟩
    rw [kz.cell, Array.getElem?_eq_getElem (by exact hj)]
    rfl
  have hset := kz.setCells (m.msg.cells ⟨A2, c2, A3, c3⟩) 0
  rw [setMany_whole _ _ (by rfl)] at hset
  have hkp : Kp (fun k => k = w.heap.size + 1) w4 (w4.setCells (w.heap.size + 1) 0 (m.msg.cells ⟨A2, c2, A3, c3⟩)) := Kp.setCells (S := fun k => k = w.heap.size + 1) _ rfl _ _ _ (Kp.refl _ _)
  have hBV := k2.lt
  have hge2 := own_ge o2
  have hge3 := own_ge o3
  have ra2 : RowsAt w3 A2 7 (m.entries.map EntryD.cells) := rows_own o2 (fun r hr => by obtain ⟨x, _, rfl⟩ := List.mem_map.1 hr; rfl) (by omega)
  have ra3 : RowsAt w4 A3 2 (m.keys.map KeyD.cells) := rows_own o3 (fun r hr => by obtain ⟨x, _, rfl⟩ := List.mem_map.1 hr; rfl) (by omega)
  have hb2' := b2.size
  have hBs := B.size
  have hb3' := b3.size
  have hds : V.drew.heap.size = V.heap.size := rfl
  have hfin : MsgArg (w4.setCells (w.heap.size + 1) 0 (m.msg.cells ⟨A2, c2, A3, c3⟩)) (m.msg.cells ⟨A2, c2, A3, c3⟩).toArray m.msg ⟨A2, c2, A3, c3⟩ :=
    ⟨⟨rfl⟩, (ra2.below b3).kp hkp (fun x hx hS => by subst hx; have := hge2 _ rfl; have : V.heap.size ≤ x.block := this; omega), ra3.kp hkp (fun x hx hS => by subst hx; have := hge3 _ rfl; have : w3.heap.size ≤ x.block := this; omega)⟩
  have BB : Below w.heap.size w (w4.setCells (w.heap.size + 1) 0 (m.msg.cells ⟨A2, c2, A3, c3⟩)) := below_kp (((B.trans ((Drawn.refl V).drew.below _)).trans (b2.mono B.size)).trans (b3.mono (by omega))) hkp (by omega) (fun k hk => by omega)
  have s3 : MS w.heap.size m s (w4.setCells (w.heap.size + 1) 0 (m.msg.cells ⟨A2, c2, A3, c3⟩)) := ms_of (kw.kp hkp (by omega))
  have ho : MsgOwn w.heap.size (w4.setCells (w.heap.size + 1) 0 (m.msg.cells ⟨A2, c2, A3, c3⟩)) m.msg ⟨A2, c2, A3, c3⟩ :=
    ⟨own_low (own_kp (own_below o2 b3) hkp (fun k hk hS => by have := hge2 k hk; have : V.heap.size ≤ k := this; omega)) (by omega), own_low (own_kp o3 hkp (fun k hk hS => by have := hge3 k hk; have : w3.heap.size ≤ k := this; omega)) (by omega)⟩
  have HO := Lib.hid ho
  have HF := Lib.hid hfin
  have HS := Lib.hid hset
  clear hfin ra2 ra3 o2 o3 hset ho
  generalize w4.setCells (w.heap.size + 1) 0 (m.msg.cells ⟨A2, c2, A3, c3⟩) = W5 at *
  refine hK.out _ _ s3 (fun hHeld => ?_)
  clear hK K
  refine wpAnyH_done (by kernel_rfl) ?_ _
  go_wp2_with fail
  have HE : ∀ tmps : Array Value, tmps.getD 2 undef = .pointer (some ⟨w.heap.size + 1, 0, none⟩) → bodyPost Try.prog Try.f15 (fun e w' => ∃ ys s2, e = .returned (.agg ys) ∧ MsgArg w' ys m.msg s2 ∧ Below w.heap.size w w' ∧ MsgOwn w.heap.size w' m.msg s2) Exit.ret { tmps := tmps, defers := [] } W5 := by
    intro tmps ht
    refine bodyPost_ret (results_cell rfl tmps _ _ ht _ (run_loadVar_mid _ _ _ _ (m.msg.cells ⟨A2, c2, A3, c3⟩) _ ?hr Try.underlying34 rfl size_msg)) rfl ⟨_, _, rfl, HF.out, BB, HO.out⟩
    intro j v hj
    rw [HS.out.cell, List.getElem?_toArray, Nat.zero_add]; exact hj
  exact HE _ (by rfl)

theorem msg_any (m : MD) (s : Sls) (xs : Array Value) (w : World) (hx : MArg w xs m s) : Calls Try.prog 15 #[.agg xs] w fun e w' => ∃ ys s2, e = .returned (.agg ys) ∧ MsgArg w' ys m.msg s2 ∧ Below w.heap.size w w' :=
  (msg_own m s xs w hx).mono fun _ _ ⟨ys, s2, h1, h2, h3, _⟩ => ⟨ys, s2, h1, h2, h3⟩

end Go.Proofs.Ytmhcjkiaogimgaa
