/- Keys, nodes, entries, ops and notes against each other: what '==' comes to. -/
import Derived.Test.YtmhcjkiaogimgaaRows
import Derived.Test.YtmhcjkiaogimgaaWirA
import Derived.Laws.StructEq
import Derived.WalkSpells
namespace Go.Proofs.Ytmhcjkiaogimgaa
open Go.RowKit

section
variable {P : Program} {d : Nat} {xs ys : Array Value} {f : Field} {fs : List Field} {a b : Value} {r s : Bool} {w : World}
theorem eqf_cons (hn : (f.name == "_") = false) (ha : (part f.type xs f.offset).run P w = .ok a w) (hb : (part f.type ys f.offset).run P w = .ok b w) (he : (Op.equalIn d f.type a b).run P w = .ok r w) (hr : (Op.eqFields d xs ys fs).run P w = .ok s w) : (Op.eqFields d xs ys (f :: fs)).run P w = .ok (r && s) w := by
  have hn' : f.name ≠ "_" := by simpa using hn
  rw [Op.eqFields]
  simp only [if_pos hn', Sem.run_bind, ha, hb, he, Result.andThen_ok]
  cases r
  · simp
  · simpa using hr
theorem eqf_nil : (Op.eqFields d xs ys []).run P w = .ok true w := by simp [Op.eqFields]
theorem eqA_of {t : TypeId} {fs : Array Field} (hu : P.underlying t = some (.struct fs)) (hp : P.stoodInHeld t = false) (h : (Op.eqFields d xs ys fs.toList).run P w = .ok r w) : (Op.equalIn (d + 1) t (.agg xs) (.agg ys)).run P w = .ok r w := by
  have hf : P.fieldsOf t = fs := by simp [Program.fieldsOf, hu]
  rw [run_equalIn_struct (P := P) w d t xs ys (by rw [hf]; exact hu) hp, hf]
  exact h
end
theorem str_beq (a b : ByteArray) : (a.toList == b.toList) = decide (a = b) := by
  rw [Bool.eq_iff_iff, beq_iff_eq, decide_eq_true_iff, ByteArray.toList_eq, ByteArray.toList_eq]
  constructor
  · intro h
    obtain ⟨a⟩ := a
    obtain ⟨b⟩ := b
    have : a = b := Array.toList_inj.1 h
    rw [this]
  · intro h
    rw [h]

theorem eq_node (d : Nat) (w : World) (a b : NodeD) : (Op.equalIn (d + 2) 45 (.agg a.cells.toArray) (.agg b.cells.toArray)).run Try.prog w = .ok (decide (a = b)) w := by
  have h : (Op.equalIn (d + 2) 45 (.agg a.cells.toArray) (.agg b.cells.toArray)).run Try.prog w = .ok (a.id == b.id && (a.kind == b.kind && (a.mode == b.mode && ((a.target.toList == b.target.toList) && true)))) w := by
    refine eqA_of Try.underlying45 (by kernel_rfl) ?_
    refine eqf_cons (by rfl) (by simp only [NodeD.cells]; go_simp; rfl) (by simp only [NodeD.cells]; go_simp; rfl) (by go_simp) ?_
    refine eqf_cons (by rfl) (by simp only [NodeD.cells]; go_simp; rfl) (by simp only [NodeD.cells]; go_simp; rfl) (by go_simp) ?_
    refine eqf_cons (by rfl) (by simp only [NodeD.cells]; go_simp; rfl) (by simp only [NodeD.cells]; go_simp; rfl) (by go_simp) ?_
    exact eqf_cons (by rfl) (by simp only [NodeD.cells]; go_simp; rfl) (by simp only [NodeD.cells]; go_simp; rfl) (by go_simp) eqf_nil
  rw [h, str_beq]
  obtain ⟨a1, a2, a3, a4⟩ := a
  obtain ⟨b1, b2, b3, b4⟩ := b
  refine congrArg (fun r => Result.ok r w) ?_
  rw [Bool.eq_iff_iff]
  simp
theorem eq_key (d : Nat) (w : World) (a b : KeyD) : (Op.equalIn (d + 2) 43 (.agg a.cells.toArray) (.agg b.cells.toArray)).run Try.prog w = .ok (decide (a = b)) w := by
  have h : (Op.equalIn (d + 2) 43 (.agg a.cells.toArray) (.agg b.cells.toArray)).run Try.prog w = .ok (a.dir == b.dir && ((a.name.toList == b.name.toList) && true)) w := by
    refine eqA_of Try.underlying43 (by kernel_rfl) ?_
    refine eqf_cons (by rfl) (by simp only [KeyD.cells]; go_simp; rfl) (by simp only [KeyD.cells]; go_simp; rfl) (by go_simp) ?_
    exact eqf_cons (by rfl) (by simp only [KeyD.cells]; go_simp; rfl) (by simp only [KeyD.cells]; go_simp; rfl) (by go_simp) eqf_nil
  rw [h, str_beq]
  obtain ⟨a1, a2⟩ := a
  obtain ⟨b1, b2⟩ := b
  refine congrArg (fun r => Result.ok r w) ?_
  rw [Bool.eq_iff_iff]
  simp
theorem eq_entry (d : Nat) (w : World) (a b : EntryD) : (Op.equalIn (d + 3) 47 (.agg a.cells.toArray) (.agg b.cells.toArray)).run Try.prog w = .ok (decide (a = b)) w := by
  have h : (Op.equalIn (d + 3) 47 (.agg a.cells.toArray) (.agg b.cells.toArray)).run Try.prog w = .ok (decide (a.key = b.key) && (a.neg == b.neg && (decide (a.node = b.node) && true))) w := by
    refine eqA_of Try.underlying47 (by kernel_rfl) ?_
    refine eqf_cons (by rfl) (a := .agg a.key.cells.toArray) (b := .agg b.key.cells.toArray) (by simp only [EntryD.cells, KeyD.cells]; go_simp) (by simp only [EntryD.cells, KeyD.cells]; go_simp) (eq_key d w _ _) ?_
    refine eqf_cons (by rfl) (by simp only [EntryD.cells]; go_simp; rfl) (by simp only [EntryD.cells]; go_simp; rfl) (by go_simp) ?_
    exact eqf_cons (by rfl) (a := .agg a.node.cells.toArray) (b := .agg b.node.cells.toArray) (by simp only [EntryD.cells, NodeD.cells]; go_simp) (by simp only [EntryD.cells, NodeD.cells]; go_simp) (eq_node d w _ _) eqf_nil
  rw [h]
  obtain ⟨a1, a2, a3⟩ := a
  obtain ⟨b1, b2, b3⟩ := b
  refine congrArg (fun r => Result.ok r w) ?_
  rw [Bool.eq_iff_iff]
  simp
theorem eq_seen (d : Nat) (w : World) (a b : SeenD) : (Op.equalIn (d + 2) 49 (.agg #[.int .i64 a.life, .int .i64 a.seq, .int .i64 a.err]) (.agg #[.int .i64 b.life, .int .i64 b.seq, .int .i64 b.err])).run Try.prog w = .ok (decide (a = b)) w := by
  have h : (Op.equalIn (d + 2) 49 (.agg #[.int .i64 a.life, .int .i64 a.seq, .int .i64 a.err]) (.agg #[.int .i64 b.life, .int .i64 b.seq, .int .i64 b.err])).run Try.prog w = .ok (a.life == b.life && (a.seq == b.seq && (a.err == b.err && true))) w := by
    refine eqA_of Try.underlying49 (by kernel_rfl) ?_
    refine eqf_cons (by rfl) (by go_simp; rfl) (by go_simp; rfl) (by go_simp) ?_
    refine eqf_cons (by rfl) (by go_simp; rfl) (by go_simp; rfl) (by go_simp) ?_
    exact eqf_cons (by rfl) (by go_simp; rfl) (by go_simp; rfl) (by go_simp) eqf_nil
  rw [h]
  obtain ⟨a1, a2, a3⟩ := a
  obtain ⟨b1, b2, b3⟩ := b
  refine congrArg (fun r => Result.ok r w) ?_
  rw [Bool.eq_iff_iff]
  simp
theorem eq_op (d : Nat) (w : World) (a b : OpD) : (Op.equalIn (d + 2) 23 (.agg a.cells.toArray) (.agg b.cells.toArray)).run Try.prog w = .ok (decide (a = b)) w := by
  have h : (Op.equalIn (d + 2) 23 (.agg a.cells.toArray) (.agg b.cells.toArray)).run Try.prog w = .ok (a.kind == b.kind && (a.dir == b.dir && ((a.name.toList == b.name.toList) && (a.to == b.to && ((a.new.toList == b.new.toList) && (a.mode == b.mode && ((a.target.toList == b.target.toList) && true))))))) w := by
    refine eqA_of Try.underlying23 (by kernel_rfl) ?_
    refine eqf_cons (by rfl) (by simp only [OpD.cells]; go_simp; rfl) (by simp only [OpD.cells]; go_simp; rfl) (by go_simp) ?_
    refine eqf_cons (by rfl) (by simp only [OpD.cells]; go_simp; rfl) (by simp only [OpD.cells]; go_simp; rfl) (by go_simp) ?_
    refine eqf_cons (by rfl) (by simp only [OpD.cells]; go_simp; rfl) (by simp only [OpD.cells]; go_simp; rfl) (by go_simp) ?_
    refine eqf_cons (by rfl) (by simp only [OpD.cells]; go_simp; rfl) (by simp only [OpD.cells]; go_simp; rfl) (by go_simp) ?_
    refine eqf_cons (by rfl) (by simp only [OpD.cells]; go_simp; rfl) (by simp only [OpD.cells]; go_simp; rfl) (by go_simp) ?_
    refine eqf_cons (by rfl) (by simp only [OpD.cells]; go_simp; rfl) (by simp only [OpD.cells]; go_simp; rfl) (by go_simp) ?_
    exact eqf_cons (by rfl) (by simp only [OpD.cells]; go_simp; rfl) (by simp only [OpD.cells]; go_simp; rfl) (by go_simp) eqf_nil
  rw [h, str_beq, str_beq, str_beq]
  obtain ⟨a1, a2, a3, a4, a5, a6, a7⟩ := a
  obtain ⟨b1, b2, b3, b4, b5, b6, b7⟩ := b
  refine congrArg (fun r => Result.ok r w) ?_
  rw [Bool.eq_iff_iff]
  simp
theorem eq_note (d : Nat) (w : World) (a b : NoteD) : (Op.equalIn (d + 4) 51 (.agg a.cells.toArray) (.agg b.cells.toArray)).run Try.prog w = .ok (decide (a = b)) w := by
  have h : (Op.equalIn (d + 4) 51 (.agg a.cells.toArray) (.agg b.cells.toArray)).run Try.prog w = .ok (a.kind == b.kind && (a.epoch == b.epoch && (a.version == b.version && (a.next == b.next && (a.client == b.client && (decide (a.entry = b.entry) && (decide (a.seen = b.seen) && (decide (a.op = b.op) && true)))))))) w := by
    refine eqA_of Try.underlying51 (by kernel_rfl) ?_
    refine eqf_cons (by rfl) (by simp only [NoteD.cells]; go_simp; rfl) (by simp only [NoteD.cells]; go_simp; rfl) (by go_simp) ?_
    refine eqf_cons (by rfl) (by simp only [NoteD.cells]; go_simp; rfl) (by simp only [NoteD.cells]; go_simp; rfl) (by go_simp) ?_
    refine eqf_cons (by rfl) (by simp only [NoteD.cells]; go_simp; rfl) (by simp only [NoteD.cells]; go_simp; rfl) (by go_simp) ?_
    refine eqf_cons (by rfl) (by simp only [NoteD.cells]; go_simp; rfl) (by simp only [NoteD.cells]; go_simp; rfl) (by go_simp) ?_
    refine eqf_cons (by rfl) (by simp only [NoteD.cells]; go_simp; rfl) (by simp only [NoteD.cells]; go_simp; rfl) (by go_simp) ?_
    refine eqf_cons (by rfl) (a := .agg a.entry.cells.toArray) (b := .agg b.entry.cells.toArray) (by simp only [NoteD.cells, EntryD.cells]; go_simp) (by simp only [NoteD.cells, EntryD.cells]; go_simp) (eq_entry d w _ _) ?_
    refine eqf_cons (by rfl) (by simp only [NoteD.cells]; go_simp) (by simp only [NoteD.cells]; go_simp) (eq_seen (d + 1) w a.seen b.seen) ?_
    exact eqf_cons (by rfl) (a := .agg a.op.cells.toArray) (b := .agg b.op.cells.toArray) (by simp only [NoteD.cells, OpD.cells]; go_simp) (by simp only [NoteD.cells, OpD.cells]; go_simp) (eq_op (d + 1) w _ _) eqf_nil
  rw [h]
  obtain ⟨a1, a2, a3, a4, a5, a6, a7, a8⟩ := a
  obtain ⟨b1, b2, b3, b4, b5, b6, b7, b8⟩ := b
  refine congrArg (fun r => Result.ok r w) ?_
  rw [Bool.eq_iff_iff]
  simp

theorem eql_run {P : Program} {t : TypeId} {x y : Value} {xs ys : Array Value} {b : Bool} {w : World} (hx : x = .agg xs) (hy : y = .agg ys) (h : (Op.equalIn 10000 t x y).run P w = .ok b w) : (binOp .eql t x y).run P w = .ok (.bool b) w := by
  subst hx; subst hy
  rw [run_eql_struct, h]; rfl
theorem neq_run {P : Program} {t : TypeId} {x y : Value} {xs ys : Array Value} {b : Bool} {w : World} (hx : x = .agg xs) (hy : y = .agg ys) (h : (Op.equalIn 10000 t x y).run P w = .ok b w) : (binOp .neq t x y).run P w = .ok (.bool (!b)) w := by
  subst hx; subst hy
  rw [run_neq_struct, h]; rfl

end Go.Proofs.Ytmhcjkiaogimgaa
