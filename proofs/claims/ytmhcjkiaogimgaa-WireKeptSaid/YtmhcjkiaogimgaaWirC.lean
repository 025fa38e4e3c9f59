/- Which numbers, keys, entries and ops are plain: the document's checks; a note with the fields alone that its kind names. -/
import Derived.Test.YtmhcjkiaogimgaaWirB
import Derived.Deep.RegionHeld3
import Derived.Deep.DeepCutAuto
namespace Go.Proofs.Ytmhcjkiaogimgaa
open Go.RowKit

theorem bad_any (x : Int) (w : World) :
    Calls Try.prog 69 #[.int .i64 x] w fun e w' => e = .returned (.bool (!okN x)) ∧ w = w' := by
  by_cases h1 : x < 0
  · go_enter Try.func69, Try.ntmps69
    go_wp2_with fail
    go_ret
    exact ⟨bb (by simp [okN]; omega), rfl⟩
  · by_cases h2 : 1099511627776 < x
    all_goals
      go_enter Try.func69, Try.ntmps69
      go_wp2_with fail
      go_ret
      exact ⟨bb (by simp [okN]; omega), rfl⟩

set_option maxHeartbeats 1000000 in
theorem rplainKey_any (k : KeyD) (w : World) : Calls Try.prog 72 #[.agg k.cells.toArray] w (Tells k.ok w) := by
  obtain ⟨d, s⟩ := k
  show Calls Try.prog _ #[.agg #[.int .i64 d, .string s]] w _
  cases h1 : okN d with
  | true =>
    by_cases h2 : s.size ≤ 96
    all_goals
      go_enter Try.func72, Try.ntmps72
      go_wp2_with fail
      refine (bad_any _ _).mono ?_
      rintro e w1 ⟨rfl, rfl⟩
      go_wp2_with fail
      go_ret
      exact ⟨bb (by simp [KeyD.ok, h1, okT]; try omega), bel_al (Below.refl _ _) _⟩
  | false =>
    go_enter Try.func72, Try.ntmps72
    go_wp2_with fail
    refine (bad_any _ _).mono ?_
    rintro e w1 ⟨rfl, rfl⟩
    go_wp2_with fail
    go_ret
    exact ⟨bb (by simp [KeyD.ok, h1]), bel_al (Below.refl _ _) _⟩

/-- A struct built of parts, the run known. -/
theorem wpList_build_run {P : Program} {ops : Array Oper} {rest : List Oper} {op : Oper} {a : Act} {w : World} {Q : Exit → Act → World → Prop} (hgd : op.guard = none) (t : TypeId) (parts : Array (Nat × Operand)) (ho : op.op = .build t parts)
    (vs : Array (Nat × Value)) (hvs : parts.map (fun x => (x.1, a.eval x.2)) = vs) (v : Value) (hr : (Instr.build t vs).run P w = .ok v w) (h : wpList P ops Q rest (a.put op.dst v) w) : wpList P ops Q (op :: rest) a w :=
  wpList_plain hgd fun _ hK => by
    unfold Oper.wp execOp
    subst hvs
    simp only [ho, Sem.run_bind, Sem.run_pure, Result.andThen_ok, hr]
    exact hK _ _ h
/-- A result that lies in memory. -/
theorem results_cell {P : Program} {fn : Func} {t : Tmp} {ty : TypeId} (h : fn.results = #[.cell t ty]) (tmps : Array Value) (w : World) (p : Addr) (hp : tmps.getD t undef = .pointer (some p)) (v : Value) (hr : (loadVar ty p).run P w = .ok v w) : (results fn tmps).run P w = .ok v w := by
  have hp' : tmps[t]?.getD undef = .pointer (some p) := by simpa using hp
  simp [results, h, hp', asAddr, hr]

/-- These cells are a note's. -/
structure IsNote (xs : Array Value) (n : NoteD) : Prop where
  eq : xs = n.cells.toArray
theorem IsNote.mk' (n : NoteD) : IsNote n.cells.toArray n := ⟨rfl⟩
theorem setMany_whole (cs : Array Value) (vs : List Value) (h : vs.length = cs.size) : setMany cs 0 vs = vs.toArray := by
  apply Array.ext_getElem?
  intro j
  rw [setMany_get vs cs 0 j (by omega)]
  by_cases hj : j < vs.length
  · rw [if_pos (by omega)]; simp
  · rw [if_neg (by omega), Array.getElem?_eq_none (by omega), Array.getElem?_eq_none (by simp; omega)]
/-- A note's cells, one by one. -/
structure NoteAt (w : World) (g : Nat) (n : NoteD) : Prop where
  blk : Blk w g n.cells.toArray 51
theorem NoteAt.below {w w' : World} {g : Nat} {n : NoteD} (h : NoteAt w g n) (hb : Below w.heap.size w w') : NoteAt w' g n := ⟨h.blk.kp (S := fun _ => False) (Kp.of_below hb) (fun h => h)⟩
theorem NoteAt.nums {w : World} {g : Nat} {n : NoteD} (h : NoteAt w g n) : w.cell? ⟨g, 0, none⟩ = some (.int .i64 n.kind) ∧ w.cell? ⟨g, 1, none⟩ = some (.int .i64 n.epoch) ∧ w.cell? ⟨g, 2, none⟩ = some (.int .i64 n.version) ∧ w.cell? ⟨g, 3, none⟩ = some (.int .i64 n.next) ∧ w.cell? ⟨g, 4, none⟩ = some (.int .i64 n.client) ∧
    w.cell? ⟨g, 12, none⟩ = some (.int .i64 n.seen.life) ∧ w.cell? ⟨g, 13, none⟩ = some (.int .i64 n.seen.seq) ∧ w.cell? ⟨g, 14, none⟩ = some (.int .i64 n.seen.err) :=
  ⟨by rw [h.blk.cell]; rfl, by rw [h.blk.cell]; rfl, by rw [h.blk.cell]; rfl, by rw [h.blk.cell]; rfl, by rw [h.blk.cell]; rfl, by rw [h.blk.cell]; rfl, by rw [h.blk.cell]; rfl, by rw [h.blk.cell]; rfl⟩
theorem NoteAt.all {w : World} {g : Nat} {n : NoteD} (h : NoteAt w g n) : w.rangeAt g 0 n.cells := fun j v hj => by
  rw [h.blk.cell, List.getElem?_toArray, Nat.zero_add]; exact hj
theorem NoteAt.entry {w : World} {g : Nat} {n : NoteD} (h : NoteAt w g n) : w.rangeAt g 5 n.entry.cells := fun j v hj => by
  rw [h.blk.cell, List.getElem?_toArray, ← hj]
  have hl : j < 7 := (List.getElem?_eq_some_iff.1 hj).1
  match j, hl with
  | 0, _ | 1, _ | 2, _ | 3, _ | 4, _ | 5, _ | 6, _ => rfl
def SeenD.cells (s : SeenD) : List Value := [.int .i64 s.life, .int .i64 s.seq, .int .i64 s.err]
theorem NoteAt.seen {w : World} {g : Nat} {n : NoteD} (h : NoteAt w g n) : w.rangeAt g 12 n.seen.cells := fun j v hj => by
  rw [h.blk.cell, List.getElem?_toArray, ← hj]
  have hl : j < 3 := (List.getElem?_eq_some_iff.1 hj).1
  match j, hl with
  | 0, _ | 1, _ | 2, _ => rfl
theorem NoteAt.op {w : World} {g : Nat} {n : NoteD} (h : NoteAt w g n) : w.rangeAt g 15 n.op.cells := fun j v hj => by
  rw [h.blk.cell, List.getElem?_toArray, ← hj]
  have hl : j < 7 := (List.getElem?_eq_some_iff.1 hj).1
  match j, hl with
  | 0, _ | 1, _ | 2, _ | 3, _ | 4, _ | 5, _ | 6, _ => rfl

theorem size_note : (Try.prog.info? 51).map (·.size) = some 22 := by kernel_rfl
theorem size_entry : (Try.prog.info? 47).map (·.size) = some 7 := by kernel_rfl
theorem size_seen : (Try.prog.info? 49).map (·.size) = some 3 := by kernel_rfl
theorem size_op : (Try.prog.info? 23).map (·.size) = some 7 := by kernel_rfl

def NoteD.m1 (n : NoteD) : NoteD := ⟨n.kind, n.epoch, 0, 0, 0, EntryD.zero, SeenD.zero, OpD.zero⟩
def NoteD.m2 (n : NoteD) : NoteD := ⟨n.kind, n.epoch, n.version, n.next, 0, EntryD.zero, SeenD.zero, OpD.zero⟩
def NoteD.m3 (n : NoteD) : NoteD := ⟨n.kind, 0, 0, 0, 0, n.entry, SeenD.zero, OpD.zero⟩
def NoteD.m4 (n : NoteD) : NoteD := ⟨n.kind, 0, 0, 0, n.client, EntryD.zero, n.seen, OpD.zero⟩
def NoteD.m5 (n : NoteD) : NoteD := ⟨n.kind, 0, 0, 0, n.client, EntryD.zero, n.seen, n.op⟩
def NoteD.zero : NoteD := ⟨0, 0, 0, 0, 0, EntryD.zero, SeenD.zero, OpD.zero⟩
theorem build1 (n : NoteD) (w : World) : (Instr.build 51 #[(0, .int .i64 n.kind), (1, .int .i64 n.epoch)]).run Try.prog w = .ok (.agg n.m1.cells.toArray) w := by
  go_simp; rfl
theorem build2 (n : NoteD) (w : World) : (Instr.build 51 #[(0, .int .i64 n.kind), (1, .int .i64 n.epoch), (2, .int .i64 n.version), (3, .int .i64 n.next)]).run Try.prog w = .ok (.agg n.m2.cells.toArray) w := by
  go_simp; rfl
theorem build3 (n : NoteD) (w : World) : (Instr.build 51 #[(0, .int .i64 n.kind), (5, .agg n.entry.cells.toArray)]).run Try.prog w = .ok (.agg n.m3.cells.toArray) w := by
  simp only [EntryD.cells]; go_simp; rfl
theorem build4 (n : NoteD) (w : World) : (Instr.build 51 #[(0, .int .i64 n.kind), (4, .int .i64 n.client), (6, .agg n.seen.cells.toArray)]).run Try.prog w = .ok (.agg n.m4.cells.toArray) w := by
  simp only [SeenD.cells]; go_simp; rfl
theorem build5 (n : NoteD) (w : World) : (Instr.build 51 #[(0, .int .i64 n.kind), (4, .int .i64 n.client), (6, .agg n.seen.cells.toArray), (7, .agg n.op.cells.toArray)]).run Try.prog w = .ok (.agg n.m5.cells.toArray) w := by
  simp only [SeenD.cells, OpD.cells]; go_simp; rfl
theorem build0 (w : World) : (Instr.build 51 #[]).run Try.prog w = .ok (.agg NoteD.zero.cells.toArray) w := by
  go_simp; rfl
theorem zero_cells : NoteD.zero.cells.toArray = #[.int .i64 0, .int .i64 0, .int .i64 0, .int .i64 0, .int .i64 0, .int .i64 0, .string ⟨#[]⟩, .bool false, .int .i64 0, .int .i64 0, .int .i64 0, .string ⟨#[]⟩, .int .i64 0, .int .i64 0, .int .i64 0, .int .i64 0, .int .i64 0, .string ⟨#[]⟩, .int .i64 0, .string ⟨#[]⟩, .int .i64 0, .string ⟨#[]⟩] := rfl
theorem note_one (n : NoteD) : (n.cells.toArray).all (·.oneCell') = true := by simp [NoteD.cells, Value.oneCell']
theorem note_there {w : World} {g : Nat} {n : NoteD} (h : NoteAt w g n) (m : NoteD) : w.there g 0 m.cells.toArray.size := fun j hj => by
  rw [Nat.zero_add]
  refine ⟨?_, h.blk.frozen _⟩
  rw [h.blk.cell, Array.getElem?_eq_getElem (by exact hj)]
  rfl
theorem NoteAt.stored {w : World} {g : Nat} {n : NoteD} (h : NoteAt w g n) (m : NoteD) : NoteAt (w.setCells g 0 m.cells) g m := by
  have := h.blk.setCells m.cells 0
  rw [setMany_whole _ _ (by rfl)] at this
  exact ⟨this⟩

theorem wpList_store_note {ops : Array Oper} {rest : List Oper} {op : Oper} {a : Act} {w : World} {Q : Exit → Act → World → Prop} (hgd : op.guard = none) (x y : Operand) (ho : op.op = .store 51 x y) (g : Nat) (n m : NoteD)
    (hx : a.eval x = .pointer (some ⟨g, 0, none⟩)) (hy : a.eval y = .agg m.cells.toArray) (hZ : NoteAt w g n) (h : wpList Try.prog ops Q rest (a.put op.dst undef) (w.setCells g 0 m.cells)) : wpList Try.prog ops Q (op :: rest) a w :=
  wpList_store_mid hgd _ x y ho g 0 m.cells.toArray hx hy (note_there hZ m) size_note (note_one m) h
theorem wpList_load_entry {ops : Array Oper} {rest : List Oper} {op : Oper} {a : Act} {w : World} {Q : Exit → Act → World → Prop} (hgd : op.guard = none) (x : Operand) (ho : op.op = .load 47 x) (g : Nat) (n : NoteD)
    (hx : a.eval x = .pointer (some ⟨g, 5, none⟩)) (hN : NoteAt w g n) (h : wpList Try.prog ops Q rest (a.put op.dst (.agg n.entry.cells.toArray)) w) : wpList Try.prog ops Q (op :: rest) a w :=
  wpList_load_mid hgd _ x ho g 5 hx _ _ hN.entry Try.underlying47 rfl size_entry h
theorem wpList_load_seen {ops : Array Oper} {rest : List Oper} {op : Oper} {a : Act} {w : World} {Q : Exit → Act → World → Prop} (hgd : op.guard = none) (x : Operand) (ho : op.op = .load 49 x) (g : Nat) (n : NoteD)
    (hx : a.eval x = .pointer (some ⟨g, 12, none⟩)) (hN : NoteAt w g n) (h : wpList Try.prog ops Q rest (a.put op.dst (.agg n.seen.cells.toArray)) w) : wpList Try.prog ops Q (op :: rest) a w :=
  wpList_load_mid hgd _ x ho g 12 hx _ _ hN.seen Try.underlying49 rfl size_seen h
theorem wpList_load_op {ops : Array Oper} {rest : List Oper} {op : Oper} {a : Act} {w : World} {Q : Exit → Act → World → Prop} (hgd : op.guard = none) (x : Operand) (ho : op.op = .load 23 x) (g : Nat) (n : NoteD)
    (hx : a.eval x = .pointer (some ⟨g, 15, none⟩)) (hN : NoteAt w g n) (h : wpList Try.prog ops Q rest (a.put op.dst (.agg n.op.cells.toArray)) w) : wpList Try.prog ops Q (op :: rest) a w :=
  wpList_load_mid hgd _ x ho g 15 hx _ _ hN.op Try.underlying23 rfl size_op h

set_option maxRecDepth 100000 in
set_option maxHeartbeats 20000000 in
theorem named_any (n : NoteD) (xs : Array Value) (hx : IsNote xs n) (w : World) : Calls Try.prog 75 #[.agg xs] w fun e w' => ∃ ys, e = .returned (.agg ys) ∧ IsNote ys n.named ∧ Below w.heap.size w w' := by
  have hA : NoteAt (w.alloc (.cells xs 51)) w.heap.size n := ⟨by rw [← hx.eq]; exact Blk.new _ _ _⟩
  go_enter Try.func75, Try.ntmps75
  go_upto_region 1 with fail
  have HW : Hid (∀ W, W = (w.alloc (.cells xs 51)).alloc (.cells NoteD.zero.cells.toArray 51) → NoteAt W w.heap.size n ∧ NoteAt W (w.heap.size + 1) NoteD.zero ∧ Below w.heap.size w W) := by
    rintro W rfl
    refine ⟨hA.below (bel_al (Below.refl _ _) _), ⟨?_⟩, bel_al (bel_al (Below.refl _ _) _) _⟩
    have := Blk.new (w.alloc (.cells xs 51)) NoteD.zero.cells.toArray 51
    simpa using this
  obtain ⟨W, hW⟩ : ∃ W, W = (w.alloc (.cells xs 51)).alloc (.cells NoteD.zero.cells.toArray 51) := ⟨_, rfl⟩
  obtain ⟨hN, hZ, hB⟩ := HW.out W hW
  rw [zero_cells] at hW
  rw [← hW]
  clear hW HW hA hx
  obtain ⟨c0, c1, c2, c3, c4, c12, c13, c14⟩ := hN.nums
  have HF : Hid (∀ (m : NoteD) (tmps : Array Value), tmps.getD 2 undef = .pointer (some ⟨w.heap.size + 1, 0, none⟩) → m = n.named → ∀ W', W' = W.setCells (w.heap.size + 1) 0 m.cells →
      bodyPost Try.prog Try.f75 (fun e w' => ∃ ys, e = .returned (.agg ys) ∧ IsNote ys n.named ∧ Below w.heap.size w w') Exit.ret { tmps := tmps, defers := [] } W') := by
    rintro m tmps ht rfl W' rfl
    refine bodyPost_ret (results_cell rfl tmps _ _ ht _ (run_loadVar_mid _ _ _ _ n.named.cells _ (hZ.stored n.named).all Try.underlying51 rfl size_note)) rfl ⟨_, rfl, ⟨rfl⟩, ?_⟩
    exact below_kp hB (Kp.setCells (S := fun k => k = w.heap.size + 1) _ rfl _ _ _ (Kp.refl _ _)) hB.size (fun k hk => by omega)
  by_cases h1 : n.kind = 1
  · have hnm : n.m1 = n.named := by unfold NoteD.named NoteD.m1; rw [if_pos h1]
    have hb1 := build1 n
    rw [h1] at hb1 c0
    go_wp2_with (first | ((with_reducible refine wpList_build_run (op := ⟨_, Op.build _ _, _, _, _, _⟩) rfl _ _ rfl _ ?_ _ (hb1 _) ?_); (focus (first | (go_simp; done) | (go_simp; rfl)))) | ((with_reducible refine wpList_store_note (op := ⟨_, Op.store _ _ _, _, _, _, _⟩) rfl _ _ rfl _ _ n.m1 ?_ ?_ hZ ?_); rfl; rfl))
    exact HF.out _ _ (by rfl) hnm _ (by rfl)
  · have e1 : (n.kind == 1) = false := by simp [h1]
    by_cases h2 : n.kind = 2
    · have hnm : n.m2 = n.named := by unfold NoteD.named NoteD.m2; rw [if_neg h1, if_pos h2]
      have hb1 := build2 n
      rw [h2] at hb1 c0
      go_wp2_with (first | ((with_reducible refine wpList_build_run (op := ⟨_, Op.build _ _, _, _, _, _⟩) rfl _ _ rfl _ ?_ _ (hb1 _) ?_); (focus (first | (go_simp; done) | (go_simp; rfl)))) | ((with_reducible refine wpList_store_note (op := ⟨_, Op.store _ _ _, _, _, _, _⟩) rfl _ _ rfl _ _ n.m2 ?_ ?_ hZ ?_); rfl; rfl))
      exact HF.out _ _ (by rfl) hnm _ (by rfl)
    · have e2 : (n.kind == 2) = false := by simp [h2]
      by_cases h3 : n.kind = 3
      · have hnm : n.m3 = n.named := by unfold NoteD.named NoteD.m3; rw [if_neg h1, if_neg h2, if_pos h3]
        have hb1 := build3 n
        rw [h3] at hb1 c0
        go_wp2_with (first | ((with_reducible refine wpList_load_entry (op := ⟨_, Op.load 47 _, _, _, _, _⟩) rfl _ rfl _ _ ?_ hN ?_); rfl) | ((with_reducible refine wpList_build_run (op := ⟨_, Op.build _ _, _, _, _, _⟩) rfl _ _ rfl _ ?_ _ (hb1 _) ?_); (focus (first | (go_simp; done) | (go_simp; rfl)))) | ((with_reducible refine wpList_store_note (op := ⟨_, Op.store _ _ _, _, _, _, _⟩) rfl _ _ rfl _ _ n.m3 ?_ ?_ hZ ?_); rfl; rfl))
        exact HF.out _ _ (by rfl) hnm _ (by rfl)
      · have e3 : (n.kind == 3) = false := by simp [h3]
        by_cases h4 : n.kind = 4
        · have hnm : n.m4 = n.named := by unfold NoteD.named NoteD.m4; rw [if_neg h1, if_neg h2, if_neg h3, if_pos h4]
          have hb1 := build4 n
          rw [h4] at hb1 c0
          go_wp2_with (first | ((with_reducible refine wpList_load_seen (op := ⟨_, Op.load 49 _, _, _, _, _⟩) rfl _ rfl _ _ ?_ hN ?_); rfl) | ((with_reducible refine wpList_build_run (op := ⟨_, Op.build _ _, _, _, _, _⟩) rfl _ _ rfl _ ?_ _ (hb1 _) ?_); (focus (first | (go_simp; done) | (go_simp; rfl)))) | ((with_reducible refine wpList_store_note (op := ⟨_, Op.store _ _ _, _, _, _, _⟩) rfl _ _ rfl _ _ n.m4 ?_ ?_ hZ ?_); rfl; rfl))
          exact HF.out _ _ (by rfl) hnm _ (by rfl)
        · have e4 : (n.kind == 4) = false := by simp [h4]
          have hnm : n.m5 = n.named := by unfold NoteD.named NoteD.m5; rw [if_neg h1, if_neg h2, if_neg h3, if_neg h4]
          have hb1 := build5 n
          go_wp2_with (first | ((with_reducible refine wpList_load_seen (op := ⟨_, Op.load 49 _, _, _, _, _⟩) rfl _ rfl _ _ ?_ hN ?_); rfl) | ((with_reducible refine wpList_load_op (op := ⟨_, Op.load 23 _, _, _, _, _⟩) rfl _ rfl _ _ ?_ hN ?_); rfl) | ((with_reducible refine wpList_build_run (op := ⟨_, Op.build _ _, _, _, _, _⟩) rfl _ _ rfl _ ?_ _ (hb1 _) ?_); (focus (first | (go_simp; done) | (go_simp; rfl)))) | ((with_reducible refine wpList_store_note (op := ⟨_, Op.store _ _ _, _, _, _, _⟩) rfl _ _ rfl _ _ n.m5 ?_ ?_ hZ ?_); rfl; rfl))
          exact HF.out _ _ (by rfl) hnm _ (by rfl)

/-- The document's: of a kind that is none, nothing. -/
def NoteD.only (n : NoteD) : NoteD := if n.kind = 1 then n.m1 else if n.kind = 2 then n.m2 else if n.kind = 3 then n.m3 else if n.kind = 4 then n.m4 else if n.kind = 5 then n.m5 else NoteD.zero
set_option maxRecDepth 100000 in
set_option maxHeartbeats 20000000 in
theorem only_any (n : NoteD) (xs : Array Value) (hx : IsNote xs n) (w : World) : Calls Try.prog 76 #[.agg xs] w fun e w' => ∃ ys, e = .returned (.agg ys) ∧ IsNote ys n.only ∧ Below w.heap.size w w' := by
  have hA : NoteAt (w.alloc (.cells xs 51)) w.heap.size n := ⟨by rw [← hx.eq]; exact Blk.new _ _ _⟩
  go_enter Try.func76, Try.ntmps76
  go_upto_region 1 with fail
  have HW : Hid (∀ W, W = (w.alloc (.cells xs 51)).alloc (.cells NoteD.zero.cells.toArray 51) → NoteAt W w.heap.size n ∧ NoteAt W (w.heap.size + 1) NoteD.zero ∧ Below w.heap.size w W) := by
    rintro W rfl
    refine ⟨hA.below (bel_al (Below.refl _ _) _), ⟨?_⟩, bel_al (bel_al (Below.refl _ _) _) _⟩
    have := Blk.new (w.alloc (.cells xs 51)) NoteD.zero.cells.toArray 51
    simpa using this
  obtain ⟨W, hW⟩ : ∃ W, W = (w.alloc (.cells xs 51)).alloc (.cells NoteD.zero.cells.toArray 51) := ⟨_, rfl⟩
  obtain ⟨hN, hZ, hB⟩ := HW.out W hW
  rw [zero_cells] at hW
  rw [← hW]
  clear hW HW hA hx
  obtain ⟨c0, c1, c2, c3, c4, c12, c13, c14⟩ := hN.nums
  have HF : Hid (∀ (m : NoteD) (tmps : Array Value), tmps.getD 2 undef = .pointer (some ⟨w.heap.size + 1, 0, none⟩) → m = n.only → ∀ W', W' = W.setCells (w.heap.size + 1) 0 m.cells →
      bodyPost Try.prog Try.f76 (fun e w' => ∃ ys, e = .returned (.agg ys) ∧ IsNote ys n.only ∧ Below w.heap.size w w') Exit.ret { tmps := tmps, defers := [] } W') := by
    rintro m tmps ht rfl W' rfl
    refine bodyPost_ret (results_cell rfl tmps _ _ ht _ (run_loadVar_mid _ _ _ _ n.only.cells _ (hZ.stored n.only).all Try.underlying51 rfl size_note)) rfl ⟨_, rfl, ⟨rfl⟩, ?_⟩
    exact below_kp hB (Kp.setCells (S := fun k => k = w.heap.size + 1) _ rfl _ _ _ (Kp.refl _ _)) hB.size (fun k hk => by omega)
  by_cases h1 : n.kind = 1
  · have hnm : n.m1 = n.only := by unfold NoteD.only NoteD.m1; rw [if_pos h1]
    have hb1 := build1 n
    rw [h1] at hb1 c0
    go_wp2_with (first | ((with_reducible refine wpList_build_run (op := ⟨_, Op.build _ _, _, _, _, _⟩) rfl _ _ rfl _ ?_ _ (hb1 _) ?_); (focus (first | (go_simp; done) | (go_simp; rfl)))) | ((with_reducible refine wpList_store_note (op := ⟨_, Op.store _ _ _, _, _, _, _⟩) rfl _ _ rfl _ _ n.m1 ?_ ?_ hZ ?_); rfl; rfl))
    exact HF.out _ _ (by rfl) hnm _ (by rfl)
  · have e1 : (n.kind == 1) = false := by simp [h1]
    by_cases h2 : n.kind = 2
    · have hnm : n.m2 = n.only := by unfold NoteD.only NoteD.m2; rw [if_neg h1, if_pos h2]
      have hb1 := build2 n
      rw [h2] at hb1 c0
      go_wp2_with (first | ((with_reducible refine wpList_build_run (op := ⟨_, Op.build _ _, _, _, _, _⟩) rfl _ _ rfl _ ?_ _ (hb1 _) ?_); (focus (first | (go_simp; done) | (go_simp; rfl)))) | ((with_reducible refine wpList_store_note (op := ⟨_, Op.store _ _ _, _, _, _, _⟩) rfl _ _ rfl _ _ n.m2 ?_ ?_ hZ ?_); rfl; rfl))
      exact HF.out _ _ (by rfl) hnm _ (by rfl)
    · have e2 : (n.kind == 2) = false := by simp [h2]
      by_cases h3 : n.kind = 3
      · have hnm : n.m3 = n.only := by unfold NoteD.only NoteD.m3; rw [if_neg h1, if_neg h2, if_pos h3]
        have hb1 := build3 n
        rw [h3] at hb1 c0
        go_wp2_with (first | ((with_reducible refine wpList_load_entry (op := ⟨_, Op.load 47 _, _, _, _, _⟩) rfl _ rfl _ _ ?_ hN ?_); rfl) | ((with_reducible refine wpList_build_run (op := ⟨_, Op.build _ _, _, _, _, _⟩) rfl _ _ rfl _ ?_ _ (hb1 _) ?_); (focus (first | (go_simp; done) | (go_simp; rfl)))) | ((with_reducible refine wpList_store_note (op := ⟨_, Op.store _ _ _, _, _, _, _⟩) rfl _ _ rfl _ _ n.m3 ?_ ?_ hZ ?_); rfl; rfl))
        exact HF.out _ _ (by rfl) hnm _ (by rfl)
      · have e3 : (n.kind == 3) = false := by simp [h3]
        by_cases h4 : n.kind = 4
        · have hnm : n.m4 = n.only := by unfold NoteD.only NoteD.m4; rw [if_neg h1, if_neg h2, if_neg h3, if_pos h4]
          have hb1 := build4 n
          rw [h4] at hb1 c0
          go_wp2_with (first | ((with_reducible refine wpList_load_seen (op := ⟨_, Op.load 49 _, _, _, _, _⟩) rfl _ rfl _ _ ?_ hN ?_); rfl) | ((with_reducible refine wpList_build_run (op := ⟨_, Op.build _ _, _, _, _, _⟩) rfl _ _ rfl _ ?_ _ (hb1 _) ?_); (focus (first | (go_simp; done) | (go_simp; rfl)))) | ((with_reducible refine wpList_store_note (op := ⟨_, Op.store _ _ _, _, _, _, _⟩) rfl _ _ rfl _ _ n.m4 ?_ ?_ hZ ?_); rfl; rfl))
          exact HF.out _ _ (by rfl) hnm _ (by rfl)
        · have e4 : (n.kind == 4) = false := by simp [h4]
          by_cases h5 : n.kind = 5
          · have hnm : n.m5 = n.only := by unfold NoteD.only NoteD.m5; rw [if_neg h1, if_neg h2, if_neg h3, if_neg h4, if_pos h5]
            have hb1 := build5 n
            rw [h5] at hb1 c0
            go_wp2_with (first | ((with_reducible refine wpList_load_seen (op := ⟨_, Op.load 49 _, _, _, _, _⟩) rfl _ rfl _ _ ?_ hN ?_); rfl) | ((with_reducible refine wpList_load_op (op := ⟨_, Op.load 23 _, _, _, _, _⟩) rfl _ rfl _ _ ?_ hN ?_); rfl) | ((with_reducible refine wpList_build_run (op := ⟨_, Op.build _ _, _, _, _, _⟩) rfl _ _ rfl _ ?_ _ (hb1 _) ?_); (focus (first | (go_simp; done) | (go_simp; rfl)))) | ((with_reducible refine wpList_store_note (op := ⟨_, Op.store _ _ _, _, _, _, _⟩) rfl _ _ rfl _ _ n.m5 ?_ ?_ hZ ?_); rfl; rfl))
            exact HF.out _ _ (by rfl) hnm _ (by rfl)
          · have e5 : (n.kind == 5) = false := by simp [h5]
            have hnm : NoteD.zero = n.only := by unfold NoteD.only; rw [if_neg h1, if_neg h2, if_neg h3, if_neg h4, if_neg h5]
            have hb1 := build0
            go_wp2_with (first | ((with_reducible refine wpList_build_run (op := ⟨_, Op.build _ _, _, _, _, _⟩) rfl _ _ rfl _ ?_ _ (hb1 _) ?_); (focus (first | (go_simp; done) | (go_simp; rfl)))) | ((with_reducible refine wpList_store_note (op := ⟨_, Op.store _ _ _, _, _, _, _⟩) rfl _ _ rfl _ _ NoteD.zero ?_ ?_ hZ ?_); rfl; rfl))
            exact HF.out _ _ (by rfl) hnm _ (by rfl)

end Go.Proofs.Ytmhcjkiaogimgaa
