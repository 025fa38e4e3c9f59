/- Messages: what they hold, which are plain; the program's check. -/
import Derived.Test.YtmhcjkiaogimgaaWirD
import Derived.Test.YtmhcjkiaogimgaaMrkA
import Derived.Test.YtmhcjkiaogimgaaMem2
namespace Go.Proofs.Ytmhcjkiaogimgaa
open Go.RowKit

structure MsgD where
  kind : Int
  client : Int
  life : Int
  seq : Int
  ma : Nat
  mb : Nat
  version : Int
  err : Int
  op : OpD
  entries : List EntryD
  keys : List KeyD
/-- Where a message's two slices lie. -/
structure Sls where
  ea : Option Addr
  ec : Nat
  ka : Option Addr
  kc : Nat
def MsgD.cells (m : MsgD) (s : Sls) : List Value := [.int .i64 m.kind, .int .i64 m.client, .int .i64 m.life, .int .i64 m.seq, .complex .f64 m.ma m.mb, .int .i64 m.version, .int .i64 m.err,
  .int .i64 m.op.kind, .int .i64 m.op.dir, .string m.op.name, .int .i64 m.op.to, .string m.op.new, .int .i64 m.op.mode, .string m.op.target, .slice s.ea m.entries.length s.ec, .slice s.ka m.keys.length s.kc]
def MsgD.nums (m : MsgD) : List Int := [m.client, m.life, m.seq, m.version, m.err]
/-- P6.2, but for the mark. -/
def MsgD.ok (m : MsgD) : Bool := okIn m.kind 1 4 && m.nums.all okN && (if m.kind = 1 then m.op.ok else decide (m.op = OpD.zero)) &&
  ((decide (m.kind = 2) || decide (m.entries.length = 0)) && decide (m.entries.length ≤ 48)) && (decide (m.kind = 3) == decide (0 < m.keys.length) && decide (m.keys.length ≤ 48)) && m.entries.all EntryD.ok && m.keys.all KeyD.ok

/-- Rows of k cells each. -/
structure RowsAt (w : World) (A : Option Addr) (k : Nat) (rows : List (List Value)) : Prop where
  at_ : ∀ i cs, rows[i]? = some cs → ∃ g o, A = some ⟨g, o, none⟩ ∧ g < w.heap.size ∧ w.rangeAt g (o + i * k) cs
theorem RowsAt.below {w w' : World} {A : Option Addr} {k : Nat} {rows : List (List Value)} (h : RowsAt w A k rows) (hb : Below w.heap.size w w') : RowsAt w' A k rows :=
  ⟨fun i cs hi => by
    obtain ⟨g, o, h1, h2, h3⟩ := h.at_ i cs hi
    exact ⟨g, o, h1, Nat.lt_of_lt_of_le h2 hb.size, fun j v hj => (hb.cell h2).trans (h3 j v hj)⟩⟩
theorem RowsAt.kp {S : Nat → Prop} {w w' : World} {A : Option Addr} {k : Nat} {rows : List (List Value)} (h : RowsAt w A k rows) (hk : Kp S w w') (hs : ∀ x, A = some x → ¬ S x.block) : RowsAt w' A k rows :=
  ⟨fun i cs hi => by
    obtain ⟨g, o, h1, h2, h3⟩ := h.at_ i cs hi
    exact ⟨g, o, h1, Nat.lt_of_lt_of_le h2 hk.size, fun j v hj => (hk.cell (p := ⟨g, o + i * k + j, none⟩) h2 (hs ⟨g, o, none⟩ h1)).trans (h3 j v hj)⟩⟩
theorem RowsAt.nil (w : World) (A : Option Addr) (k : Nat) : RowsAt w A k [] := ⟨fun i cs hi => by simp at hi⟩

structure IsMsg (xs : Array Value) (m : MsgD) (s : Sls) : Prop where
  eq : xs = (m.cells s).toArray
/-- A message by value. -/
structure MsgArg (w : World) (xs : Array Value) (m : MsgD) (s : Sls) : Prop where
  is : IsMsg xs m s
  ents : RowsAt w s.ea 7 (m.entries.map EntryD.cells)
  keys : RowsAt w s.ka 2 (m.keys.map KeyD.cells)
theorem MsgArg.below {w w' : World} {xs : Array Value} {m : MsgD} {s : Sls} (h : MsgArg w xs m s) (hb : Below w.heap.size w w') : MsgArg w' xs m s := ⟨h.is, h.ents.below hb, h.keys.below hb⟩
/-- A message in block g. -/
structure MsgIn (w0 : World) (g : Nat) (m : MsgD) (s : Sls) (w : World) : Prop where
  bel : Below w0.heap.size w0 w
  blk : Blk w g (m.cells s).toArray 34
  ents : RowsAt w s.ea 7 (m.entries.map EntryD.cells)
  keys : RowsAt w s.ka 2 (m.keys.map KeyD.cells)
theorem MsgIn.next {w0 w w' : World} {g : Nat} {m : MsgD} {s : Sls} (h : MsgIn w0 g m s w) (b : Below w.heap.size w w') : MsgIn w0 g m s w' :=
  ⟨bel_next h.bel b, h.blk.kp (S := fun _ => False) (Kp.of_below b) (fun h => h), h.ents.below b, h.keys.below b⟩
theorem MsgIn.al {w0 w : World} {g : Nat} {m : MsgD} {s : Sls} (h : MsgIn w0 g m s w) (o : Obj) : MsgIn w0 g m s (w.alloc o) := h.next (bel_al (Below.refl _ _) _)
theorem MsgIn.drewN {w0 w : World} {g : Nat} {m : MsgD} {s : Sls} (h : MsgIn w0 g m s w) (n : Nat) : MsgIn w0 g m s (w.drewN n) := h.next (((Drawn.refl w).drewN n).below _)
theorem MsgArg.box {w : World} {xs : Array Value} {m : MsgD} {s : Sls} (h : MsgArg w xs m s) : ∀ W, W = w.alloc (.cells xs 34) → MsgIn w w.heap.size m s W := by
  rintro W rfl
  have hb : Below w.heap.size w (w.alloc (.cells xs 34)) := bel_al (Below.refl _ _) _
  refine ⟨hb, ?_, h.ents.below hb, h.keys.below hb⟩
  rw [h.is.eq]
  exact Blk.new _ _ _
theorem MsgIn.nums {w0 w : World} {g : Nat} {m : MsgD} {s : Sls} (h : MsgIn w0 g m s w) : w.cell? ⟨g, 0, none⟩ = some (.int .i64 m.kind) ∧ w.cell? ⟨g, 1, none⟩ = some (.int .i64 m.client) ∧ w.cell? ⟨g, 2, none⟩ = some (.int .i64 m.life) ∧ w.cell? ⟨g, 3, none⟩ = some (.int .i64 m.seq) ∧
    w.cell? ⟨g, 4, none⟩ = some (.complex .f64 m.ma m.mb) ∧ w.cell? ⟨g, 5, none⟩ = some (.int .i64 m.version) ∧ w.cell? ⟨g, 6, none⟩ = some (.int .i64 m.err) ∧ w.cell? ⟨g, 14, none⟩ = some (.slice s.ea m.entries.length s.ec) ∧ w.cell? ⟨g, 15, none⟩ = some (.slice s.ka m.keys.length s.kc) :=
  ⟨by rw [h.blk.cell]; rfl, by rw [h.blk.cell]; rfl, by rw [h.blk.cell]; rfl, by rw [h.blk.cell]; rfl, by rw [h.blk.cell]; rfl, by rw [h.blk.cell]; rfl, by rw [h.blk.cell]; rfl, by rw [h.blk.cell]; rfl, by rw [h.blk.cell]; rfl⟩
theorem MsgIn.all {w0 w : World} {g : Nat} {m : MsgD} {s : Sls} (h : MsgIn w0 g m s w) : w.rangeAt g 0 (m.cells s) := fun j v hj => by
  rw [h.blk.cell, List.getElem?_toArray, Nat.zero_add]; exact hj
theorem MsgIn.op {w0 w : World} {g : Nat} {m : MsgD} {s : Sls} (h : MsgIn w0 g m s w) : w.rangeAt g 7 m.op.cells := fun j v hj => by
  rw [h.blk.cell, List.getElem?_toArray, ← hj]
  have hl : j < 7 := (List.getElem?_eq_some_iff.1 hj).1
  match j, hl with
  | 0, _ | 1, _ | 2, _ | 3, _ | 4, _ | 5, _ | 6, _ => rfl
theorem size_msg : (Try.prog.info? 34).map (·.size) = some 16 := by kernel_rfl
theorem size_key : (Try.prog.info? 43).map (·.size) = some 2 := by kernel_rfl
theorem wpList_load_mop {ops : Array Oper} {rest : List Oper} {op : Oper} {a : Act} {w : World} {Q : Exit → Act → World → Prop} (hw : Region.wanted op (yielded ops a.tmps) = true) (x : Operand) (ho : op.op = .load 23 x) (w0 : World) (g : Nat) (m : MsgD) (s : Sls)
    (hx : a.eval x = .pointer (some ⟨g, 7, none⟩)) (hN : MsgIn w0 g m s w) (h : wpList Try.prog ops Q rest (a.put op.dst (.agg m.op.cells.toArray)) w) : wpList Try.prog ops Q (op :: rest) a w :=
  BigFrame.wpList_want hw fun _ hK => wp_load_mid _ x ho g 7 hx _ _ hN.op Try.underlying23 rfl size_op (hK _ _ h)
theorem wpList_load_msg {ops : Array Oper} {rest : List Oper} {op : Oper} {a : Act} {w : World} {Q : Exit → Act → World → Prop} (hgd : op.guard = none) (x : Operand) (ho : op.op = .load 34 x) (w0 : World) (g : Nat) (m : MsgD) (s : Sls)
    (hx : a.eval x = .pointer (some ⟨g, 0, none⟩)) (hN : MsgIn w0 g m s w) (h : wpList Try.prog ops Q rest (a.put op.dst (.agg (m.cells s).toArray)) w) : wpList Try.prog ops Q (op :: rest) a w :=
  wpList_load_mid hgd _ x ho g 0 hx _ _ hN.all Try.underlying34 rfl size_msg h
theorem wpList_load_ent {ops : Array Oper} {rest : List Oper} {op : Oper} {a : Act} {w : World} {Q : Exit → Act → World → Prop} (hgd : op.guard = none) (x : Operand) (ho : op.op = .load 47 x) (g o : Nat) (e : EntryD)
    (hx : a.eval x = .pointer (some ⟨g, o, none⟩)) (hN : w.rangeAt g o e.cells) (h : wpList Try.prog ops Q rest (a.put op.dst (.agg e.cells.toArray)) w) : wpList Try.prog ops Q (op :: rest) a w :=
  wpList_load_mid hgd _ x ho g o hx _ _ hN Try.underlying47 rfl size_entry h
theorem wpList_load_key {ops : Array Oper} {rest : List Oper} {op : Oper} {a : Act} {w : World} {Q : Exit → Act → World → Prop} (hgd : op.guard = none) (x : Operand) (ho : op.op = .load 43 x) (g o : Nat) (e : KeyD)
    (hx : a.eval x = .pointer (some ⟨g, o, none⟩)) (hN : w.rangeAt g o e.cells) (h : wpList Try.prog ops Q rest (a.put op.dst (.agg e.cells.toArray)) w) : wpList Try.prog ops Q (op :: rest) a w :=
  wpList_load_mid hgd _ x ho g o hx _ _ hN Try.underlying43 rfl size_key h

set_option maxHeartbeats 4000000 in
theorem plain_bad (m : MsgD) (s : Sls) (xs : Array Value) (w : World) (hx : MsgArg w xs m s) (hbad : Bad m.ma m.mb) : Calls Try.prog 30 #[.agg xs] w (Tells false w) := by
  obtain ⟨W, hW⟩ : ∃ W, W = w.alloc (.cells xs 34) := ⟨_, rfl⟩
  have hM := hx.box W hW
  obtain ⟨c0, c1, c2, c3, c4, c5, c6, c14, c15⟩ := hM.nums
  have hlt := hM.blk.lt
  have HW := Lib.hid hW
  clear hx hW
  cases h1 : okIn m.kind 1 4 with
  | false =>
    go_enter Try.func30, Try.ntmps30
    go_upto_region 1 with fail
    rw [← HW.out]
    go_wp2_with fail
    refine (within_any _ _ _ _).mono ?_
    rintro e w1 ⟨rfl, rfl⟩
    rw [h1]
    go_wp2_with fail
    go_ret
    exact ⟨rfl, hM.bel⟩
  | true =>
    cases h2 : m.nums.all okN with
    | false =>
      go_enter Try.func30, Try.ntmps30
      go_upto_region 1 with fail
      rw [← HW.out]
      go_wp2_with fail
      refine (within_any _ _ _ _).mono ?_
      rintro e w1 ⟨rfl, rfl⟩
      rw [h1]
      go_wp2_with fail
      refine (number_lit _ _ m.nums _ _ _ (by simp) rfl rfl (by simp [MsgD.nums]) rfl).mono ?_
      rintro e w3 ⟨rfl, rfl⟩
      rw [h2]
      go_wp2_with fail
      go_ret
      exact ⟨rfl, bel_al hM.bel _⟩
    | true =>
      go_enter Try.func30, Try.ntmps30
      go_upto_region 1 with fail
      rw [← HW.out]
      go_wp2_with fail
      refine (within_any _ _ _ _).mono ?_
      rintro e w1 ⟨rfl, rfl⟩
      rw [h1]
      go_wp2_with fail
      refine (number_lit _ _ m.nums _ _ _ (by simp) rfl rfl (by simp [MsgD.nums]) rfl).mono ?_
      rintro e w3 ⟨rfl, rfl⟩
      rw [h2]
      go_wp2_with fail
      refine (good_no hbad _).mono ?_
      rintro e w3 ⟨rfl, rfl⟩
      go_wp2_with fail
      go_ret
      exact ⟨rfl, bel_al hM.bel _⟩

theorem all_len0 {α : Type} (p : α → Bool) (l : List α) (h : l.length = 0) : l.all p = true := by
  rw [List.length_eq_zero_iff.1 h]; rfl
theorem getD_map {α : Type} (f : α → List Value) (l : List α) (d : α) (k : Nat) (h : k < l.length) : (l.map f)[k]? = some (f (l.getD k d)) := by
  simp [List.getD_eq_getElem?_getD, List.getElem?_eq_getElem h]

set_option maxRecDepth 100000 in
set_option maxHeartbeats 8000000 in
theorem plain_yes (m : MsgD) (s : Sls) (xs : Array Value) (w : World) (hx : MsgArg w xs m s) (ee nn : Nat) (hmv : MV m.ma m.mb ee nn) : Calls Try.prog 30 #[.agg xs] w (Tells m.ok w) := by
  obtain ⟨W, hW⟩ : ∃ W, W = w.alloc (.cells xs 34) := ⟨_, rfl⟩
  have hM := hx.box W hW
  obtain ⟨c0, c1, c2, c3, c4, c5, c6, c14, c15⟩ := hM.nums
  have hlt := hM.blk.lt
  have HW := Lib.hid hW
  clear hx hW
  cases h1 : okIn m.kind 1 4 with
  | false =>
    have hok : Hid (m.ok = false) := by show _ = _; simp only [MsgD.ok, h1, Bool.false_and]
    go_enter Try.func30, Try.ntmps30
    go_upto_region 1 with fail
    rw [← HW.out]
    go_wp2_with fail
    refine (within_any _ _ _ _).mono ?_
    rintro e w1 ⟨rfl, rfl⟩
    rw [h1]
    go_wp2_with fail
    go_ret
    exact ⟨bb hok.out.symm, hM.bel⟩
  | true =>
    cases h2 : m.nums.all okN with
    | false =>
      have hok : Hid (m.ok = false) := by show _ = _; simp only [MsgD.ok, h2, Bool.and_false, Bool.false_and]
      go_enter Try.func30, Try.ntmps30
      go_upto_region 1 with fail
      rw [← HW.out]
      go_wp2_with fail
      refine (within_any _ _ _ _).mono ?_
      rintro e w1 ⟨rfl, rfl⟩
      rw [h1]
      go_wp2_with fail
      refine (number_lit _ _ m.nums _ _ _ (by simp) rfl rfl (by simp [MsgD.nums]) rfl).mono ?_
      rintro e w3 ⟨rfl, rfl⟩
      rw [h2]
      go_wp2_with fail
      go_ret
      exact ⟨bb hok.out.symm, bel_al hM.bel _⟩
    | true =>
      have hhd : Hid (m.ok = ((if m.kind = 1 then m.op.ok else decide (m.op = OpD.zero)) &&
        ((decide (m.kind = 2) || decide (m.entries.length = 0)) && decide (m.entries.length ≤ 48)) && (decide (m.kind = 3) == decide (0 < m.keys.length) && decide (m.keys.length ≤ 48)) && m.entries.all EntryD.ok && m.keys.all KeyD.ok)) := by
        show _ = _
        simp only [MsgD.ok, h1, h2, Bool.true_and]
      have hkind : 1 ≤ m.kind ∧ m.kind ≤ 4 := by simpa [okIn] using h1
      go_enter Try.func30, Try.ntmps30
      go_upto_region 1 with fail
      rw [← HW.out]
      go_wp2_with fail
      refine (within_any _ _ _ _).mono ?_
      rintro e w1 ⟨rfl, rfl⟩
      rw [h1]
      go_wp2_with fail
      refine (number_lit _ _ m.nums _ _ _ (by simp) rfl rfl (by simp [MsgD.nums]) rfl).mono ?_
      rintro e w3 ⟨rfl, rfl⟩
      rw [h2]
      go_wp2_with fail
      refine (good_yes hmv _).mono ?_
      rintro e w3 ⟨rfl, rfl⟩
      go_upto_region 3 with fail
      clear c0 c1 c2 c3 c4 c5 c6 c14 c15 h1 h2
      have hM1 := hM.al (.cells (ints .i64 m.nums).toArray 3)
      generalize W.alloc (.cells (ints .i64 m.nums).toArray 3) = W1 at *
      obtain ⟨c0, c1, c2, c3, c4, c5, c6, c14, c15⟩ := hM1.nums
      have hlt1 := hM1.blk.lt
      clear c1 c2 c3 c4 c5 c6 hM hlt
      rcases (show m.kind = 1 ∨ m.kind = 2 ∨ m.kind = 3 ∨ m.kind = 4 by omega) with hk | hk | hk | hk
      · have HK := Lib.hid hk
        rw [hk] at c0
        clear hk hkind
        go_quiet (fail)
        have hM2 := hM1.drewN nq
        generalize W1.drewN nq = W2 at *
        clear c0 c14 c15 hM1 hlt1
        obtain ⟨c0, -, -, -, -, -, -, c14, c15⟩ := hM2.nums
        have hlt2 := hM2.blk.lt

        cases h3 : m.op.ok with
        | false =>
          go_wp2_with (first | ((with_reducible refine wpList_load_mop (op := ⟨_, Op.load 23 _, _, _, _, _⟩) ?_ _ rfl _ _ _ _ ?_ hM2 ?_); rfl; rfl))
          refine (plainOp_any m.op _).mono ?_
          rintro e w4 ⟨rfl, b4⟩
          rw [h3]
          have hok : Hid (m.ok = false) := by show _ = _; rw [hhd.out]; simp [HK.out, h3]
          go_wp2_with fail
          go_ret
          exact ⟨bb hok.out.symm, (hM2.next b4).bel⟩

        | true =>
          go_wp2_with (first | ((with_reducible refine wpList_load_mop (op := ⟨_, Op.load 23 _, _, _, _, _⟩) ?_ _ rfl _ _ _ _ ?_ hM2 ?_); rfl; rfl))
          refine (plainOp_any m.op _).mono ?_
          rintro e w4 ⟨rfl, b4⟩
          rw [h3]
          have hM3 := hM2.next b4
          clear c0 c14 c15 hM2 hlt2
          obtain ⟨c0, -, -, -, -, -, -, c14, c15⟩ := hM3.nums
          have hlt3 := hM3.blk.lt
          by_cases he0 : m.entries.length = 0
          · rw [he0] at c14
            by_cases hk0 : m.keys.length = 0
            · rw [hk0] at c15
              have hfin : Hid (m.ok = true) := by show _ = _; rw [hhd.out, all_len0 EntryD.ok m.entries he0, all_len0 KeyD.ok m.keys hk0]; simp [HK.out, h3, he0, hk0]
              go_wp2_with fail
              go_loopw [92] (fun v wr => v = .int .i64 0 ∧ MsgIn w w.heap.size m s wr) (fun _ _ => 0)
              case atStart => exact ⟨rfl, hM3⟩
              case round =>
                clear c14 c15 hlt3
                obtain ⟨rfl, hM4⟩ := hrel
                obtain ⟨-, -, -, -, -, -, -, -, c15⟩ := hM4.nums
                have hlt4 := hM4.blk.lt
                rw [hk0] at c15
                go_wp2_with fail
                go_loopw [103] (fun v wr => v = .int .i64 0 ∧ MsgIn w w.heap.size m s wr) (fun _ _ => 0)
                case atStart => exact ⟨rfl, hM4⟩
                case round =>
                  obtain ⟨rfl, hM5⟩ := hrel
                  go_wp2_with fail
                  go_ret
                  exact ⟨bb hfin.out.symm, hM5.bel⟩

            · have hok : Hid (m.ok = false) := by show _ = _; rw [hhd.out]; simp [HK.out, hk0]
              go_wp2_with fail
              go_ret
              exact ⟨bb hok.out.symm, hM3.bel⟩

          · have hok : Hid (m.ok = false) := by show _ = _; rw [hhd.out]; simp [HK.out, he0]
            go_wp2_with fail
            go_ret
            exact ⟨bb hok.out.symm, hM3.bel⟩
      · have HK := Lib.hid hk
        rw [hk] at c0
        clear hk hkind
        go_quiet (fail)
        have hM2 := hM1.drewN nq
        generalize W1.drewN nq = W2 at *
        clear c0 c14 c15 hM1 hlt1
        obtain ⟨c0, -, -, -, -, -, -, c14, c15⟩ := hM2.nums
        have hlt2 := hM2.blk.lt

        have hq : ∀ W' : World, (binOp .neq 23 (.agg m.op.cells.toArray) (.agg #[.int .i64 0, .int .i64 0, .string ⟨#[]⟩, .int .i64 0, .string ⟨#[]⟩, .int .i64 0, .string ⟨#[]⟩])).run Try.prog W' = .ok (.bool (!decide (m.op = OpD.zero))) W' := fun W' => neq_run (w := W') rfl rfl (eq_op 9998 W' m.op OpD.zero)
        rw [HK.out] at c0
        cases h3 : decide (m.op = OpD.zero) with
        | false =>
          rw [h3] at hq
          go_wp2_with (first | ((with_reducible refine wpList_load_mop (op := ⟨_, Op.load 23 _, _, _, _, _⟩) ?_ _ rfl _ _ _ _ ?_ hM2 ?_); rfl; rfl))
          have hok : Hid (m.ok = false) := by show _ = _; rw [hhd.out]; simp [HK.out, of_decide_eq_false h3]
          go_ret
          exact ⟨bb hok.out.symm, hM2.bel⟩

        | true =>
          rw [h3] at hq
          go_upto_region 6 with (first | ((with_reducible refine wpList_load_mop (op := ⟨_, Op.load 23 _, _, _, _, _⟩) ?_ _ rfl _ _ _ _ ?_ hM2 ?_); rfl; rfl))
          have hM3 := hM2
          clear hM2
          have hlt3 := hlt2
          by_cases he : m.entries.length ≤ 48
          · by_cases hk0 : m.keys.length = 0
            · rw [hk0] at c15
              have hrest : Hid (m.ok = m.entries.all EntryD.ok) := by show _ = _; rw [hhd.out, all_len0 KeyD.ok m.keys hk0]; simp [HK.out, of_decide_eq_true h3, he, hk0]
              go_wp2_with fail
              go_loopw [92] (fun v wr => ∃ k : Nat, k ≤ m.entries.length ∧ v = .int .i64 k ∧ MsgIn w w.heap.size m s wr ∧ Hid ((m.entries.take k).all EntryD.ok = true)) (fun v _ => m.entries.length - (intOf v).toNat)
              case atStart => exact ⟨0, Nat.zero_le _, rfl, hM3, by show _ = _; simp⟩
              case round =>
                obtain ⟨k, hk, rfl, hMr, hall⟩ := hrel
                by_cases hlt : k < m.entries.length
                · obtain ⟨g, o, hA, hg, hrow⟩ := hMr.ents.at_ k _ (getD_map EntryD.cells m.entries EntryD.zero k hlt)
                  have hat := Lib.hid (all_take EntryD.ok m.entries EntryD.zero k hlt)
                  have haf := Lib.hid (all_false EntryD.ok m.entries EntryD.zero k hlt)
                  generalize m.entries.getD k EntryD.zero = x at *
                  have hin : (0 : Int) ≤ (k : Int) := by omega
                  rw [hA]
                  cases hx : x.ok with
                  | true =>
                    have hnext : Hid ((m.entries.take (k + 1)).all EntryD.ok = true) := by show _ = _; rw [hat.out, hall.out, hx]; rfl
                    have HX := Lib.hid hx
                    clear hx hat haf hall
                    obtain ⟨⟨kd, ks⟩, neg, ⟨id, kind, mode, target⟩⟩ := x
                    change wr.rangeAt g (o + k * 7) [.int .i64 kd, .string ks, .bool neg, .int .i64 id, .int .i64 kind, .int .i64 mode, .string target] at hrow
                    go_wp2_with (first | ((with_reducible refine wpList_load_mid (op := ⟨_, Op.load 47 _, _, _, _, _⟩) rfl _ _ rfl _ _ ?_ _ _ hrow Try.underlying47 rfl ?_ ?_); (focus (first | (go_simp; done) | (go_simp; rfl))); (focus (exact size_entry))))
                    refine (plainEntry_any ⟨⟨kd, ks⟩, neg, ⟨id, kind, mode, target⟩⟩ _).mono ?_
                    rintro e w6 ⟨rfl, b6⟩
                    rw [HX.out]
                    have hM6 := (hMr.al _).next b6
                    go_wp2_with fail
                    go_roundw
                    case rel => exact ⟨k + 1, by omega, by go_num, hM6, hnext⟩
                    case measure => simp [intOf]; omega
                  | false =>
                    have hfin := Lib.hid (hrest.out.trans (haf.out hx))
                    have HX := Lib.hid hx
                    clear hx hat haf hall hrest
                    obtain ⟨⟨kd, ks⟩, neg, ⟨id, kind, mode, target⟩⟩ := x
                    change wr.rangeAt g (o + k * 7) [.int .i64 kd, .string ks, .bool neg, .int .i64 id, .int .i64 kind, .int .i64 mode, .string target] at hrow
                    go_wp2_with (first | ((with_reducible refine wpList_load_mid (op := ⟨_, Op.load 47 _, _, _, _, _⟩) rfl _ _ rfl _ _ ?_ _ _ hrow Try.underlying47 rfl ?_ ?_); (focus (first | (go_simp; done) | (go_simp; rfl))); (focus (exact size_entry))))
                    refine (plainEntry_any ⟨⟨kd, ks⟩, neg, ⟨id, kind, mode, target⟩⟩ _).mono ?_
                    rintro e w6 ⟨rfl, b6⟩
                    rw [HX.out]
                    have hM6 := (hMr.al _).next b6
                    go_wp2_with fail
                    go_ret
                    exact ⟨bb hfin.out.symm, hM6.bel⟩
                · have hke : k = m.entries.length := by omega
                  have hfin : Hid (m.ok = true) := by
                    have := hall.out
                    rw [hke, List.take_length] at this
                    exact hrest.out.trans this
                  rw [hke]
                  clear hall hrest hk hlt
                  have hM4 := hMr
                  clear c14 c15 hMr
                  obtain ⟨-, -, -, -, -, -, -, -, c15⟩ := hM4.nums
                  have hlt4 := hM4.blk.lt
                  rw [hk0] at c15
                  go_wp2_with fail
                  go_loopw [103] (fun v wr => v = .int .i64 0 ∧ MsgIn w w.heap.size m s wr) (fun _ _ => 0)
                  case atStart => exact ⟨rfl, hM4⟩
                  case round =>
                    obtain ⟨rfl, hM5⟩ := hrel
                    go_wp2_with fail
                    go_ret
                    exact ⟨bb hfin.out.symm, hM5.bel⟩

            · have hok : Hid (m.ok = false) := by show _ = _; rw [hhd.out]; simp [HK.out, hk0]
              go_wp2_with fail
              go_ret
              exact ⟨bb hok.out.symm, hM3.bel⟩

          · have hok : Hid (m.ok = false) := by show _ = _; rw [hhd.out]; simp [HK.out, he]
            go_wp2_with fail
            go_ret
            exact ⟨bb hok.out.symm, hM3.bel⟩
      · have HK := Lib.hid hk
        rw [hk] at c0
        clear hk hkind
        go_quiet (fail)
        have hM2 := hM1.drewN nq
        generalize W1.drewN nq = W2 at *
        clear c0 c14 c15 hM1 hlt1
        obtain ⟨c0, -, -, -, -, -, -, c14, c15⟩ := hM2.nums
        have hlt2 := hM2.blk.lt

        have hq : ∀ W' : World, (binOp .neq 23 (.agg m.op.cells.toArray) (.agg #[.int .i64 0, .int .i64 0, .string ⟨#[]⟩, .int .i64 0, .string ⟨#[]⟩, .int .i64 0, .string ⟨#[]⟩])).run Try.prog W' = .ok (.bool (!decide (m.op = OpD.zero))) W' := fun W' => neq_run (w := W') rfl rfl (eq_op 9998 W' m.op OpD.zero)
        rw [HK.out] at c0
        cases h3 : decide (m.op = OpD.zero) with
        | false =>
          rw [h3] at hq
          go_wp2_with (first | ((with_reducible refine wpList_load_mop (op := ⟨_, Op.load 23 _, _, _, _, _⟩) ?_ _ rfl _ _ _ _ ?_ hM2 ?_); rfl; rfl))
          have hok : Hid (m.ok = false) := by show _ = _; rw [hhd.out]; simp [HK.out, of_decide_eq_false h3]
          go_ret
          exact ⟨bb hok.out.symm, hM2.bel⟩

        | true =>
          rw [h3] at hq
          go_upto_region 6 with (first | ((with_reducible refine wpList_load_mop (op := ⟨_, Op.load 23 _, _, _, _, _⟩) ?_ _ rfl _ _ _ _ ?_ hM2 ?_); rfl; rfl))
          have hM3 := hM2
          clear hM2
          have hlt3 := hlt2
          by_cases he0 : m.entries.length = 0
          · rw [he0] at c14
            by_cases hk0 : m.keys.length = 0
            · rw [hk0] at c15
              have hok : Hid (m.ok = false) := by show _ = _; rw [hhd.out]; simp [HK.out, hk0]
              go_wp2_with fail
              go_ret
              exact ⟨bb hok.out.symm, hM3.bel⟩

            · by_cases hk1 : m.keys.length ≤ 48
              · have hrest : Hid (m.ok = m.keys.all KeyD.ok) := by show _ = _; rw [hhd.out, all_len0 EntryD.ok m.entries he0]; simp [HK.out, of_decide_eq_true h3, he0, hk1]; omega
                go_wp2_with fail
                go_loopw [92] (fun v wr => v = .int .i64 0 ∧ MsgIn w w.heap.size m s wr) (fun _ _ => 0)
                case atStart => exact ⟨rfl, hM3⟩
                case round =>
                  clear c14 c15 hlt3
                  obtain ⟨rfl, hM4⟩ := hrel
                  obtain ⟨-, -, -, -, -, -, -, -, c15⟩ := hM4.nums
                  have hlt4 := hM4.blk.lt
                  skip
                  go_wp2_with fail
                  go_loopw [103] (fun v wr => ∃ k : Nat, k ≤ m.keys.length ∧ v = .int .i64 k ∧ MsgIn w w.heap.size m s wr ∧ Hid ((m.keys.take k).all KeyD.ok = true)) (fun v _ => m.keys.length - (intOf v).toNat)
                  case atStart => exact ⟨0, Nat.zero_le _, rfl, hM4, by show _ = _; simp⟩
                  case round =>
                    obtain ⟨k, hk, rfl, hMr, hall⟩ := hrel
                    by_cases hlt : k < m.keys.length
                    · obtain ⟨g, o, hA, hg, hrow⟩ := hMr.keys.at_ k _ (getD_map KeyD.cells m.keys KeyD.zero k hlt)
                      have hat := Lib.hid (all_take KeyD.ok m.keys KeyD.zero k hlt)
                      have haf := Lib.hid (all_false KeyD.ok m.keys KeyD.zero k hlt)
                      generalize m.keys.getD k KeyD.zero = x at *
                      have hin : (0 : Int) ≤ (k : Int) := by omega
                      rw [hA]
                      cases hx : x.ok with
                      | true =>
                        have hnext : Hid ((m.keys.take (k + 1)).all KeyD.ok = true) := by show _ = _; rw [hat.out, hall.out, hx]; rfl
                        have HX := Lib.hid hx
                        clear hx hat haf hall
                        obtain ⟨kd, ks⟩ := x
                        change wr.rangeAt g (o + k * 2) [.int .i64 kd, .string ks] at hrow
                        go_wp2_with (first | ((with_reducible refine wpList_load_mid (op := ⟨_, Op.load 43 _, _, _, _, _⟩) rfl _ _ rfl _ _ ?_ _ _ hrow Try.underlying43 rfl ?_ ?_); (focus (first | (go_simp; done) | (go_simp; rfl))); (focus (exact size_key))))
                        refine (plainKey_any ⟨kd, ks⟩ _).mono ?_
                        rintro e w6 ⟨rfl, b6⟩
                        rw [HX.out]
                        have hM6 := (hMr.al _).next b6
                        go_wp2_with fail
                        go_roundw
                        case rel => exact ⟨k + 1, by omega, by go_num, hM6, hnext⟩
                        case measure => simp [intOf]; omega
                      | false =>
                        have hfin := Lib.hid (hrest.out.trans (haf.out hx))
                        have HX := Lib.hid hx
                        clear hx hat haf hall hrest
                        obtain ⟨kd, ks⟩ := x
                        change wr.rangeAt g (o + k * 2) [.int .i64 kd, .string ks] at hrow
                        go_wp2_with (first | ((with_reducible refine wpList_load_mid (op := ⟨_, Op.load 43 _, _, _, _, _⟩) rfl _ _ rfl _ _ ?_ _ _ hrow Try.underlying43 rfl ?_ ?_); (focus (first | (go_simp; done) | (go_simp; rfl))); (focus (exact size_key))))
                        refine (plainKey_any ⟨kd, ks⟩ _).mono ?_
                        rintro e w6 ⟨rfl, b6⟩
                        rw [HX.out]
                        have hM6 := (hMr.al _).next b6
                        go_wp2_with fail
                        go_ret
                        exact ⟨bb hfin.out.symm, hM6.bel⟩
                    · have hke : k = m.keys.length := by omega
                      have hfin : Hid (m.ok = true) := by
                        have := hall.out
                        rw [hke, List.take_length] at this
                        exact hrest.out.trans this
                      rw [hke]
                      clear hall hrest hk hlt
                      skip
                      go_wp2_with fail
                      go_ret
                      exact ⟨bb hfin.out.symm, hMr.bel⟩

              · have hok : Hid (m.ok = false) := by show _ = _; rw [hhd.out]; simp [HK.out, hk1]
                go_wp2_with fail
                go_ret
                exact ⟨bb hok.out.symm, hM3.bel⟩

          · have hok : Hid (m.ok = false) := by show _ = _; rw [hhd.out]; simp [HK.out, he0]
            go_wp2_with fail
            go_ret
            exact ⟨bb hok.out.symm, hM3.bel⟩
      · have HK := Lib.hid hk
        rw [hk] at c0
        clear hk hkind
        go_quiet (fail)
        have hM2 := hM1.drewN nq
        generalize W1.drewN nq = W2 at *
        clear c0 c14 c15 hM1 hlt1
        obtain ⟨c0, -, -, -, -, -, -, c14, c15⟩ := hM2.nums
        have hlt2 := hM2.blk.lt

        have hq : ∀ W' : World, (binOp .neq 23 (.agg m.op.cells.toArray) (.agg #[.int .i64 0, .int .i64 0, .string ⟨#[]⟩, .int .i64 0, .string ⟨#[]⟩, .int .i64 0, .string ⟨#[]⟩])).run Try.prog W' = .ok (.bool (!decide (m.op = OpD.zero))) W' := fun W' => neq_run (w := W') rfl rfl (eq_op 9998 W' m.op OpD.zero)
        rw [HK.out] at c0
        cases h3 : decide (m.op = OpD.zero) with
        | false =>
          rw [h3] at hq
          go_wp2_with (first | ((with_reducible refine wpList_load_mop (op := ⟨_, Op.load 23 _, _, _, _, _⟩) ?_ _ rfl _ _ _ _ ?_ hM2 ?_); rfl; rfl))
          have hok : Hid (m.ok = false) := by show _ = _; rw [hhd.out]; simp [HK.out, of_decide_eq_false h3]
          go_ret
          exact ⟨bb hok.out.symm, hM2.bel⟩

        | true =>
          rw [h3] at hq
          go_upto_region 6 with (first | ((with_reducible refine wpList_load_mop (op := ⟨_, Op.load 23 _, _, _, _, _⟩) ?_ _ rfl _ _ _ _ ?_ hM2 ?_); rfl; rfl))
          have hM3 := hM2
          clear hM2
          have hlt3 := hlt2
          by_cases he0 : m.entries.length = 0
          · rw [he0] at c14
            by_cases hk0 : m.keys.length = 0
            · rw [hk0] at c15
              have hfin : Hid (m.ok = true) := by show _ = _; rw [hhd.out, all_len0 EntryD.ok m.entries he0, all_len0 KeyD.ok m.keys hk0]; simp [HK.out, of_decide_eq_true h3, he0, hk0]
              go_wp2_with fail
              go_loopw [92] (fun v wr => v = .int .i64 0 ∧ MsgIn w w.heap.size m s wr) (fun _ _ => 0)
              case atStart => exact ⟨rfl, hM3⟩
              case round =>
                clear c14 c15 hlt3
                obtain ⟨rfl, hM4⟩ := hrel
                obtain ⟨-, -, -, -, -, -, -, -, c15⟩ := hM4.nums
                have hlt4 := hM4.blk.lt
                rw [hk0] at c15
                go_wp2_with fail
                go_loopw [103] (fun v wr => v = .int .i64 0 ∧ MsgIn w w.heap.size m s wr) (fun _ _ => 0)
                case atStart => exact ⟨rfl, hM4⟩
                case round =>
                  obtain ⟨rfl, hM5⟩ := hrel
                  go_wp2_with fail
                  go_ret
                  exact ⟨bb hfin.out.symm, hM5.bel⟩

            · have hok : Hid (m.ok = false) := by show _ = _; rw [hhd.out]; simp [HK.out, hk0]
              go_wp2_with fail
              go_ret
              exact ⟨bb hok.out.symm, hM3.bel⟩

          · have hok : Hid (m.ok = false) := by show _ = _; rw [hhd.out]; simp [HK.out, he0]
            go_wp2_with fail
            go_ret
            exact ⟨bb hok.out.symm, hM3.bel⟩

end Go.Proofs.Ytmhcjkiaogimgaa
