/- WireUnlike: the walk. -/
import Derived.Test.YtmhcjkiaogimgaaLwF
import Derived.Deep.Cut
namespace Go.Proofs.Ytmhcjkiaogimgaa
open Go.RowKit

theorem unlike_msg {m o : MsgD} {e n e' n' : Nat} (h : MV m.ma m.mb e n) (k : MV o.ma o.mb e' n') (hm : m.ok = true) (ho : o.ok = true) : decide ((m.md e n).enc = (o.md e' n').enc) = m.same o := by
  have w1 := wrote2 m e n h hm
  have w2 := wrote2 o e' n' k ho
  by_cases hq : m.md e n = o.md e' n'
  · have h1 : (e : Int) = e' := congrArg MD.epoch hq
    have h2 : (n : Int) = n' := congrArg MD.number hq
    have h1 : e = e' := by omega
    have h2 : n = n' := by omega
    subst h1; subst h2
    have hs : m.same o = true := by
      have := mv_same h k
      have a1 : m.kind = o.kind := congrArg MD.kind hq
      have a2 : m.client = o.client := congrArg MD.client hq
      have a3 : m.life = o.life := congrArg MD.life hq
      have a4 : m.seq = o.seq := congrArg MD.seq hq
      have a5 : m.version = o.version := congrArg MD.version hq
      have a6 : m.err = o.err := congrArg MD.err hq
      have a7 : m.op = o.op := congrArg MD.op hq
      have a8 : m.entries = o.entries := congrArg MD.entries hq
      have a9 : m.keys = o.keys := congrArg MD.keys hq
      unfold MsgD.same
      rw [this, a1, a2, a3, a4, a5, a6, a7, a8, a9]
      simp
    rw [hs, hq]
    simp
  · have hne : (m.md e n).enc ≠ (o.md e' n').enc := fun he => hq (by
      have d1 := dec_enc w1.ok w1.ep w1.nu
      have d2 := dec_enc w2.ok w2.ep w2.nu
      rw [he, d2] at d1
      injection d1 with d1
      exact d1.symm)
    rw [decide_eq_false hne]
    cases hs : m.same o with
    | false => rfl
    | true =>
      refine absurd ?_ hq
      unfold MsgD.same at hs
      simp only [Bool.and_eq_true, decide_eq_true_eq] at hs
      obtain ⟨a1, a2, a3, a4, ⟨f1, f2⟩, a5, a6, a7, a8, a9⟩ := hs
      have h1 := feq_val h.re k.re f1
      have h2 := feq_val h.im k.im f2
      have h1 : e = e' := by omega
      have h2 : n = n' := by omega
      subst h1; subst h2
      unfold MsgD.md
      rw [a1, a2, a3, a4, a5, a6, a7, a8, a9]
theorem both_two (m o : MsgD) : ∃ l1 E1 l2 E2, BothMsg m l1 E1 ∧ BothMsg o l2 E2 ∧ (E1 = 50 ∨ (E1 = 0 ∧ E2 = 50) ∨ (E1 = 0 ∧ E2 = 0 ∧ decide (l1 = l2) = m.same o)) := by
  obtain ⟨l1, E1, b1, h1⟩ := both_cases m
  obtain ⟨l2, E2, b2, h2⟩ := both_cases o
  refine ⟨l1, E1, l2, E2, b1, b2, ?_⟩
  rcases h1 with ⟨h, _⟩ | ⟨e, n, hmv, hok, hl, hE⟩
  · exact .inl h
  · rcases h2 with ⟨h, _⟩ | ⟨e', n', hmv', hok', hl', hE'⟩
    · exact .inr (.inl ⟨hE, h⟩)
    · exact .inr (.inr ⟨hE, hE', by rw [hl, hl']; exact unlike_msg hmv hmv' hok hok'⟩)
theorem unlike_note (n p : NoteD) : n.packE = 50 ∨ (n.packE = 0 ∧ p.packE = 50) ∨ (n.packE = 0 ∧ p.packE = 0 ∧ decide (n.packL = p.packL) = decide (n = p)) := by
  unfold NoteD.packE NoteD.packL
  cases h1 : n.ok with
  | false => exact .inl rfl
  | true =>
    cases h2 : p.ok with
    | false => exact .inr (.inl ⟨rfl, rfl⟩)
    | true =>
      refine .inr (.inr ⟨rfl, rfl, ?_⟩)
      simp only [if_true]
      refine decide_eq_decide.2 ⟨fun h => ?_, fun h => by rw [h]⟩
      have d1 := unp_enc h1
      have d2 := unp_enc h2
      rw [h, d2] at d1
      injection d1 with d1
      exact d1.symm

/-- The four arguments, in their boxes. -/
structure Four (w : World) (g1 g2 g3 g4 : Nat) (m o : MD) (s t : Sls) (n p : NoteD) : Prop where
  m : MAt w g1 m s
  o : MAt w g2 o t
  n : NoteAt w g3 n
  p : NoteAt w g4 p
theorem Four.below {w w' : World} {g1 g2 g3 g4 : Nat} {m o : MD} {s t : Sls} {n p : NoteD} (h : Four w g1 g2 g3 g4 m o s t n p) (b : Below w.heap.size w w') : Four w' g1 g2 g3 g4 m o s t n p := ⟨h.m.below b, h.o.below b, h.n.below b, h.p.below b⟩

set_option maxRecDepth 100000 in
set_option maxHeartbeats 16000000 in
theorem unlike_law (m : MD) (s : Sls) (xs : Array Value) {W : World} (hx : MArg W xs m s) (o : MD) (t : Sls) (ys : Array Value) (hy : MArg W ys o t) (n p : NoteD) :
    Calls Try.prog 6 #[.agg xs, .agg ys, .agg n.cells.toArray, .agg p.cells.toArray] W fun e w' => e = .returned (.bool true) ∧ Below W.heap.size W w' := by
  obtain ⟨ns, hns⟩ : ∃ ns, ns = n.cells.toArray := ⟨_, rfl⟩
  obtain ⟨ps, hps⟩ : ∃ ps, ps = p.cells.toArray := ⟨_, rfl⟩
  have HA : Hid (∀ V, V = (((W.alloc (.cells xs 27)).alloc (.cells ys 27)).alloc (.cells ns 51)).alloc (.cells ps 51) → Four V W.heap.size (W.heap.size + 1) (W.heap.size + 1 + 1) (W.heap.size + 1 + 1 + 1) m o s t n p ∧ Below W.heap.size W V) := by
    rintro V rfl
    obtain ⟨a1, b1⟩ := hx.box _ rfl
    obtain ⟨a2, b2⟩ := (hy.below b1).box _ rfl
    obtain ⟨a3, b3⟩ := nat_add n ((W.alloc (.cells xs 27)).alloc (.cells ys 27)) _ rfl
    obtain ⟨a4, b4⟩ := nat_add p (((W.alloc (.cells xs 27)).alloc (.cells ys 27)).alloc (.cells n.cells.toArray 51)) _ rfl
    rw [hns, hps]
    have e1 : (W.alloc (.cells xs 27)).heap.size = W.heap.size + 1 := by simp
    have e2 : ((W.alloc (.cells xs 27)).alloc (.cells ys 27)).heap.size = W.heap.size + 1 + 1 := by simp
    have e3 : (((W.alloc (.cells xs 27)).alloc (.cells ys 27)).alloc (.cells n.cells.toArray 51)).heap.size = W.heap.size + 1 + 1 + 1 := by simp
    rw [e1] at a2
    rw [e2] at a3
    rw [e3] at a4
    exact ⟨⟨((a1.below b2).below b3).below b4, (a2.below b3).below b4, a3.below b4, a4⟩, bel_next (bel_next (bel_next b1 b2) b3) b4⟩
  rw [← hns, ← hps]
  obtain ⟨l1, E1, l2, E2, P1, P2, hC⟩ := both_two m.msg o.msg
  have HP1 := Lib.hid P1
  have HP2 := Lib.hid P2
  have HC := Lib.hid hC
  have HCN := Lib.hid (unlike_note n p)
  clear hns hps hx hy P1 P2 hC
  go_enter Try.func6, Try.ntmps6
  go_upto_region 1 with fail
  obtain ⟨V, hV⟩ : ∃ V, V = (((W.alloc (.cells xs 27)).alloc (.cells ys 27)).alloc (.cells ns 51)).alloc (.cells ps 51) := ⟨_, rfl⟩
  obtain ⟨hF, hB⟩ := HA.out V hV
  rw [← hV]
  clear hV HA
  obtain ⟨g1, hg1⟩ : ∃ g, W.heap.size = g := ⟨_, rfl⟩
  rw [hg1] at hF ⊢
  generalize hg2 : g1 + 1 = g2 at hF ⊢
  generalize hg3 : g2 + 1 = g3 at hF ⊢
  generalize hg4 : g3 + 1 = g4 at hF ⊢
  clear hg1 hg2 hg3 hg4
  have hm := hF.m
  have HF := Lib.hid hF
  clear hF
  go_wp2_with (((with_reducible refine wpList_load_m (op := ⟨_, Op.load 27 _, _, _, _, _⟩) rfl _ rfl _ _ _ ?_ hm ?_); rfl))
  refine (msg_any m s _ _ HF.out.m.arg).mono ?_
  rintro e w1 ⟨y1, s1, rfl, a1, b1⟩
  have HF1 := Lib.hid (HF.out.below b1)
  have B1 := Lib.hid (bel_next hB b1)
  clear b1 HF hB hm
  go_wp2_with fail
  refine (HP1.out.prog _ _ _ a1).mono ?_
  rintro e w2 ⟨A, c, rfl, o1, b1⟩
  have HF2 := Lib.hid (HF1.out.below b1)
  have B2 := Lib.hid (bel_next B1.out b1)
  have r2 := rd_of_own o1
  have hlen1 := Lib.hid (own_len o1)
  clear b1 HF1 B1 a1 o1
  have hm := HF2.out.o
  go_wp2_with (((with_reducible refine wpList_load_m (op := ⟨_, Op.load 27 _, _, _, _, _⟩) rfl _ rfl _ _ _ ?_ hm ?_); rfl))
  refine (msg_any o t _ _ HF2.out.o.arg).mono ?_
  rintro e w3 ⟨y2, s2, rfl, a2, b2⟩
  have HF3 := Lib.hid (HF2.out.below b2)
  have B3 := Lib.hid (bel_next B2.out b2)
  have r3 := r2.below b2
  clear b2 HF2 B2 hm r2
  go_wp2_with fail
  refine (HP2.out.prog _ _ _ a2).mono ?_
  rintro e w4 ⟨A2, c2, rfl, o2, b2⟩
  have HF4 := Lib.hid (HF3.out.below b2)
  have B4 := Lib.hid (bel_next B3.out b2)
  have R1 := Lib.hid (r3.below b2)
  have R2 := Lib.hid (rd_of_own o2)
  have hlen2 := Lib.hid (own_len o2)
  clear b2 HF3 B3 r3 a2 o2 HP1 HP2
  go_upto_region 3 with fail
  go_cut [45] from 29 (fun v45 wx => v45 = .bool false ∧ Four wx g1 g2 g3 g4 m o s t n p ∧ Below W.heap.size W wx)
  case first =>
    rcases HC.out with rfl | ⟨rfl, rfl⟩ | ⟨rfl, rfl, hEQ⟩
    · as_aux_lemma =>
        clear HC HCN
        go_quiet (fail)
        go_wp2_with fail
        go_meet
        exact ⟨rfl, HF4.out.below ((Drawn.refl w4).drewN _ |>.below _), bel_next B4.out ((Drawn.refl w4).drewN _ |>.below _)⟩
    · as_aux_lemma =>
        clear HC HCN
        go_quiet (fail)
        go_wp2_with fail
        go_meet
        exact ⟨rfl, HF4.out.below ((Drawn.refl w4).drewN _ |>.below _), bel_next B4.out ((Drawn.refl w4).drewN _ |>.below _)⟩
    · have hF5 := HF4.out.below ((Drawn.refl w4).drew.below _)
      have B5 := Lib.hid (bel_next B4.out ((Drawn.refl w4).drew.below _))
      have R3 := Lib.hid (R1.out.below ((Drawn.refl w4).drew.below _))
      have R4 := Lib.hid (R2.out.below ((Drawn.refl w4).drew.below _))
      clear HF4 B4 R1 R2 HC HCN
      have HF5 := Lib.hid hF5
      have hS5 : w4.drew.rangeAt g1 0 (m.cells s) ∧ w4.drew.rangeAt g2 0 (o.cells t) := ⟨hF5.m.all, hF5.o.all⟩
      clear hF5
      have HEQ := Lib.hid hEQ
      clear hEQ
      cases hsm : m.msg.same o.msg with
      | false =>
        as_aux_lemma =>
          rw [hsm] at HEQ
          refine wp_region_held_drew (S := fun w' => w'.rangeAt g1 0 (m.cells s) ∧ w'.rangeAt g2 0 (o.cells t)) (by kernel_rfl) hS5 (fun hHeld => ?_)
          generalize w4.drew = w5 at *
          refine' wpAnyH_take (i := 0) (oi := { dst := some 29, op := Op.move (Operand.tmp 10), type := 29, pos := "outright.go:13", after := #[], guard := none }) (v := ?v1) rfl (by kernel_rfl) (by kernel_rfl) (by kernel_rfl) (fun _ _ _ h => h) (Or.inl ⟨by rfl, ?hy1⟩) (by assumption) ?rest1
          case hy1 => (intro w hSw; go_simp; (try with_reducible rfl))
          simp only [Act.put, List.setIfInBounds_toArray, List.set_cons_zero, List.set_cons_succ]
          refine' wpAnyH_take (i := 1) (oi := { dst := some 30, op := Op.binOp BinOp.eql 29 (Operand.tmp 29) (Operand.const (Value.int IntKind.i64 0)) 29, type := 4, pos := "outright.go:13", after := #[{ on := 0, ground := Ground.data }], guard := none }) (v := ?v2) rfl (by kernel_rfl) (by kernel_rfl) (by kernel_rfl) (fun _ _ _ h => h) (Or.inl ⟨by rfl, ?hy2⟩) (by assumption) ?rest2
          case hy2 => (intro w hSw; go_simp; (try with_reducible rfl))
          simp only [Act.put, List.setIfInBounds_toArray, List.set_cons_zero, List.set_cons_succ]
          refine' wpAnyH_take (i := 2) (oi := { dst := some 31, op := Op.move (Operand.tmp 30), type := 4, pos := "outright.go:13", after := #[{ on := 1, ground := Ground.data }], guard := none }) (v := ?v3) rfl (by kernel_rfl) (by kernel_rfl) (by kernel_rfl) (fun _ _ _ h => h) (Or.inl ⟨by rfl, ?hy3⟩) (by assumption) ?rest3
          case hy3 => (intro w hSw; go_simp; (try with_reducible rfl))
          simp only [Act.put, List.setIfInBounds_toArray, List.set_cons_zero, List.set_cons_succ]
          refine' wpAnyH_take (i := 3) (oi := { dst := some 32, op := Op.move (Operand.tmp 12), type := 29, pos := "outright.go:13", after := #[{ on := 2, ground := Ground.guard }], guard := some (2, true) }) (v := ?v4) rfl (by kernel_rfl) (by kernel_rfl) (by kernel_rfl) (fun _ _ _ h => h) (Or.inl ⟨by rfl, ?hy4⟩) (by assumption) ?rest4
          case hy4 => (intro w hSw; go_simp; (try with_reducible rfl))
          simp only [Act.put, List.setIfInBounds_toArray, List.set_cons_zero, List.set_cons_succ]
          refine' wpAnyH_take (i := 4) (oi := { dst := some 33, op := Op.binOp BinOp.eql 29 (Operand.tmp 32) (Operand.const (Value.int IntKind.i64 0)) 29, type := 4, pos := "outright.go:13", after := #[{ on := 3, ground := Ground.data }, { on := 2, ground := Ground.guard }], guard := some (2, true) }) (v := ?v5) rfl (by kernel_rfl) (by kernel_rfl) (by kernel_rfl) (fun _ _ _ h => h) (Or.inl ⟨by rfl, ?hy5⟩) (by assumption) ?rest5
          case hy5 => (intro w hSw; go_simp; (try with_reducible rfl))
          simp only [Act.put, List.setIfInBounds_toArray, List.set_cons_zero, List.set_cons_succ]
          refine' wpAnyH_take (i := 5) (oi := { dst := some 34, op := Op.pick (Operand.tmp 31) (Operand.tmp 33) (Operand.const (Value.bool false)), type := 4, pos := "outright.go:13", after := #[{ on := 2, ground := Ground.data }, { on := 4, ground := Ground.data }], guard := none }) (v := ?v6) rfl (by kernel_rfl) (by kernel_rfl) (by kernel_rfl) (fun _ _ _ h => h) (Or.inl ⟨by rfl, ?hy6⟩) (by assumption) ?rest6
          case hy6 => (intro w hSw; go_simp; (try with_reducible rfl))
          simp only [Act.put, List.setIfInBounds_toArray, List.set_cons_zero, List.set_cons_succ]
          refine' wpAnyH_take (i := 6) (oi := { dst := some 35, op := Op.move (Operand.tmp 34), type := 4, pos := "outright.go:13", after := #[{ on := 5, ground := Ground.data }, { on := 2, ground := Ground.chain }], guard := none }) (v := ?v7) rfl (by kernel_rfl) (by kernel_rfl) (by kernel_rfl) (fun _ _ _ h => h) (Or.inl ⟨by rfl, ?hy7⟩) (by assumption) ?rest7
          case hy7 => (intro w hSw; go_simp; (try with_reducible rfl))
          simp only [Act.put, List.setIfInBounds_toArray, List.set_cons_zero, List.set_cons_succ]
          refine' wpAnyH_take (i := 7) (oi := { dst := some 36, op := Op.move (Operand.tmp 9), type := 28, pos := "outright.go:13", after := #[{ on := 6, ground := Ground.guard }], guard := some (6, true) }) (v := ?v8) rfl (by kernel_rfl) (by kernel_rfl) (by kernel_rfl) (fun _ _ _ h => h) (Or.inl ⟨by rfl, ?hy8⟩) (by assumption) ?rest8
          case hy8 => (intro w hSw; go_simp; (try with_reducible rfl))
          simp only [Act.put, List.setIfInBounds_toArray, List.set_cons_zero, List.set_cons_succ]
          refine' wpAnyH_take (i := 8) (oi := { dst := some 37, op := Op.move (Operand.tmp 11), type := 28, pos := "outright.go:13", after := #[{ on := 6, ground := Ground.guard }], guard := some (6, true) }) (v := ?v9) rfl (by kernel_rfl) (by kernel_rfl) (by kernel_rfl) (fun _ _ _ h => h) (Or.inl ⟨by rfl, ?hy9⟩) (by assumption) ?rest9
          case hy9 => (intro w hSw; go_simp; (try with_reducible rfl))
          simp only [Act.put, List.setIfInBounds_toArray, List.set_cons_zero, List.set_cons_succ]
          refine' wpAnyH_take (i := 10) (oi := { dst := some 39, op := Op.load 27 (Operand.tmp 4), type := 27, pos := "outright.go:13", after := #[{ on := 6, ground := Ground.guard }], guard := some (6, true) }) (v := _) rfl (by kernel_rfl) (by kernel_rfl) (by kernel_rfl) (fun _ _ _ h => h) (yieldsIf_load_mid (by rfl) _ _ rfl _ _ rfl (m.cells s) _ (fun w h => h.1) Try.underlying27 rfl size_m) (by assumption) ?_
          simp only [Act.put, List.setIfInBounds_toArray, List.set_cons_zero, List.set_cons_succ]
          refine' wpAnyH_take (i := 12) (oi := { dst := some 41, op := Op.load 27 (Operand.tmp 5), type := 27, pos := "outright.go:13", after := #[{ on := 6, ground := Ground.guard }], guard := some (6, true) }) (v := _) rfl (by kernel_rfl) (by kernel_rfl) (by kernel_rfl) (fun _ _ _ h => h) (yieldsIf_load_mid (by rfl) _ _ rfl _ _ rfl (o.cells t) _ (fun w h => h.2) Try.underlying27 rfl size_m) (by assumption) ?_
          simp only [Act.put, List.setIfInBounds_toArray, List.set_cons_zero, List.set_cons_succ]
          refine wpAnyH_ready (rs := [9]) (by kernel_rfl) (by simp) ?_
          refine AllReadyH.cons (o := { dst := some 38, op := Op.call { callee := Callee.value (Operand.func 17), args := #[Operand.tmp 36, Operand.tmp 37], argTypes := #[28, 28] }, type := 4, pos := "outright.go:13", after := #[{ on := 7, ground := Ground.data }, { on := 8, ground := Ground.data }, { on := 6, ground := Ground.chain }, { on := 6, ground := Ground.guard }], guard := some (6, true) }) rfl (fun K hK => ?_) AllReadyH.nil
          go_simp
          refine (same_any A A2 c c2 l1 l2 w5 R3.out R4.out hlen1.out hlen2.out).mono ?_
          rw [HEQ.out]
          rintro e w6 ⟨rfl, d6⟩
          have HF6 := Lib.hid (HF5.out.below (d6.below _))
          have B6 := Lib.hid (bel_next B5.out (d6.below _))
          have hS6 : w6.rangeAt g1 0 (m.cells s) ∧ w6.rangeAt g2 0 (o.cells t) := ⟨HF6.out.m.all, HF6.out.o.all⟩
          clear d6
          go_wp2_with fail
          refine hK.out _ _ hS6 (fun hHeld => ?_)
          clear hK K
          try simp only [Act.put, List.setIfInBounds_toArray, List.set_cons_zero, List.set_cons_succ]
          refine wpAnyH_ready (rs := [11]) (by kernel_rfl) (by simp) ?_
          refine AllReadyH.cons (o := { dst := some 40, op := Op.call { callee := Callee.value (Operand.func 15), args := #[Operand.tmp 39], argTypes := #[27] }, type := 34, pos := "outright.go:13", after := #[{ on := 10, ground := Ground.data }, { on := 9, ground := Ground.chain }, { on := 6, ground := Ground.guard }], guard := some (6, true) }) rfl (fun K hK => ?_) AllReadyH.nil
          go_simp
          refine (msg_any m s _ _ HF6.out.m.arg).mono ?_
          rintro e w7 ⟨y7, s7, rfl, a7, b7⟩
          have HF7 := Lib.hid (HF6.out.below b7)
          have B7 := Lib.hid (bel_next B6.out b7)
          have hS7 : w7.rangeAt g1 0 (m.cells s) ∧ w7.rangeAt g2 0 (o.cells t) := ⟨HF7.out.m.all, HF7.out.o.all⟩
          have A7 := Lib.hid a7
          clear b7 a7
          go_wp2_with fail
          refine hK.out _ _ hS7 (fun hHeld => ?_)
          clear hK K
          try simp only [Act.put, List.setIfInBounds_toArray, List.set_cons_zero, List.set_cons_succ]
          refine wpAnyH_ready (rs := [13]) (by kernel_rfl) (by simp) ?_
          refine AllReadyH.cons (o := { dst := some 42, op := Op.call { callee := Callee.value (Operand.func 15), args := #[Operand.tmp 41], argTypes := #[27] }, type := 34, pos := "outright.go:13", after := #[{ on := 12, ground := Ground.data }, { on := 11, ground := Ground.chain }, { on := 6, ground := Ground.guard }], guard := some (6, true) }) rfl (fun K hK => ?_) AllReadyH.nil
          go_simp
          refine (msg_any o t _ _ HF7.out.o.arg).mono ?_
          rintro e w8 ⟨y8, s8, rfl, a8, b8⟩
          have HF8 := Lib.hid (HF7.out.below b8)
          have B8 := Lib.hid (bel_next B7.out b8)
          have hS8 : w8.rangeAt g1 0 (m.cells s) ∧ w8.rangeAt g2 0 (o.cells t) := ⟨HF8.out.m.all, HF8.out.o.all⟩
          have A8 := Lib.hid a8
          have A7 := Lib.hid (A7.out.below b8)
          clear b8 a8
          go_wp2_with fail
          refine hK.out _ _ hS8 (fun hHeld => ?_)
          clear hK K
          try simp only [Act.put, List.setIfInBounds_toArray, List.set_cons_zero, List.set_cons_succ]
          refine wpAnyH_ready (rs := [14]) (by kernel_rfl) (by simp) ?_
          refine AllReadyH.cons (o := { dst := some 43, op := Op.call { callee := Callee.value (Operand.func 21), args := #[Operand.tmp 40, Operand.tmp 42], argTypes := #[34, 34] }, type := 4, pos := "outright.go:13", after := #[{ on := 11, ground := Ground.data }, { on := 13, ground := Ground.data }, { on := 13, ground := Ground.chain }, { on := 6, ground := Ground.guard }], guard := some (6, true) }) rfl (fun K hK => ?_) AllReadyH.nil
          go_simp
          refine (sameMsg_any m.msg o.msg s7 s8 y7 y8 w8 A7.out A8.out HF8.out.m.row.1 HF8.out.m.row.2).mono ?_
          rw [hsm]
          rintro e w9 ⟨rfl, b9⟩
          have HF9 := Lib.hid (HF8.out.below b9)
          have B9 := Lib.hid (bel_next B8.out b9)
          have hS9 : w9.rangeAt g1 0 (m.cells s) ∧ w9.rangeAt g2 0 (o.cells t) := ⟨HF9.out.m.all, HF9.out.o.all⟩
          clear b9
          go_wp2_with fail
          refine hK.out _ _ hS9 (fun hHeld => ?_)
          clear hK K
          try simp only [Act.put, List.setIfInBounds_toArray, List.set_cons_zero, List.set_cons_succ]
          refine' wpAnyH_take (i := 15) (oi := { dst := some 44, op := Op.binOp BinOp.neq 4 (Operand.tmp 38) (Operand.tmp 43) 4, type := 4, pos := "outright.go:13", after := #[{ on := 9, ground := Ground.data }, { on := 14, ground := Ground.data }, { on := 6, ground := Ground.guard }], guard := some (6, true) }) (v := ?v10) rfl (by kernel_rfl) (by kernel_rfl) (by kernel_rfl) (fun _ _ _ h => h) (Or.inl ⟨by rfl, ?hy10⟩) (by assumption) ?rest10
          case hy10 => (intro w hSw; go_simp; (try with_reducible rfl))
          simp only [Act.put, List.setIfInBounds_toArray, List.set_cons_zero, List.set_cons_succ]
          refine' wpAnyH_take (i := 16) (oi := { dst := some 45, op := Op.pick (Operand.tmp 35) (Operand.tmp 44) (Operand.const (Value.bool false)), type := 4, pos := "outright.go:13", after := #[{ on := 6, ground := Ground.data }, { on := 15, ground := Ground.data }], guard := none }) (v := ?v11) rfl (by kernel_rfl) (by kernel_rfl) (by kernel_rfl) (fun _ _ _ h => h) (Or.inl ⟨by rfl, ?hy11⟩) (by assumption) ?rest11
          case hy11 => (intro w hSw; go_simp; (try with_reducible rfl))
          simp only [Act.put, List.setIfInBounds_toArray, List.set_cons_zero, List.set_cons_succ]
          refine wpAnyH_done (by kernel_rfl) ?_ _
          go_wp2_with fail
          go_meet
          exact ⟨rfl, HF9.out, B9.out⟩
      | true =>
        as_aux_lemma =>
          rw [hsm] at HEQ
          refine wp_region_held_drew (S := fun w' => w'.rangeAt g1 0 (m.cells s) ∧ w'.rangeAt g2 0 (o.cells t)) (by kernel_rfl) hS5 (fun hHeld => ?_)
          generalize w4.drew = w5 at *
          refine' wpAnyH_take (i := 0) (oi := { dst := some 29, op := Op.move (Operand.tmp 10), type := 29, pos := "outright.go:13", after := #[], guard := none }) (v := ?v12) rfl (by kernel_rfl) (by kernel_rfl) (by kernel_rfl) (fun _ _ _ h => h) (Or.inl ⟨by rfl, ?hy12⟩) (by assumption) ?rest12
          case hy12 => (intro w hSw; go_simp; (try with_reducible rfl))
          simp only [Act.put, List.setIfInBounds_toArray, List.set_cons_zero, List.set_cons_succ]
          refine' wpAnyH_take (i := 1) (oi := { dst := some 30, op := Op.binOp BinOp.eql 29 (Operand.tmp 29) (Operand.const (Value.int IntKind.i64 0)) 29, type := 4, pos := "outright.go:13", after := #[{ on := 0, ground := Ground.data }], guard := none }) (v := ?v13) rfl (by kernel_rfl) (by kernel_rfl) (by kernel_rfl) (fun _ _ _ h => h) (Or.inl ⟨by rfl, ?hy13⟩) (by assumption) ?rest13
          case hy13 => (intro w hSw; go_simp; (try with_reducible rfl))
          simp only [Act.put, List.setIfInBounds_toArray, List.set_cons_zero, List.set_cons_succ]
          refine' wpAnyH_take (i := 2) (oi := { dst := some 31, op := Op.move (Operand.tmp 30), type := 4, pos := "outright.go:13", after := #[{ on := 1, ground := Ground.data }], guard := none }) (v := ?v14) rfl (by kernel_rfl) (by kernel_rfl) (by kernel_rfl) (fun _ _ _ h => h) (Or.inl ⟨by rfl, ?hy14⟩) (by assumption) ?rest14
          case hy14 => (intro w hSw; go_simp; (try with_reducible rfl))
          simp only [Act.put, List.setIfInBounds_toArray, List.set_cons_zero, List.set_cons_succ]
          refine' wpAnyH_take (i := 3) (oi := { dst := some 32, op := Op.move (Operand.tmp 12), type := 29, pos := "outright.go:13", after := #[{ on := 2, ground := Ground.guard }], guard := some (2, true) }) (v := ?v15) rfl (by kernel_rfl) (by kernel_rfl) (by kernel_rfl) (fun _ _ _ h => h) (Or.inl ⟨by rfl, ?hy15⟩) (by assumption) ?rest15
          case hy15 => (intro w hSw; go_simp; (try with_reducible rfl))
          simp only [Act.put, List.setIfInBounds_toArray, List.set_cons_zero, List.set_cons_succ]
          refine' wpAnyH_take (i := 4) (oi := { dst := some 33, op := Op.binOp BinOp.eql 29 (Operand.tmp 32) (Operand.const (Value.int IntKind.i64 0)) 29, type := 4, pos := "outright.go:13", after := #[{ on := 3, ground := Ground.data }, { on := 2, ground := Ground.guard }], guard := some (2, true) }) (v := ?v16) rfl (by kernel_rfl) (by kernel_rfl) (by kernel_rfl) (fun _ _ _ h => h) (Or.inl ⟨by rfl, ?hy16⟩) (by assumption) ?rest16
          case hy16 => (intro w hSw; go_simp; (try with_reducible rfl))
          simp only [Act.put, List.setIfInBounds_toArray, List.set_cons_zero, List.set_cons_succ]
          refine' wpAnyH_take (i := 5) (oi := { dst := some 34, op := Op.pick (Operand.tmp 31) (Operand.tmp 33) (Operand.const (Value.bool false)), type := 4, pos := "outright.go:13", after := #[{ on := 2, ground := Ground.data }, { on := 4, ground := Ground.data }], guard := none }) (v := ?v17) rfl (by kernel_rfl) (by kernel_rfl) (by kernel_rfl) (fun _ _ _ h => h) (Or.inl ⟨by rfl, ?hy17⟩) (by assumption) ?rest17
          case hy17 => (intro w hSw; go_simp; (try with_reducible rfl))
          simp only [Act.put, List.setIfInBounds_toArray, List.set_cons_zero, List.set_cons_succ]
          refine' wpAnyH_take (i := 6) (oi := { dst := some 35, op := Op.move (Operand.tmp 34), type := 4, pos := "outright.go:13", after := #[{ on := 5, ground := Ground.data }, { on := 2, ground := Ground.chain }], guard := none }) (v := ?v18) rfl (by kernel_rfl) (by kernel_rfl) (by kernel_rfl) (fun _ _ _ h => h) (Or.inl ⟨by rfl, ?hy18⟩) (by assumption) ?rest18
          case hy18 => (intro w hSw; go_simp; (try with_reducible rfl))
          simp only [Act.put, List.setIfInBounds_toArray, List.set_cons_zero, List.set_cons_succ]
          refine' wpAnyH_take (i := 7) (oi := { dst := some 36, op := Op.move (Operand.tmp 9), type := 28, pos := "outright.go:13", after := #[{ on := 6, ground := Ground.guard }], guard := some (6, true) }) (v := ?v19) rfl (by kernel_rfl) (by kernel_rfl) (by kernel_rfl) (fun _ _ _ h => h) (Or.inl ⟨by rfl, ?hy19⟩) (by assumption) ?rest19
          case hy19 => (intro w hSw; go_simp; (try with_reducible rfl))
          simp only [Act.put, List.setIfInBounds_toArray, List.set_cons_zero, List.set_cons_succ]
          refine' wpAnyH_take (i := 8) (oi := { dst := some 37, op := Op.move (Operand.tmp 11), type := 28, pos := "outright.go:13", after := #[{ on := 6, ground := Ground.guard }], guard := some (6, true) }) (v := ?v20) rfl (by kernel_rfl) (by kernel_rfl) (by kernel_rfl) (fun _ _ _ h => h) (Or.inl ⟨by rfl, ?hy20⟩) (by assumption) ?rest20
          case hy20 => (intro w hSw; go_simp; (try with_reducible rfl))
          simp only [Act.put, List.setIfInBounds_toArray, List.set_cons_zero, List.set_cons_succ]
          refine' wpAnyH_take (i := 10) (oi := { dst := some 39, op := Op.load 27 (Operand.tmp 4), type := 27, pos := "outright.go:13", after := #[{ on := 6, ground := Ground.guard }], guard := some (6, true) }) (v := _) rfl (by kernel_rfl) (by kernel_rfl) (by kernel_rfl) (fun _ _ _ h => h) (yieldsIf_load_mid (by rfl) _ _ rfl _ _ rfl (m.cells s) _ (fun w h => h.1) Try.underlying27 rfl size_m) (by assumption) ?_
          simp only [Act.put, List.setIfInBounds_toArray, List.set_cons_zero, List.set_cons_succ]
          refine' wpAnyH_take (i := 12) (oi := { dst := some 41, op := Op.load 27 (Operand.tmp 5), type := 27, pos := "outright.go:13", after := #[{ on := 6, ground := Ground.guard }], guard := some (6, true) }) (v := _) rfl (by kernel_rfl) (by kernel_rfl) (by kernel_rfl) (fun _ _ _ h => h) (yieldsIf_load_mid (by rfl) _ _ rfl _ _ rfl (o.cells t) _ (fun w h => h.2) Try.underlying27 rfl size_m) (by assumption) ?_
          simp only [Act.put, List.setIfInBounds_toArray, List.set_cons_zero, List.set_cons_succ]
          refine wpAnyH_ready (rs := [9]) (by kernel_rfl) (by simp) ?_
          refine AllReadyH.cons (o := { dst := some 38, op := Op.call { callee := Callee.value (Operand.func 17), args := #[Operand.tmp 36, Operand.tmp 37], argTypes := #[28, 28] }, type := 4, pos := "outright.go:13", after := #[{ on := 7, ground := Ground.data }, { on := 8, ground := Ground.data }, { on := 6, ground := Ground.chain }, { on := 6, ground := Ground.guard }], guard := some (6, true) }) rfl (fun K hK => ?_) AllReadyH.nil
          go_simp
          refine (same_any A A2 c c2 l1 l2 w5 R3.out R4.out hlen1.out hlen2.out).mono ?_
          rw [HEQ.out]
          rintro e w6 ⟨rfl, d6⟩
          have HF6 := Lib.hid (HF5.out.below (d6.below _))
          have B6 := Lib.hid (bel_next B5.out (d6.below _))
          have hS6 : w6.rangeAt g1 0 (m.cells s) ∧ w6.rangeAt g2 0 (o.cells t) := ⟨HF6.out.m.all, HF6.out.o.all⟩
          clear d6
          go_wp2_with fail
          refine hK.out _ _ hS6 (fun hHeld => ?_)
          clear hK K
          try simp only [Act.put, List.setIfInBounds_toArray, List.set_cons_zero, List.set_cons_succ]
          refine wpAnyH_ready (rs := [11]) (by kernel_rfl) (by simp) ?_
          refine AllReadyH.cons (o := { dst := some 40, op := Op.call { callee := Callee.value (Operand.func 15), args := #[Operand.tmp 39], argTypes := #[27] }, type := 34, pos := "outright.go:13", after := #[{ on := 10, ground := Ground.data }, { on := 9, ground := Ground.chain }, { on := 6, ground := Ground.guard }], guard := some (6, true) }) rfl (fun K hK => ?_) AllReadyH.nil
          go_simp
          refine (msg_any m s _ _ HF6.out.m.arg).mono ?_
          rintro e w7 ⟨y7, s7, rfl, a7, b7⟩
          have HF7 := Lib.hid (HF6.out.below b7)
          have B7 := Lib.hid (bel_next B6.out b7)
          have hS7 : w7.rangeAt g1 0 (m.cells s) ∧ w7.rangeAt g2 0 (o.cells t) := ⟨HF7.out.m.all, HF7.out.o.all⟩
          have A7 := Lib.hid a7
          clear b7 a7
          go_wp2_with fail
          refine hK.out _ _ hS7 (fun hHeld => ?_)
          clear hK K
          try simp only [Act.put, List.setIfInBounds_toArray, List.set_cons_zero, List.set_cons_succ]
          refine wpAnyH_ready (rs := [13]) (by kernel_rfl) (by simp) ?_
          refine AllReadyH.cons (o := { dst := some 42, op := Op.call { callee := Callee.value (Operand.func 15), args := #[Operand.tmp 41], argTypes := #[27] }, type := 34, pos := "outright.go:13", after := #[{ on := 12, ground := Ground.data }, { on := 11, ground := Ground.chain }, { on := 6, ground := Ground.guard }], guard := some (6, true) }) rfl (fun K hK => ?_) AllReadyH.nil
          go_simp
          refine (msg_any o t _ _ HF7.out.o.arg).mono ?_
          rintro e w8 ⟨y8, s8, rfl, a8, b8⟩
          have HF8 := Lib.hid (HF7.out.below b8)
          have B8 := Lib.hid (bel_next B7.out b8)
          have hS8 : w8.rangeAt g1 0 (m.cells s) ∧ w8.rangeAt g2 0 (o.cells t) := ⟨HF8.out.m.all, HF8.out.o.all⟩
          have A8 := Lib.hid a8
          have A7 := Lib.hid (A7.out.below b8)
          clear b8 a8
          go_wp2_with fail
          refine hK.out _ _ hS8 (fun hHeld => ?_)
          clear hK K
          try simp only [Act.put, List.setIfInBounds_toArray, List.set_cons_zero, List.set_cons_succ]
          refine wpAnyH_ready (rs := [14]) (by kernel_rfl) (by simp) ?_
          refine AllReadyH.cons (o := { dst := some 43, op := Op.call { callee := Callee.value (Operand.func 21), args := #[Operand.tmp 40, Operand.tmp 42], argTypes := #[34, 34] }, type := 4, pos := "outright.go:13", after := #[{ on := 11, ground := Ground.data }, { on := 13, ground := Ground.data }, { on := 13, ground := Ground.chain }, { on := 6, ground := Ground.guard }], guard := some (6, true) }) rfl (fun K hK => ?_) AllReadyH.nil
          go_simp
          refine (sameMsg_any m.msg o.msg s7 s8 y7 y8 w8 A7.out A8.out HF8.out.m.row.1 HF8.out.m.row.2).mono ?_
          rw [hsm]
          rintro e w9 ⟨rfl, b9⟩
          have HF9 := Lib.hid (HF8.out.below b9)
          have B9 := Lib.hid (bel_next B8.out b9)
          have hS9 : w9.rangeAt g1 0 (m.cells s) ∧ w9.rangeAt g2 0 (o.cells t) := ⟨HF9.out.m.all, HF9.out.o.all⟩
          clear b9
          go_wp2_with fail
          refine hK.out _ _ hS9 (fun hHeld => ?_)
          clear hK K
          try simp only [Act.put, List.setIfInBounds_toArray, List.set_cons_zero, List.set_cons_succ]
          refine' wpAnyH_take (i := 15) (oi := { dst := some 44, op := Op.binOp BinOp.neq 4 (Operand.tmp 38) (Operand.tmp 43) 4, type := 4, pos := "outright.go:13", after := #[{ on := 9, ground := Ground.data }, { on := 14, ground := Ground.data }, { on := 6, ground := Ground.guard }], guard := some (6, true) }) (v := ?v21) rfl (by kernel_rfl) (by kernel_rfl) (by kernel_rfl) (fun _ _ _ h => h) (Or.inl ⟨by rfl, ?hy21⟩) (by assumption) ?rest21
          case hy21 => (intro w hSw; go_simp; (try with_reducible rfl))
          simp only [Act.put, List.setIfInBounds_toArray, List.set_cons_zero, List.set_cons_succ]
          refine' wpAnyH_take (i := 16) (oi := { dst := some 45, op := Op.pick (Operand.tmp 35) (Operand.tmp 44) (Operand.const (Value.bool false)), type := 4, pos := "outright.go:13", after := #[{ on := 6, ground := Ground.data }, { on := 15, ground := Ground.data }], guard := none }) (v := ?v22) rfl (by kernel_rfl) (by kernel_rfl) (by kernel_rfl) (fun _ _ _ h => h) (Or.inl ⟨by rfl, ?hy22⟩) (by assumption) ?rest22
          case hy22 => (intro w hSw; go_simp; (try with_reducible rfl))
          simp only [Act.put, List.setIfInBounds_toArray, List.set_cons_zero, List.set_cons_succ]
          refine wpAnyH_done (by kernel_rfl) ?_ _
          go_wp2_with fail
          go_meet
          exact ⟨rfl, HF9.out, B9.out⟩
  case rest =>
    obtain ⟨rfl, hF, hB⟩ := hcut
    clear HC HF4 B4 R1 R2 hlen1 hlen2
    have hn := hF.n
    have HF := Lib.hid hF
    have HB := Lib.hid hB
    clear hF hB
    go_wp2_with (((with_reducible refine wpList_load_note (op := ⟨_, Op.load 51 _, _, _, _, _⟩) rfl _ rfl _ _ ?_ hn ?_); rfl))
    refine (pack_any n _ ⟨rfl⟩ _).mono ?_
    rintro e w11 ⟨A5, c5, rfl, o5, b5⟩
    have HF1 := Lib.hid (HF.out.below b5)
    have B1 := Lib.hid (bel_next HB.out b5)
    have r5 := rd_of_own o5
    have hlen5 := Lib.hid (own_len o5)
    have hn := HF1.out.p
    clear HF HB b5 o5
    go_wp2_with (((with_reducible refine wpList_load_note (op := ⟨_, Op.load 51 _, _, _, _, _⟩) rfl _ rfl _ _ ?_ hn ?_); rfl))
    refine (pack_any p _ ⟨rfl⟩ _).mono ?_
    rintro e w12 ⟨A6, c6, rfl, o6, b6⟩
    have HF2 := Lib.hid (HF1.out.below b6)
    have B2 := Lib.hid (bel_next B1.out b6)
    have R5 := Lib.hid (r5.below b6)
    have R6 := Lib.hid (rd_of_own o6)
    have hlen6 := Lib.hid (own_len o6)
    clear HF1 B1 b6 o6 r5 hn
    generalize n.packE = G1 at *
    generalize p.packE = G2 at *
    generalize n.packL = l5 at *
    generalize p.packL = l6 at *
    obtain ⟨k5, hk5⟩ : ∃ k, Hid (k = l5.length) := ⟨_, rfl⟩
    obtain ⟨k6, hk6⟩ : ∃ k, Hid (k = l6.length) := ⟨_, rfl⟩
    rw [← hk5.out, ← hk6.out]
    go_upto_region 7 with fail
    have HF3 := Lib.hid (HF2.out.below ((Drawn.refl w12).drew.below _))
    have B3 := Lib.hid (bel_next B2.out ((Drawn.refl w12).drew.below _))
    have R7 := Lib.hid (R5.out.below ((Drawn.refl w12).drew.below _))
    have R8 := Lib.hid (R6.out.below ((Drawn.refl w12).drew.below _))
    have hS7 : w12.drew.rangeAt g3 0 n.cells ∧ w12.drew.rangeAt g4 0 p.cells := ⟨HF3.out.n.all, HF3.out.p.all⟩
    clear HF2 B2 R5 R6
    rcases HCN.out with rfl | ⟨rfl, rfl⟩ | ⟨rfl, rfl, hEN⟩
    · as_aux_lemma =>
        clear HCN
        refine wp_region_held_drew (S := fun w' => w'.rangeAt g3 0 n.cells ∧ w'.rangeAt g4 0 p.cells) (by kernel_rfl) hS7 (fun hHeld => ?_)
        generalize w12.drew = w13 at *
        refine' wpAnyH_take (i := 0) (oi := { dst := some 56, op := Op.move (Operand.tmp 14), type := 29, pos := "outright.go:18", after := #[], guard := none }) (v := ?v23) rfl (by kernel_rfl) (by kernel_rfl) (by kernel_rfl) (fun _ _ _ h => h) (Or.inl ⟨by rfl, ?hy23⟩) (by assumption) ?rest23
        case hy23 => (intro w hSw; go_simp; (try with_reducible rfl))
        simp only [Act.put, List.setIfInBounds_toArray, List.set_cons_zero, List.set_cons_succ]
        refine' wpAnyH_take (i := 1) (oi := { dst := some 57, op := Op.binOp BinOp.neq 29 (Operand.tmp 56) (Operand.const (Value.int IntKind.i64 0)) 29, type := 4, pos := "outright.go:18", after := #[{ on := 0, ground := Ground.data }], guard := none }) (v := ?v24) rfl (by kernel_rfl) (by kernel_rfl) (by kernel_rfl) (fun _ _ _ h => h) (Or.inl ⟨by rfl, ?hy24⟩) (by assumption) ?rest24
        case hy24 => (intro w hSw; go_simp; (try with_reducible rfl))
        simp only [Act.put, List.setIfInBounds_toArray, List.set_cons_zero, List.set_cons_succ]
        refine' wpAnyH_take (i := 2) (oi := { dst := some 58, op := Op.move (Operand.tmp 57), type := 4, pos := "outright.go:18", after := #[{ on := 1, ground := Ground.data }], guard := none }) (v := ?v25) rfl (by kernel_rfl) (by kernel_rfl) (by kernel_rfl) (fun _ _ _ h => h) (Or.inl ⟨by rfl, ?hy25⟩) (by assumption) ?rest25
        case hy25 => (intro w hSw; go_simp; (try with_reducible rfl))
        simp only [Act.put, List.setIfInBounds_toArray, List.set_cons_zero, List.set_cons_succ]
        refine' wpAnyH_take (i := 3) (oi := { dst := some 59, op := Op.move (Operand.tmp 16), type := 29, pos := "outright.go:18", after := #[{ on := 2, ground := Ground.guard }], guard := some (2, false) }) (v := undef) rfl (by kernel_rfl) (by kernel_rfl) (by kernel_rfl) (fun _ _ _ h => h) (Or.inr ⟨by rfl, rfl⟩) (by assumption) ?_
        simp only [Act.put, List.setIfInBounds_toArray, List.set_cons_zero, List.set_cons_succ]
        refine' wpAnyH_take (i := 4) (oi := { dst := some 60, op := Op.binOp BinOp.neq 29 (Operand.tmp 59) (Operand.const (Value.int IntKind.i64 0)) 29, type := 4, pos := "outright.go:18", after := #[{ on := 3, ground := Ground.data }, { on := 2, ground := Ground.guard }], guard := some (2, false) }) (v := undef) rfl (by kernel_rfl) (by kernel_rfl) (by kernel_rfl) (fun _ _ _ h => h) (Or.inr ⟨by rfl, rfl⟩) (by assumption) ?_
        simp only [Act.put, List.setIfInBounds_toArray, List.set_cons_zero, List.set_cons_succ]
        refine' wpAnyH_take (i := 5) (oi := { dst := some 61, op := Op.pick (Operand.tmp 58) (Operand.const (Value.bool true)) (Operand.tmp 60), type := 4, pos := "outright.go:18", after := #[{ on := 2, ground := Ground.data }, { on := 4, ground := Ground.data }], guard := none }) (v := ?v26) rfl (by kernel_rfl) (by kernel_rfl) (by kernel_rfl) (fun _ _ _ h => h) (Or.inl ⟨by rfl, ?hy26⟩) (by assumption) ?rest26
        case hy26 => (intro w hSw; go_simp; (try with_reducible rfl))
        simp only [Act.put, List.setIfInBounds_toArray, List.set_cons_zero, List.set_cons_succ]
        refine' wpAnyH_take (i := 6) (oi := { dst := some 62, op := Op.move (Operand.tmp 61), type := 4, pos := "outright.go:18", after := #[{ on := 5, ground := Ground.data }, { on := 2, ground := Ground.chain }], guard := none }) (v := ?v27) rfl (by kernel_rfl) (by kernel_rfl) (by kernel_rfl) (fun _ _ _ h => h) (Or.inl ⟨by rfl, ?hy27⟩) (by assumption) ?rest27
        case hy27 => (intro w hSw; go_simp; (try with_reducible rfl))
        simp only [Act.put, List.setIfInBounds_toArray, List.set_cons_zero, List.set_cons_succ]
        refine' wpAnyH_take (i := 7) (oi := { dst := some 63, op := Op.move (Operand.tmp 13), type := 28, pos := "outright.go:18", after := #[{ on := 6, ground := Ground.guard }], guard := some (6, false) }) (v := undef) rfl (by kernel_rfl) (by kernel_rfl) (by kernel_rfl) (fun _ _ _ h => h) (Or.inr ⟨by rfl, rfl⟩) (by assumption) ?_
        simp only [Act.put, List.setIfInBounds_toArray, List.set_cons_zero, List.set_cons_succ]
        refine' wpAnyH_take (i := 8) (oi := { dst := some 64, op := Op.move (Operand.tmp 15), type := 28, pos := "outright.go:18", after := #[{ on := 6, ground := Ground.guard }], guard := some (6, false) }) (v := undef) rfl (by kernel_rfl) (by kernel_rfl) (by kernel_rfl) (fun _ _ _ h => h) (Or.inr ⟨by rfl, rfl⟩) (by assumption) ?_
        simp only [Act.put, List.setIfInBounds_toArray, List.set_cons_zero, List.set_cons_succ]
        refine' wpAnyH_take (i := 9) (oi := { dst := some 65, op := Op.call { callee := Callee.value (Operand.func 17), args := #[Operand.tmp 63, Operand.tmp 64], argTypes := #[28, 28] }, type := 4, pos := "outright.go:18", after := #[{ on := 7, ground := Ground.data }, { on := 8, ground := Ground.data }, { on := 6, ground := Ground.chain }, { on := 6, ground := Ground.guard }], guard := some (6, false) }) (v := undef) rfl (by kernel_rfl) (by kernel_rfl) (by kernel_rfl) (fun _ _ _ h => h) (Or.inr ⟨by rfl, rfl⟩) (by assumption) ?_
        simp only [Act.put, List.setIfInBounds_toArray, List.set_cons_zero, List.set_cons_succ]
        refine' wpAnyH_take (i := 10) (oi := { dst := some 66, op := Op.load 51 (Operand.tmp 6), type := 51, pos := "outright.go:18", after := #[{ on := 6, ground := Ground.guard }], guard := some (6, false) }) (v := undef) rfl (by kernel_rfl) (by kernel_rfl) (by kernel_rfl) (fun _ _ _ h => h) (Or.inr ⟨by rfl, rfl⟩) (by assumption) ?_
        simp only [Act.put, List.setIfInBounds_toArray, List.set_cons_zero, List.set_cons_succ]
        refine' wpAnyH_take (i := 11) (oi := { dst := some 67, op := Op.load 51 (Operand.tmp 7), type := 51, pos := "outright.go:18", after := #[{ on := 6, ground := Ground.guard }], guard := some (6, false) }) (v := undef) rfl (by kernel_rfl) (by kernel_rfl) (by kernel_rfl) (fun _ _ _ h => h) (Or.inr ⟨by rfl, rfl⟩) (by assumption) ?_
        simp only [Act.put, List.setIfInBounds_toArray, List.set_cons_zero, List.set_cons_succ]
        refine' wpAnyH_take (i := 12) (oi := { dst := some 68, op := Op.binOp BinOp.eql 51 (Operand.tmp 66) (Operand.tmp 67) 51, type := 4, pos := "outright.go:18", after := #[{ on := 10, ground := Ground.data }, { on := 11, ground := Ground.data }, { on := 6, ground := Ground.guard }], guard := some (6, false) }) (v := undef) rfl (by kernel_rfl) (by kernel_rfl) (by kernel_rfl) (fun _ _ _ h => h) (Or.inr ⟨by rfl, rfl⟩) (by assumption) ?_
        simp only [Act.put, List.setIfInBounds_toArray, List.set_cons_zero, List.set_cons_succ]
        refine' wpAnyH_take (i := 13) (oi := { dst := some 69, op := Op.binOp BinOp.eql 4 (Operand.tmp 65) (Operand.tmp 68) 4, type := 4, pos := "outright.go:18", after := #[{ on := 9, ground := Ground.data }, { on := 12, ground := Ground.data }, { on := 6, ground := Ground.guard }], guard := some (6, false) }) (v := undef) rfl (by kernel_rfl) (by kernel_rfl) (by kernel_rfl) (fun _ _ _ h => h) (Or.inr ⟨by rfl, rfl⟩) (by assumption) ?_
        simp only [Act.put, List.setIfInBounds_toArray, List.set_cons_zero, List.set_cons_succ]
        refine' wpAnyH_take (i := 14) (oi := { dst := some 70, op := Op.pick (Operand.tmp 62) (Operand.const (Value.bool true)) (Operand.tmp 69), type := 4, pos := "outright.go:18", after := #[{ on := 6, ground := Ground.data }, { on := 13, ground := Ground.data }], guard := none }) (v := ?v28) rfl (by kernel_rfl) (by kernel_rfl) (by kernel_rfl) (fun _ _ _ h => h) (Or.inl ⟨by rfl, ?hy28⟩) (by assumption) ?rest28
        case hy28 => (intro w hSw; go_simp; (try with_reducible rfl))
        simp only [Act.put, List.setIfInBounds_toArray, List.set_cons_zero, List.set_cons_succ]
        refine' wpAnyH_take (i := 15) (oi := { dst := some 71, op := Op.move (Operand.tmp 70), type := 4, pos := "outright.go:18", after := #[{ on := 14, ground := Ground.data }, { on := 9, ground := Ground.chain }], guard := none }) (v := ?v29) rfl (by kernel_rfl) (by kernel_rfl) (by kernel_rfl) (fun _ _ _ h => h) (Or.inl ⟨by rfl, ?hy29⟩) (by assumption) ?rest29
        case hy29 => (intro w hSw; go_simp; (try with_reducible rfl))
        simp only [Act.put, List.setIfInBounds_toArray, List.set_cons_zero, List.set_cons_succ]
        refine wpAnyH_ready (rs := [16]) (by kernel_rfl) (by simp) ?_
        refine AllReadyH.cons (o := { dst := some 72, op := Op.call { callee := Callee.value (Operand.func 18), args := #[], argTypes := #[] }, type := 4, pos := "outright.go:18", after := #[{ on := 15, ground := Ground.chain }, { on := 15, ground := Ground.guard }], guard := some (15, true) }) rfl (fun K hK => ?_) AllReadyH.nil
        go_simp
        refine (awake_any _).mono ?_
        rintro e w15 ⟨rfl, b15⟩
        have B5 := Lib.hid (bel_next B3.out b15)
        have HF5 := Lib.hid (HF3.out.below b15)
        have hS9 : w15.rangeAt g3 0 n.cells ∧ w15.rangeAt g4 0 p.cells := ⟨HF5.out.n.all, HF5.out.p.all⟩
        clear b15
        go_wp2_with fail
        refine hK.out _ _ hS9 (fun hHeld => ?_)
        clear hK K
        try simp only [Act.put, List.setIfInBounds_toArray, List.set_cons_zero, List.set_cons_succ]
        refine' wpAnyH_take (i := 17) (oi := { dst := some 73, op := Op.pick (Operand.tmp 71) (Operand.tmp 72) (Operand.const (Value.bool false)), type := 4, pos := "outright.go:18", after := #[{ on := 15, ground := Ground.data }, { on := 16, ground := Ground.data }], guard := none }) (v := ?v30) rfl (by kernel_rfl) (by kernel_rfl) (by kernel_rfl) (fun _ _ _ h => h) (Or.inl ⟨by rfl, ?hy30⟩) (by assumption) ?rest30
        case hy30 => (intro w hSw; go_simp; (try with_reducible rfl))
        simp only [Act.put, List.setIfInBounds_toArray, List.set_cons_zero, List.set_cons_succ]
        refine' wpAnyH_take (i := 18) (oi := { dst := some 8, op := Op.assign (Operand.tmp 73), type := 4, pos := "outright.go:18", after := #[{ on := 17, ground := Ground.data }, { on := 16, ground := Ground.chain }, { on := 0, ground := Ground.phase }, { on := 1, ground := Ground.phase }, { on := 2, ground := Ground.phase }, { on := 3, ground := Ground.phase }, { on := 4, ground := Ground.phase }, { on := 5, ground := Ground.phase }, { on := 6, ground := Ground.phase }, { on := 7, ground := Ground.phase }, { on := 8, ground := Ground.phase }, { on := 9, ground := Ground.phase }, { on := 10, ground := Ground.phase }, { on := 11, ground := Ground.phase }, { on := 12, ground := Ground.phase }, { on := 13, ground := Ground.phase }, { on := 14, ground := Ground.phase }, { on := 15, ground := Ground.phase }, { on := 16, ground := Ground.phase }, { on := 17, ground := Ground.phase }], guard := none }) (v := ?v31) rfl (by kernel_rfl) (by kernel_rfl) (by kernel_rfl) (fun _ _ _ h => h) (Or.inl ⟨by rfl, ?hy31⟩) (by assumption) ?rest31
        case hy31 => (intro w hSw; go_simp; (try with_reducible rfl))
        simp only [Act.put, List.setIfInBounds_toArray, List.set_cons_zero, List.set_cons_succ]
        refine wpAnyH_done (by kernel_rfl) ?_ _
        go_wp2_with fail
        go_ret
        exact ⟨rfl, B5.out⟩
    · as_aux_lemma =>
        clear HCN
        refine wp_region_held_drew (S := fun w' => w'.rangeAt g3 0 n.cells ∧ w'.rangeAt g4 0 p.cells) (by kernel_rfl) hS7 (fun hHeld => ?_)
        generalize w12.drew = w13 at *
        refine' wpAnyH_take (i := 0) (oi := { dst := some 56, op := Op.move (Operand.tmp 14), type := 29, pos := "outright.go:18", after := #[], guard := none }) (v := ?v32) rfl (by kernel_rfl) (by kernel_rfl) (by kernel_rfl) (fun _ _ _ h => h) (Or.inl ⟨by rfl, ?hy32⟩) (by assumption) ?rest32
        case hy32 => (intro w hSw; go_simp; (try with_reducible rfl))
        simp only [Act.put, List.setIfInBounds_toArray, List.set_cons_zero, List.set_cons_succ]
        refine' wpAnyH_take (i := 1) (oi := { dst := some 57, op := Op.binOp BinOp.neq 29 (Operand.tmp 56) (Operand.const (Value.int IntKind.i64 0)) 29, type := 4, pos := "outright.go:18", after := #[{ on := 0, ground := Ground.data }], guard := none }) (v := ?v33) rfl (by kernel_rfl) (by kernel_rfl) (by kernel_rfl) (fun _ _ _ h => h) (Or.inl ⟨by rfl, ?hy33⟩) (by assumption) ?rest33
        case hy33 => (intro w hSw; go_simp; (try with_reducible rfl))
        simp only [Act.put, List.setIfInBounds_toArray, List.set_cons_zero, List.set_cons_succ]
        refine' wpAnyH_take (i := 2) (oi := { dst := some 58, op := Op.move (Operand.tmp 57), type := 4, pos := "outright.go:18", after := #[{ on := 1, ground := Ground.data }], guard := none }) (v := ?v34) rfl (by kernel_rfl) (by kernel_rfl) (by kernel_rfl) (fun _ _ _ h => h) (Or.inl ⟨by rfl, ?hy34⟩) (by assumption) ?rest34
        case hy34 => (intro w hSw; go_simp; (try with_reducible rfl))
        simp only [Act.put, List.setIfInBounds_toArray, List.set_cons_zero, List.set_cons_succ]
        refine' wpAnyH_take (i := 3) (oi := { dst := some 59, op := Op.move (Operand.tmp 16), type := 29, pos := "outright.go:18", after := #[{ on := 2, ground := Ground.guard }], guard := some (2, false) }) (v := ?v35) rfl (by kernel_rfl) (by kernel_rfl) (by kernel_rfl) (fun _ _ _ h => h) (Or.inl ⟨by rfl, ?hy35⟩) (by assumption) ?rest35
        case hy35 => (intro w hSw; go_simp; (try with_reducible rfl))
        simp only [Act.put, List.setIfInBounds_toArray, List.set_cons_zero, List.set_cons_succ]
        refine' wpAnyH_take (i := 4) (oi := { dst := some 60, op := Op.binOp BinOp.neq 29 (Operand.tmp 59) (Operand.const (Value.int IntKind.i64 0)) 29, type := 4, pos := "outright.go:18", after := #[{ on := 3, ground := Ground.data }, { on := 2, ground := Ground.guard }], guard := some (2, false) }) (v := ?v36) rfl (by kernel_rfl) (by kernel_rfl) (by kernel_rfl) (fun _ _ _ h => h) (Or.inl ⟨by rfl, ?hy36⟩) (by assumption) ?rest36
        case hy36 => (intro w hSw; go_simp; (try with_reducible rfl))
        simp only [Act.put, List.setIfInBounds_toArray, List.set_cons_zero, List.set_cons_succ]
        refine' wpAnyH_take (i := 5) (oi := { dst := some 61, op := Op.pick (Operand.tmp 58) (Operand.const (Value.bool true)) (Operand.tmp 60), type := 4, pos := "outright.go:18", after := #[{ on := 2, ground := Ground.data }, { on := 4, ground := Ground.data }], guard := none }) (v := ?v37) rfl (by kernel_rfl) (by kernel_rfl) (by kernel_rfl) (fun _ _ _ h => h) (Or.inl ⟨by rfl, ?hy37⟩) (by assumption) ?rest37
        case hy37 => (intro w hSw; go_simp; (try with_reducible rfl))
        simp only [Act.put, List.setIfInBounds_toArray, List.set_cons_zero, List.set_cons_succ]
        refine' wpAnyH_take (i := 6) (oi := { dst := some 62, op := Op.move (Operand.tmp 61), type := 4, pos := "outright.go:18", after := #[{ on := 5, ground := Ground.data }, { on := 2, ground := Ground.chain }], guard := none }) (v := ?v38) rfl (by kernel_rfl) (by kernel_rfl) (by kernel_rfl) (fun _ _ _ h => h) (Or.inl ⟨by rfl, ?hy38⟩) (by assumption) ?rest38
        case hy38 => (intro w hSw; go_simp; (try with_reducible rfl))
        simp only [Act.put, List.setIfInBounds_toArray, List.set_cons_zero, List.set_cons_succ]
        refine' wpAnyH_take (i := 7) (oi := { dst := some 63, op := Op.move (Operand.tmp 13), type := 28, pos := "outright.go:18", after := #[{ on := 6, ground := Ground.guard }], guard := some (6, false) }) (v := undef) rfl (by kernel_rfl) (by kernel_rfl) (by kernel_rfl) (fun _ _ _ h => h) (Or.inr ⟨by rfl, rfl⟩) (by assumption) ?_
        simp only [Act.put, List.setIfInBounds_toArray, List.set_cons_zero, List.set_cons_succ]
        refine' wpAnyH_take (i := 8) (oi := { dst := some 64, op := Op.move (Operand.tmp 15), type := 28, pos := "outright.go:18", after := #[{ on := 6, ground := Ground.guard }], guard := some (6, false) }) (v := undef) rfl (by kernel_rfl) (by kernel_rfl) (by kernel_rfl) (fun _ _ _ h => h) (Or.inr ⟨by rfl, rfl⟩) (by assumption) ?_
        simp only [Act.put, List.setIfInBounds_toArray, List.set_cons_zero, List.set_cons_succ]
        refine' wpAnyH_take (i := 9) (oi := { dst := some 65, op := Op.call { callee := Callee.value (Operand.func 17), args := #[Operand.tmp 63, Operand.tmp 64], argTypes := #[28, 28] }, type := 4, pos := "outright.go:18", after := #[{ on := 7, ground := Ground.data }, { on := 8, ground := Ground.data }, { on := 6, ground := Ground.chain }, { on := 6, ground := Ground.guard }], guard := some (6, false) }) (v := undef) rfl (by kernel_rfl) (by kernel_rfl) (by kernel_rfl) (fun _ _ _ h => h) (Or.inr ⟨by rfl, rfl⟩) (by assumption) ?_
        simp only [Act.put, List.setIfInBounds_toArray, List.set_cons_zero, List.set_cons_succ]
        refine' wpAnyH_take (i := 10) (oi := { dst := some 66, op := Op.load 51 (Operand.tmp 6), type := 51, pos := "outright.go:18", after := #[{ on := 6, ground := Ground.guard }], guard := some (6, false) }) (v := undef) rfl (by kernel_rfl) (by kernel_rfl) (by kernel_rfl) (fun _ _ _ h => h) (Or.inr ⟨by rfl, rfl⟩) (by assumption) ?_
        simp only [Act.put, List.setIfInBounds_toArray, List.set_cons_zero, List.set_cons_succ]
        refine' wpAnyH_take (i := 11) (oi := { dst := some 67, op := Op.load 51 (Operand.tmp 7), type := 51, pos := "outright.go:18", after := #[{ on := 6, ground := Ground.guard }], guard := some (6, false) }) (v := undef) rfl (by kernel_rfl) (by kernel_rfl) (by kernel_rfl) (fun _ _ _ h => h) (Or.inr ⟨by rfl, rfl⟩) (by assumption) ?_
        simp only [Act.put, List.setIfInBounds_toArray, List.set_cons_zero, List.set_cons_succ]
        refine' wpAnyH_take (i := 12) (oi := { dst := some 68, op := Op.binOp BinOp.eql 51 (Operand.tmp 66) (Operand.tmp 67) 51, type := 4, pos := "outright.go:18", after := #[{ on := 10, ground := Ground.data }, { on := 11, ground := Ground.data }, { on := 6, ground := Ground.guard }], guard := some (6, false) }) (v := undef) rfl (by kernel_rfl) (by kernel_rfl) (by kernel_rfl) (fun _ _ _ h => h) (Or.inr ⟨by rfl, rfl⟩) (by assumption) ?_
        simp only [Act.put, List.setIfInBounds_toArray, List.set_cons_zero, List.set_cons_succ]
        refine' wpAnyH_take (i := 13) (oi := { dst := some 69, op := Op.binOp BinOp.eql 4 (Operand.tmp 65) (Operand.tmp 68) 4, type := 4, pos := "outright.go:18", after := #[{ on := 9, ground := Ground.data }, { on := 12, ground := Ground.data }, { on := 6, ground := Ground.guard }], guard := some (6, false) }) (v := undef) rfl (by kernel_rfl) (by kernel_rfl) (by kernel_rfl) (fun _ _ _ h => h) (Or.inr ⟨by rfl, rfl⟩) (by assumption) ?_
        simp only [Act.put, List.setIfInBounds_toArray, List.set_cons_zero, List.set_cons_succ]
        refine' wpAnyH_take (i := 14) (oi := { dst := some 70, op := Op.pick (Operand.tmp 62) (Operand.const (Value.bool true)) (Operand.tmp 69), type := 4, pos := "outright.go:18", after := #[{ on := 6, ground := Ground.data }, { on := 13, ground := Ground.data }], guard := none }) (v := ?v39) rfl (by kernel_rfl) (by kernel_rfl) (by kernel_rfl) (fun _ _ _ h => h) (Or.inl ⟨by rfl, ?hy39⟩) (by assumption) ?rest39
        case hy39 => (intro w hSw; go_simp; (try with_reducible rfl))
        simp only [Act.put, List.setIfInBounds_toArray, List.set_cons_zero, List.set_cons_succ]
        refine' wpAnyH_take (i := 15) (oi := { dst := some 71, op := Op.move (Operand.tmp 70), type := 4, pos := "outright.go:18", after := #[{ on := 14, ground := Ground.data }, { on := 9, ground := Ground.chain }], guard := none }) (v := ?v40) rfl (by kernel_rfl) (by kernel_rfl) (by kernel_rfl) (fun _ _ _ h => h) (Or.inl ⟨by rfl, ?hy40⟩) (by assumption) ?rest40
        case hy40 => (intro w hSw; go_simp; (try with_reducible rfl))
        simp only [Act.put, List.setIfInBounds_toArray, List.set_cons_zero, List.set_cons_succ]
        refine wpAnyH_ready (rs := [16]) (by kernel_rfl) (by simp) ?_
        refine AllReadyH.cons (o := { dst := some 72, op := Op.call { callee := Callee.value (Operand.func 18), args := #[], argTypes := #[] }, type := 4, pos := "outright.go:18", after := #[{ on := 15, ground := Ground.chain }, { on := 15, ground := Ground.guard }], guard := some (15, true) }) rfl (fun K hK => ?_) AllReadyH.nil
        go_simp
        refine (awake_any _).mono ?_
        rintro e w15 ⟨rfl, b15⟩
        have B5 := Lib.hid (bel_next B3.out b15)
        have HF5 := Lib.hid (HF3.out.below b15)
        have hS9 : w15.rangeAt g3 0 n.cells ∧ w15.rangeAt g4 0 p.cells := ⟨HF5.out.n.all, HF5.out.p.all⟩
        clear b15
        go_wp2_with fail
        refine hK.out _ _ hS9 (fun hHeld => ?_)
        clear hK K
        try simp only [Act.put, List.setIfInBounds_toArray, List.set_cons_zero, List.set_cons_succ]
        refine' wpAnyH_take (i := 17) (oi := { dst := some 73, op := Op.pick (Operand.tmp 71) (Operand.tmp 72) (Operand.const (Value.bool false)), type := 4, pos := "outright.go:18", after := #[{ on := 15, ground := Ground.data }, { on := 16, ground := Ground.data }], guard := none }) (v := ?v41) rfl (by kernel_rfl) (by kernel_rfl) (by kernel_rfl) (fun _ _ _ h => h) (Or.inl ⟨by rfl, ?hy41⟩) (by assumption) ?rest41
        case hy41 => (intro w hSw; go_simp; (try with_reducible rfl))
        simp only [Act.put, List.setIfInBounds_toArray, List.set_cons_zero, List.set_cons_succ]
        refine' wpAnyH_take (i := 18) (oi := { dst := some 8, op := Op.assign (Operand.tmp 73), type := 4, pos := "outright.go:18", after := #[{ on := 17, ground := Ground.data }, { on := 16, ground := Ground.chain }, { on := 0, ground := Ground.phase }, { on := 1, ground := Ground.phase }, { on := 2, ground := Ground.phase }, { on := 3, ground := Ground.phase }, { on := 4, ground := Ground.phase }, { on := 5, ground := Ground.phase }, { on := 6, ground := Ground.phase }, { on := 7, ground := Ground.phase }, { on := 8, ground := Ground.phase }, { on := 9, ground := Ground.phase }, { on := 10, ground := Ground.phase }, { on := 11, ground := Ground.phase }, { on := 12, ground := Ground.phase }, { on := 13, ground := Ground.phase }, { on := 14, ground := Ground.phase }, { on := 15, ground := Ground.phase }, { on := 16, ground := Ground.phase }, { on := 17, ground := Ground.phase }], guard := none }) (v := ?v42) rfl (by kernel_rfl) (by kernel_rfl) (by kernel_rfl) (fun _ _ _ h => h) (Or.inl ⟨by rfl, ?hy42⟩) (by assumption) ?rest42
        case hy42 => (intro w hSw; go_simp; (try with_reducible rfl))
        simp only [Act.put, List.setIfInBounds_toArray, List.set_cons_zero, List.set_cons_succ]
        refine wpAnyH_done (by kernel_rfl) ?_ _
        go_wp2_with fail
        go_ret
        exact ⟨rfl, B5.out⟩
    · have heq : ∀ W' : World, (binOp .eql 51 (.agg n.cells.toArray) (.agg p.cells.toArray)).run Try.prog W' = .ok (.bool (decide (n = p))) W' := fun W' => eql_run (w := W') rfl rfl (eq_note 9996 W' n p)
      have HEN := Lib.hid hEN
      clear HCN hEN
      cases hnp : decide (n = p) with
      | false =>
        as_aux_lemma =>
          rw [hnp] at heq HEN
          clear hnp
          refine wp_region_held_drew (S := fun w' => w'.rangeAt g3 0 n.cells ∧ w'.rangeAt g4 0 p.cells) (by kernel_rfl) hS7 (fun hHeld => ?_)
          generalize w12.drew = w13 at *
          refine' wpAnyH_take (i := 0) (oi := { dst := some 56, op := Op.move (Operand.tmp 14), type := 29, pos := "outright.go:18", after := #[], guard := none }) (v := ?v43) rfl (by kernel_rfl) (by kernel_rfl) (by kernel_rfl) (fun _ _ _ h => h) (Or.inl ⟨by rfl, ?hy43⟩) (by assumption) ?rest43
          case hy43 => (intro w hSw; go_simp; (try with_reducible rfl))
          simp only [Act.put, List.setIfInBounds_toArray, List.set_cons_zero, List.set_cons_succ]
          refine' wpAnyH_take (i := 1) (oi := { dst := some 57, op := Op.binOp BinOp.neq 29 (Operand.tmp 56) (Operand.const (Value.int IntKind.i64 0)) 29, type := 4, pos := "outright.go:18", after := #[{ on := 0, ground := Ground.data }], guard := none }) (v := ?v44) rfl (by kernel_rfl) (by kernel_rfl) (by kernel_rfl) (fun _ _ _ h => h) (Or.inl ⟨by rfl, ?hy44⟩) (by assumption) ?rest44
          case hy44 => (intro w hSw; go_simp; (try with_reducible rfl))
          simp only [Act.put, List.setIfInBounds_toArray, List.set_cons_zero, List.set_cons_succ]
          refine' wpAnyH_take (i := 2) (oi := { dst := some 58, op := Op.move (Operand.tmp 57), type := 4, pos := "outright.go:18", after := #[{ on := 1, ground := Ground.data }], guard := none }) (v := ?v45) rfl (by kernel_rfl) (by kernel_rfl) (by kernel_rfl) (fun _ _ _ h => h) (Or.inl ⟨by rfl, ?hy45⟩) (by assumption) ?rest45
          case hy45 => (intro w hSw; go_simp; (try with_reducible rfl))
          simp only [Act.put, List.setIfInBounds_toArray, List.set_cons_zero, List.set_cons_succ]
          refine' wpAnyH_take (i := 3) (oi := { dst := some 59, op := Op.move (Operand.tmp 16), type := 29, pos := "outright.go:18", after := #[{ on := 2, ground := Ground.guard }], guard := some (2, false) }) (v := ?v46) rfl (by kernel_rfl) (by kernel_rfl) (by kernel_rfl) (fun _ _ _ h => h) (Or.inl ⟨by rfl, ?hy46⟩) (by assumption) ?rest46
          case hy46 => (intro w hSw; go_simp; (try with_reducible rfl))
          simp only [Act.put, List.setIfInBounds_toArray, List.set_cons_zero, List.set_cons_succ]
          refine' wpAnyH_take (i := 4) (oi := { dst := some 60, op := Op.binOp BinOp.neq 29 (Operand.tmp 59) (Operand.const (Value.int IntKind.i64 0)) 29, type := 4, pos := "outright.go:18", after := #[{ on := 3, ground := Ground.data }, { on := 2, ground := Ground.guard }], guard := some (2, false) }) (v := ?v47) rfl (by kernel_rfl) (by kernel_rfl) (by kernel_rfl) (fun _ _ _ h => h) (Or.inl ⟨by rfl, ?hy47⟩) (by assumption) ?rest47
          case hy47 => (intro w hSw; go_simp; (try with_reducible rfl))
          simp only [Act.put, List.setIfInBounds_toArray, List.set_cons_zero, List.set_cons_succ]
          refine' wpAnyH_take (i := 5) (oi := { dst := some 61, op := Op.pick (Operand.tmp 58) (Operand.const (Value.bool true)) (Operand.tmp 60), type := 4, pos := "outright.go:18", after := #[{ on := 2, ground := Ground.data }, { on := 4, ground := Ground.data }], guard := none }) (v := ?v48) rfl (by kernel_rfl) (by kernel_rfl) (by kernel_rfl) (fun _ _ _ h => h) (Or.inl ⟨by rfl, ?hy48⟩) (by assumption) ?rest48
          case hy48 => (intro w hSw; go_simp; (try with_reducible rfl))
          simp only [Act.put, List.setIfInBounds_toArray, List.set_cons_zero, List.set_cons_succ]
          refine' wpAnyH_take (i := 6) (oi := { dst := some 62, op := Op.move (Operand.tmp 61), type := 4, pos := "outright.go:18", after := #[{ on := 5, ground := Ground.data }, { on := 2, ground := Ground.chain }], guard := none }) (v := ?v49) rfl (by kernel_rfl) (by kernel_rfl) (by kernel_rfl) (fun _ _ _ h => h) (Or.inl ⟨by rfl, ?hy49⟩) (by assumption) ?rest49
          case hy49 => (intro w hSw; go_simp; (try with_reducible rfl))
          simp only [Act.put, List.setIfInBounds_toArray, List.set_cons_zero, List.set_cons_succ]
          refine' wpAnyH_take (i := 7) (oi := { dst := some 63, op := Op.move (Operand.tmp 13), type := 28, pos := "outright.go:18", after := #[{ on := 6, ground := Ground.guard }], guard := some (6, false) }) (v := ?v50) rfl (by kernel_rfl) (by kernel_rfl) (by kernel_rfl) (fun _ _ _ h => h) (Or.inl ⟨by rfl, ?hy50⟩) (by assumption) ?rest50
          case hy50 => (intro w hSw; go_simp; (try with_reducible rfl))
          simp only [Act.put, List.setIfInBounds_toArray, List.set_cons_zero, List.set_cons_succ]
          refine' wpAnyH_take (i := 8) (oi := { dst := some 64, op := Op.move (Operand.tmp 15), type := 28, pos := "outright.go:18", after := #[{ on := 6, ground := Ground.guard }], guard := some (6, false) }) (v := ?v51) rfl (by kernel_rfl) (by kernel_rfl) (by kernel_rfl) (fun _ _ _ h => h) (Or.inl ⟨by rfl, ?hy51⟩) (by assumption) ?rest51
          case hy51 => (intro w hSw; go_simp; (try with_reducible rfl))
          simp only [Act.put, List.setIfInBounds_toArray, List.set_cons_zero, List.set_cons_succ]
          refine' wpAnyH_take (i := 10) (oi := { dst := some 66, op := Op.load 51 (Operand.tmp 6), type := 51, pos := "outright.go:18", after := #[{ on := 6, ground := Ground.guard }], guard := some (6, false) }) (v := _) rfl (by kernel_rfl) (by kernel_rfl) (by kernel_rfl) (fun _ _ _ h => h) (yieldsIf_load_mid (by rfl) _ _ rfl _ _ rfl n.cells _ (fun w h => h.1) Try.underlying51 rfl size_note) (by assumption) ?_
          simp only [Act.put, List.setIfInBounds_toArray, List.set_cons_zero, List.set_cons_succ]
          refine' wpAnyH_take (i := 11) (oi := { dst := some 67, op := Op.load 51 (Operand.tmp 7), type := 51, pos := "outright.go:18", after := #[{ on := 6, ground := Ground.guard }], guard := some (6, false) }) (v := _) rfl (by kernel_rfl) (by kernel_rfl) (by kernel_rfl) (fun _ _ _ h => h) (yieldsIf_load_mid (by rfl) _ _ rfl _ _ rfl p.cells _ (fun w h => h.2) Try.underlying51 rfl size_note) (by assumption) ?_
          simp only [Act.put, List.setIfInBounds_toArray, List.set_cons_zero, List.set_cons_succ]
          refine' wpAnyH_take (i := 12) (oi := { dst := some 68, op := Op.binOp BinOp.eql 51 (Operand.tmp 66) (Operand.tmp 67) 51, type := 4, pos := "outright.go:18", after := #[{ on := 10, ground := Ground.data }, { on := 11, ground := Ground.data }, { on := 6, ground := Ground.guard }], guard := some (6, false) }) (v := ?v52) rfl (by kernel_rfl) (by kernel_rfl) (by kernel_rfl) (fun _ _ _ h => h) (Or.inl ⟨by rfl, ?hy52⟩) (by assumption) ?rest52
          case hy52 => (intro w hSw; go_simp; (try with_reducible rfl))
          simp only [Act.put, List.setIfInBounds_toArray, List.set_cons_zero, List.set_cons_succ]
          refine wpAnyH_ready (rs := [9]) (by kernel_rfl) (by simp) ?_
          refine AllReadyH.cons (o := { dst := some 65, op := Op.call { callee := Callee.value (Operand.func 17), args := #[Operand.tmp 63, Operand.tmp 64], argTypes := #[28, 28] }, type := 4, pos := "outright.go:18", after := #[{ on := 7, ground := Ground.data }, { on := 8, ground := Ground.data }, { on := 6, ground := Ground.chain }, { on := 6, ground := Ground.guard }], guard := some (6, false) }) rfl (fun K hK => ?_) AllReadyH.nil
          go_simp
          rw [hk5.out, hk6.out]
          refine (same_any A5 A6 c5 c6 l5 l6 w13 R7.out R8.out hlen5.out hlen6.out).mono ?_
          rw [HEN.out]
          rintro e w14 ⟨rfl, d4⟩
          have HF4 := Lib.hid (HF3.out.below (d4.below _))
          have B4 := Lib.hid (bel_next B3.out (d4.below _))
          have hS8 : w14.rangeAt g3 0 n.cells ∧ w14.rangeAt g4 0 p.cells := ⟨HF4.out.n.all, HF4.out.p.all⟩
          rw [← hk5.out, ← hk6.out]
          clear d4
          go_wp2_with fail
          refine hK.out _ _ hS8 (fun hHeld => ?_)
          clear hK K
          try simp only [Act.put, List.setIfInBounds_toArray, List.set_cons_zero, List.set_cons_succ]
          refine' wpAnyH_take (i := 13) (oi := { dst := some 69, op := Op.binOp BinOp.eql 4 (Operand.tmp 65) (Operand.tmp 68) 4, type := 4, pos := "outright.go:18", after := #[{ on := 9, ground := Ground.data }, { on := 12, ground := Ground.data }, { on := 6, ground := Ground.guard }], guard := some (6, false) }) (v := ?v53) rfl (by kernel_rfl) (by kernel_rfl) (by kernel_rfl) (fun _ _ _ h => h) (Or.inl ⟨by rfl, ?hy53⟩) (by assumption) ?rest53
          case hy53 => (intro w hSw; go_simp; (try with_reducible rfl))
          simp only [Act.put, List.setIfInBounds_toArray, List.set_cons_zero, List.set_cons_succ]
          refine' wpAnyH_take (i := 14) (oi := { dst := some 70, op := Op.pick (Operand.tmp 62) (Operand.const (Value.bool true)) (Operand.tmp 69), type := 4, pos := "outright.go:18", after := #[{ on := 6, ground := Ground.data }, { on := 13, ground := Ground.data }], guard := none }) (v := ?v54) rfl (by kernel_rfl) (by kernel_rfl) (by kernel_rfl) (fun _ _ _ h => h) (Or.inl ⟨by rfl, ?hy54⟩) (by assumption) ?rest54
          case hy54 => (intro w hSw; go_simp; (try with_reducible rfl))
          simp only [Act.put, List.setIfInBounds_toArray, List.set_cons_zero, List.set_cons_succ]
          refine' wpAnyH_take (i := 15) (oi := { dst := some 71, op := Op.move (Operand.tmp 70), type := 4, pos := "outright.go:18", after := #[{ on := 14, ground := Ground.data }, { on := 9, ground := Ground.chain }], guard := none }) (v := ?v55) rfl (by kernel_rfl) (by kernel_rfl) (by kernel_rfl) (fun _ _ _ h => h) (Or.inl ⟨by rfl, ?hy55⟩) (by assumption) ?rest55
          case hy55 => (intro w hSw; go_simp; (try with_reducible rfl))
          simp only [Act.put, List.setIfInBounds_toArray, List.set_cons_zero, List.set_cons_succ]
          refine wpAnyH_ready (rs := [16]) (by kernel_rfl) (by simp) ?_
          refine AllReadyH.cons (o := { dst := some 72, op := Op.call { callee := Callee.value (Operand.func 18), args := #[], argTypes := #[] }, type := 4, pos := "outright.go:18", after := #[{ on := 15, ground := Ground.chain }, { on := 15, ground := Ground.guard }], guard := some (15, true) }) rfl (fun K hK => ?_) AllReadyH.nil
          go_simp
          refine (awake_any _).mono ?_
          rintro e w15 ⟨rfl, b15⟩
          have B5 := Lib.hid (bel_next B4.out b15)
          have HF5 := Lib.hid (HF4.out.below b15)
          have hS9 : w15.rangeAt g3 0 n.cells ∧ w15.rangeAt g4 0 p.cells := ⟨HF5.out.n.all, HF5.out.p.all⟩
          clear b15
          go_wp2_with fail
          refine hK.out _ _ hS9 (fun hHeld => ?_)
          clear hK K
          try simp only [Act.put, List.setIfInBounds_toArray, List.set_cons_zero, List.set_cons_succ]
          refine' wpAnyH_take (i := 17) (oi := { dst := some 73, op := Op.pick (Operand.tmp 71) (Operand.tmp 72) (Operand.const (Value.bool false)), type := 4, pos := "outright.go:18", after := #[{ on := 15, ground := Ground.data }, { on := 16, ground := Ground.data }], guard := none }) (v := ?v56) rfl (by kernel_rfl) (by kernel_rfl) (by kernel_rfl) (fun _ _ _ h => h) (Or.inl ⟨by rfl, ?hy56⟩) (by assumption) ?rest56
          case hy56 => (intro w hSw; go_simp; (try with_reducible rfl))
          simp only [Act.put, List.setIfInBounds_toArray, List.set_cons_zero, List.set_cons_succ]
          refine' wpAnyH_take (i := 18) (oi := { dst := some 8, op := Op.assign (Operand.tmp 73), type := 4, pos := "outright.go:18", after := #[{ on := 17, ground := Ground.data }, { on := 16, ground := Ground.chain }, { on := 0, ground := Ground.phase }, { on := 1, ground := Ground.phase }, { on := 2, ground := Ground.phase }, { on := 3, ground := Ground.phase }, { on := 4, ground := Ground.phase }, { on := 5, ground := Ground.phase }, { on := 6, ground := Ground.phase }, { on := 7, ground := Ground.phase }, { on := 8, ground := Ground.phase }, { on := 9, ground := Ground.phase }, { on := 10, ground := Ground.phase }, { on := 11, ground := Ground.phase }, { on := 12, ground := Ground.phase }, { on := 13, ground := Ground.phase }, { on := 14, ground := Ground.phase }, { on := 15, ground := Ground.phase }, { on := 16, ground := Ground.phase }, { on := 17, ground := Ground.phase }], guard := none }) (v := ?v57) rfl (by kernel_rfl) (by kernel_rfl) (by kernel_rfl) (fun _ _ _ h => h) (Or.inl ⟨by rfl, ?hy57⟩) (by assumption) ?rest57
          case hy57 => (intro w hSw; go_simp; (try with_reducible rfl))
          simp only [Act.put, List.setIfInBounds_toArray, List.set_cons_zero, List.set_cons_succ]
          refine wpAnyH_done (by kernel_rfl) ?_ _
          go_wp2_with fail
          go_ret
          exact ⟨rfl, B5.out⟩
      | true =>
        as_aux_lemma =>
          rw [hnp] at heq HEN
          clear hnp
          refine wp_region_held_drew (S := fun w' => w'.rangeAt g3 0 n.cells ∧ w'.rangeAt g4 0 p.cells) (by kernel_rfl) hS7 (fun hHeld => ?_)
          generalize w12.drew = w13 at *
          refine' wpAnyH_take (i := 0) (oi := { dst := some 56, op := Op.move (Operand.tmp 14), type := 29, pos := "outright.go:18", after := #[], guard := none }) (v := ?v58) rfl (by kernel_rfl) (by kernel_rfl) (by kernel_rfl) (fun _ _ _ h => h) (Or.inl ⟨by rfl, ?hy58⟩) (by assumption) ?rest58
          case hy58 => (intro w hSw; go_simp; (try with_reducible rfl))
          simp only [Act.put, List.setIfInBounds_toArray, List.set_cons_zero, List.set_cons_succ]
          refine' wpAnyH_take (i := 1) (oi := { dst := some 57, op := Op.binOp BinOp.neq 29 (Operand.tmp 56) (Operand.const (Value.int IntKind.i64 0)) 29, type := 4, pos := "outright.go:18", after := #[{ on := 0, ground := Ground.data }], guard := none }) (v := ?v59) rfl (by kernel_rfl) (by kernel_rfl) (by kernel_rfl) (fun _ _ _ h => h) (Or.inl ⟨by rfl, ?hy59⟩) (by assumption) ?rest59
          case hy59 => (intro w hSw; go_simp; (try with_reducible rfl))
          simp only [Act.put, List.setIfInBounds_toArray, List.set_cons_zero, List.set_cons_succ]
          refine' wpAnyH_take (i := 2) (oi := { dst := some 58, op := Op.move (Operand.tmp 57), type := 4, pos := "outright.go:18", after := #[{ on := 1, ground := Ground.data }], guard := none }) (v := ?v60) rfl (by kernel_rfl) (by kernel_rfl) (by kernel_rfl) (fun _ _ _ h => h) (Or.inl ⟨by rfl, ?hy60⟩) (by assumption) ?rest60
          case hy60 => (intro w hSw; go_simp; (try with_reducible rfl))
          simp only [Act.put, List.setIfInBounds_toArray, List.set_cons_zero, List.set_cons_succ]
          refine' wpAnyH_take (i := 3) (oi := { dst := some 59, op := Op.move (Operand.tmp 16), type := 29, pos := "outright.go:18", after := #[{ on := 2, ground := Ground.guard }], guard := some (2, false) }) (v := ?v61) rfl (by kernel_rfl) (by kernel_rfl) (by kernel_rfl) (fun _ _ _ h => h) (Or.inl ⟨by rfl, ?hy61⟩) (by assumption) ?rest61
          case hy61 => (intro w hSw; go_simp; (try with_reducible rfl))
          simp only [Act.put, List.setIfInBounds_toArray, List.set_cons_zero, List.set_cons_succ]
          refine' wpAnyH_take (i := 4) (oi := { dst := some 60, op := Op.binOp BinOp.neq 29 (Operand.tmp 59) (Operand.const (Value.int IntKind.i64 0)) 29, type := 4, pos := "outright.go:18", after := #[{ on := 3, ground := Ground.data }, { on := 2, ground := Ground.guard }], guard := some (2, false) }) (v := ?v62) rfl (by kernel_rfl) (by kernel_rfl) (by kernel_rfl) (fun _ _ _ h => h) (Or.inl ⟨by rfl, ?hy62⟩) (by assumption) ?rest62
          case hy62 => (intro w hSw; go_simp; (try with_reducible rfl))
          simp only [Act.put, List.setIfInBounds_toArray, List.set_cons_zero, List.set_cons_succ]
          refine' wpAnyH_take (i := 5) (oi := { dst := some 61, op := Op.pick (Operand.tmp 58) (Operand.const (Value.bool true)) (Operand.tmp 60), type := 4, pos := "outright.go:18", after := #[{ on := 2, ground := Ground.data }, { on := 4, ground := Ground.data }], guard := none }) (v := ?v63) rfl (by kernel_rfl) (by kernel_rfl) (by kernel_rfl) (fun _ _ _ h => h) (Or.inl ⟨by rfl, ?hy63⟩) (by assumption) ?rest63
          case hy63 => (intro w hSw; go_simp; (try with_reducible rfl))
          simp only [Act.put, List.setIfInBounds_toArray, List.set_cons_zero, List.set_cons_succ]
          refine' wpAnyH_take (i := 6) (oi := { dst := some 62, op := Op.move (Operand.tmp 61), type := 4, pos := "outright.go:18", after := #[{ on := 5, ground := Ground.data }, { on := 2, ground := Ground.chain }], guard := none }) (v := ?v64) rfl (by kernel_rfl) (by kernel_rfl) (by kernel_rfl) (fun _ _ _ h => h) (Or.inl ⟨by rfl, ?hy64⟩) (by assumption) ?rest64
          case hy64 => (intro w hSw; go_simp; (try with_reducible rfl))
          simp only [Act.put, List.setIfInBounds_toArray, List.set_cons_zero, List.set_cons_succ]
          refine' wpAnyH_take (i := 7) (oi := { dst := some 63, op := Op.move (Operand.tmp 13), type := 28, pos := "outright.go:18", after := #[{ on := 6, ground := Ground.guard }], guard := some (6, false) }) (v := ?v65) rfl (by kernel_rfl) (by kernel_rfl) (by kernel_rfl) (fun _ _ _ h => h) (Or.inl ⟨by rfl, ?hy65⟩) (by assumption) ?rest65
          case hy65 => (intro w hSw; go_simp; (try with_reducible rfl))
          simp only [Act.put, List.setIfInBounds_toArray, List.set_cons_zero, List.set_cons_succ]
          refine' wpAnyH_take (i := 8) (oi := { dst := some 64, op := Op.move (Operand.tmp 15), type := 28, pos := "outright.go:18", after := #[{ on := 6, ground := Ground.guard }], guard := some (6, false) }) (v := ?v66) rfl (by kernel_rfl) (by kernel_rfl) (by kernel_rfl) (fun _ _ _ h => h) (Or.inl ⟨by rfl, ?hy66⟩) (by assumption) ?rest66
          case hy66 => (intro w hSw; go_simp; (try with_reducible rfl))
          simp only [Act.put, List.setIfInBounds_toArray, List.set_cons_zero, List.set_cons_succ]
          refine' wpAnyH_take (i := 10) (oi := { dst := some 66, op := Op.load 51 (Operand.tmp 6), type := 51, pos := "outright.go:18", after := #[{ on := 6, ground := Ground.guard }], guard := some (6, false) }) (v := _) rfl (by kernel_rfl) (by kernel_rfl) (by kernel_rfl) (fun _ _ _ h => h) (yieldsIf_load_mid (by rfl) _ _ rfl _ _ rfl n.cells _ (fun w h => h.1) Try.underlying51 rfl size_note) (by assumption) ?_
          simp only [Act.put, List.setIfInBounds_toArray, List.set_cons_zero, List.set_cons_succ]
          refine' wpAnyH_take (i := 11) (oi := { dst := some 67, op := Op.load 51 (Operand.tmp 7), type := 51, pos := "outright.go:18", after := #[{ on := 6, ground := Ground.guard }], guard := some (6, false) }) (v := _) rfl (by kernel_rfl) (by kernel_rfl) (by kernel_rfl) (fun _ _ _ h => h) (yieldsIf_load_mid (by rfl) _ _ rfl _ _ rfl p.cells _ (fun w h => h.2) Try.underlying51 rfl size_note) (by assumption) ?_
          simp only [Act.put, List.setIfInBounds_toArray, List.set_cons_zero, List.set_cons_succ]
          refine' wpAnyH_take (i := 12) (oi := { dst := some 68, op := Op.binOp BinOp.eql 51 (Operand.tmp 66) (Operand.tmp 67) 51, type := 4, pos := "outright.go:18", after := #[{ on := 10, ground := Ground.data }, { on := 11, ground := Ground.data }, { on := 6, ground := Ground.guard }], guard := some (6, false) }) (v := ?v67) rfl (by kernel_rfl) (by kernel_rfl) (by kernel_rfl) (fun _ _ _ h => h) (Or.inl ⟨by rfl, ?hy67⟩) (by assumption) ?rest67
          case hy67 => (intro w hSw; go_simp; (try with_reducible rfl))
          simp only [Act.put, List.setIfInBounds_toArray, List.set_cons_zero, List.set_cons_succ]
          refine wpAnyH_ready (rs := [9]) (by kernel_rfl) (by simp) ?_
          refine AllReadyH.cons (o := { dst := some 65, op := Op.call { callee := Callee.value (Operand.func 17), args := #[Operand.tmp 63, Operand.tmp 64], argTypes := #[28, 28] }, type := 4, pos := "outright.go:18", after := #[{ on := 7, ground := Ground.data }, { on := 8, ground := Ground.data }, { on := 6, ground := Ground.chain }, { on := 6, ground := Ground.guard }], guard := some (6, false) }) rfl (fun K hK => ?_) AllReadyH.nil
          go_simp
          rw [hk5.out, hk6.out]
          refine (same_any A5 A6 c5 c6 l5 l6 w13 R7.out R8.out hlen5.out hlen6.out).mono ?_
          rw [HEN.out]
          rintro e w14 ⟨rfl, d4⟩
          have HF4 := Lib.hid (HF3.out.below (d4.below _))
          have B4 := Lib.hid (bel_next B3.out (d4.below _))
          have hS8 : w14.rangeAt g3 0 n.cells ∧ w14.rangeAt g4 0 p.cells := ⟨HF4.out.n.all, HF4.out.p.all⟩
          rw [← hk5.out, ← hk6.out]
          clear d4
          go_wp2_with fail
          refine hK.out _ _ hS8 (fun hHeld => ?_)
          clear hK K
          try simp only [Act.put, List.setIfInBounds_toArray, List.set_cons_zero, List.set_cons_succ]
          refine' wpAnyH_take (i := 13) (oi := { dst := some 69, op := Op.binOp BinOp.eql 4 (Operand.tmp 65) (Operand.tmp 68) 4, type := 4, pos := "outright.go:18", after := #[{ on := 9, ground := Ground.data }, { on := 12, ground := Ground.data }, { on := 6, ground := Ground.guard }], guard := some (6, false) }) (v := ?v68) rfl (by kernel_rfl) (by kernel_rfl) (by kernel_rfl) (fun _ _ _ h => h) (Or.inl ⟨by rfl, ?hy68⟩) (by assumption) ?rest68
          case hy68 => (intro w hSw; go_simp; (try with_reducible rfl))
          simp only [Act.put, List.setIfInBounds_toArray, List.set_cons_zero, List.set_cons_succ]
          refine' wpAnyH_take (i := 14) (oi := { dst := some 70, op := Op.pick (Operand.tmp 62) (Operand.const (Value.bool true)) (Operand.tmp 69), type := 4, pos := "outright.go:18", after := #[{ on := 6, ground := Ground.data }, { on := 13, ground := Ground.data }], guard := none }) (v := ?v69) rfl (by kernel_rfl) (by kernel_rfl) (by kernel_rfl) (fun _ _ _ h => h) (Or.inl ⟨by rfl, ?hy69⟩) (by assumption) ?rest69
          case hy69 => (intro w hSw; go_simp; (try with_reducible rfl))
          simp only [Act.put, List.setIfInBounds_toArray, List.set_cons_zero, List.set_cons_succ]
          refine' wpAnyH_take (i := 15) (oi := { dst := some 71, op := Op.move (Operand.tmp 70), type := 4, pos := "outright.go:18", after := #[{ on := 14, ground := Ground.data }, { on := 9, ground := Ground.chain }], guard := none }) (v := ?v70) rfl (by kernel_rfl) (by kernel_rfl) (by kernel_rfl) (fun _ _ _ h => h) (Or.inl ⟨by rfl, ?hy70⟩) (by assumption) ?rest70
          case hy70 => (intro w hSw; go_simp; (try with_reducible rfl))
          simp only [Act.put, List.setIfInBounds_toArray, List.set_cons_zero, List.set_cons_succ]
          refine wpAnyH_ready (rs := [16]) (by kernel_rfl) (by simp) ?_
          refine AllReadyH.cons (o := { dst := some 72, op := Op.call { callee := Callee.value (Operand.func 18), args := #[], argTypes := #[] }, type := 4, pos := "outright.go:18", after := #[{ on := 15, ground := Ground.chain }, { on := 15, ground := Ground.guard }], guard := some (15, true) }) rfl (fun K hK => ?_) AllReadyH.nil
          go_simp
          refine (awake_any _).mono ?_
          rintro e w15 ⟨rfl, b15⟩
          have B5 := Lib.hid (bel_next B4.out b15)
          have HF5 := Lib.hid (HF4.out.below b15)
          have hS9 : w15.rangeAt g3 0 n.cells ∧ w15.rangeAt g4 0 p.cells := ⟨HF5.out.n.all, HF5.out.p.all⟩
          clear b15
          go_wp2_with fail
          refine hK.out _ _ hS9 (fun hHeld => ?_)
          clear hK K
          try simp only [Act.put, List.setIfInBounds_toArray, List.set_cons_zero, List.set_cons_succ]
          refine' wpAnyH_take (i := 17) (oi := { dst := some 73, op := Op.pick (Operand.tmp 71) (Operand.tmp 72) (Operand.const (Value.bool false)), type := 4, pos := "outright.go:18", after := #[{ on := 15, ground := Ground.data }, { on := 16, ground := Ground.data }], guard := none }) (v := ?v71) rfl (by kernel_rfl) (by kernel_rfl) (by kernel_rfl) (fun _ _ _ h => h) (Or.inl ⟨by rfl, ?hy71⟩) (by assumption) ?rest71
          case hy71 => (intro w hSw; go_simp; (try with_reducible rfl))
          simp only [Act.put, List.setIfInBounds_toArray, List.set_cons_zero, List.set_cons_succ]
          refine' wpAnyH_take (i := 18) (oi := { dst := some 8, op := Op.assign (Operand.tmp 73), type := 4, pos := "outright.go:18", after := #[{ on := 17, ground := Ground.data }, { on := 16, ground := Ground.chain }, { on := 0, ground := Ground.phase }, { on := 1, ground := Ground.phase }, { on := 2, ground := Ground.phase }, { on := 3, ground := Ground.phase }, { on := 4, ground := Ground.phase }, { on := 5, ground := Ground.phase }, { on := 6, ground := Ground.phase }, { on := 7, ground := Ground.phase }, { on := 8, ground := Ground.phase }, { on := 9, ground := Ground.phase }, { on := 10, ground := Ground.phase }, { on := 11, ground := Ground.phase }, { on := 12, ground := Ground.phase }, { on := 13, ground := Ground.phase }, { on := 14, ground := Ground.phase }, { on := 15, ground := Ground.phase }, { on := 16, ground := Ground.phase }, { on := 17, ground := Ground.phase }], guard := none }) (v := ?v72) rfl (by kernel_rfl) (by kernel_rfl) (by kernel_rfl) (fun _ _ _ h => h) (Or.inl ⟨by rfl, ?hy72⟩) (by assumption) ?rest72
          case hy72 => (intro w hSw; go_simp; (try with_reducible rfl))
          simp only [Act.put, List.setIfInBounds_toArray, List.set_cons_zero, List.set_cons_succ]
          refine wpAnyH_done (by kernel_rfl) ?_ _
          go_wp2_with fail
          go_ret
          exact ⟨rfl, B5.out⟩

end Go.Proofs.Ytmhcjkiaogimgaa
