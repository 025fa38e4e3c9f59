/- WireHalves: the walk. -/
import Derived.Test.YtmhcjkiaogimgaaLwF
namespace Go.Proofs.Ytmhcjkiaogimgaa
open Go.RowKit

theorem fdiv_any (t : TypeId) (x y : Nat) (w : World) : ∃ r w', (binOp .quo t (.float .f64 x) (.float .f64 y)).run Try.prog w = .ok (.float .f64 r) w' ∧ Drawn w w' := by
  cases h : FloatKind.f64.format.div x y with
  | some r => exact ⟨r, w, by simp [binOp, Op.floatArith, h], Drawn.refl _⟩
  | none => exact ⟨_, _, by simp [binOp, Op.floatArith, h, choose, Sem.run, Question.forced]; exact ⟨rfl, rfl⟩, ⟨1, rfl⟩⟩

set_option maxRecDepth 100000 in
set_option maxHeartbeats 4000000 in
theorem halves_law (m : MD) (s : Sls) (xs : Array Value) {W : World} (hx : MArg W xs m s) : Calls Try.prog 4 #[.agg xs] W fun e w' => e = .returned (.bool true) ∧ Below W.heap.size W w' := by
  obtain ⟨V, hV⟩ : ∃ V, V = W.alloc (.cells xs 27) := ⟨_, rfl⟩
  obtain ⟨hN, hB⟩ := hx.box V hV
  have HV := Lib.hid hV
  clear hV hx
  go_enter Try.func4, Try.ntmps4
  go_upto_region 1 with fail
  rw [← HV.out]
  generalize W.heap.size = g2 at hN ⊢
  go_wp2_with ((with_reducible refine wpList_load_m (op := ⟨_, Op.load 27 _, _, _, _, _⟩) rfl _ rfl _ _ _ ?_ hN ?_); rfl)
  refine (msg_any m s _ _ hN.arg).mono ?_
  rintro e w1 ⟨ys, s1, rfl, a1, b1⟩
  have hys : ys = (m.msg.cells s1).toArray := a1.is.eq
  subst hys
  obtain ⟨z1, z2⟩ := mtwo w1 m.msg s1
  have hz : Blk (w1.alloc (.cells #[.int .i64 0, .int .i64 0, .int .i64 0, .int .i64 0, .complex .f64 0 0, .int .i64 0, .int .i64 0, .int .i64 0, .int .i64 0, .string ⟨#[]⟩, .int .i64 0, .string ⟨#[]⟩, .int .i64 0, .string ⟨#[]⟩, .slice none 0 0, .slice none 0 0] 34)) w1.heap.size ((MsgD.new 0 0 0 0).cells NSL).toArray 34 := Blk.new w1 ZERO.toArray _
  have HN1 := Lib.hid ((hN.below b1).below z2)
  have B1 := Lib.hid (bel_next (bel_next hB b1) z2)
  have A1 := Lib.hid a1
  have HB12 := Lib.hid z2
  have hlt : g2 < w1.heap.size := (hN.below b1).blk.lt
  have hge := Lib.hid (Nat.le_trans (bel_next hB b1).size (Nat.le_refl _))
  clear b1 hB hN a1 z2
  go_upto_region 2 with ((with_reducible refine wpList_store_blk34 (op := ⟨_, Op.store 34 _ _, _, _, _, _⟩) rfl _ _ rfl _ _ m.msg _ s1 ?_ ?_ hz ?_); rfl; rfl)
  clear hz
  generalize (w1.alloc (.cells #[.int .i64 0, .int .i64 0, .int .i64 0, .int .i64 0, .complex .f64 0 0, .int .i64 0, .int .i64 0, .int .i64 0, .int .i64 0, .string ⟨#[]⟩, .int .i64 0, .string ⟨#[]⟩, .int .i64 0, .string ⟨#[]⟩, .slice none 0 0, .slice none 0 0] 34)).setCells w1.heap.size 0 (m.msg.cells s1) = w2 at *
  generalize hg3 : w1.heap.size = g3 at *
  have HG3 := Lib.hid hg3
  clear hg3
  have c4 : w2.cell? ⟨g2, 4, none⟩ = some (.int .i64 m.epoch) := by rw [HN1.out.blk.cell]; rfl
  have c5 : w2.cell? ⟨g2, 5, none⟩ = some (.int .i64 m.number) := by rw [HN1.out.blk.cell]; rfl
  have d4 : w2.cell? ⟨g3, 4, none⟩ = some (.complex .f64 m.msg.ma m.msg.mb) := by rw [z1.cell]; rfl
  have f4 := z1.frozen 4
  obtain ⟨r1, w3, h1, d1⟩ := fdiv_any 41 (floatOfInt .f64 m.epoch) 4611686018427387904 w2
  obtain ⟨r2, w4, h2, d2⟩ := fdiv_any 41 (floatOfInt .f64 m.number) 4611686018427387904 w3
  obtain ⟨n1, rfl⟩ := d1.ex
  obtain ⟨n2, rfl⟩ := d2.ex
  have hD : Drawn w2 (w2.drewN (n1 + n2)) := (Drawn.refl w2).drewN (n1 + n2)
  obtain ⟨l, E, P, _⟩ := both_cases (⟨m.msg.kind, m.msg.client, m.msg.life, m.msg.seq, r1, r2, m.msg.version, m.msg.err, m.msg.op, m.msg.entries, m.msg.keys⟩ : MsgD)
  have HP := Lib.hid P
  clear P
  have B2 := Lib.hid (bel_next B1.out (hD.below _))
  have z2 := Lib.hid (z1.kp (hD.kp (fun _ => False)) (fun h => h))
  have hst := run_store_c (w2.drewN (n1 + n2)) g3 4 (.complex .f64 m.msg.ma m.msg.mb) (.complex .f64 r1 r2) (by rw [z2.out.cell]; rfl) (z2.out.frozen 4) rfl
  have d4' : (w2.drewN (n1 + n2)).cell? ⟨g3, 4, none⟩ = some (.complex .f64 m.msg.ma m.msg.mb) := by rw [z2.out.cell]; rfl
  have f4' := z2.out.frozen 4
  have hg23 : ¬ g2 = g3 := by omega
  clear d1 d2 z1 B1
  go_upto_region 3 with fail
  have hb4 := (z2.out.set 4 (.complex .f64 r1 r2))
  have hkp : Kp (fun k => k = g3) (w2.drewN (n1 + n2)) ((w2.drewN (n1 + n2)).setCell ⟨g3, 4, none⟩ (.complex .f64 r1 r2)) := Kp.setCell (S := fun k => k = g3) (Kp.refl _ _) (p := ⟨g3, 4, none⟩) rfl _
  have hge' := hge.out
  have hlt3 : g3 ≤ (w2.drewN (n1 + n2)).heap.size := Nat.le_of_lt z2.out.lt
  have B3 := Lib.hid (below_kp B2.out hkp B2.out.size (fun k hk => by omega))
  have hbel : Below w1.heap.size w1 ((w2.drewN (n1 + n2)).setCell ⟨g3, 4, none⟩ (.complex .f64 r1 r2)) := by
    have hB12 := HB12.out
    have hs := hB12.size
    rw [HG3.out] at hs ⊢
    exact below_kp (hB12.trans ((hD.below _).mono hs)) hkp (by have := hlt3; omega) (fun k hk => by omega)
  have A3 := Lib.hid (show MsgArg ((w2.drewN (n1 + n2)).setCell ⟨g3, 4, none⟩ (.complex .f64 r1 r2)) ((⟨m.msg.kind, m.msg.client, m.msg.life, m.msg.seq, r1, r2, m.msg.version, m.msg.err, m.msg.op, m.msg.entries, m.msg.keys⟩ : MsgD).cells s1).toArray (⟨m.msg.kind, m.msg.client, m.msg.life, m.msg.seq, r1, r2, m.msg.version, m.msg.err, m.msg.op, m.msg.entries, m.msg.keys⟩ : MsgD) s1 from ⟨⟨rfl⟩, A1.out.ents.below hbel, A1.out.keys.below hbel⟩)
  have hb5 : Blk ((w2.drewN (n1 + n2)).setCell ⟨g3, 4, none⟩ (.complex .f64 r1 r2)) g3 ((⟨m.msg.kind, m.msg.client, m.msg.life, m.msg.seq, r1, r2, m.msg.version, m.msg.err, m.msg.op, m.msg.entries, m.msg.keys⟩ : MsgD).cells s1).toArray 34 := hb4
  clear hb4 hkp hbel A1 HB12 B2 z2 hst d4' f4' h1 h2 c4 c5 d4 f4
  generalize (w2.drewN (n1 + n2)).setCell ⟨g3, 4, none⟩ (.complex .f64 r1 r2) = w5 at *
  obtain ⟨mm, hmm⟩ : ∃ mm : MsgD, mm = ⟨m.msg.kind, m.msg.client, m.msg.life, m.msg.seq, r1, r2, m.msg.version, m.msg.err, m.msg.op, m.msg.entries, m.msg.keys⟩ := ⟨_, rfl⟩
  rw [← hmm] at hb5 A3 HP
  clear hmm
  go_wp2_with ((with_reducible refine wpList_load_blk34 (op := ⟨_, Op.load 34 _, _, _, _, _⟩) rfl _ rfl _ _ _ ?_ hb5 ?_); rfl)
  refine (HP.out.prog s1 _ _ A3.out).mono ?_
  rintro e w6 ⟨A, c, rfl, o1, b1⟩
  have hb6 := hb5.kp (S := fun _ => False) (Kp.of_below b1) (fun h => h)
  have A4 := Lib.hid (A3.out.below b1)
  have B4 := Lib.hid (bel_next B3.out b1)
  have R4 := Lib.hid (rd_of_own o1)
  clear o1 b1 A3 B3 hb5
  go_wp2_with ((with_reducible refine wpList_load_blk34 (op := ⟨_, Op.load 34 _, _, _, _, _⟩) rfl _ rfl _ _ _ ?_ hb6 ?_); rfl)
  refine (HP.out.doc s1 _ _ A4.out).mono ?_
  rintro e w7 ⟨A', c', rfl, o2, b2⟩
  have hlen := Lib.hid (own_len o2)
  have R5 := Lib.hid (R4.out.below b2)
  have R6 := Lib.hid (rd_of_own o2)
  have B5 := Lib.hid (bel_next B4.out b2)
  clear o2 b2 A4 B4 R4 hb6
  go_wp2_with fail
  refine (same_any A A' c c' l l _ R5.out R6.out hlen.out hlen.out).mono ?_
  rintro e w8 ⟨rfl, d3⟩
  have B6 := Lib.hid (bel_next B5.out (d3.below _))
  clear d3
  go_wp2_with fail
  refine (awake_any _).mono ?_
  rintro e w9 ⟨rfl, b4⟩
  go_wp2_with fail
  go_ret
  exact ⟨rfl, bel_next B6.out b4⟩

end Go.Proofs.Ytmhcjkiaogimgaa
