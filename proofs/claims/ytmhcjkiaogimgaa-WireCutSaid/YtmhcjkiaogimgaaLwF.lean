/- WireBack: the walk. -/
import Derived.Test.YtmhcjkiaogimgaaLwE
import Derived.Test.YtmhcjkiaogimgaaWirU
import Derived.Deep.RegionHeld3
namespace Go.Proofs.Ytmhcjkiaogimgaa
open Go.RowKit

/-- What is written of a message: refused, or its bytes. -/
theorem both_cases (m : MsgD) : ∃ l E, BothMsg m l E ∧ ((E = 50 ∧ l = []) ∨ ∃ e n, MV m.ma m.mb e n ∧ m.ok = true ∧ l = (m.md e n).enc ∧ E = 0) := by
  obtain ⟨l, E, hB, h⟩ := both_msg m
  refine ⟨l, E, hB, ?_⟩
  rcases h with ⟨e, n, hmv, hl, hE⟩ | ⟨_, hl, hE⟩
  · cases hok : m.ok with
    | false => exact .inl ⟨by rw [hE, MsgD.encE, hok]; rfl, by rw [hl, MsgD.encL, hok]; rfl⟩
    | true => exact .inr ⟨e, n, hmv, rfl, by rw [hl, MsgD.encL, hok, md_enc']; rfl, by rw [hE, MsgD.encE, hok]; rfl⟩
  · exact .inl ⟨hE, hl⟩
/-- A message that is written, with all that is told of its bytes. -/
structure Wrote2 (m : MsgD) (md : MD) : Prop where
  b : isB md.enc
  len : md.enc.length ≤ 20000
  pos : 0 < md.enc.length
  decm : decM md.enc = md.msg
  dece : decE md.enc = 0
  same : md.msg.same m = true
  ents : md.msg.entries = m.entries
  keys : md.msg.keys = m.keys
  ok : md.msg.ok = true
  ep : okN md.epoch = true
  nu : okN md.number = true
theorem wrote2 (m : MsgD) (e n : Nat) (hmv : MV m.ma m.mb e n) (hok : m.ok = true) : Wrote2 m (m.md e n) := by
  have h1 : okN ((m.md e n).epoch) = true := okN_nat hmv.he
  have h2 : okN ((m.md e n).number) = true := okN_nat hmv.hn
  have h3 : (m.md e n).msg.ok = true := (md_ok m e n).trans hok
  have hd := dec_enc h3 h1 h2
  exact ⟨isB_md _, md_len h3 h1 h2, md_pos _, by unfold decM; rw [hd], by unfold decE; rw [hd]; rfl, same_md hmv, rfl, rfl, h3, h1, h2⟩
theorem both_cases2 (m : MsgD) : ∃ l E, BothMsg m l E ∧ ((E = 50 ∧ l = []) ∨ ∃ md, Wrote2 m md ∧ l = md.enc ∧ E = 0) := by
  obtain ⟨l, E, hB, h⟩ := both_cases m
  rcases h with h | ⟨e, n, hmv, hok, hl, hE⟩
  · exact ⟨l, E, hB, .inl h⟩
  · exact ⟨l, E, hB, .inr ⟨m.md e n, wrote2 m e n hmv hok, hl, hE⟩⟩
theorem zero_same : (MsgD.new 0 0 0 0).same (MsgD.new 0 0 0 0) = true := by
  have h : feq 0 0 = true := by kernel_rfl
  simp [MsgD.same, MsgD.new, h]
theorem zero_arg (w : World) : MsgArg w ((MsgD.new 0 0 0 0).cells NSL).toArray (MsgD.new 0 0 0 0) NSL := ⟨⟨rfl⟩, RowsAt.nil _ _ _, RowsAt.nil _ _ _⟩
theorem MAt.row {w : World} {g : Nat} {m : MD} {s : Sls} (h : MAt w g m s) : m.msg.entries.length * 7 ≤ 9223372036854775807 ∧ m.msg.keys.length * 2 ≤ 9223372036854775807 := by
  have h1 := h.el
  have h2 := h.kl
  simp only [MD.msg]
  omega

set_option maxRecDepth 100000 in
set_option maxHeartbeats 16000000 in
theorem back_law (m : MD) (s : Sls) (xs : Array Value) {W : World} (hx : MArg W xs m s) (B : Option Addr) (len cap : Nat) (lb : List Int) (hb : ArgInts .u8 W B len lb) (hlen : len * 1 ≤ 140737488351232) :
    Calls Try.prog 9 #[.agg xs, .slice B len cap] W fun e w' => e = .returned (.bool true) ∧ Below W.heap.size W w' := by
  have hll : lb.length = len := hb.length
  obtain ⟨V, hV⟩ : ∃ V, V = W.alloc (.cells xs 27) := ⟨_, rfl⟩
  obtain ⟨hN, hB⟩ := hx.box V hV
  obtain ⟨l, E, P, hC⟩ := both_cases2 m.msg
  have HV := Lib.hid hV
  have HP := Lib.hid P
  have HC := Lib.hid hC
  have hRb := hb.rd.below hB
  have hIb := Lib.hid (isB_wf hb.wf)
  have hLL := Lib.hid hll
  clear hb hV hx P hC hll
  go_enter Try.func9, Try.ntmps9
  go_upto_region 1 with fail
  rw [← HV.out]
  generalize W.heap.size = g2 at hN ⊢
  go_wp2_with (((with_reducible refine wpList_load_m (op := ⟨_, Op.load 27 _, _, _, _, _⟩) rfl _ rfl _ _ _ ?_ hN ?_); rfl))
  refine (msg_any m s _ _ hN.arg).mono ?_
  rintro e w1 ⟨y1, s1, rfl, a1, b1⟩
  have hN1 := hN.below b1
  have B1 := bel_next hB b1
  have hRb1 := hRb.below b1
  clear b1 hN hB hRb
  go_wp2_with fail
  refine (HP.out.prog _ _ _ a1).mono ?_
  rintro e w2 ⟨A, c, rfl, o1, b1⟩
  have hN2 := hN1.below b1
  have B2 := bel_next B1 b1
  have hRb2 := hRb1.below b1
  clear b1 hN1 B1 hRb1 a1
  rcases HC.out with ⟨rfl, rfl⟩ | ⟨md, hw, rfl, rfl⟩
  · clear HC HP o1
    have HN2 := Lib.hid hN2
    clear hN2
    have hl0 : ([] : List Int).length = 0 := rfl
    rw [hl0]
    clear hl0
    go_wp2_with fail
    as_aux_lemma =>
      have B1' := Lib.hid B2
      clear B2
      have hRb1 := hRb2
      clear hRb2
      rw [← hLL.out]
      refine (copyB_any B cap lb _ hRb1 (by rw [hLL.out]; omega)).mono ?_
      rintro e w14 ⟨A4, c4, rfl, o4, b4⟩
      have hA4 := Lib.hid (barg_own o4 hIb.out (by rw [hLL.out]; omega))
      have hRb4 := Lib.hid (hRb1.below b4)
      have B4 := Lib.hid (bel_next B1'.out b4)
      clear o4 b4 hRb1 B1' HN2
      rw [hLL.out]
      go_wp2_with fail
      rw [← hLL.out]
      refine (decode_any w14 A4 c4 lb hA4.out).mono ?_
      rintro e w15 ⟨ys, sy, rfl, ay, b5⟩
      have hys : ys = ((decM lb).cells sy).toArray := ay.is.eq
      subst hys
      have hRb5 := Lib.hid (hRb4.out.below b5)
      have B5 := Lib.hid (bel_next B4.out b5)
      clear b5 hRb4 B4 hA4
      cases hu : dec lb with
      | none =>
        as_aux_lemma =>
          have hE : decE lb = 50 := by unfold decE; rw [hu]; rfl
          have hU : decM lb = MsgD.new 0 0 0 0 := by unfold decM; rw [hu]
          rw [hE, hLL.out]
          rw [hU] at ay
          rw [hU]
          clear hE hU hu
          obtain ⟨z1, z2⟩ := mtwo w15 (MsgD.new 0 0 0 0) sy
          have hz : Blk (w15.alloc (.cells #[.int .i64 0, .int .i64 0, .int .i64 0, .int .i64 0, .complex .f64 0 0, .int .i64 0, .int .i64 0, .int .i64 0, .int .i64 0, .string ⟨#[]⟩, .int .i64 0, .string ⟨#[]⟩, .int .i64 0, .string ⟨#[]⟩, .slice none 0 0, .slice none 0 0] 34)) w15.heap.size ((MsgD.new 0 0 0 0).cells NSL).toArray 34 := Blk.new w15 ZERO.toArray _
          have B6 := Lib.hid (bel_next B5.out z2)
          have AY := Lib.hid (ay.below z2)
          clear z2 ay
          go_upto_region 9 with (((with_reducible refine wpList_store_blk34 (op := ⟨_, Op.store 34 _ _, _, _, _, _⟩) rfl _ _ rfl _ _ (MsgD.new 0 0 0 0) _ sy ?_ ?_ hz ?_); rfl; rfl))
          clear hz
          generalize (w15.alloc (.cells #[.int .i64 0, .int .i64 0, .int .i64 0, .int .i64 0, .complex .f64 0 0, .int .i64 0, .int .i64 0, .int .i64 0, .int .i64 0, .string ⟨#[]⟩, .int .i64 0, .string ⟨#[]⟩, .int .i64 0, .string ⟨#[]⟩, .slice none 0 0, .slice none 0 0] 34)).setCells w15.heap.size 0 ((MsgD.new 0 0 0 0).cells sy) = w16 at *
          generalize w15.heap.size = g9 at *
          have hb0 := build0m
          go_wp2_with (first | ((with_reducible refine wpList_load_blk34 (op := ⟨_, Op.load 34 _, _, _, _, _⟩) rfl _ rfl _ _ _ ?_ z1 ?_); rfl) | ((with_reducible refine wpList_build_run (op := ⟨_, Op.build 34 _, _, _, _, _⟩) rfl _ _ rfl _ ?_ _ (hb0 _) ?_); (focus (first | (go_simp; done) | (go_simp; rfl)))))
          refine (sameMsg_any (MsgD.new 0 0 0 0) (MsgD.new 0 0 0 0) sy NSL _ _ w16 AY.out (zero_arg w16) (by decide) (by decide)).mono ?_
          rw [zero_same]
          rintro e w17 ⟨rfl, b7⟩
          have B7 := Lib.hid (bel_next B6.out b7)
          clear b7 hb0 z1
          go_wp2_with fail
          refine (awake_any _).mono ?_
          rintro e w18 ⟨rfl, b8⟩
          go_wp2_with fail
          go_ret
          exact ⟨rfl, bel_next B7.out b8⟩
      | some y =>
        as_aux_lemma =>
          have hE : decE lb = 0 := by unfold decE; rw [hu]; rfl
          have hU : decM lb = y.msg := by unfold decM; rw [hu]
          rw [hE, hLL.out]
          rw [hU] at ay
          rw [hU]
          obtain ⟨hyok, hyenc, hye, hyn⟩ := dec_back hIb.out hu
          have hmvy := mv_md hye hyn
          have hPL : Hid (y.msg.encL y.epoch.toNat y.number.toNat = lb) := by
            show _ = _
            rw [MsgD.encL, hyok, if_pos rfl, md_enc y _ _ (by have := (okN_le hye).1; omega) (by have := (okN_le hyn).1; omega)]
            exact hyenc
          have hPE : Hid (y.msg.encE = 0) := by show _ = _; rw [MsgD.encE, hyok]; rfl
          have HMV := Lib.hid hmvy
          clear hE hU hu hyok hyenc hye hyn hmvy
          obtain ⟨z1, z2⟩ := mtwo w15 y.msg sy
          have hz : Blk (w15.alloc (.cells #[.int .i64 0, .int .i64 0, .int .i64 0, .int .i64 0, .complex .f64 0 0, .int .i64 0, .int .i64 0, .int .i64 0, .int .i64 0, .string ⟨#[]⟩, .int .i64 0, .string ⟨#[]⟩, .int .i64 0, .string ⟨#[]⟩, .slice none 0 0, .slice none 0 0] 34)) w15.heap.size ((MsgD.new 0 0 0 0).cells NSL).toArray 34 := Blk.new w15 ZERO.toArray _
          have B6 := Lib.hid (bel_next B5.out z2)
          have hRb6 := Lib.hid (hRb5.out.below z2)
          have AY := Lib.hid (ay.below z2)
          clear z2 ay
          go_upto_region 9 with (((with_reducible refine wpList_store_blk34 (op := ⟨_, Op.store 34 _ _, _, _, _, _⟩) rfl _ _ rfl _ _ y.msg _ sy ?_ ?_ hz ?_); rfl; rfl))
          clear hz
          generalize (w15.alloc (.cells #[.int .i64 0, .int .i64 0, .int .i64 0, .int .i64 0, .complex .f64 0 0, .int .i64 0, .int .i64 0, .int .i64 0, .int .i64 0, .string ⟨#[]⟩, .int .i64 0, .string ⟨#[]⟩, .int .i64 0, .string ⟨#[]⟩, .slice none 0 0, .slice none 0 0] 34)).setCells w15.heap.size 0 (y.msg.cells sy) = w16 at *
          generalize w15.heap.size = g9 at *
          go_wp2_with (((with_reducible refine wpList_load_blk34 (op := ⟨_, Op.load 34 _, _, _, _, _⟩) rfl _ rfl _ _ _ ?_ z1 ?_); rfl))
          refine (encode_yes y.msg sy _ _ AY.out _ _ HMV.out).mono ?_
          rintro e w17 ⟨A7, c7, rfl, o7, b7⟩
          rw [hPL.out] at o7
          rw [hPE.out, hPL.out, hLL.out]
          have r7 := Lib.hid (rd_of_own o7)
          have r8 := Lib.hid (hRb6.out.below b7)
          have B7 := Lib.hid (bel_next B6.out b7)
          clear o7 b7 z1
          go_wp2_with fail
          rw [← hLL.out]
          refine (same_any A7 B c7 cap lb lb _ r7.out r8.out (by rw [hLL.out]; omega) (by rw [hLL.out]; omega)).mono ?_
          rintro e w18 ⟨rfl, d8⟩
          have B8 := Lib.hid (bel_next B7.out (d8.below _))
          clear d8
          go_wp2_with fail
          refine (awake_any _).mono ?_
          rintro e w19 ⟨rfl, b9⟩
          go_wp2_with fail
          go_ret
          exact ⟨rfl, bel_next B8.out b9⟩
  · have hA1 := Lib.hid (barg_own o1 hw.b (by have := hw.len; omega))
    have HU := Lib.hid (And.intro hw.decm hw.dece)
    have HSM := Lib.hid hw.same
    have hrow' : Hid (md.msg.entries.length * 7 ≤ 9223372036854775807 ∧ md.msg.keys.length * 2 ≤ 9223372036854775807) := by
      show _ ∧ _
      rw [hw.ents, hw.keys]
      exact hN2.row
    clear hw HC HP o1
    obtain ⟨j, hj⟩ : ∃ j, Hid (j = md.enc.length) := ⟨_, rfl⟩
    rw [← hj.out]
    have HN2 := Lib.hid hN2
    clear hN2
    go_wp2_with fail
    rw [hj.out]
    refine (decode_any w2 A c md.enc hA1.out).mono ?_
    rintro e w3 ⟨ys, sx, rfl, ax, b3⟩
    rw [HU.out.2, ← hj.out]
    rw [HU.out.1] at ax
    have hys : ys = (md.msg.cells sx).toArray := ax.is.eq
    subst hys
    obtain ⟨z1, z2⟩ := mtwo w3 md.msg sx
    have hz : Blk (w3.alloc (.cells #[.int .i64 0, .int .i64 0, .int .i64 0, .int .i64 0, .complex .f64 0 0, .int .i64 0, .int .i64 0, .int .i64 0, .int .i64 0, .string ⟨#[]⟩, .int .i64 0, .string ⟨#[]⟩, .int .i64 0, .string ⟨#[]⟩, .slice none 0 0, .slice none 0 0] 34)) w3.heap.size ((MsgD.new 0 0 0 0).cells NSL).toArray 34 := Blk.new w3 ZERO.toArray _
    have HN3 := Lib.hid ((HN2.out.below b3).below z2)
    have HR3 := Lib.hid ((hRb2.below b3).below z2)
    have HB3 := Lib.hid (bel_next (bel_next B2 b3) z2)
    have HX3 := Lib.hid (ax.below z2)
    clear b3 z2 ax hRb2 B2 HN2 hA1
    go_upto_region 4 with (((with_reducible refine wpList_store_blk34 (op := ⟨_, Op.store 34 _ _, _, _, _, _⟩) rfl _ _ rfl _ _ md.msg _ sx ?_ ?_ hz ?_); rfl; rfl))
    clear hz
    generalize (w3.alloc (.cells #[.int .i64 0, .int .i64 0, .int .i64 0, .int .i64 0, .complex .f64 0 0, .int .i64 0, .int .i64 0, .int .i64 0, .int .i64 0, .string ⟨#[]⟩, .int .i64 0, .string ⟨#[]⟩, .int .i64 0, .string ⟨#[]⟩, .slice none 0 0, .slice none 0 0] 34)).setCells w3.heap.size 0 (md.msg.cells sx) = w4 at *
    generalize w3.heap.size = g7 at *
    have hS0 : w4.drew.rangeAt g7 0 (md.msg.cells sx) ∧ w4.drew.rangeAt g2 0 (m.cells s) := ⟨fun j v hj => by
      rw [(z1.drew).cell, List.getElem?_toArray, Nat.zero_add]; exact hj, (HN3.out.below ((Drawn.refl w4).drew.below _)).all⟩
    have hN5 := HN3.out.below ((Drawn.refl w4).drew.below _)
    have hX5 := HX3.out.below ((Drawn.refl w4).drew.below _)
    have hR5 := HR3.out.below ((Drawn.refl w4).drew.below _)
    have hB5 := bel_next HB3.out ((Drawn.refl w4).drew.below _)
    have hz5 : Blk w4.drew g7 (md.msg.cells sx).toArray 34 := z1
    clear HN3 HX3 HR3 HB3 z1
    refine wp_region_held_drew (S := fun w' => w'.rangeAt g7 0 (md.msg.cells sx) ∧ w'.rangeAt g2 0 (m.cells s)) (by kernel_rfl) hS0 (fun hHeld => ?_)
    generalize w4.drew = w5 at *
    refine' wpAnyH_take (i := 0) (oi := { dst := some 26, op := Op.move (Operand.tmp 8), type := 29, pos := "law.go:59", after := #[], guard := none }) (v := ?v0) rfl (by kernel_rfl) (by kernel_rfl) (by kernel_rfl) (fun _ _ _ h => h) (Or.inl ⟨by rfl, ?hy0⟩) (by assumption) ?rest0
    case hy0 => (intro w hSw; go_simp; (try with_reducible rfl))
    simp only [Act.put, List.setIfInBounds_toArray, List.set_cons_zero, List.set_cons_succ]
    refine' wpAnyH_take (i := 1) (oi := { dst := some 27, op := Op.binOp BinOp.neq 29 (Operand.tmp 26) (Operand.const (Value.int IntKind.i64 0)) 29, type := 4, pos := "law.go:59", after := #[{ on := 0, ground := Ground.data }], guard := none }) (v := ?v1) rfl (by kernel_rfl) (by kernel_rfl) (by kernel_rfl) (fun _ _ _ h => h) (Or.inl ⟨by rfl, ?hy1⟩) (by assumption) ?rest1
    case hy1 => (intro w hSw; go_simp; (try with_reducible rfl))
    simp only [Act.put, List.setIfInBounds_toArray, List.set_cons_zero, List.set_cons_succ]
    refine' wpAnyH_take (i := 2) (oi := { dst := some 28, op := Op.move (Operand.tmp 27), type := 4, pos := "law.go:59", after := #[{ on := 1, ground := Ground.data }], guard := none }) (v := ?v2) rfl (by kernel_rfl) (by kernel_rfl) (by kernel_rfl) (fun _ _ _ h => h) (Or.inl ⟨by rfl, ?hy2⟩) (by assumption) ?rest2
    case hy2 => (intro w hSw; go_simp; (try with_reducible rfl))
    simp only [Act.put, List.setIfInBounds_toArray, List.set_cons_zero, List.set_cons_succ]
    refine' wpAnyH_take (i := 3) (oi := { dst := some 29, op := Op.load 34 (Operand.tmp 7), type := 34, pos := "law.go:59", after := #[{ on := 2, ground := Ground.guard }], guard := some (2, false) }) (v := _) rfl (by kernel_rfl) (by kernel_rfl) (by kernel_rfl) (fun _ _ _ h => h) (yieldsIf_load_mid (by rfl) _ _ rfl _ _ rfl (md.msg.cells sx) _ (fun w h => h.1) Try.underlying34 rfl size_msg) (by assumption) ?_
    simp only [Act.put, List.setIfInBounds_toArray, List.set_cons_zero, List.set_cons_succ]
    refine' wpAnyH_take (i := 4) (oi := { dst := some 30, op := Op.load 27 (Operand.tmp 2), type := 27, pos := "law.go:59", after := #[{ on := 2, ground := Ground.guard }], guard := some (2, false) }) (v := _) rfl (by kernel_rfl) (by kernel_rfl) (by kernel_rfl) (fun _ _ _ h => h) (yieldsIf_load_mid (by rfl) _ _ rfl _ _ rfl (m.cells s) _ (fun w h => h.2) Try.underlying27 rfl size_m) (by assumption) ?_
    simp only [Act.put, List.setIfInBounds_toArray, List.set_cons_zero, List.set_cons_succ]
    refine wpAnyH_ready (rs := [5]) (by kernel_rfl) (by simp) ?_
    refine AllReadyH.cons (o := { dst := some 31, op := Op.call { callee := Callee.value (Operand.func 15), args := #[Operand.tmp 30], argTypes := #[27] }, type := 34, pos := "law.go:59", after := #[{ on := 4, ground := Ground.data }, { on := 2, ground := Ground.chain }, { on := 2, ground := Ground.guard }], guard := some (2, false) }) rfl (fun K hK => ?_) AllReadyH.nil
    go_simp
    refine (msg_any m s _ _ hN5.arg).mono ?_
    rintro e w6 ⟨y6, s6, rfl, a6, b6⟩
    have hN6 := hN5.below b6
    have hX6 := hX5.below b6
    have hR6 := hR5.below b6
    have hB6 := bel_next hB5 b6
    have hz6 := hz5.kp (S := fun _ => False) (Kp.of_below b6) (fun h => h)
    have hS6 : w6.rangeAt g7 0 (md.msg.cells sx) ∧ w6.rangeAt g2 0 (m.cells s) := ⟨fun j v hj => by rw [hz6.cell, List.getElem?_toArray, Nat.zero_add]; exact hj, hN6.all⟩
    clear b6 hN5 hX5 hR5 hB5 hz5
    go_wp2_with fail
    refine hK.out _ _ hS6 (fun hHeld => ?_)
    clear hK K
    try simp only [Act.put, List.setIfInBounds_toArray, List.set_cons_zero, List.set_cons_succ]
    refine wpAnyH_ready (rs := [6]) (by kernel_rfl) (by simp) ?_
    refine AllReadyH.cons (o := { dst := some 32, op := Op.call { callee := Callee.value (Operand.func 21), args := #[Operand.tmp 29, Operand.tmp 31], argTypes := #[34, 34] }, type := 4, pos := "law.go:59", after := #[{ on := 3, ground := Ground.data }, { on := 5, ground := Ground.data }, { on := 5, ground := Ground.chain }, { on := 2, ground := Ground.guard }], guard := some (2, false) }) rfl (fun K hK => ?_) AllReadyH.nil
    go_simp
    refine (sameMsg_any md.msg m.msg sx s6 _ y6 w6 hX6 a6 hrow'.out.1 hrow'.out.2).mono ?_
    rw [HSM.out]
    rintro e w7 ⟨rfl, b7⟩
    have hN7 := hN6.below b7
    have hR7 := hR6.below b7
    have hB7 := bel_next hB6 b7
    have hz7 := hz6.kp (S := fun _ => False) (Kp.of_below b7) (fun h => h)
    have hS7 : w7.rangeAt g7 0 (md.msg.cells sx) ∧ w7.rangeAt g2 0 (m.cells s) := ⟨fun j v hj => by rw [hz7.cell, List.getElem?_toArray, Nat.zero_add]; exact hj, hN7.all⟩
    clear b7 hN6 hX6 hR6 hB6 hz6 a6 hS6 hz7
    go_wp2_with fail
    refine hK.out _ _ hS7 (fun hHeld => ?_)
    clear hK K hS7
    try simp only [Act.put, List.setIfInBounds_toArray, List.set_cons_zero, List.set_cons_succ]
    refine' wpAnyH_take (i := 7) (oi := { dst := some 33, op := Op.unOp UnOp.not 4 (Operand.tmp 32), type := 4, pos := "law.go:59", after := #[{ on := 6, ground := Ground.data }, { on := 2, ground := Ground.guard }], guard := some (2, false) }) (v := ?v7) rfl (by kernel_rfl) (by kernel_rfl) (by kernel_rfl) (fun _ _ _ h => h) (Or.inl ⟨by rfl, ?hy7⟩) (by assumption) ?rest7
    case hy7 => (intro w hSw; go_simp; (try with_reducible rfl))
    simp only [Act.put, List.setIfInBounds_toArray, List.set_cons_zero, List.set_cons_succ]
    refine' wpAnyH_take (i := 8) (oi := { dst := some 34, op := Op.pick (Operand.tmp 28) (Operand.const (Value.bool true)) (Operand.tmp 33), type := 4, pos := "law.go:59", after := #[{ on := 2, ground := Ground.data }, { on := 7, ground := Ground.data }], guard := none }) (v := ?v8) rfl (by kernel_rfl) (by kernel_rfl) (by kernel_rfl) (fun _ _ _ h => h) (Or.inl ⟨by rfl, ?hy8⟩) (by assumption) ?rest8
    case hy8 => (intro w hSw; go_simp; (try with_reducible rfl))
    simp only [Act.put, List.setIfInBounds_toArray, List.set_cons_zero, List.set_cons_succ]
    refine wpAnyH_done (by kernel_rfl) ?_ _
    have HN2 := Lib.hid hN7
    have hRb2 := hR7
    have B2 := hB7
    clear hN7 hR7 hB7 hHeld hS0 HU HSM hrow'
    go_wp2_with fail
    as_aux_lemma =>
      have B1' := Lib.hid B2
      clear B2
      have hRb1 := hRb2
      clear hRb2
      rw [← hLL.out]
      refine (copyB_any B cap lb _ hRb1 (by rw [hLL.out]; omega)).mono ?_
      rintro e w14 ⟨A4, c4, rfl, o4, b4⟩
      have hA4 := Lib.hid (barg_own o4 hIb.out (by rw [hLL.out]; omega))
      have hRb4 := Lib.hid (hRb1.below b4)
      have B4 := Lib.hid (bel_next B1'.out b4)
      clear o4 b4 hRb1 B1' HN2
      rw [hLL.out]
      go_wp2_with fail
      rw [← hLL.out]
      refine (decode_any w14 A4 c4 lb hA4.out).mono ?_
      rintro e w15 ⟨ys, sy, rfl, ay, b5⟩
      have hys : ys = ((decM lb).cells sy).toArray := ay.is.eq
      subst hys
      have hRb5 := Lib.hid (hRb4.out.below b5)
      have B5 := Lib.hid (bel_next B4.out b5)
      clear b5 hRb4 B4 hA4
      cases hu : dec lb with
      | none =>
        as_aux_lemma =>
          have hE : decE lb = 50 := by unfold decE; rw [hu]; rfl
          have hU : decM lb = MsgD.new 0 0 0 0 := by unfold decM; rw [hu]
          rw [hE, hLL.out]
          rw [hU] at ay
          rw [hU]
          clear hE hU hu
          obtain ⟨z1, z2⟩ := mtwo w15 (MsgD.new 0 0 0 0) sy
          have hz : Blk (w15.alloc (.cells #[.int .i64 0, .int .i64 0, .int .i64 0, .int .i64 0, .complex .f64 0 0, .int .i64 0, .int .i64 0, .int .i64 0, .int .i64 0, .string ⟨#[]⟩, .int .i64 0, .string ⟨#[]⟩, .int .i64 0, .string ⟨#[]⟩, .slice none 0 0, .slice none 0 0] 34)) w15.heap.size ((MsgD.new 0 0 0 0).cells NSL).toArray 34 := Blk.new w15 ZERO.toArray _
          have B6 := Lib.hid (bel_next B5.out z2)
          have AY := Lib.hid (ay.below z2)
          clear z2 ay
          go_upto_region 9 with (((with_reducible refine wpList_store_blk34 (op := ⟨_, Op.store 34 _ _, _, _, _, _⟩) rfl _ _ rfl _ _ (MsgD.new 0 0 0 0) _ sy ?_ ?_ hz ?_); rfl; rfl))
          clear hz
          generalize (w15.alloc (.cells #[.int .i64 0, .int .i64 0, .int .i64 0, .int .i64 0, .complex .f64 0 0, .int .i64 0, .int .i64 0, .int .i64 0, .int .i64 0, .string ⟨#[]⟩, .int .i64 0, .string ⟨#[]⟩, .int .i64 0, .string ⟨#[]⟩, .slice none 0 0, .slice none 0 0] 34)).setCells w15.heap.size 0 ((MsgD.new 0 0 0 0).cells sy) = w16 at *
          generalize w15.heap.size = g9 at *
          have hb0 := build0m
          go_wp2_with (first | ((with_reducible refine wpList_load_blk34 (op := ⟨_, Op.load 34 _, _, _, _, _⟩) rfl _ rfl _ _ _ ?_ z1 ?_); rfl) | ((with_reducible refine wpList_build_run (op := ⟨_, Op.build 34 _, _, _, _, _⟩) rfl _ _ rfl _ ?_ _ (hb0 _) ?_); (focus (first | (go_simp; done) | (go_simp; rfl)))))
          refine (sameMsg_any (MsgD.new 0 0 0 0) (MsgD.new 0 0 0 0) sy NSL _ _ w16 AY.out (zero_arg w16) (by decide) (by decide)).mono ?_
          rw [zero_same]
          rintro e w17 ⟨rfl, b7⟩
          have B7 := Lib.hid (bel_next B6.out b7)
          clear b7 hb0 z1
          go_wp2_with fail
          refine (awake_any _).mono ?_
          rintro e w18 ⟨rfl, b8⟩
          go_wp2_with fail
          go_ret
          exact ⟨rfl, bel_next B7.out b8⟩
      | some y =>
        as_aux_lemma =>
          have hE : decE lb = 0 := by unfold decE; rw [hu]; rfl
          have hU : decM lb = y.msg := by unfold decM; rw [hu]
          rw [hE, hLL.out]
          rw [hU] at ay
          rw [hU]
          obtain ⟨hyok, hyenc, hye, hyn⟩ := dec_back hIb.out hu
          have hmvy := mv_md hye hyn
          have hPL : Hid (y.msg.encL y.epoch.toNat y.number.toNat = lb) := by
            show _ = _
            rw [MsgD.encL, hyok, if_pos rfl, md_enc y _ _ (by have := (okN_le hye).1; omega) (by have := (okN_le hyn).1; omega)]
            exact hyenc
          have hPE : Hid (y.msg.encE = 0) := by show _ = _; rw [MsgD.encE, hyok]; rfl
          have HMV := Lib.hid hmvy
          clear hE hU hu hyok hyenc hye hyn hmvy
          obtain ⟨z1, z2⟩ := mtwo w15 y.msg sy
          have hz : Blk (w15.alloc (.cells #[.int .i64 0, .int .i64 0, .int .i64 0, .int .i64 0, .complex .f64 0 0, .int .i64 0, .int .i64 0, .int .i64 0, .int .i64 0, .string ⟨#[]⟩, .int .i64 0, .string ⟨#[]⟩, .int .i64 0, .string ⟨#[]⟩, .slice none 0 0, .slice none 0 0] 34)) w15.heap.size ((MsgD.new 0 0 0 0).cells NSL).toArray 34 := Blk.new w15 ZERO.toArray _
          have B6 := Lib.hid (bel_next B5.out z2)
          have hRb6 := Lib.hid (hRb5.out.below z2)
          have AY := Lib.hid (ay.below z2)
          clear z2 ay
          go_upto_region 9 with (((with_reducible refine wpList_store_blk34 (op := ⟨_, Op.store 34 _ _, _, _, _, _⟩) rfl _ _ rfl _ _ y.msg _ sy ?_ ?_ hz ?_); rfl; rfl))
          clear hz
          generalize (w15.alloc (.cells #[.int .i64 0, .int .i64 0, .int .i64 0, .int .i64 0, .complex .f64 0 0, .int .i64 0, .int .i64 0, .int .i64 0, .int .i64 0, .string ⟨#[]⟩, .int .i64 0, .string ⟨#[]⟩, .int .i64 0, .string ⟨#[]⟩, .slice none 0 0, .slice none 0 0] 34)).setCells w15.heap.size 0 (y.msg.cells sy) = w16 at *
          generalize w15.heap.size = g9 at *
          go_wp2_with (((with_reducible refine wpList_load_blk34 (op := ⟨_, Op.load 34 _, _, _, _, _⟩) rfl _ rfl _ _ _ ?_ z1 ?_); rfl))
          refine (encode_yes y.msg sy _ _ AY.out _ _ HMV.out).mono ?_
          rintro e w17 ⟨A7, c7, rfl, o7, b7⟩
          rw [hPL.out] at o7
          rw [hPE.out, hPL.out, hLL.out]
          have r7 := Lib.hid (rd_of_own o7)
          have r8 := Lib.hid (hRb6.out.below b7)
          have B7 := Lib.hid (bel_next B6.out b7)
          clear o7 b7 z1
          go_wp2_with fail
          rw [← hLL.out]
          refine (same_any A7 B c7 cap lb lb _ r7.out r8.out (by rw [hLL.out]; omega) (by rw [hLL.out]; omega)).mono ?_
          rintro e w18 ⟨rfl, d8⟩
          have B8 := Lib.hid (bel_next B7.out (d8.below _))
          clear d8
          go_wp2_with fail
          refine (awake_any _).mono ?_
          rintro e w19 ⟨rfl, b9⟩
          go_wp2_with fail
          go_ret
          exact ⟨rfl, bel_next B8.out b9⟩
end Go.Proofs.Ytmhcjkiaogimgaa
