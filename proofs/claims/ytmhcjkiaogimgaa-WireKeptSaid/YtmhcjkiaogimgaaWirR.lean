/- The document's Encode: a message's bytes. -/
import Derived.Test.YtmhcjkiaogimgaaWirM
import Derived.Test.YtmhcjkiaogimgaaWirN
import Derived.Test.YtmhcjkiaogimgaaWirJ
namespace Go.Proofs.Ytmhcjkiaogimgaa
open Go.RowKit

theorem RBox.more' {w W wr w2 : World} {cs : Array Value} {t : TypeId} {A B : Option Addr} {c k n : Nat} {l l2 : List Int} (h : RBox w W cs t wr A c l) (hn : l.length = n) (o2 : w2.ownsRow wr.heap.size 5 1 (.slice B l2.length k) l2.length (bvals l2)) (b2 : Below wr.heap.size wr w2) (hl : n + l2.length ≤ 1000000000) (ty : TypeId) :
    ∃ A2 c2 w3 N l3, (Builtin.append_ #[28, 28] ty #[.slice A n c, .slice B l2.length k]).run Try.prog w2 = .ok (.slice A2 N c2) w3 ∧ Hid (RBox w W cs t w3 A2 c2 l3) ∧ Hid (l3.length = N) ∧ Hid (l3 = l ++ l2) ∧ N = n + l2.length := by
  subst hn
  obtain ⟨A2, c2, w3, hr, H⟩ := h.more o2 b2 hl ty _ _ rfl rfl
  exact ⟨A2, c2, w3, _, _, hr, H, by show _ = _; simp, rfl, rfl⟩
theorem RBox.all {w W wr : World} {cs : Array Value} {t : TypeId} {A : Option Addr} {c : Nat} {l : List Int} (h : RBox w W cs t wr A c l) : Below w.heap.size w wr := bel_next h.bel h.row.bel

set_option maxHeartbeats 4000000 in
theorem RBox.resm {w W wr : World} {cs : Array Value} {t : TypeId} {A : Option Addr} {c n : Nat} {l l2 : List Int} (h : RBox w W cs t wr A c l) (hl : l = l2) (hn : l2.length = n) {e : Ending} (he : e = .returned (.tuple #[.slice A n c, .int .i64 0])) : OwnRes l2 0 w e wr := by
  subst hl; subst hn
  exact ⟨A, c, he, own_low h.row.own h.bel.size, bel_next h.bel h.row.bel⟩
theorem rencode_bad (m : MsgD) (s : Sls) (xs : Array Value) (w : World) (hx : MsgArg w xs m s) (hbad : Bad m.ma m.mb) : Calls Try.prog 16 #[.agg xs] w (OwnRes [] 50 w) := by
  obtain ⟨W, hW⟩ : ∃ W, W = w.alloc (.cells xs 34) := ⟨_, rfl⟩
  have hM := hx.box W hW
  have hlt := hM.blk.lt
  have HW := Lib.hid hW
  have HX := Lib.hid (hx.below hM.bel)
  clear hx hW
  go_enter Try.func16, Try.ntmps16
  go_upto_region 1 with fail
  rw [← HW.out]
  go_wp2_with (first | ((with_reducible refine wpList_load_msg (op := ⟨_, Op.load 34 _, _, _, _, _⟩) rfl _ rfl _ _ _ _ ?_ hM ?_); rfl))
  refine (rplain_bad m s _ _ ⟨⟨rfl⟩, HX.out.ents, HX.out.keys⟩ hbad).mono ?_
  rintro e w1 ⟨rfl, b1⟩
  go_wp2_with fail
  go_ret2
  exact ⟨none, 0, rfl, own_none _ _ _ _, bel_next hM.bel b1⟩

set_option maxRecDepth 100000 in
set_option maxHeartbeats 16000000 in
theorem rencode_yes (m : MsgD) (s : Sls) (xs : Array Value) (w : World) (hx : MsgArg w xs m s) (ee nn : Nat) (hmv : MV m.ma m.mb ee nn) : Calls Try.prog 16 #[.agg xs] w (OwnRes (m.encL ee nn) m.encE w) := by
  obtain ⟨W, hW⟩ : ∃ W, W = w.alloc (.cells xs 34) := ⟨_, rfl⟩
  have hM := hx.box W hW
  have hlt := hM.blk.lt
  have HW := Lib.hid hW
  have HX := Lib.hid (hx.below hM.bel)
  clear hW
  cases hok : m.ok with
  | false =>
    have hL : Hid (m.encL ee nn = []) := by show _ = _; rw [MsgD.encL, hok]; rfl
    have hE : Hid (m.encE = 50) := by show _ = _; rw [MsgD.encE, hok]; rfl
    rw [hL.out, hE.out]
    clear hx
    go_enter Try.func16, Try.ntmps16
    go_upto_region 1 with fail
    rw [← HW.out]
    go_wp2_with (first | ((with_reducible refine wpList_load_msg (op := ⟨_, Op.load 34 _, _, _, _, _⟩) rfl _ rfl _ _ _ _ ?_ hM ?_); rfl))
    refine (rplain_yes m s _ _ ⟨⟨rfl⟩, HX.out.ents, HX.out.keys⟩ ee nn hmv).mono ?_
    rintro e w1 ⟨rfl, b1⟩
    rw [hok]
    go_wp2_with fail
    go_ret2
    exact ⟨none, 0, rfl, own_none _ _ _ _, bel_next hM.bel b1⟩
  | true =>
    obtain ⟨hkind, ⟨o1, o2, o3, o4, o5⟩, hop, _, hen, he48, hkk, hk48, heo, hko⟩ := MsgD.ok_parts hok
    have hL : Hid (m.encL ee nn = m.enc ee nn) := by show _ = _; rw [MsgD.encL, hok]; rfl
    have hE : Hid (m.encE = 0) := by show _ = _; rw [MsgD.encE, hok]; rfl
    rw [hL.out, hE.out]
    have HO := Lib.hid hok
    have HXW := Lib.hid hx
    have f0 := Lib.hid (okN_fit o1)
    have f1 := Lib.hid (okN_fit o2)
    have f2 := Lib.hid (okN_fit o3)
    have f3 : Hid ((0 : Int) ≤ (ee : Int) ∧ (ee : Int) ≤ 9223372036854775807) := by have := hmv.he; show _ ∧ _; omega
    have f4 : Hid ((0 : Int) ≤ (nn : Int) ∧ (nn : Int) ≤ 9223372036854775807) := by have := hmv.hn; show _ ∧ _; omega
    have f5 := Lib.hid (okN_fit o4)
    have f6 := Lib.hid (okN_fit o5)
    have HOP := Lib.hid hop
    have HEN := Lib.hid hen
    have HKK := Lib.hid hkk
    have HEO := Lib.hid heo
    have HKO := Lib.hid hko
    clear hx hL hE hok o1 o2 o3 o4 o5 hop hen hkk heo hko
    go_enter Try.func16, Try.ntmps16
    go_upto_region 1 with fail
    rw [← HW.out]
    go_wp2_with (first | ((with_reducible refine wpList_load_msg (op := ⟨_, Op.load 34 _, _, _, _, _⟩) rfl _ rfl _ _ _ _ ?_ hM ?_); rfl))
    refine (rplain_yes m s _ _ ⟨⟨rfl⟩, HX.out.ents, HX.out.keys⟩ ee nn hmv).mono ?_
    rintro e w1 ⟨rfl, b1⟩
    rw [HO.out]
    have hM1 := hM.next b1
    have I0 : RBox w w1 (m.cells s).toArray 34 (w1.alloc (.cells #[.int .u8 m.kind] 5)) (some ⟨w1.heap.size, 0, none⟩) 1 [m.kind] := ⟨Row.lit (Below.refl _ _) (Nat.le_refl _) m.kind _ rfl, hM1.bel, hM1.blk⟩
    obtain ⟨c0, c1, c2, c3, c4, c5, c6, c14, c15⟩ := hM1.nums
    have d0 := c0
    have hl0 : Hid ([m.kind].length = 1) := rfl
    have J0 := Lib.hid I0
    have hlt1 := hM1.blk.lt
    clear I0 hM hM1 b1 hlt HX HW
    go_wp2_with fail
    refine (parts_yes hmv _).mono ?_
    rintro e w2 ⟨rfl, rfl⟩
    clear c0 c1 c2 c3 c4 c5 c6 c14 c15
    obtain ⟨c0, c1, c2, c3, c4, c5, c6, c14, c15⟩ := mc_of J0.out.box
    go_wp2_with fail
    refine (rnumber_any m.client f0.out.2 _).mono ?_
    rintro e v1 ⟨B1, k1, rfl, o1, b1⟩
    have g1 : (vb m.client).length ≤ 9 := vb_length_i64 f0.out.2
    obtain ⟨A1, a1, u1, n1, l1, r1, J1, hl1, hL1, hn1⟩ := J0.out.more' hl0.out o1 b1 (by omega) 28
    have q1 : n1 ≤ 10 := by omega
    clear o1 b1 hn1 g1 
    clear c0 c1 c2 c3 c4 c5 c6 c14 c15
    obtain ⟨c0, c1, c2, c3, c4, c5, c6, c14, c15⟩ := mc_of J1.out.box

    go_wp2_with (at_builtin; (with_reducible refine wpList_append_run rfl _ _ _ _ rfl _ _ _ ?_ ?_ r1 ?_); rfl; rfl)
    refine (rnumber_any m.life f1.out.2 _).mono ?_
    rintro e v2 ⟨B2, k2, rfl, o2, b2⟩
    have g2 : (vb m.life).length ≤ 9 := vb_length_i64 f1.out.2
    obtain ⟨A2, a2, u2, n2, l2, r2, J2, hl2, hL2, hn2⟩ := J1.out.more' hl1.out o2 b2 (by omega) 28
    have q2 : n2 ≤ 19 := by omega
    clear o2 b2 hn2 g2 r1 q1
    clear c0 c1 c2 c3 c4 c5 c6 c14 c15
    obtain ⟨c0, c1, c2, c3, c4, c5, c6, c14, c15⟩ := mc_of J2.out.box

    go_wp2_with (at_builtin; (with_reducible refine wpList_append_run rfl _ _ _ _ rfl _ _ _ ?_ ?_ r2 ?_); rfl; rfl)
    refine (rnumber_any m.seq f2.out.2 _).mono ?_
    rintro e v3 ⟨B3, k3, rfl, o3, b3⟩
    have g3 : (vb m.seq).length ≤ 9 := vb_length_i64 f2.out.2
    obtain ⟨A3, a3, u3, n3, l3, r3, J3, hl3, hL3, hn3⟩ := J2.out.more' hl2.out o3 b3 (by omega) 28
    have q3 : n3 ≤ 28 := by omega
    clear o3 b3 hn3 g3 r2 q2
    clear c0 c1 c2 c3 c4 c5 c6 c14 c15
    obtain ⟨c0, c1, c2, c3, c4, c5, c6, c14, c15⟩ := mc_of J3.out.box

    go_wp2_with (at_builtin; (with_reducible refine wpList_append_run rfl _ _ _ _ rfl _ _ _ ?_ ?_ r3 ?_); rfl; rfl)
    refine (rnumber_any (ee : Int) f3.out.2 _).mono ?_
    rintro e v4 ⟨B4, k4, rfl, o4, b4⟩
    have g4 : (vb (ee : Int)).length ≤ 9 := vb_length_i64 f3.out.2
    obtain ⟨A4, a4, u4, n4, l4, r4, J4, hl4, hL4, hn4⟩ := J3.out.more' hl3.out o4 b4 (by omega) 28
    have q4 : n4 ≤ 37 := by omega
    clear o4 b4 hn4 g4 r3 q3
    clear c0 c1 c2 c3 c4 c5 c6 c14 c15
    obtain ⟨c0, c1, c2, c3, c4, c5, c6, c14, c15⟩ := mc_of J4.out.box

    go_wp2_with (at_builtin; (with_reducible refine wpList_append_run rfl _ _ _ _ rfl _ _ _ ?_ ?_ r4 ?_); rfl; rfl)
    refine (rnumber_any (nn : Int) f4.out.2 _).mono ?_
    rintro e v5 ⟨B5, k5, rfl, o5, b5⟩
    have g5 : (vb (nn : Int)).length ≤ 9 := vb_length_i64 f4.out.2
    obtain ⟨A5, a5, u5, n5, l5, r5, J5, hl5, hL5, hn5⟩ := J4.out.more' hl4.out o5 b5 (by omega) 28
    have q5 : n5 ≤ 46 := by omega
    clear o5 b5 hn5 g5 r4 q4
    clear c0 c1 c2 c3 c4 c5 c6 c14 c15
    obtain ⟨c0, c1, c2, c3, c4, c5, c6, c14, c15⟩ := mc_of J5.out.box

    go_wp2_with (at_builtin; (with_reducible refine wpList_append_run rfl _ _ _ _ rfl _ _ _ ?_ ?_ r5 ?_); rfl; rfl)
    refine (rnumber_any m.version f5.out.2 _).mono ?_
    rintro e v6 ⟨B6, k6, rfl, o6, b6⟩
    have g6 : (vb m.version).length ≤ 9 := vb_length_i64 f5.out.2
    obtain ⟨A6, a6, u6, n6, l6, r6, J6, hl6, hL6, hn6⟩ := J5.out.more' hl5.out o6 b6 (by omega) 28
    have q6 : n6 ≤ 55 := by omega
    clear o6 b6 hn6 g6 r5 q5
    clear c0 c1 c2 c3 c4 c5 c6 c14 c15
    obtain ⟨c0, c1, c2, c3, c4, c5, c6, c14, c15⟩ := mc_of J6.out.box

    go_wp2_with (at_builtin; (with_reducible refine wpList_append_run rfl _ _ _ _ rfl _ _ _ ?_ ?_ r6 ?_); rfl; rfl)
    refine (rnumber_any m.err f6.out.2 _).mono ?_
    rintro e v7 ⟨B7, k7, rfl, o7, b7⟩
    have g7 : (vb m.err).length ≤ 9 := vb_length_i64 f6.out.2
    obtain ⟨A7, a7, u7, n7, l7, r7, J7, hl7, hL7, hn7⟩ := J6.out.more' hl6.out o7 b7 (by omega) 28
    have q7 : n7 ≤ 64 := by omega
    clear o7 b7 hn7 g7 r6 q6
    clear c0 c1 c2 c3 c4 c5 c6 c14 c15
    obtain ⟨c0, c1, c2, c3, c4, c5, c6, c14, c15⟩ := mc_of J7.out.box

    have HL : Hid (m.enc ee nn = l7 ++ m.rest) := by
      show _ = _
      rw [hL7.out, hL6.out, hL5.out, hL4.out, hL3.out, hL2.out, hL1.out, MsgD.enc, Int.emod_eq_of_lt (by omega) (by omega)]
      simp [vbs]
    clear hL1 hL2 hL3 hL4 hL5 hL6 hL7 J0 J1 J2 J3 J4 J5 J6 hl0 hl1 hl2 hl3 hl4 hl5 hl6 d0
    have hrop := mop_of J7.out.box
    rcases (show m.kind = 1 ∨ m.kind = 2 ∨ m.kind = 3 ∨ m.kind = 4 by omega) with hk | hk | hk | hk
    · have HK := Lib.hid hk
      have hfit := Lib.hid (OpD.ok_fit (HOP.out hk))
      have hol := OpD.enc_length hfit.out
      have hrest : Hid (m.enc ee nn = l7 ++ m.op.enc) := by show _ = _; rw [HL.out, MsgD.rest, if_pos hk]
      rw [hk] at c0
      clear hk
      go_wp2_with (first | (at_builtin; (with_reducible refine wpList_append_run rfl _ _ _ _ rfl _ _ _ ?_ ?_ r7 ?_); rfl; rfl) | ((with_reducible refine wpList_load_mid (op := ⟨_, Op.load 23 _, _, _, _, _⟩) rfl _ _ rfl _ _ ?_ _ _ hrop Try.underlying23 rfl ?_ ?_); (focus rfl); (focus (exact size_op))))
      refine (rop_any m.op hfit.out _).mono ?_
      rintro e v9 ⟨B9, k9, rfl, o9, b9⟩
      obtain ⟨A9, a9, u9, n9, l9, r9, J9, hl9, hL9, hn9⟩ := J7.out.more' hl7.out o9 b9 (by omega) 28
      have hfin : Hid (l9 = m.enc ee nn) := by show _ = _; rw [hL9.out]; exact hrest.out.symm
      have hlen : Hid ((m.enc ee nn).length = n9) := by show _ = _; rw [← hfin.out]; exact hl9.out
      clear o9 b9 hn9 c0 c1 c2 c3 c4 c5 c6 c14 c15
      obtain ⟨c0, c1, c2, c3, c4, c5, c6, c14, c15⟩ := mc_of J9.out.box
      rw [HK.out] at c0
      go_wp2_with (at_builtin; (with_reducible refine wpList_append_run rfl _ _ _ _ rfl _ _ _ ?_ ?_ r9 ?_); rfl; rfl)
      go_ret2
      exact J9.out.resm hfin.out hlen.out rfl
    · have HK := Lib.hid hk
      rw [hk] at c0
      have hrest : Hid (m.enc ee nn = l7 ++ vb m.entries.length ++ (m.entries.map EntryD.enc).flatten) := by show _ = _; rw [HL.out, MsgD.rest, if_neg (by omega), if_pos hk]; simp
      clear hk
      have hn48 : m.entries.length ≤ 48 := he48
      go_wp2_with (at_builtin; (with_reducible refine wpList_append_run rfl _ _ _ _ rfl _ _ _ ?_ ?_ r7 ?_); rfl; rfl)
      refine (rnumber_any (m.entries.length : Int) (by omega) _).mono ?_
      rintro e v8 ⟨B8, k8, rfl, o8, b8⟩
      have g8 : (vb (m.entries.length : Int)).length ≤ 9 := vb_length_i64 (by omega)
      obtain ⟨A8, a8, u8, n8, l8, r8, J8, hl8, hL8, hn8⟩ := J7.out.more' hl7.out o8 b8 (by omega) 28
      have q8 : n8 ≤ 200 := by omega
      have hrest8 : Hid (m.enc ee nn = l8 ++ (m.entries.map EntryD.enc).flatten) := by show _ = _; rw [hrest.out, hL8.out]
      clear o8 b8 hn8 g8 q7 hrest hL8 c0 c1 c2 c3 c4 c5 c6 c14 c15
      obtain ⟨c0, c1, c2, c3, c4, c5, c6, c14, c15⟩ := mc_of J8.out.box
      rw [HK.out] at c0
      go_wp2_with (at_builtin; (with_reducible refine wpList_append_run rfl _ _ _ _ rfl _ _ _ ?_ ?_ r8 ?_); rfl; rfl)
      go_loopw [7, 8] (fun v7 v8 wr => ∃ (k : Nat) (A : Option Addr) (a n : Nat) (l : List Int), k ≤ m.entries.length ∧ v8 = .int .i64 k ∧ v7 = .slice A n a ∧ RBox w w1 (m.cells s).toArray 34 wr A a l ∧ Hid (l.length = n) ∧ Hid (l = l8 ++ ((m.entries.take k).map EntryD.enc).flatten)) (fun _ v _ => m.entries.length - (intOf v).toNat)
      case atStart => exact ⟨0, A8, a8, n8, l8, Nat.zero_le _, rfl, rfl, J8.out, hl8, by show _ = _; simp⟩
      case round =>
        clear c0 c1 c2 c3 c4 c5 c6 c14 c15
        obtain ⟨k, A, a, n, l, hk, rfl, rfl, hI, hln, hle⟩ := hrel
        obtain ⟨c0, c1, c2, c3, c4, c5, c6, c14, c15⟩ := mc_of hI.box
        rw [HK.out] at c0
        have hbel := hI.all
        have hltr := hI.box.lt
        by_cases hlt : k < m.entries.length
        · obtain ⟨g, o, hA, hg, hrow⟩ := (HXW.out.ents.below hbel).at_ k _ (getD_map EntryD.cells m.entries EntryD.zero k hlt)
          have hft := Lib.hid (flat_take EntryD.enc m.entries EntryD.zero k hlt)
          have hxo := HEO.out _ (getD_mem m.entries EntryD.zero k hlt)
          have hfl := flat_le EntryD.enc 3000 (m.entries.take k) (fun x hx => EntryD.enc_length (EntryD.ok_fit (HEO.out x (List.mem_of_mem_take hx))))
          rw [List.length_take] at hfl
          generalize m.entries.getD k EntryD.zero = x at *
          have hin : (0 : Int) ≤ (k : Int) := by omega
          have hfit := Lib.hid (EntryD.ok_fit hxo)
          have hxl := EntryD.enc_length hfit.out
          have hll : n ≤ 400000 := by
            have h1 := hln.out
            have h2 := hl8.out
            rw [hle.out, List.length_append] at h1
            omega
          rw [hA] at c14
          clear hxo hfl hbel hA
          obtain ⟨⟨kd, ks⟩, neg, ⟨id, kind, mode, target⟩⟩ := x
          change wr.rangeAt g (o + k * 7) [.int .i64 kd, .string ks, .bool neg, .int .i64 id, .int .i64 kind, .int .i64 mode, .string target] at hrow
          have HI := Lib.hid hI
          clear hI
          go_wp2_with (first | ((with_reducible refine wpList_load_mid (op := ⟨_, Op.load 47 _, _, _, _, _⟩) rfl _ _ rfl _ _ ?_ _ _ hrow Try.underlying47 rfl ?_ ?_); (focus (first | (go_simp; done) | (go_simp; rfl))); (focus (exact size_entry))))
          refine (rentry_any ⟨⟨kd, ks⟩, neg, ⟨id, kind, mode, target⟩⟩ hfit.out _).mono ?_
          rintro e v9 ⟨B9, k9, rfl, o9, b9⟩
          obtain ⟨A9, a9, u9, n9, l9, r9, J9, hl9, hL9, hn9⟩ := HI.out.more' hln.out o9 b9 (by omega) 28
          have hnext : Hid (l9 = l8 ++ ((m.entries.take (k + 1)).map EntryD.enc).flatten) := by show _ = _; rw [hL9.out, hle.out, hft.out, List.append_assoc]
          clear o9 b9 hn9 hxl hll hle hft hln hL9 c0 c1 c2 c3 c4 c5 c6 c14 c15
          go_wp2_with (at_builtin; (with_reducible refine wpList_append_run rfl _ _ _ _ rfl _ _ _ ?_ ?_ r9 ?_); rfl; rfl)
          go_roundw
          case rel => exact ⟨k + 1, A9, a9, n9, l9, by omega, by go_num, rfl, J9.out, hl9, hnext⟩
          case measure => simp [intOf]; omega
        · have hke : k = m.entries.length := by omega
          rw [hke, List.take_length] at hle
          have hfin : Hid (l = m.enc ee nn) := by show _ = _; rw [hle.out]; exact hrest8.out.symm
          have hlen : Hid ((m.enc ee nn).length = n) := by show _ = _; rw [← hfin.out]; exact hln.out
          have HI := Lib.hid hI
          rw [hke]
          clear hbel hI hke hlt hk
          go_wp2_with fail
          go_ret2
          exact HI.out.resm hfin.out hlen.out rfl
    · have HK := Lib.hid hk
      rw [hk] at c0
      have hrest : Hid (m.enc ee nn = l7 ++ vb m.keys.length ++ (m.keys.map KeyD.enc).flatten) := by show _ = _; rw [HL.out, MsgD.rest, if_neg (by omega), if_neg (by omega), if_pos hk]; simp
      clear hk
      have hn48 : m.keys.length ≤ 48 := hk48
      go_wp2_with (at_builtin; (with_reducible refine wpList_append_run rfl _ _ _ _ rfl _ _ _ ?_ ?_ r7 ?_); rfl; rfl)
      refine (rnumber_any (m.keys.length : Int) (by omega) _).mono ?_
      rintro e v8 ⟨B8, k8, rfl, o8, b8⟩
      have g8 : (vb (m.keys.length : Int)).length ≤ 9 := vb_length_i64 (by omega)
      obtain ⟨A8, a8, u8, n8, l8, r8, J8, hl8, hL8, hn8⟩ := J7.out.more' hl7.out o8 b8 (by omega) 28
      have q8 : n8 ≤ 200 := by omega
      have hrest8 : Hid (m.enc ee nn = l8 ++ (m.keys.map KeyD.enc).flatten) := by show _ = _; rw [hrest.out, hL8.out]
      clear o8 b8 hn8 g8 q7 hrest hL8 c0 c1 c2 c3 c4 c5 c6 c14 c15
      obtain ⟨c0, c1, c2, c3, c4, c5, c6, c14, c15⟩ := mc_of J8.out.box
      rw [HK.out] at c0
      go_wp2_with (at_builtin; (with_reducible refine wpList_append_run rfl _ _ _ _ rfl _ _ _ ?_ ?_ r8 ?_); rfl; rfl)
      go_loopw [7, 9] (fun v7 v8 wr => ∃ (k : Nat) (A : Option Addr) (a n : Nat) (l : List Int), k ≤ m.keys.length ∧ v8 = .int .i64 k ∧ v7 = .slice A n a ∧ RBox w w1 (m.cells s).toArray 34 wr A a l ∧ Hid (l.length = n) ∧ Hid (l = l8 ++ ((m.keys.take k).map KeyD.enc).flatten)) (fun _ v _ => m.keys.length - (intOf v).toNat)
      case atStart => exact ⟨0, A8, a8, n8, l8, Nat.zero_le _, rfl, rfl, J8.out, hl8, by show _ = _; simp⟩
      case round =>
        clear c0 c1 c2 c3 c4 c5 c6 c14 c15
        obtain ⟨k, A, a, n, l, hk, rfl, rfl, hI, hln, hle⟩ := hrel
        obtain ⟨c0, c1, c2, c3, c4, c5, c6, c14, c15⟩ := mc_of hI.box
        rw [HK.out] at c0
        have hbel := hI.all
        have hltr := hI.box.lt
        by_cases hlt : k < m.keys.length
        · obtain ⟨g, o, hA, hg, hrow⟩ := (HXW.out.keys.below hbel).at_ k _ (getD_map KeyD.cells m.keys KeyD.zero k hlt)
          have hft := Lib.hid (flat_take KeyD.enc m.keys KeyD.zero k hlt)
          have hxo := HKO.out _ (getD_mem m.keys KeyD.zero k hlt)
          have hfl := flat_le KeyD.enc 1018 (m.keys.take k) (fun x hx => KeyD.enc_length (KeyD.ok_fit (HKO.out x (List.mem_of_mem_take hx))))
          rw [List.length_take] at hfl
          generalize m.keys.getD k KeyD.zero = x at *
          have hin : (0 : Int) ≤ (k : Int) := by omega
          have hfit := Lib.hid (KeyD.ok_fit hxo)
          have hxl := KeyD.enc_length hfit.out
          have hll : n ≤ 400000 := by
            have h1 := hln.out
            have h2 := hl8.out
            rw [hle.out, List.length_append] at h1
            omega
          rw [hA] at c15
          clear hxo hfl hbel hA
          obtain ⟨kd, ks⟩ := x
          change wr.rangeAt g (o + k * 2) [.int .i64 kd, .string ks] at hrow
          have HI := Lib.hid hI
          clear hI
          go_wp2_with (first | ((with_reducible refine wpList_load_mid (op := ⟨_, Op.load 43 _, _, _, _, _⟩) rfl _ _ rfl _ _ ?_ _ _ hrow Try.underlying43 rfl ?_ ?_); (focus (first | (go_simp; done) | (go_simp; rfl))); (focus (exact size_key))))
          refine (rkey_any ⟨kd, ks⟩ hfit.out _).mono ?_
          rintro e v9 ⟨B9, k9, rfl, o9, b9⟩
          obtain ⟨A9, a9, u9, n9, l9, r9, J9, hl9, hL9, hn9⟩ := HI.out.more' hln.out o9 b9 (by omega) 28
          have hnext : Hid (l9 = l8 ++ ((m.keys.take (k + 1)).map KeyD.enc).flatten) := by show _ = _; rw [hL9.out, hle.out, hft.out, List.append_assoc]
          clear o9 b9 hn9 hxl hll hle hft hln hL9 c0 c1 c2 c3 c4 c5 c6 c14 c15
          go_wp2_with (at_builtin; (with_reducible refine wpList_append_run rfl _ _ _ _ rfl _ _ _ ?_ ?_ r9 ?_); rfl; rfl)
          go_roundw
          case rel => exact ⟨k + 1, A9, a9, n9, l9, by omega, by go_num, rfl, J9.out, hl9, hnext⟩
          case measure => simp [intOf]; omega
        · have hke : k = m.keys.length := by omega
          rw [hke, List.take_length] at hle
          have hfin : Hid (l = m.enc ee nn) := by show _ = _; rw [hle.out]; exact hrest8.out.symm
          have hlen : Hid ((m.enc ee nn).length = n) := by show _ = _; rw [← hfin.out]; exact hln.out
          have HI := Lib.hid hI
          rw [hke]
          clear hbel hI hke hlt hk
          go_wp2_with fail
          go_ret2
          exact HI.out.resm hfin.out hlen.out rfl
    · have HK := Lib.hid hk
      have hfin : Hid (l7 = m.enc ee nn) := by show _ = _; rw [HL.out, MsgD.rest, if_neg (by omega), if_neg (by omega), if_neg (by omega)]; simp
      have hlen : Hid ((m.enc ee nn).length = n7) := by show _ = _; rw [← hfin.out]; exact hl7.out
      rw [hk] at c0
      clear hk
      go_wp2_with (at_builtin; (with_reducible refine wpList_append_run rfl _ _ _ _ rfl _ _ _ ?_ ?_ r7 ?_); rfl; rfl)
      go_ret2
      exact J7.out.resm hfin.out hlen.out rfl

end Go.Proofs.Ytmhcjkiaogimgaa
