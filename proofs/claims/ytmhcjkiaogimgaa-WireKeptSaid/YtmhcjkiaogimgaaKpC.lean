/- WireKept: the walk. -/
import Derived.Test.YtmhcjkiaogimgaaKpB
import Derived.Test.YtmhcjkiaogimgaaDrK
namespace Go.Proofs.Ytmhcjkiaogimgaa
open Go.RowKit

/-- Bytes that were lent. -/
theorem lend_parts {w : World} {base g c : Nat} {l : List Int} (o : w.ownsRow base 5 1 (.slice (some ⟨g, 0, none⟩) (l.length + 70) c) (l.length + 70) (bvals (l ++ marks70 70))) (hb : isB l) (hl : l.length ≤ 140737488351232) :
    BArg w (some ⟨g, 0, none⟩) c l ∧ Rd .u8 w (some ⟨g, 0, none⟩) (l ++ marks70 70) ∧ Bytes w g (l.length + 70) ∧ base ≤ g ∧ g < w.heap.size ∧ l.length + 70 ≤ c ∧ c ≤ 9223372036854775807 := by
  have hL : (l ++ marks70 70).length = l.length + 70 := by simp [marks70_length]
  have hge := own_ge o g rfl
  obtain ⟨_, ⟨he, _⟩ | ⟨g', cap, cur, he, _, hbk, h1, h2, _⟩⟩ := id o
  · cases he
  · injection he with e1 _ e3
    injection e1 with e1
    injection e1 with e1 _ _
    subst e1; subst e3
    have hg : g < w.heap.size := (Array.getElem?_eq_some_iff.1 hbk).1
    rw [← hL] at o
    have hr := rd_of_own o
    have hy := own_bytes o
    rw [hL] at hy
    simp only [maxLen] at h2
    refine ⟨⟨⟨fun j hj => ?_⟩, hb, by omega, by omega, by omega, fun x hx => by injection hx with hx; subst hx; exact hg⟩, hr, hy, hge, hg, h1, by omega⟩
    obtain ⟨x, hx, h3, h4⟩ := hr.at_ j (by rw [hL]; omega)
    refine ⟨x, hx, h3, ?_⟩
    rw [h4, List.getD_eq_getElem?_getD, List.getD_eq_getElem?_getD, List.getElem?_append_left hj]
theorem kept_facts {l : List Int} (hb : isB l) : (decM l).same (decM l) = true ∧ (decM l).entries.length * 7 ≤ 9223372036854775807 ∧ (decM l).keys.length * 2 ≤ 9223372036854775807 := by
  unfold decM
  cases hd : dec l with
  | none => exact ⟨dzero_same, by decide, by decide⟩
  | some m =>
    obtain ⟨h1, h2, h3, h4⟩ := dec_back hb hd
    have hmv := mv_md h3 h4
    have hs := mv_same hmv hmv
    obtain ⟨_, _, _, _, _, p4, _, p6, _⟩ := MsgD.ok_parts h1
    refine ⟨?_, by show m.msg.entries.length * 7 ≤ _; omega, by show m.msg.keys.length * 2 ≤ _; omega⟩
    show m.msg.same m.msg = true
    simp only [MsgD.same]
    rw [hs]
    simp

theorem rows_neg {W : World} {g k i : Nat} {cs : List Value} {rows : List (List Value)} (h : RowsAt W (some ⟨g, 0, none⟩) k (rows ++ List.replicate 5 cs)) (hi : i < 5) : W.rangeAt g ((rows.length + i) * k) cs := by
  obtain ⟨g', o, h1, _, h3⟩ := h.at_ (rows.length + i) cs (by
    rw [List.getElem?_append_right (by omega), Nat.add_sub_cancel_left, List.getElem?_replicate, if_pos hi])
  injection h1 with h1
  injection h1 with h1 h2 _
  subst h1; subst h2
  rwa [Nat.zero_add] at h3
theorem feq_int {z : Int} (h : z.natAbs ≤ 9223372036854775808) : feq (FloatKind.f64.nearest z) (FloatKind.f64.nearest z) = true := by
  obtain ⟨s, k, e, hr⟩ := read_int z h
  have hd : FloatKind.f64.format = Ieee.double := rfl
  rw [feq, hd, Ieee.Format.order, hr]
  simp only [Ieee.Datum.order]
  rw [cmp_eq]
  rfl
theorem msg_same {m : MD} (h1 : m.epoch.natAbs ≤ 9223372036854775808) (h2 : m.number.natAbs ≤ 9223372036854775808) : m.msg.same m.msg = true := by
  have e1 : feq m.msg.ma m.msg.ma = true := feq_int h1
  have e2 : feq m.msg.mb m.msg.mb = true := feq_int h2
  simp only [MsgD.same]
  rw [e1, e2]
  simp
theorem rows_lt {W : World} {g k : Nat} {cs : List Value} {rows : List (List Value)} (h : RowsAt W (some ⟨g, 0, none⟩) k (rows ++ List.replicate 5 cs)) : g < W.heap.size := by
  obtain ⟨g', o, h1, h2, _⟩ := h.at_ (rows.length + 0) cs (by
    rw [List.getElem?_append_right (by omega), Nat.add_sub_cancel_left, List.getElem?_replicate, if_pos (by omega)])
  injection h1 with h1
  injection h1 with h1 _ _
  subst h1
  exact h2
theorem own_at {w : World} {base c n : Nat} {A : Option Addr} {l : List Int} (hn : n = l.length) (h : w.ownsRow base 5 1 (.slice A l.length c) l.length (bvals l)) : ∀ x, A = some x → x = ⟨x.block, 0, none⟩ ∧ Bytes w x.block n := by
  rintro x rfl
  subst hn
  obtain ⟨_, ⟨he, _⟩ | ⟨g', cap, cur, he, _⟩⟩ := id h
  · cases he
  · injection he with e1 _ _
    injection e1 with e1
    subst e1
    exact ⟨rfl, own_bytes h⟩
theorem own_len' {w : World} {base c : Nat} {A : Option Addr} {l : List Int} (h : w.ownsRow base 5 1 (.slice A l.length c) l.length (bvals l)) : l.length ≤ 9223372036854775807 := by
  obtain ⟨_, ⟨he, h0⟩ | ⟨g', cap, cur, he, _, _, h1, h2, _⟩⟩ := h
  · omega
  · simp only [maxLen] at h2; omega
theorem negE_neq (W : World) : (binOp .neq 47 (.agg #[.int .i64 0, .string ⟨#[]⟩, .bool true, .int .i64 0, .int .i64 0, .int .i64 0, .string ⟨#[]⟩]) (.agg #[.int .i64 0, .string ⟨#[]⟩, .bool true, .int .i64 0, .int .i64 0, .int .i64 0, .string ⟨#[]⟩])).run Try.prog W = .ok (.bool false) W := by
  have := neq_run (P := Try.prog) (w := W) rfl rfl (eq_entry 9997 W negE negE)
  simp at this
  exact this
theorem negK_neq (W : World) : (binOp .neq 43 (.agg #[.int .i64 (-4), .string ⟨#[]⟩]) (.agg #[.int .i64 (-4), .string ⟨#[]⟩])).run Try.prog W = .ok (.bool false) W := by
  have := neq_run (P := Try.prog) (w := W) rfl rfl (eq_key 9998 W negK negK)
  simp at this
  exact this

set_option maxRecDepth 100000 in
set_option maxHeartbeats 16000000 in
theorem kept_law (m : MD) (s : Sls) (xs : Array Value) {W : World} (hx : MArg W xs m s) (hm : m.entries.length * 72 ≤ 140737488351232 ∧ m.keys.length * 24 ≤ 140737488351232 ∧ m.epoch.natAbs ≤ 9223372036854775808 ∧ m.number.natAbs ≤ 9223372036854775808) (B : Option Addr) (len cap : Nat) (lb : List Int) (hb : ArgInts .u8 W B len lb) (hds : DS W B cap lb) (hlenT : len ≤ 140737488351232) :
    Calls Try.prog 10 #[.agg xs, .slice B len cap] W fun e w' => e = .returned (.bool true) ∧ Below W.heap.size W w' := by
  have hll : lb.length = len := hb.length
  obtain ⟨V, hV⟩ : ∃ V, V = W.alloc (.cells xs 27) := ⟨_, rfl⟩
  obtain ⟨hN, hB⟩ := hx.box V hV
  obtain ⟨l, E1, P, _⟩ := both_msg m.msg
  have HP := Lib.hid P
  have HV := Lib.hid hV
  have HM := Lib.hid hm
  have HX := Lib.hid hx
  have hRb := hb.rd.below hB
  have hIb := Lib.hid (isB_wf hb.wf)
  have hLL := Lib.hid hll
  have HD := Lib.hid hds
  have HLT := Lib.hid hlenT
  have hlen2 : len ≤ 1000000000000000 := by omega
  clear hb hV hll hds hm hx hlenT P
  go_enter Try.func10, Try.ntmps10
  go_upto_region 1 with fail
  rw [← HV.out]
  generalize hg2 : W.heap.size = g2 at hN ⊢
  have HG2 := Lib.hid hg2
  have g2lt : g2 < V.heap.size := hN.blk.lt
  clear hg2
  go_wp2_with fail
  rw [← hLL.out]
  refine (lendB_any B cap lb V hRb (by rw [hLL.out]; exact HLT.out)).mono ?_
  rintro e w1 ⟨g, c, rfl, o1, b1⟩
  obtain ⟨P1, P2, P3, P4, P5, P6, P7⟩ := lend_parts o1 hIb.out (by rw [hLL.out]; exact HLT.out)
  have hgg : g2 < g := by omega
  rw [hLL.out] at P3 P6
  have HP1 := Lib.hid P1
  have HP2 := Lib.hid P2
  have HP3 := Lib.hid P3
  have HN1 := Lib.hid (hN.blk.kp (S := fun _ => False) (Kp.of_below b1) (fun h => h))
  have B1 := Lib.hid (bel_next hB b1)
  have hgW : g < w1.heap.size := P5
  clear o1 b1 P1 P2 P3 P4 P5 hRb hB hN
  rw [hLL.out]
  have hc1 : len ≤ c := by omega
  go_wp2_with fail
  rw [← hLL.out]
  refine (decode_own w1 _ c lb HP1.out).mono ?_
  rintro e w2 ⟨ys, sx, rfl, ax, b2, ge1, ge2⟩
  have hys : ys = ((decM lb).cells sx).toArray := ax.is.eq
  subst hys
  rw [hLL.out]
  obtain ⟨x, hxm⟩ : ∃ y, Hid (y = decM lb) := ⟨_, rfl⟩
  obtain ⟨E, hE⟩ : ∃ y, Hid (y = decE lb) := ⟨_, rfl⟩
  rw [← hxm.out] at ax
  rw [← hxm.out, ← hE.out]
  have HF := Lib.hid (kept_facts hIb.out)
  rw [← hxm.out] at HF
  have HGE : Hid ((∀ x, sx.ea = some x → ¬ x.block = g) ∧ ∀ x, sx.ka = some x → ¬ x.block = g) := ⟨fun x hx e => by have := ge1 x hx; omega, fun x hx e => by have := ge2 x hx; omega⟩
  obtain ⟨z1, z2⟩ := mtwo w2 x sx
  have hz : Blk (w2.alloc (.cells #[.int .i64 0, .int .i64 0, .int .i64 0, .int .i64 0, .complex .f64 0 0, .int .i64 0, .int .i64 0, .int .i64 0, .int .i64 0, .string ⟨#[]⟩, .int .i64 0, .string ⟨#[]⟩, .int .i64 0, .string ⟨#[]⟩, .slice none 0 0, .slice none 0 0] 34)) w2.heap.size ((MsgD.new 0 0 0 0).cells NSL).toArray 34 := Blk.new w2 ZERO.toArray _
  have B3 := Lib.hid (bel_next (bel_next B1.out b2) z2)
  have AX := Lib.hid (ax.below z2)
  have hsz2 := b2.size
  have hgg7 : g < w2.heap.size := by omega
  have HP23 := Lib.hid ((HP2.out.below b2).below z2)
  have HP33 := Lib.hid ((HP3.out.kp (S := fun _ => False) (Kp.of_below b2) (fun h => h)).kp (S := fun _ => False) (Kp.of_below z2) (fun h => h))
  have HN3 := Lib.hid ((HN1.out.kp (S := fun _ => False) (Kp.of_below b2) (fun h => h)).kp (S := fun _ => False) (Kp.of_below z2) (fun h => h))
  clear z2 ax b2 ge1 ge2 HP1 HP2 HP3 HN1 B1 hsz2
  go_upto_region 3 with (((with_reducible refine wpList_store_blk34 (op := ⟨_, Op.store 34 _ _, _, _, _, _⟩) rfl _ _ rfl _ _ x _ sx ?_ ?_ hz ?_); rfl; rfl))
  clear hz
  generalize (w2.alloc (.cells #[.int .i64 0, .int .i64 0, .int .i64 0, .int .i64 0, .complex .f64 0 0, .int .i64 0, .int .i64 0, .int .i64 0, .int .i64 0, .string ⟨#[]⟩, .int .i64 0, .string ⟨#[]⟩, .int .i64 0, .string ⟨#[]⟩, .slice none 0 0, .slice none 0 0] 34)).setCells w2.heap.size 0 (x.cells sx) = w3 at *
  generalize w2.heap.size = g7 at *
  have HZ1 := Lib.hid z1
  clear z1
  go_wp2_with fail
  refine (backB_any B g cap c len lb w3 hLL.out HLT.out (HD.out.rd.below B3.out) HP23.out).mono ?_
  rintro e w4 ⟨rfl, d4⟩
  have b4 : Below w3.heap.size w3 w4 := d4.below _
  have B4 := Lib.hid (bel_next B3.out b4)
  have AX4 := Lib.hid (AX.out.below b4)
  have hY := HP33.out.kp (S := fun _ => False) (Kp.of_below b4) (fun h => h)
  have HZ4 := Lib.hid (HZ1.out.kp (S := fun _ => False) (Kp.of_below b4) (fun h => h))
  have HN4 := Lib.hid (HN3.out.kp (S := fun _ => False) (Kp.of_below b4) (fun h => h))
  clear b4 d4 HP23 HP33 HZ1 HN3 AX B3
  go_wp2_with fail
  go_loopw [9] (fun v wr => ∃ i : Nat, i ≤ len + 70 ∧ v = .int .i64 i ∧ Bytes wr g (len + 70) ∧ Kp (fun k => k = g) w4 wr) (fun v _ => len + 70 - (intOf v).toNat)
  case atStart => exact ⟨0, by omega, rfl, hY, Kp.refl _ _⟩
  case round =>
    obtain ⟨i, hi, rfl, hy, hkp⟩ := hrel
    by_cases hlt : i < len + 70
    · obtain ⟨v, hv⟩ := hy.cell i hlt
      have hfz := hy.frozen i
      go_wp2_with fail
      go_roundw
      case rel => exact ⟨i + 1, by omega, by go_num, hy.set i _, hkp.set1 _⟩
      case measure => simp [intOf]; omega
    · obtain rfl : i = len + 70 := by omega
      obtain ⟨w5, rfl⟩ : ∃ w5, w5 = wr := ⟨_, rfl⟩
      have B5 := Lib.hid (bel_nextK B4.out hkp (fun k hk => by have := HG2.out; omega))
      have HZ5 := Lib.hid (HZ4.out.kp hkp (by show ¬ g7 = g; omega))
      have HN5 := Lib.hid (HN4.out.kp hkp (by show ¬ g2 = g; omega))
      have AX5 : Hid (MsgArg w5 (x.cells sx).toArray x sx) := ⟨⟨rfl⟩, AX4.out.ents.kp hkp (fun y hy => HGE.out.1 y hy), AX4.out.keys.kp hkp (fun y hy => HGE.out.2 y hy)⟩
      clear hy hkp B4 HZ4 HN4 AX4 hY hi hlt
      go_wp2_with fail
      rw [← hLL.out]
      refine (ddecode_any w5 B cap lb (HD.out.below B5.out)).mono ?_
      rintro e w6 ⟨yt, sy, rfl, ay, b6⟩
      have hyt : yt = ((decM lb).cells sy).toArray := ay.is.eq
      subst hyt
      rw [← hxm.out] at ay
      rw [hLL.out, ← hxm.out, ← hE.out]
      obtain ⟨y1, y2⟩ := mtwo w6 x sy
      have hz : Blk (w6.alloc (.cells #[.int .i64 0, .int .i64 0, .int .i64 0, .int .i64 0, .complex .f64 0 0, .int .i64 0, .int .i64 0, .int .i64 0, .int .i64 0, .string ⟨#[]⟩, .int .i64 0, .string ⟨#[]⟩, .int .i64 0, .string ⟨#[]⟩, .slice none 0 0, .slice none 0 0] 34)) w6.heap.size ((MsgD.new 0 0 0 0).cells NSL).toArray 34 := Blk.new w6 ZERO.toArray _
      have B7 := Lib.hid (bel_next (bel_next B5.out b6) y2)
      have AX7 := Lib.hid ((AX5.out.below b6).below y2)
      have AY7 := Lib.hid (ay.below y2)
      have z7 := (HZ5.out.kp (S := fun _ => False) (Kp.of_below b6) (fun h => h)).kp (S := fun _ => False) (Kp.of_below y2) (fun h => h)
      have HN7 := Lib.hid ((HN5.out.kp (S := fun _ => False) (Kp.of_below b6) (fun h => h)).kp (S := fun _ => False) (Kp.of_below y2) (fun h => h))
      have HZ7 := Lib.hid z7
      clear y2 ay b6 AX5 HZ5 HN5 B5 z7
      go_upto_region 10 with (((with_reducible refine wpList_store_blk34 (op := ⟨_, Op.store 34 _ _, _, _, _, _⟩) rfl _ _ rfl _ _ x _ sy ?_ ?_ hz ?_); rfl; rfl))
      clear hz
      generalize (w6.alloc (.cells #[.int .i64 0, .int .i64 0, .int .i64 0, .int .i64 0, .complex .f64 0 0, .int .i64 0, .int .i64 0, .int .i64 0, .int .i64 0, .string ⟨#[]⟩, .int .i64 0, .string ⟨#[]⟩, .int .i64 0, .string ⟨#[]⟩, .slice none 0 0, .slice none 0 0] 34)).setCells w6.heap.size 0 (x.cells sy) = w7 at *
      generalize w6.heap.size = g10 at *
      have z7 := HZ7.out
      go_wp2_with (first | ((with_reducible refine wpList_load_blk34_g (op := ⟨_, Op.load 34 _, _, _, _, _⟩) _ rfl ?_ _ _ _ ?_ y1 ?_); rfl; rfl) | ((with_reducible refine wpList_load_blk34_g (op := ⟨_, Op.load 34 _, _, _, _, _⟩) _ rfl ?_ _ _ _ ?_ z7 ?_); rfl; rfl))
      refine (sameMsg_any x x sx sy _ _ w7 AX7.out AY7.out HF.out.2.1 HF.out.2.2).mono ?_
      rw [HF.out.1]
      rintro e w8 ⟨rfl, b8⟩
      have B8 := Lib.hid (bel_next B7.out b8)
      have HN8 := HN7.out.kp (S := fun _ => False) (Kp.of_below b8) (fun h => h)
      clear b8 y1 z7 HZ7 HN7 AX7 AY7 B7 HF HGE hxm hE
      have hN : MAt w8 g2 m s := ⟨HN8, (HX.out.below B8.out).ents, (HX.out.below B8.out).keys, HX.out.el, HX.out.kl⟩
      clear HN8
      go_wp2_with (((with_reducible refine wpList_load_m (op := ⟨_, Op.load 27 _, _, _, _, _⟩) rfl _ rfl _ _ _ ?_ hN ?_); rfl))
      refine (msg_own m s _ _ hN.arg).mono ?_
      rintro e w9 ⟨yy, s9, rfl, a9, b9, mo⟩
      have hyy : yy = (m.msg.cells s9).toArray := a9.is.eq
      subst hyy
      obtain ⟨z1, z2⟩ := mtwo w9 m.msg s9
      have hz : Blk (w9.alloc (.cells #[.int .i64 0, .int .i64 0, .int .i64 0, .int .i64 0, .complex .f64 0 0, .int .i64 0, .int .i64 0, .int .i64 0, .int .i64 0, .string ⟨#[]⟩, .int .i64 0, .string ⟨#[]⟩, .int .i64 0, .string ⟨#[]⟩, .slice none 0 0, .slice none 0 0] 34)) w9.heap.size ((MsgD.new 0 0 0 0).cells NSL).toArray 34 := Blk.new w9 ZERO.toArray _
      have hW8 := B8.out.size
      have hW9 := b9.size
      have hm0 : more m.msg 0 0 = m.msg := by simp [more]
      have HS0 : Hid (YSt W w9.heap.size m.msg 0 0 s9 ((w9.alloc (.cells #[.int .i64 0, .int .i64 0, .int .i64 0, .int .i64 0, .complex .f64 0 0, .int .i64 0, .int .i64 0, .int .i64 0, .int .i64 0, .string ⟨#[]⟩, .int .i64 0, .string ⟨#[]⟩, .int .i64 0, .string ⟨#[]⟩, .slice none 0 0, .slice none 0 0] 34)).setCells w9.heap.size 0 (m.msg.cells s9))) :=
        ⟨bel_next (bel_next B8.out b9) z2, by omega, by rw [hm0]; exact z1, by rw [hm0]; exact own_low (own_below mo.ents z2) hW8, by rw [hm0]; exact own_low (own_below mo.keys z2) hW8⟩
      have HN10 := Lib.hid ((hN.blk.kp (S := fun _ => False) (Kp.of_below b9) (fun h => h)).kp (S := fun _ => False) (Kp.of_below z2) (fun h => h))
      have hgy : g2 < w9.heap.size := by have := hN.blk.lt; omega
      clear a9 mo hN z1 z2 B8 b9 hW8 hW9 hm0
      go_upto_region 13 with (((with_reducible refine wpList_store_blk34 (op := ⟨_, Op.store 34 _ _, _, _, _, _⟩) rfl _ _ rfl _ _ m.msg _ s9 ?_ ?_ hz ?_); rfl; rfl))
      clear hz
      generalize (w9.alloc (.cells #[.int .i64 0, .int .i64 0, .int .i64 0, .int .i64 0, .complex .f64 0 0, .int .i64 0, .int .i64 0, .int .i64 0, .int .i64 0, .string ⟨#[]⟩, .int .i64 0, .string ⟨#[]⟩, .int .i64 0, .string ⟨#[]⟩, .slice none 0 0, .slice none 0 0] 34)).setCells w9.heap.size 0 (m.msg.cells s9) = w10 at *
      generalize w9.heap.size = gy at *
      go_wp2_with fail
      go_loopw [13] (fun v wr => ∃ i : Nat, i ≤ 5 ∧ v = .int .i64 i ∧ ∃ s', YSt W gy m.msg i i s' wr ∧ KeptT gy w10 wr) (fun v _ => 5 - (intOf v).toNat)
      case atStart => exact ⟨0, by omega, rfl, s9, HS0.out, KeptT.refl _ _⟩
      case round =>
        obtain ⟨i, hi, rfl, s', hs, hk⟩ := hrel
        clear HS0
        by_cases hlt : i < 5
        · obtain ⟨EA, ec, KA, kc⟩ := s'
          obtain ⟨A2, c2, wa, hr, ⟨v14, d14⟩, f14, HFE⟩ := hs.pushE (by have := HM.out.1; show (m.entries.length + i + 1) * 72 ≤ _; omega)
          have d10 : wr.cell? ⟨gy, 14, none⟩ = some (.slice EA (more m.msg i i).entries.length ec) := (hs.blk.cell 14).trans rfl
          obtain ⟨hs2, hk2⟩ := HFE _ rfl
          obtain ⟨A3, c3, wb, hr3, ⟨v15, d15⟩, f15, HFK⟩ := hs2.pushK (by have := HM.out.2.1; show (m.keys.length + i + 1) * 24 ≤ _; omega)
          have d11 : (wa.setCell ⟨gy, 14, none⟩ (.slice A2 ((more m.msg i i).entries.length + 1) c2)).cell? ⟨gy, 15, none⟩ = some (.slice KA (more m.msg (i + 1) i).keys.length kc) := (hs2.blk.cell 15).trans rfl
          obtain ⟨hs3, hk3⟩ := HFK _ rfl
          simp only [negE, EntryD.cells] at hr
          simp only [negK, KeyD.cells] at hr3
          rw [show (wa.setCell ⟨gy, 14, none⟩ (.slice A2 ((more m.msg i i).entries.length + 1) c2)).heap.size = wa.heap.size by simp] at hr3
          have HS3 := Lib.hid hs3
          have HK3 := Lib.hid (hk.trans (hk2.trans hk3))
          clear hs hs2 hs3 hk hk2 hk3 HFE HFK
          go_wp2_with (first | (at_builtin; (with_reducible refine wpList_append_run rfl _ _ _ _ rfl _ _ _ ?_ ?_ hr ?_); rfl; rfl) | (at_builtin; (with_reducible refine wpList_append_run rfl _ _ _ _ rfl _ _ _ ?_ ?_ hr3 ?_); rfl; rfl))
          go_roundw
          case rel => exact ⟨i + 1, by omega, by go_num, _, HS3.out, HK3.out⟩
          case measure => simp [intOf]; omega
        · obtain rfl : i = 5 := by omega
          obtain ⟨w11, rfl⟩ : ∃ w11, w11 = wr := ⟨_, rfl⟩
          obtain ⟨EA, ec, KA, kc⟩ := s'
          have hng : ¬ g2 = gy := by omega
          have bN := hk g2 _ _ HN10.out (by decide) (by decide) hng
          obtain ⟨ge, rfl, he5⟩ := own_some hs.oe (by rw [more_el]; omega)
          obtain ⟨gk, rfl, hk5⟩ := own_some hs.ok (by rw [more_kl]; omega)
          obtain ⟨n, hn⟩ : ∃ n, Hid (n = m.entries.length) := ⟨_, rfl⟩
          obtain ⟨k, hkl⟩ : ∃ n, Hid (n = m.keys.length) := ⟨_, rfl⟩
          have d14 : w11.cell? ⟨gy, 14, none⟩ = some (.slice (some ⟨ge, 0, none⟩) (n + 5) ec) := by
            rw [hn.out, show m.entries.length + 5 = (more m.msg 5 5).entries.length from (more_el m.msg 5 5).symm]; exact (hs.blk.cell 14).trans rfl
          have d15 : w11.cell? ⟨gy, 15, none⟩ = some (.slice (some ⟨gk, 0, none⟩) (k + 5) kc) := by
            rw [hkl.out, show m.keys.length + 5 = (more m.msg 5 5).keys.length from (more_kl m.msg 5 5).symm]; exact (hs.blk.cell 15).trans rfl
          have f14 := hs.blk.frozen 14
          have f15 := hs.blk.frozen 15
          have m15 : w11.cell? ⟨g2, 15, none⟩ = some (.slice s.ea n s.ec) := by rw [hn.out]; exact (bN.cell 15).trans rfl
          have m16 : w11.cell? ⟨g2, 16, none⟩ = some (.slice s.ka k s.kc) := by rw [hkl.out]; exact (bN.cell 16).trans rfl
          have hne : n ≤ ec := by rw [more_el] at he5; have := hn.out; have he5 : m.entries.length + 5 ≤ ec := he5; omega
          have hke : k ≤ kc := by rw [more_kl] at hk5; have := hkl.out; have hk5 : m.keys.length + 5 ≤ kc := hk5; omega
          have HSS := Lib.hid hs
          have HBN := Lib.hid bN
          clear hs bN hk he5 hk5 hi hlt HN10
          go_upto_region 22 with fail
          have hbl : Blk ((w11.setCell ⟨gy, 14, none⟩ (.slice (some ⟨ge, 0, none⟩) n ec)).setCell ⟨gy, 15, none⟩ (.slice (some ⟨gk, 0, none⟩) k kc)) gy (m.msg.cells ⟨some ⟨ge, 0, none⟩, ec, some ⟨gk, 0, none⟩, kc⟩).toArray 34 := by
            rw [hn.out, hkl.out]
            exact (HSS.out.blk.set 14 _).set 15 _
          have hkp : Kp (fun j => j = gy) w11 ((w11.setCell ⟨gy, 14, none⟩ (.slice (some ⟨ge, 0, none⟩) n ec)).setCell ⟨gy, 15, none⟩ (.slice (some ⟨gk, 0, none⟩) k kc)) := (Kp.setCell (S := fun j => j = gy) (Kp.refl _ _) (p := ⟨gy, 14, none⟩) rfl _).setCell (p := ⟨gy, 15, none⟩) rfl _
          have hgeg : ¬ ge = gy := by
            rintro rfl
            obtain ⟨cs, hc⟩ := own_blk HSS.out.oe ge rfl
            exact absurd (blk_ty hc HSS.out.blk) (by decide)
          have hgkg : ¬ gk = gy := by
            rintro rfl
            obtain ⟨cs, hc⟩ := own_blk HSS.out.ok gk rfl
            exact absurd (blk_ty hc HSS.out.blk) (by decide)
          have RE := Lib.hid (HSS.out.rowsE.kp hkp (fun x hx e => by injection hx with hx; subst hx; exact hgeg e))
          have RK := Lib.hid (HSS.out.rowsK.kp hkp (fun x hx e => by injection hx with hx; subst hx; exact hgkg e))
          have B12 := Lib.hid (bel_nextK HSS.out.bel hkp (fun j hj => by have := HSS.out.gey; omega))
          have bN := HBN.out.kp hkp hng
          clear HSS HBN hkp d14 d15 f14 f15 m15 m16
          generalize (w11.setCell ⟨gy, 14, none⟩ (.slice (some ⟨ge, 0, none⟩) n ec)).setCell ⟨gy, 15, none⟩ (.slice (some ⟨gk, 0, none⟩) k kc) = w12 at *
          have MA : Hid (MsgArg w12 (m.msg.cells ⟨some ⟨ge, 0, none⟩, ec, some ⟨gk, 0, none⟩, kc⟩).toArray m.msg ⟨some ⟨ge, 0, none⟩, ec, some ⟨gk, 0, none⟩, kc⟩) := ⟨⟨rfl⟩, rows_pre RE.out, rows_pre RK.out⟩
          have HBN := Lib.hid bN
          have hgyw : gy < w12.heap.size := hbl.lt
          have hgew := rows_lt RE.out
          have hgkw := rows_lt RK.out
          clear bN
          go_wp2_with (((with_reducible refine wpList_load_blk34 (op := ⟨_, Op.load 34 _, _, _, _, _⟩) rfl _ rfl _ _ _ ?_ hbl ?_); rfl))
          refine (HP.out.prog _ _ _ MA.out).mono ?_
          rintro e w13 ⟨A1, c1, rfl, o1, b13⟩
          have O1 := Lib.hid o1
          have hbl3 := hbl.kp (S := fun _ => False) (Kp.of_below b13) (fun h => h)
          have MA3 := Lib.hid (MA.out.below b13)
          have BB13 := Lib.hid b13
          clear o1 b13 hbl
          obtain ⟨nl, hnl⟩ : ∃ n, Hid (n = l.length) := ⟨_, rfl⟩
          rw [← hnl.out]
          go_wp2_with (((with_reducible refine wpList_load_blk34 (op := ⟨_, Op.load 34 _, _, _, _, _⟩) rfl _ rfl _ _ _ ?_ hbl3 ?_); rfl))
          refine (HP.out.prog _ _ _ MA3.out).mono ?_
          rintro e w14 ⟨A2, c2, rfl, o2, b14⟩
          rw [← hnl.out]
          have B2 := bel_next BB13.out b14
          have HA1 : Hid (∀ x, A1 = some x → w12.heap.size ≤ x.block ∧ x.block < w13.heap.size) := fun x hx => by
            subst hx
            obtain ⟨cs, hc⟩ := own_blk O1.out x.block rfl
            exact ⟨own_ge O1.out _ rfl, hc.lt⟩
          have RE4 := Lib.hid (RE.out.below B2)
          have RK4 := Lib.hid (RK.out.below B2)
          have MA4 := Lib.hid (MA.out.below B2)
          have bN4 := HBN.out.kp (S := fun _ => False) (Kp.of_below B2) (fun h => h)
          have HBL4 := Lib.hid (hbl3.kp (S := fun _ => False) (Kp.of_below b14) (fun h => h))
          have B14 := Lib.hid (bel_next B12.out B2)
          have O2 := Lib.hid o2
          have O14 := Lib.hid (own_below O1.out b14)
          have hs12 := B12.out.size
          have hs13 : w12.heap.size ≤ w13.heap.size := BB13.out.size
          have m15 : w14.cell? ⟨g2, 15, none⟩ = some (.slice s.ea n s.ec) := by rw [hn.out]; exact (bN4.cell 15).trans rfl
          have m16 : w14.cell? ⟨g2, 16, none⟩ = some (.slice s.ka k s.kc) := by rw [hkl.out]; exact (bN4.cell 16).trans rfl
          have HBN4 := Lib.hid bN4
          clear RE RK MA MA3 HBN BB13 B12 b14 o2 O1 hbl3 B2 bN4 hne hke
          have hnn : n ≤ 1000000000000000 := by have := hn.out; have := HM.out.1; omega
          have hkn : k ≤ 1000000000000000 := by have := hkl.out; have := HM.out.2.1; omega
          have qE := negE_neq
          have qK := negK_neq
          go_wp2_with fail
          go_loopw [20] (fun v wr => ∃ i : Nat, i ≤ 5 ∧ v = .int .i64 i ∧ wr = w14) (fun v _ => 5 - (intOf v).toNat)
          case atStart => exact ⟨0, by omega, rfl, rfl⟩
          case round =>
            obtain ⟨i, hi, rfl, hw⟩ := hrel
            have hw' := hw.symm
            subst hw'
            clear hw
            by_cases hlt : i < 5
            · obtain ⟨j, hj⟩ : ∃ j : Nat, j = n + i := ⟨_, rfl⟩
              obtain ⟨q, hq⟩ : ∃ q : Nat, q = k + i := ⟨_, rfl⟩
              have hj1 : (n : Int) + (i : Int) = (j : Int) := by omega
              have hq1 : (k : Int) + (i : Int) = (q : Int) := by omega
              have hj2 : j < n + 5 := by omega
              have hq2 : q < k + 5 := by omega
              have hj3 : j ≤ 1000000000000005 := by omega
              have hq3 : q ≤ 1000000000000005 := by omega
              have rE : w14.rangeAt ge (j * 7) [.int .i64 0, .string ⟨#[]⟩, .bool true, .int .i64 0, .int .i64 0, .int .i64 0, .string ⟨#[]⟩] := by
                have := rows_neg RE4.out hlt
                rw [List.length_map, show m.msg.entries.length = n from hn.out.symm, ← hj] at this
                exact this
              have rK : w14.rangeAt gk (q * 2) [.int .i64 (-4), .string ⟨#[]⟩] := by
                have := rows_neg RK4.out hlt
                rw [List.length_map, show m.msg.keys.length = k from hkl.out.symm, ← hq] at this
                exact this
              have k0 : w14.cell? ⟨gk, q * 2, none⟩ = some (.int .i64 (-4)) := rK 0 _ rfl
              have k1 : w14.cell? ⟨gk, q * 2 + 1, none⟩ = some (.string ⟨#[]⟩) := rK 1 _ rfl
              have hl7 : ([.int .i64 0, .string ⟨#[]⟩, .bool true, .int .i64 0, .int .i64 0, .int .i64 0, .string ⟨#[]⟩] : List Value).length = 7 := rfl
              have RK0 := Lib.hid rK
              clear rK hj hq
              go_wp2_with ((with_reducible refine wpList_load_el rfl _ rfl ge (j * 7) [.int .i64 0, .string ⟨#[]⟩, .bool true, .int .i64 0, .int .i64 0, .int .i64 0, .string ⟨#[]⟩] ?_ hl7 rE ?_); rfl)
              go_roundw
              case rel => exact ⟨i + 1, by omega, by go_num, trivial⟩
              case measure => simp [intOf]; omega
            · obtain rfl : i = 5 := by omega
              clear qE qK m15 m16 hi hlt
              have hq1 := own_at hnl.out O14.out
              have hnlb : nl ≤ 9223372036854775807 := by rw [hnl.out]; exact own_len' O14.out
              go_wp2_with fail
              go_loopw [21] (fun v wr => ∃ i : Nat, i ≤ nl ∧ v = .int .i64 i ∧ (∀ x, A1 = some x → x = ⟨x.block, 0, none⟩ ∧ Bytes wr x.block nl) ∧ Kp (fun q => ∃ x, A1 = some x ∧ x.block = q) w14 wr) (fun v _ => nl - (intOf v).toNat)
              case atStart => exact ⟨0, by omega, rfl, hq1, Kp.refl _ _⟩
              case round =>
                obtain ⟨i, hi, rfl, hbs, hkp⟩ := hrel
                clear hq1
                by_cases hlt : i < nl
                · obtain ⟨g1, rfl, _⟩ := own_some O14.out (by rw [← hnl.out]; omega)
                  obtain ⟨_, hy⟩ := hbs _ rfl
                  obtain ⟨v, hv⟩ := hy.cell i hlt
                  have hfz := hy.frozen i
                  have HBS := Lib.hid hbs
                  clear hbs
                  go_wp2_with fail
                  go_roundw
                  case rel => exact ⟨i + 1, by omega, by go_num, (fun x hx => by injection hx with hx; subst hx; exact ⟨rfl, hy.set i _⟩), hkp.setCell (p := ⟨g1, i, none⟩) ⟨_, rfl, rfl⟩ _⟩
                  case measure => simp [intOf]; omega
                · obtain rfl : i = nl := by omega
                  obtain ⟨w15, rfl⟩ : ∃ w15, w15 = wr := ⟨_, rfl⟩
                  have hWg := HG2.out
                  have B15 := Lib.hid (bel_nextK B14.out hkp (fun q hq => by obtain ⟨x, hx, rfl⟩ := hq; have := HA1.out x hx; omega))
                  have HBL5 := Lib.hid (HBL4.out.kp hkp (fun hq => by obtain ⟨x, hx, e⟩ := hq; have := HA1.out x hx; omega))
                  have bN5 := HBN4.out.kp hkp (fun hq => by obtain ⟨x, hx, e⟩ := hq; have := HA1.out x hx; omega)
                  have MA5 : Hid (MsgArg w15 (m.msg.cells ⟨some ⟨ge, 0, none⟩, ec, some ⟨gk, 0, none⟩, kc⟩).toArray m.msg ⟨some ⟨ge, 0, none⟩, ec, some ⟨gk, 0, none⟩, kc⟩) :=
                    ⟨⟨rfl⟩, MA4.out.ents.kp hkp (fun y hy hq => by injection hy with hy; subst hy; obtain ⟨x, hx, e⟩ := hq; have := HA1.out x hx; have e : x.block = ge := e; omega), MA4.out.keys.kp hkp (fun y hy hq => by injection hy with hy; subst hy; obtain ⟨x, hx, e⟩ := hq; have := HA1.out x hx; have e : x.block = gk := e; omega)⟩
                  have O25 := Lib.hid (own_kp O2.out hkp (fun q hq hS => by obtain ⟨x, hx, e⟩ := hS; have := HA1.out x hx; have := own_ge O2.out q hq; omega))
                  have hN : MAt w15 g2 m s := ⟨bN5, (HX.out.below B15.out).ents, (HX.out.below B15.out).keys, HX.out.el, HX.out.kl⟩
                  clear hbs hkp bN5 B14 HBL4 HBN4 MA4 O2 RE4 RK4 hi hlt hnlb
                  go_wp2_with (((with_reducible refine wpList_load_m (op := ⟨_, Op.load 27 _, _, _, _, _⟩) rfl _ rfl _ _ _ ?_ hN ?_); rfl))
                  refine (msg_any m s _ _ hN.arg).mono ?_
                  rintro e w16 ⟨y16, s16, rfl, a16, b16⟩
                  go_wp2_with fail
                  refine (HP.out.doc _ _ _ a16).mono ?_
                  rintro e w17 ⟨A3, c3, rfl, o3, b17⟩
                  rw [← hnl.out]
                  have B17 := Lib.hid (bel_next (bel_next B15.out b16) b17)
                  have HBL7 := (HBL5.out.kp (S := fun _ => False) (Kp.of_below b16) (fun h => h)).kp (S := fun _ => False) (Kp.of_below b17) (fun h => h)
                  have MA7 := (MA5.out.below b16).below b17
                  have hN7 := (hN.below b16).below b17
                  have o27 := own_below (own_below O25.out b16) b17
                  have HR2 := rd_of_own o27
                  have HR3 := rd_of_own o3
                  clear b16 b17 a16 hN O25 MA5 HBL5 B15 o27 o3
                  go_upto_region 34 with fail
                  have HSM := Lib.hid (msg_same HM.out.2.2.1 HM.out.2.2.2)
                  have hl7 : m.msg.entries.length * 7 ≤ 9223372036854775807 ∧ m.msg.keys.length * 2 ≤ 9223372036854775807 := by
                    have h1 := HM.out.1
                    have h2 := HM.out.2.1
                    simp only [MD.msg]
                    omega
                  have HL7 := Lib.hid hl7
                  clear hl7
                  have hS0 : w17.drew.rangeAt gy 0 (m.msg.cells ⟨some ⟨ge, 0, none⟩, ec, some ⟨gk, 0, none⟩, kc⟩) ∧ w17.drew.rangeAt g2 0 (m.cells s) := ⟨fun j v hj => by
                    rw [(HBL7.drew).cell, List.getElem?_toArray, Nat.zero_add]; exact hj, (hN7.below ((Drawn.refl w17).drew.below _)).all⟩
                  have b18 := (Drawn.refl w17).drew.below w17.heap.size
                  have hN8 := hN7.below b18
                  have MA8 := Lib.hid (MA7.below b18)
                  have HR28 := Lib.hid (HR2.below b18)
                  have HR38 := Lib.hid (HR3.below b18)
                  have B18 := Lib.hid (bel_next B17.out b18)
                  have hbl8 : Blk w17.drew gy (m.msg.cells ⟨some ⟨ge, 0, none⟩, ec, some ⟨gk, 0, none⟩, kc⟩).toArray 34 := HBL7.drew
                  have HLB : Hid (l.length ≤ 9223372036854775807) := by show _ ≤ _; exact own_len' O14.out
                  clear hN7 HBL7 MA7 HR2 HR3 B17 b18 O14
                  refine wp_region_held_drew (S := fun w' => w'.rangeAt gy 0 (m.msg.cells ⟨some ⟨ge, 0, none⟩, ec, some ⟨gk, 0, none⟩, kc⟩) ∧ w'.rangeAt g2 0 (m.cells s)) (by kernel_rfl) hS0 (fun hHeld => ?_)
                  generalize w17.drew = w18 at *
                  refine' wpAnyH_take (i := 0) (oi := { dst := some 156, op := Op.move (Operand.tmp 17), type := 29, pos := "law.go:153", after := #[], guard := none }) (v := ?v0) rfl (by kernel_rfl) (by kernel_rfl) (by kernel_rfl) (fun _ _ _ h => h) (Or.inl ⟨by kernel_rfl, ?hy0⟩) hHeld ?rest0
                  case hy0 => (intro w hSw; clear hSw; go_simp; (try with_reducible rfl))
                  simp only [Act.put, List.setIfInBounds_toArray, List.set_cons_zero, List.set_cons_succ]
                  refine' wpAnyH_take (i := 1) (oi := { dst := some 157, op := Op.move (Operand.tmp 19), type := 29, pos := "law.go:153", after := #[], guard := none }) (v := ?v1) rfl (by kernel_rfl) (by kernel_rfl) (by kernel_rfl) (fun _ _ _ h => h) (Or.inl ⟨by kernel_rfl, ?hy1⟩) hHeld ?rest1
                  case hy1 => (intro w hSw; clear hSw; go_simp; (try with_reducible rfl))
                  simp only [Act.put, List.setIfInBounds_toArray, List.set_cons_zero, List.set_cons_succ]
                  refine' wpAnyH_take (i := 2) (oi := { dst := some 158, op := Op.binOp BinOp.eql 29 (Operand.tmp 156) (Operand.tmp 157) 29, type := 4, pos := "law.go:153", after := #[{ on := 0, ground := Ground.data }, { on := 1, ground := Ground.data }], guard := none }) (v := ?v2) rfl (by kernel_rfl) (by kernel_rfl) (by kernel_rfl) (fun _ _ _ h => h) (Or.inl ⟨by kernel_rfl, ?hy2⟩) hHeld ?rest2
                  case hy2 => (intro w hSw; clear hSw; go_simp; (try with_reducible rfl))
                  simp only [Act.put, List.setIfInBounds_toArray, List.set_cons_zero, List.set_cons_succ]
                  refine' wpAnyH_take (i := 3) (oi := { dst := some 159, op := Op.move (Operand.tmp 158), type := 4, pos := "law.go:153", after := #[{ on := 2, ground := Ground.data }], guard := none }) (v := ?v3) rfl (by kernel_rfl) (by kernel_rfl) (by kernel_rfl) (fun _ _ _ h => h) (Or.inl ⟨by kernel_rfl, ?hy3⟩) hHeld ?rest3
                  case hy3 => (intro w hSw; clear hSw; go_simp; (try with_reducible rfl))
                  simp only [Act.put, List.setIfInBounds_toArray, List.set_cons_zero, List.set_cons_succ]
                  refine' wpAnyH_take (i := 4) (oi := { dst := some 160, op := Op.move (Operand.tmp 19), type := 29, pos := "law.go:153", after := #[{ on := 3, ground := Ground.guard }], guard := some (3, true) }) (v := ?v4) rfl (by kernel_rfl) (by kernel_rfl) (by kernel_rfl) (fun _ _ _ h => h) (Or.inl ⟨by kernel_rfl, ?hy4⟩) hHeld ?rest4
                  case hy4 => (intro w hSw; clear hSw; go_simp; (try with_reducible rfl))
                  simp only [Act.put, List.setIfInBounds_toArray, List.set_cons_zero, List.set_cons_succ]
                  refine' wpAnyH_take (i := 5) (oi := { dst := some 161, op := Op.move (Operand.tmp 23), type := 3, pos := "law.go:153", after := #[{ on := 3, ground := Ground.guard }], guard := some (3, true) }) (v := ?v5) rfl (by kernel_rfl) (by kernel_rfl) (by kernel_rfl) (fun _ _ _ h => h) (Or.inl ⟨by kernel_rfl, ?hy5⟩) hHeld ?rest5
                  case hy5 => (intro w hSw; clear hSw; go_simp; (try with_reducible rfl))
                  simp only [Act.put, List.setIfInBounds_toArray, List.set_cons_zero, List.set_cons_succ]
                  refine' wpAnyH_take (i := 6) (oi := { dst := some 162, op := Op.binOp BinOp.eql 3 (Operand.tmp 160) (Operand.tmp 161) 3, type := 4, pos := "law.go:153", after := #[{ on := 4, ground := Ground.data }, { on := 5, ground := Ground.data }, { on := 3, ground := Ground.guard }], guard := some (3, true) }) (v := ?v6) rfl (by kernel_rfl) (by kernel_rfl) (by kernel_rfl) (fun _ _ _ h => h) (Or.inl ⟨by kernel_rfl, ?hy6⟩) hHeld ?rest6
                  case hy6 => (intro w hSw; clear hSw; go_simp; (try with_reducible rfl))
                  simp only [Act.put, List.setIfInBounds_toArray, List.set_cons_zero, List.set_cons_succ]
                  refine' wpAnyH_take (i := 7) (oi := { dst := some 163, op := Op.pick (Operand.tmp 159) (Operand.tmp 162) (Operand.const (Value.bool false)), type := 4, pos := "law.go:153", after := #[{ on := 3, ground := Ground.data }, { on := 6, ground := Ground.data }], guard := none }) (v := ?v7) rfl (by kernel_rfl) (by kernel_rfl) (by kernel_rfl) (fun _ _ _ h => h) (Or.inl ⟨by kernel_rfl, ?hy7⟩) hHeld ?rest7
                  case hy7 => (intro w hSw; clear hSw; go_simp; (try with_reducible rfl))
                  simp only [Act.put, List.setIfInBounds_toArray, List.set_cons_zero, List.set_cons_succ]
                  refine' wpAnyH_take (i := 8) (oi := { dst := some 164, op := Op.move (Operand.tmp 163), type := 4, pos := "law.go:153", after := #[{ on := 7, ground := Ground.data }, { on := 3, ground := Ground.chain }], guard := none }) (v := ?v8) rfl (by kernel_rfl) (by kernel_rfl) (by kernel_rfl) (fun _ _ _ h => h) (Or.inl ⟨by kernel_rfl, ?hy8⟩) hHeld ?rest8
                  case hy8 => (intro w hSw; clear hSw; go_simp; (try with_reducible rfl))
                  simp only [Act.put, List.setIfInBounds_toArray, List.set_cons_zero, List.set_cons_succ]
                  refine' wpAnyH_take (i := 9) (oi := { dst := some 165, op := Op.move (Operand.tmp 18), type := 28, pos := "law.go:153", after := #[{ on := 8, ground := Ground.guard }], guard := some (8, true) }) (v := ?v9) rfl (by kernel_rfl) (by kernel_rfl) (by kernel_rfl) (fun _ _ _ h => h) (Or.inl ⟨by kernel_rfl, ?hy9⟩) hHeld ?rest9
                  case hy9 => (intro w hSw; clear hSw; go_simp; (try with_reducible rfl))
                  simp only [Act.put, List.setIfInBounds_toArray, List.set_cons_zero, List.set_cons_succ]
                  refine' wpAnyH_take (i := 10) (oi := { dst := some 166, op := Op.move (Operand.tmp 22), type := 28, pos := "law.go:153", after := #[{ on := 8, ground := Ground.guard }], guard := some (8, true) }) (v := ?v10) rfl (by kernel_rfl) (by kernel_rfl) (by kernel_rfl) (fun _ _ _ h => h) (Or.inl ⟨by kernel_rfl, ?hy10⟩) hHeld ?rest10
                  case hy10 => (intro w hSw; clear hSw; go_simp; (try with_reducible rfl))
                  simp only [Act.put, List.setIfInBounds_toArray, List.set_cons_zero, List.set_cons_succ]
                  refine wpAnyH_ready (rs := [11]) (by kernel_rfl) (by simp) ?_
                  refine AllReadyH.cons (o := { dst := some 167, op := Op.call { callee := Callee.value (Operand.func 17), args := #[Operand.tmp 165, Operand.tmp 166], argTypes := #[28, 28] }, type := 4, pos := "law.go:153", after := #[{ on := 9, ground := Ground.data }, { on := 10, ground := Ground.data }, { on := 8, ground := Ground.chain }, { on := 8, ground := Ground.guard }], guard := some (8, true) }) rfl (fun K hK => ?_) AllReadyH.nil
                  go_simp
                  rw [hnl.out]
                  refine (same_any A2 A3 c2 c3 l l w18 HR28.out HR38.out HLB.out HLB.out).mono ?_
                  rintro e w19 ⟨rfl, d19⟩
                  have bb : Below w18.heap.size w18 w19 := d19.below _
                  rw [decide_eq_true rfl, ← hnl.out]
                  clear d19 HR28 HR38
                  have hN9 := hN8.below bb
                  have MA9 := Lib.hid (MA8.out.below bb)
                  have B19 := Lib.hid (bel_next B18.out bb)
                  have hbl9 := hbl8.kp (S := fun _ => False) (Kp.of_below bb) (fun h => h)
                  have hS9 : w19.rangeAt gy 0 (m.msg.cells ⟨some ⟨ge, 0, none⟩, ec, some ⟨gk, 0, none⟩, kc⟩) ∧ w19.rangeAt g2 0 (m.cells s) := ⟨fun j v hj => by rw [hbl9.cell, List.getElem?_toArray, Nat.zero_add]; exact hj, hN9.all⟩
                  clear bb hN8 MA8 B18 hbl8
                  go_wp2_with fail
                  refine hK.out _ _ hS9 (fun hHeld => ?_)
                  clear hK K hS9
                  try simp only [Act.put, List.setIfInBounds_toArray, List.set_cons_zero, List.set_cons_succ]
                  refine' wpAnyH_take (i := 12) (oi := { dst := some 168, op := Op.pick (Operand.tmp 164) (Operand.tmp 167) (Operand.const (Value.bool false)), type := 4, pos := "law.go:153", after := #[{ on := 8, ground := Ground.data }, { on := 11, ground := Ground.data }], guard := none }) (v := ?v12) rfl (by kernel_rfl) (by kernel_rfl) (by kernel_rfl) (fun _ _ _ h => h) (Or.inl ⟨by kernel_rfl, ?hy12⟩) hHeld ?rest12
                  case hy12 => (intro w hSw; clear hSw; go_simp; (try with_reducible rfl))
                  simp only [Act.put, List.setIfInBounds_toArray, List.set_cons_zero, List.set_cons_succ]
                  refine' wpAnyH_take (i := 13) (oi := { dst := some 169, op := Op.move (Operand.tmp 168), type := 4, pos := "law.go:153", after := #[{ on := 12, ground := Ground.data }, { on := 11, ground := Ground.chain }], guard := none }) (v := ?v13) rfl (by kernel_rfl) (by kernel_rfl) (by kernel_rfl) (fun _ _ _ h => h) (Or.inl ⟨by kernel_rfl, ?hy13⟩) hHeld ?rest13
                  case hy13 => (intro w hSw; clear hSw; go_simp; (try with_reducible rfl))
                  simp only [Act.put, List.setIfInBounds_toArray, List.set_cons_zero, List.set_cons_succ]
                  refine' wpAnyH_take (i := 14) (oi := { dst := some 170, op := Op.load 34 (Operand.tmp 12), type := 34, pos := "law.go:153", after := #[{ on := 13, ground := Ground.guard }], guard := some (13, true) }) (v := .agg ((m.msg.cells ⟨some ⟨ge, 0, none⟩, ec, some ⟨gk, 0, none⟩, kc⟩)).toArray) rfl (by kernel_rfl) (by kernel_rfl) (by kernel_rfl) (fun _ _ _ h => h) (yieldsIf_load_mid (by kernel_rfl) _ _ rfl gy 0 rfl (m.msg.cells ⟨some ⟨ge, 0, none⟩, ec, some ⟨gk, 0, none⟩, kc⟩) _ (fun w h => h.1) Try.underlying34 rfl size_msg) hHeld ?_
                  simp only [Act.put, List.setIfInBounds_toArray, List.set_cons_zero, List.set_cons_succ]
                  refine' wpAnyH_take (i := 15) (oi := { dst := some 171, op := Op.load 27 (Operand.tmp 2), type := 27, pos := "law.go:153", after := #[{ on := 13, ground := Ground.guard }], guard := some (13, true) }) (v := .agg ((m.cells s)).toArray) rfl (by kernel_rfl) (by kernel_rfl) (by kernel_rfl) (fun _ _ _ h => h) (yieldsIf_load_mid (by kernel_rfl) _ _ rfl g2 0 rfl (m.cells s) _ (fun w h => h.2) Try.underlying27 rfl size_m) hHeld ?_
                  simp only [Act.put, List.setIfInBounds_toArray, List.set_cons_zero, List.set_cons_succ]
                  refine wpAnyH_ready (rs := [16]) (by kernel_rfl) (by simp) ?_
                  refine AllReadyH.cons (o := { dst := some 172, op := Op.call { callee := Callee.value (Operand.func 15), args := #[Operand.tmp 171], argTypes := #[27] }, type := 34, pos := "law.go:153", after := #[{ on := 15, ground := Ground.data }, { on := 13, ground := Ground.chain }, { on := 13, ground := Ground.guard }], guard := some (13, true) }) rfl (fun K hK => ?_) AllReadyH.nil
                  go_simp
                  refine (msg_any m s _ _ hN9.arg).mono ?_
                  rintro e w20 ⟨y20, s20, rfl, a20, bb⟩
                  have hN10 := hN9.below bb
                  have MA10 := Lib.hid (MA9.out.below bb)
                  have B20 := Lib.hid (bel_next B19.out bb)
                  have hbl10 := hbl9.kp (S := fun _ => False) (Kp.of_below bb) (fun h => h)
                  have hS10 : w20.rangeAt gy 0 (m.msg.cells ⟨some ⟨ge, 0, none⟩, ec, some ⟨gk, 0, none⟩, kc⟩) ∧ w20.rangeAt g2 0 (m.cells s) := ⟨fun j v hj => by rw [hbl10.cell, List.getElem?_toArray, Nat.zero_add]; exact hj, hN10.all⟩
                  clear bb hN9 MA9 B19 hbl9
                  go_wp2_with fail
                  refine hK.out _ _ hS10 (fun hHeld => ?_)
                  clear hK K hS10
                  try simp only [Act.put, List.setIfInBounds_toArray, List.set_cons_zero, List.set_cons_succ]
                  refine wpAnyH_ready (rs := [17]) (by kernel_rfl) (by simp) ?_
                  refine AllReadyH.cons (o := { dst := some 173, op := Op.call { callee := Callee.value (Operand.func 21), args := #[Operand.tmp 170, Operand.tmp 172], argTypes := #[34, 34] }, type := 4, pos := "law.go:153", after := #[{ on := 14, ground := Ground.data }, { on := 16, ground := Ground.data }, { on := 16, ground := Ground.chain }, { on := 13, ground := Ground.guard }], guard := some (13, true) }) rfl (fun K hK => ?_) AllReadyH.nil
                  go_simp
                  refine (sameMsg_any m.msg m.msg ⟨some ⟨ge, 0, none⟩, ec, some ⟨gk, 0, none⟩, kc⟩ s20 _ y20 w20 MA10.out a20 HL7.out.1 HL7.out.2).mono ?_
                  rw [HSM.out]
                  rintro e w21 ⟨rfl, bb⟩
                  clear a20
                  have hN11 := hN10.below bb
                  have MA11 := Lib.hid (MA10.out.below bb)
                  have B21 := Lib.hid (bel_next B20.out bb)
                  have hbl11 := hbl10.kp (S := fun _ => False) (Kp.of_below bb) (fun h => h)
                  have hS11 : w21.rangeAt gy 0 (m.msg.cells ⟨some ⟨ge, 0, none⟩, ec, some ⟨gk, 0, none⟩, kc⟩) ∧ w21.rangeAt g2 0 (m.cells s) := ⟨fun j v hj => by rw [hbl11.cell, List.getElem?_toArray, Nat.zero_add]; exact hj, hN11.all⟩
                  clear bb hN10 MA10 B20 hbl10
                  go_wp2_with fail
                  refine hK.out _ _ hS11 (fun hHeld => ?_)
                  clear hK K hS11
                  try simp only [Act.put, List.setIfInBounds_toArray, List.set_cons_zero, List.set_cons_succ]
                  refine' wpAnyH_take (i := 18) (oi := { dst := some 174, op := Op.pick (Operand.tmp 169) (Operand.tmp 173) (Operand.const (Value.bool false)), type := 4, pos := "law.go:153", after := #[{ on := 13, ground := Ground.data }, { on := 17, ground := Ground.data }], guard := none }) (v := ?v18) rfl (by kernel_rfl) (by kernel_rfl) (by kernel_rfl) (fun _ _ _ h => h) (Or.inl ⟨by kernel_rfl, ?hy18⟩) hHeld ?rest18
                  case hy18 => (intro w hSw; clear hSw; go_simp; (try with_reducible rfl))
                  simp only [Act.put, List.setIfInBounds_toArray, List.set_cons_zero, List.set_cons_succ]
                  refine' wpAnyH_take (i := 19) (oi := { dst := some 175, op := Op.move (Operand.tmp 174), type := 4, pos := "law.go:153", after := #[{ on := 18, ground := Ground.data }, { on := 17, ground := Ground.chain }], guard := none }) (v := ?v19) rfl (by kernel_rfl) (by kernel_rfl) (by kernel_rfl) (fun _ _ _ h => h) (Or.inl ⟨by kernel_rfl, ?hy19⟩) hHeld ?rest19
                  case hy19 => (intro w hSw; clear hSw; go_simp; (try with_reducible rfl))
                  simp only [Act.put, List.setIfInBounds_toArray, List.set_cons_zero, List.set_cons_succ]
                  refine wpAnyH_ready (rs := [20]) (by kernel_rfl) (by simp) ?_
                  refine AllReadyH.cons (o := { dst := some 176, op := Op.call { callee := Callee.value (Operand.func 18), args := #[], argTypes := #[] }, type := 4, pos := "law.go:153", after := #[{ on := 19, ground := Ground.chain }, { on := 19, ground := Ground.guard }], guard := some (19, true) }) rfl (fun K hK => ?_) AllReadyH.nil
                  go_simp
                  refine (awake_any _).mono ?_
                  rintro e w22 ⟨rfl, bb⟩
                  have hN12 := hN11.below bb
                  have MA12 := Lib.hid (MA11.out.below bb)
                  have B22 := Lib.hid (bel_next B21.out bb)
                  have hbl12 := hbl11.kp (S := fun _ => False) (Kp.of_below bb) (fun h => h)
                  have hS12 : w22.rangeAt gy 0 (m.msg.cells ⟨some ⟨ge, 0, none⟩, ec, some ⟨gk, 0, none⟩, kc⟩) ∧ w22.rangeAt g2 0 (m.cells s) := ⟨fun j v hj => by rw [hbl12.cell, List.getElem?_toArray, Nat.zero_add]; exact hj, hN12.all⟩
                  clear bb hN11 MA11 B21 hbl11
                  go_wp2_with fail
                  refine hK.out _ _ hS12 (fun hHeld => ?_)
                  clear hK K hS12
                  try simp only [Act.put, List.setIfInBounds_toArray, List.set_cons_zero, List.set_cons_succ]
                  refine' wpAnyH_take (i := 21) (oi := { dst := some 177, op := Op.pick (Operand.tmp 175) (Operand.tmp 176) (Operand.const (Value.bool false)), type := 4, pos := "law.go:153", after := #[{ on := 19, ground := Ground.data }, { on := 20, ground := Ground.data }], guard := none }) (v := ?v21) rfl (by kernel_rfl) (by kernel_rfl) (by kernel_rfl) (fun _ _ _ h => h) (Or.inl ⟨by kernel_rfl, ?hy21⟩) hHeld ?rest21
                  case hy21 => (intro w hSw; clear hSw; go_simp; (try with_reducible rfl))
                  simp only [Act.put, List.setIfInBounds_toArray, List.set_cons_zero, List.set_cons_succ]
                  refine' wpAnyH_take (i := 22) (oi := { dst := some 4, op := Op.assign (Operand.tmp 177), type := 4, pos := "law.go:153", after := #[{ on := 21, ground := Ground.data }, { on := 20, ground := Ground.chain }, { on := 0, ground := Ground.phase }, { on := 1, ground := Ground.phase }, { on := 2, ground := Ground.phase }, { on := 3, ground := Ground.phase }, { on := 4, ground := Ground.phase }, { on := 5, ground := Ground.phase }, { on := 6, ground := Ground.phase }, { on := 7, ground := Ground.phase }, { on := 8, ground := Ground.phase }, { on := 9, ground := Ground.phase }, { on := 10, ground := Ground.phase }, { on := 11, ground := Ground.phase }, { on := 12, ground := Ground.phase }, { on := 13, ground := Ground.phase }, { on := 14, ground := Ground.phase }, { on := 15, ground := Ground.phase }, { on := 16, ground := Ground.phase }, { on := 17, ground := Ground.phase }, { on := 18, ground := Ground.phase }, { on := 19, ground := Ground.phase }, { on := 20, ground := Ground.phase }, { on := 21, ground := Ground.phase }], guard := none }) (v := ?v22) rfl (by kernel_rfl) (by kernel_rfl) (by kernel_rfl) (fun _ _ _ h => h) (Or.inl ⟨by kernel_rfl, ?hy22⟩) hHeld ?rest22
                  case hy22 => (intro w hSw; clear hSw; go_simp; (try with_reducible rfl))
                  simp only [Act.put, List.setIfInBounds_toArray, List.set_cons_zero, List.set_cons_succ]
                  refine wpAnyH_done (by kernel_rfl) ?_ _
                  go_wp2_with fail
                  go_ret
                  exact ⟨rfl, B22.out⟩

end Go.Proofs.Ytmhcjkiaogimgaa
