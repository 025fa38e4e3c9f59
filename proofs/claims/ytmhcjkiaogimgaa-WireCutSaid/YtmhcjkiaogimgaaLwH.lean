/- WireCut: the walk. -/
import Derived.Test.YtmhcjkiaogimgaaLwF
import Derived.Test.YtmhcjkiaogimgaaLwB
import Derived.Deep.Cut
namespace Go.Proofs.Ytmhcjkiaogimgaa
open Go.RowKit

theorem tmod_wrap {v n : Int} (h0 : 0 < n) (hn : n ≤ 4294967296) (h : v.tmod n < 0) : wrap64 (v.tmod n + n) = v % n := by
  have h1 := Int.tmod_lt_of_pos v h0
  have h3 : v.tmod n + n = v % n := by
    rw [Int.tmod_eq_emod] at h ⊢
    have := Int.emod_nonneg v (show n ≠ 0 by omega)
    split at h
    · omega
    · rename_i hc
      rw [if_neg hc]; omega
  rw [h3]
  have := Int.emod_nonneg v (show n ≠ 0 by omega)
  have := Int.emod_lt_of_pos v h0
  unfold wrap64; omega
theorem tmod_pos {v n : Int} (h0 : 0 < n) (h : 0 ≤ v.tmod n) : v.tmod n = v % n := by
  rw [Int.tmod_eq_emod] at h ⊢
  have := Int.emod_nonneg v (show n ≠ 0 by omega)
  have := Int.emod_lt_of_pos v h0
  have e : (n.natAbs : Int) = n := by omega
  split <;> simp_all <;> omega

set_option maxHeartbeats 400000 in
theorem place_any (v n : Int) (w : World) (h0 : 0 < n) (hn : n ≤ 4294967296) :
    Calls Try.prog 29 #[.int .i64 v, .int .i64 n] w fun e w' => e = .returned (.int .i64 (v % n)) ∧ w = w' := by
  go_enter Try.func29, Try.ntmps29
  go_wp2
  · go_ret
    rename_i h
    exact ⟨bv (tmod_wrap h0 hn h), rfl⟩
  · go_ret
    rename_i h
    exact ⟨bv (tmod_pos h0 h), rfl⟩

/-- The first bytes of what is owned. -/
theorem barg_take {w : World} {A : Option Addr} {c : Nat} {l : List Int} (h : BArg w A c l) (k : Nat) (hk : k ≤ l.length) : BArg w A c (l.take k) := by
  have hl : (l.take k).length = k := by rw [List.length_take]; omega
  refine ⟨⟨fun j hj => ?_⟩, isB_take h.isb k, by have := h.len; omega, by have := h.cap; omega, h.lim, h.blk⟩
  rw [hl] at hj
  obtain ⟨x, hx, h1, h2⟩ := h.rd.at_ j (by omega)
  refine ⟨x, hx, h1, ?_⟩
  rw [h2, List.getD_eq_getElem?_getD, List.getD_eq_getElem?_getD, List.getElem?_take, if_pos hj]
theorem BArg.len' {w : World} {A : Option Addr} {c : Nat} {l : List Int} (h : BArg w A c l) : l.length ≤ 140737488355328 ∧ l.length ≤ c ∧ c ≤ 9223372036854775807 := ⟨h.len, h.cap, h.lim⟩
theorem decNone {l : List Int} (h : dec l = none) : decE l = 50 ∧ decM l = MsgD.new 0 0 0 0 := ⟨by unfold decE; rw [h]; rfl, by unfold decM; rw [h]⟩
theorem unpNone {l : List Int} (h : unp l = none) : unpE l = 50 ∧ unpN l = NoteD.zero := ⟨by unfold unpE; rw [h]; rfl, by unfold unpN; rw [h]; rfl⟩

set_option maxRecDepth 100000 in
set_option maxHeartbeats 16000000 in
theorem cut_law (m : MD) (s : Sls) (xs : Array Value) {W : World} (hx : MArg W xs m s) (n : NoteD) (at' : Int) (_ : (Lit.int .i64 at').wf = true) (mo : Int) (hmo : (Lit.int .u8 mo).wf = true) :
    Calls Try.prog 13 #[.agg xs, .agg n.cells.toArray, .int .i64 at', .int .u8 mo] W fun e w' => e = .returned (.bool true) ∧ Below W.heap.size W w' := by
  have hmb : isB [mo] := isB_wf (fun x hx => by simp at hx; rw [hx]; exact hmo)
  obtain ⟨ns, hns⟩ : ∃ ns, ns = n.cells.toArray := ⟨_, rfl⟩
  have HA : Hid (∀ V, V = (W.alloc (.cells xs 27)).alloc (.cells ns 51) → MAt V W.heap.size m s ∧ NoteAt V (W.heap.size + 1) n ∧ Below W.heap.size W V) := by
    rintro V rfl
    obtain ⟨a1, b1⟩ := hx.box _ rfl
    obtain ⟨a3, b3⟩ := nat_add n (W.alloc (.cells xs 27)) _ rfl
    rw [hns]
    rw [show (W.alloc (.cells xs 27)).heap.size = W.heap.size + 1 by simp] at a3
    exact ⟨a1.below b3, a3, bel_next b1 b3⟩
  rw [← hns]
  obtain ⟨l, E, P, hC⟩ := both_cases2 m.msg
  have HP := Lib.hid P
  have HC := Lib.hid hC
  have HMB := Lib.hid hmb
  clear hns hx P hC hmo hmb
  go_enter Try.func13, Try.ntmps13
  go_upto_region 1 with fail
  obtain ⟨V, hV⟩ : ∃ V, V = (W.alloc (.cells xs 27)).alloc (.cells ns 51) := ⟨_, rfl⟩
  obtain ⟨hM, hN, hB⟩ := HA.out V hV
  rw [← hV]
  clear hV HA
  obtain ⟨g1, hg1⟩ : ∃ g, W.heap.size = g := ⟨_, rfl⟩
  rw [hg1] at hM hN ⊢
  generalize hg2 : g1 + 1 = g2 at hN ⊢
  clear hg1 hg2
  go_wp2_with (((with_reducible refine wpList_load_m (op := ⟨_, Op.load 27 _, _, _, _, _⟩) rfl _ rfl _ _ _ ?_ hM ?_); rfl))
  refine (msg_any m s _ _ hM.arg).mono ?_
  rintro e w1 ⟨y1, s1, rfl, a1, b1⟩
  have hN1 := hN.below b1
  have B1 := bel_next hB b1
  clear b1 hN hB hM
  go_wp2_with fail
  refine (HP.out.prog _ _ _ a1).mono ?_
  rintro e w2 ⟨A, c, rfl, o1, b1⟩
  have hN2 := hN1.below b1
  have B2 := Lib.hid (bel_next B1 b1)
  clear b1 hN1 B1 a1 HP
  rcases HC.out with ⟨rfl, rfl⟩ | ⟨md, hw, rfl, rfl⟩
  · clear HC o1
    have hl0 : ([] : List Int).length = 0 := rfl
    rw [hl0]
    clear hl0
    have hm := hN2
    have HN := Lib.hid hN2
    have BB := B2
    clear hN2 B2
    as_aux_lemma =>
      go_wp2_with (((with_reducible refine wpList_load_note (op := ⟨_, Op.load 51 _, _, _, _, _⟩) rfl _ rfl _ _ ?_ hm ?_); rfl))
      refine (pack_any n _ ⟨rfl⟩ _).mono ?_
      rintro e v2 ⟨A, c, rfl, o1, b1⟩
      have HN2 := Lib.hid (HN.out.below b1)
      have B2 := Lib.hid (bel_next BB.out b1)
      clear b1 HN BB hm
      obtain ⟨HN, _⟩ : _ ∧ True := ⟨HN2, trivial⟩
      clear HN2
      cases hok : n.ok with
      | false =>
        as_aux_lemma =>
          have hl0 : n.packL.length = 0 := by rw [NoteD.packL, hok]; rfl
          have he0 : n.packE = 50 := by rw [NoteD.packE, hok]; rfl
          rw [he0, hl0]
          clear hl0 he0 o1 hok
          go_wp2_with fail
          refine (awake_any _).mono ?_
          rintro e w12 ⟨rfl, b12⟩
          go_wp2_with fail
          go_ret
          exact ⟨rfl, bel_next B2.out b12⟩
      | true =>
        as_aux_lemma =>
          have hpl : n.packL = n.enc := by rw [NoteD.packL, hok]; rfl
          have he0 : n.packE = 0 := by rw [NoteD.packE, hok]; rfl
          rw [he0, hpl]
          rw [hpl] at o1
          have hlen4 := note424 hok
          have hpos : 0 < n.enc.length := by rw [NoteD.enc, List.length_append, List.length_singleton]; omega
          have hA1 := Lib.hid (barg_own o1 (isB_note n) (by omega))
          have hL : Hid (0 < n.enc.length ∧ n.enc.length ≤ 20000) := ⟨hpos, by omega⟩
          have HD := Lib.hid (And.intro (fun k (hk : k < n.enc.length) => unp_cut hok hk) (unp_more hok mo))
          have HBL := Lib.hid (isB_note n)
          clear hpl he0 o1 hlen4 hpos hok
          generalize n.enc = l at *
          obtain ⟨j, hj⟩ : ∃ j, Hid (j = l.length) := ⟨_, rfl⟩
          have hjp : 0 < j := by rw [hj.out]; exact hL.out.1
          have hjl : j ≤ 20000 := by rw [hj.out]; exact hL.out.2
          have i1 : ((j : Int) == 0) = false := by rw [beq_eq_false_iff_ne]; omega
          have i2 : ¬ j = 0 := by omega
          rw [← hj.out]
          go_wp2_with fail
          refine (place_any at' (j : Int) _ (by omega) (by omega)).mono ?_
          rintro e wP ⟨rfl, rfl⟩
          obtain ⟨k, hk⟩ : ∃ k : Nat, at' % (j : Int) = k := ⟨(at' % (j : Int)).toNat, by have := Int.emod_nonneg at' (show (j : Int) ≠ 0 by omega); omega⟩
          have hkj : k < j := by have := Int.emod_lt_of_pos at' (show (0 : Int) < j by omega); omega
          rw [hk]
          clear hk
          obtain ⟨hq1, hq2, hq3⟩ := hA1.out.len'
          rw [← hj.out] at hq2
          have k1 : (0 : Int) ≤ (k : Int) := by omega
          have k2 : (k : Int) ≤ (c : Int) := by omega
          have hKL : Hid ((l.take k).length = k) := by show _ = _; rw [List.length_take, ← hj.out]; omega
          have hT := Lib.hid (barg_take hA1.out k (by rw [← hj.out]; omega))
          have hcn := HD.out.1 k (by rw [← hj.out]; exact hkj)
          obtain ⟨hu1, hu2⟩ := unpNone hcn
          have HU1 := Lib.hid (And.intro hu1 hu2)
          clear hq1 hq2 hq3 hcn hu1 hu2 i1 i2
          go_wp2_with fail
          rw [← hKL.out]
          refine (unpack_any _ A c (l.take k) hT.out).mono ?_
          rintro e w3 ⟨rfl, b3⟩
          rw [HU1.out.1, HU1.out.2, hKL.out]
          obtain ⟨z1, z2⟩ := ztwo w3 NoteD.zero
          have hz : NoteAt (w3.alloc (.cells #[.int .i64 0, .int .i64 0, .int .i64 0, .int .i64 0, .int .i64 0, .int .i64 0, .string ⟨#[]⟩, .bool false, .int .i64 0, .int .i64 0, .int .i64 0, .string ⟨#[]⟩, .int .i64 0, .int .i64 0, .int .i64 0, .int .i64 0, .int .i64 0, .string ⟨#[]⟩, .int .i64 0, .string ⟨#[]⟩, .int .i64 0, .string ⟨#[]⟩] 51)) w3.heap.size NoteD.zero := ⟨Blk.new w3 NoteD.zero.cells.toArray _⟩
          have HN3 := Lib.hid ((HN.out.below b3).below z2)
          have B3 := Lib.hid (bel_next (bel_next B2.out b3) z2)
          have hA3 := Lib.hid ((hA1.out.below b3).below z2)
          clear b3 z1 z2 HN B2 hA1 hT
          go_upto_region 14 with (((with_reducible refine wpList_store_note (op := ⟨_, Op.store 51 _ _, _, _, _, _⟩) rfl _ _ rfl _ _ NoteD.zero ?_ ?_ hz ?_); rfl; rfl))
          clear hz
          generalize (w3.alloc (.cells #[.int .i64 0, .int .i64 0, .int .i64 0, .int .i64 0, .int .i64 0, .int .i64 0, .string ⟨#[]⟩, .bool false, .int .i64 0, .int .i64 0, .int .i64 0, .string ⟨#[]⟩, .int .i64 0, .int .i64 0, .int .i64 0, .int .i64 0, .int .i64 0, .string ⟨#[]⟩, .int .i64 0, .string ⟨#[]⟩, .int .i64 0, .string ⟨#[]⟩] 51)).setCells w3.heap.size 0 NoteD.zero.cells = w4 at *
          clear hKL HU1
          go_wp2_with fail
          rw [hj.out]
          refine (copyB_any A c l _ hA3.out.rd (by rw [← hj.out]; omega)).mono ?_
          rintro e w5 ⟨A5, c5, rfl, o5, b5⟩
          obtain ⟨A6, c6, w6, hr6, HR6⟩ := Row.one (w0 := w4) (w := w5) (base := w4.heap.size) ⟨o5, b5, b5.size⟩ (by rw [← hj.out]; omega) mo 28 _ _ rfl rfl
          rw [← hj.out] at hr6
          rw [← hj.out]
          have hl7 : Hid ((l ++ [mo]).length = j + 1) := by show _ = _; rw [List.length_append, ← hj.out]; rfl
          have hA7 := Lib.hid (barg_own HR6.out.own (isB_app HBL.out HMB.out) (by rw [hl7.out]; omega))
          have HN5 := Lib.hid (HN3.out.below HR6.out.bel)
          have B5 := Lib.hid (bel_next B3.out HR6.out.bel)
          obtain ⟨hu1, hu2⟩ := unpNone HD.out.2
          have HU1 := Lib.hid (And.intro hu1 hu2)
          clear o5 b5 HN3 B3 hA3 HR6 hu1 hu2
          go_wp2_with (at_builtin; refine wpList_append_run rfl _ _ _ _ rfl _ _ _ rfl rfl hr6 ?_)
          rw [← hl7.out]
          refine (unpack_any _ A6 c6 (l ++ [mo]) hA7.out).mono ?_
          rintro e w8 ⟨rfl, b8⟩
          rw [HU1.out.1, HU1.out.2, hl7.out]
          obtain ⟨z1, z2⟩ := ztwo w8 NoteD.zero
          have hz : NoteAt (w8.alloc (.cells #[.int .i64 0, .int .i64 0, .int .i64 0, .int .i64 0, .int .i64 0, .int .i64 0, .string ⟨#[]⟩, .bool false, .int .i64 0, .int .i64 0, .int .i64 0, .string ⟨#[]⟩, .int .i64 0, .int .i64 0, .int .i64 0, .int .i64 0, .int .i64 0, .string ⟨#[]⟩, .int .i64 0, .string ⟨#[]⟩, .int .i64 0, .string ⟨#[]⟩] 51)) w8.heap.size NoteD.zero := ⟨Blk.new w8 NoteD.zero.cells.toArray _⟩
          have HN := Lib.hid ((HN5.out.below b8).below z2)
          have BB := Lib.hid (bel_next (bel_next B5.out b8) z2)
          clear b8 z1 z2 HN5 B5 hA7 hr6 HU1 hl7
          go_upto_region 15 with (((with_reducible refine wpList_store_note (op := ⟨_, Op.store 51 _ _, _, _, _, _⟩) rfl _ _ rfl _ _ NoteD.zero ?_ ?_ hz ?_); rfl; rfl))
          clear hz
          generalize (w8.alloc (.cells #[.int .i64 0, .int .i64 0, .int .i64 0, .int .i64 0, .int .i64 0, .int .i64 0, .string ⟨#[]⟩, .bool false, .int .i64 0, .int .i64 0, .int .i64 0, .string ⟨#[]⟩, .int .i64 0, .int .i64 0, .int .i64 0, .int .i64 0, .int .i64 0, .string ⟨#[]⟩, .int .i64 0, .string ⟨#[]⟩, .int .i64 0, .string ⟨#[]⟩] 51)).setCells w8.heap.size 0 NoteD.zero.cells = w9 at *
          go_wp2_with fail
          refine (awake_any _).mono ?_
          rintro e w12 ⟨rfl, b12⟩
          go_wp2_with fail
          go_ret
          exact ⟨rfl, bel_next BB.out b12⟩
  · have hA1 := Lib.hid (barg_own o1 hw.b (by have := hw.len; omega))
    have hL := Lib.hid (And.intro hw.pos hw.len)
    have HD := Lib.hid (And.intro (fun k (hk : k < md.enc.length) => dec_cut hw.ok hw.ep hw.nu hk) (dec_more hw.ok hw.ep hw.nu mo))
    have HBL := Lib.hid hw.b
    have HRow := Lib.hid o1
    clear hw HC o1
    have HN := Lib.hid hN2
    clear hN2
    generalize md.enc = l at *
    obtain ⟨j, hj⟩ : ∃ j, Hid (j = l.length) := ⟨_, rfl⟩
    have hjp : 0 < j := by rw [hj.out]; exact hL.out.1
    have hjl : j ≤ 20000 := by rw [hj.out]; exact hL.out.2
    have i1 : ((j : Int) == 0) = false := by rw [beq_eq_false_iff_ne]; omega
    have i2 : ¬ j = 0 := by omega
    rw [← hj.out]
    go_wp2_with fail
    refine (place_any at' (j : Int) _ (by omega) (by omega)).mono ?_
    rintro e wP ⟨rfl, rfl⟩
    obtain ⟨k, hk⟩ : ∃ k : Nat, at' % (j : Int) = k := ⟨(at' % (j : Int)).toNat, by have := Int.emod_nonneg at' (show (j : Int) ≠ 0 by omega); omega⟩
    have hkj : k < j := by have := Int.emod_lt_of_pos at' (show (0 : Int) < j by omega); omega
    rw [hk]
    clear hk
    obtain ⟨hq1, hq2, hq3⟩ := hA1.out.len'
    rw [← hj.out] at hq2
    have k1 : (0 : Int) ≤ (k : Int) := by omega
    have k2 : (k : Int) ≤ (c : Int) := by omega
    have hKL : Hid ((l.take k).length = k) := by show _ = _; rw [List.length_take, ← hj.out]; omega
    have hT := Lib.hid (barg_take hA1.out k (by rw [← hj.out]; omega))
    have hcn := HD.out.1 k (by rw [← hj.out]; exact hkj)
    obtain ⟨hu1, hu2⟩ := decNone hcn
    have HU1 := Lib.hid (And.intro hu1 hu2)
    clear hq1 hq2 hq3 hcn hu1 hu2 i1 i2
    go_wp2_with fail
    rw [← hKL.out]
    refine (decode_any _ A c (l.take k) hT.out).mono ?_
    rintro e w3 ⟨ys, sy, rfl, ay, b3⟩
    rw [HU1.out.1, hKL.out]
    have hys : ys = ((MsgD.new 0 0 0 0).cells sy).toArray := by have := ay.is.eq; rw [HU1.out.2] at this; exact this
    subst hys
    clear ay
    obtain ⟨z1, z2⟩ := mtwo w3 (MsgD.new 0 0 0 0) sy
    have hz : Blk (w3.alloc (.cells #[.int .i64 0, .int .i64 0, .int .i64 0, .int .i64 0, .complex .f64 0 0, .int .i64 0, .int .i64 0, .int .i64 0, .int .i64 0, .string ⟨#[]⟩, .int .i64 0, .string ⟨#[]⟩, .int .i64 0, .string ⟨#[]⟩, .slice none 0 0, .slice none 0 0] 34)) w3.heap.size ((MsgD.new 0 0 0 0).cells NSL).toArray 34 := Blk.new w3 ZERO.toArray _
    have HN3 := Lib.hid ((HN.out.below b3).below z2)
    have B3 := Lib.hid (bel_next (bel_next B2.out b3) z2)
    have hA3 := Lib.hid ((hA1.out.below b3).below z2)
    clear b3 z1 z2 HN B2 hA1 hT
    go_upto_region 6 with (((with_reducible refine wpList_store_blk34 (op := ⟨_, Op.store 34 _ _, _, _, _, _⟩) rfl _ _ rfl _ _ (MsgD.new 0 0 0 0) _ sy ?_ ?_ hz ?_); rfl; rfl))
    clear hz
    generalize (w3.alloc (.cells #[.int .i64 0, .int .i64 0, .int .i64 0, .int .i64 0, .complex .f64 0 0, .int .i64 0, .int .i64 0, .int .i64 0, .int .i64 0, .string ⟨#[]⟩, .int .i64 0, .string ⟨#[]⟩, .int .i64 0, .string ⟨#[]⟩, .slice none 0 0, .slice none 0 0] 34)).setCells w3.heap.size 0 ((MsgD.new 0 0 0 0).cells sy) = w4 at *
    clear hKL HU1
    go_wp2_with fail
    rw [hj.out]
    refine (copyB_any A c l _ hA3.out.rd (by rw [← hj.out]; omega)).mono ?_
    rintro e w5 ⟨A5, c5, rfl, o5, b5⟩
    obtain ⟨A6, c6, w6, hr6, HR6⟩ := Row.one (w0 := w4) (w := w5) (base := w4.heap.size) ⟨o5, b5, b5.size⟩ (by rw [← hj.out]; omega) mo 28 _ _ rfl rfl
    rw [← hj.out] at hr6
    rw [← hj.out]
    have hl7 : Hid ((l ++ [mo]).length = j + 1) := by show _ = _; rw [List.length_append, ← hj.out]; rfl
    have hA7 := Lib.hid (barg_own HR6.out.own (isB_app HBL.out HMB.out) (by rw [hl7.out]; omega))
    have HN5 := Lib.hid (HN3.out.below HR6.out.bel)
    have B5 := Lib.hid (bel_next B3.out HR6.out.bel)
    obtain ⟨hu1, hu2⟩ := decNone HD.out.2
    have HU1 := Lib.hid (And.intro hu1 hu2)
    clear o5 b5 HN3 B3 hA3 HR6 hu1 hu2
    go_wp2_with (at_builtin; refine wpList_append_run rfl _ _ _ _ rfl _ _ _ rfl rfl hr6 ?_)
    rw [← hl7.out]
    refine (decode_any _ A6 c6 (l ++ [mo]) hA7.out).mono ?_
    rintro e w8 ⟨ys, sy, rfl, ay, b8⟩
    rw [HU1.out.1, hl7.out]
    have hys : ys = ((MsgD.new 0 0 0 0).cells sy).toArray := by have := ay.is.eq; rw [HU1.out.2] at this; exact this
    subst hys
    clear ay
    obtain ⟨z1, z2⟩ := mtwo w8 (MsgD.new 0 0 0 0) sy
    have hz : Blk (w8.alloc (.cells #[.int .i64 0, .int .i64 0, .int .i64 0, .int .i64 0, .complex .f64 0 0, .int .i64 0, .int .i64 0, .int .i64 0, .int .i64 0, .string ⟨#[]⟩, .int .i64 0, .string ⟨#[]⟩, .int .i64 0, .string ⟨#[]⟩, .slice none 0 0, .slice none 0 0] 34)) w8.heap.size ((MsgD.new 0 0 0 0).cells NSL).toArray 34 := Blk.new w8 ZERO.toArray _
    have HN := Lib.hid ((HN5.out.below b8).below z2)
    have BB := Lib.hid (bel_next (bel_next B5.out b8) z2)
    clear b8 z1 z2 HN5 B5 hA7 hr6 HU1 hl7
    go_upto_region 7 with (((with_reducible refine wpList_store_blk34 (op := ⟨_, Op.store 34 _ _, _, _, _, _⟩) rfl _ _ rfl _ _ (MsgD.new 0 0 0 0) _ sy ?_ ?_ hz ?_); rfl; rfl))
    clear hz
    generalize (w8.alloc (.cells #[.int .i64 0, .int .i64 0, .int .i64 0, .int .i64 0, .complex .f64 0 0, .int .i64 0, .int .i64 0, .int .i64 0, .int .i64 0, .string ⟨#[]⟩, .int .i64 0, .string ⟨#[]⟩, .int .i64 0, .string ⟨#[]⟩, .slice none 0 0, .slice none 0 0] 34)).setCells w8.heap.size 0 ((MsgD.new 0 0 0 0).cells sy) = w9 at *
    have hm := HN.out
    as_aux_lemma =>
      go_wp2_with (((with_reducible refine wpList_load_note (op := ⟨_, Op.load 51 _, _, _, _, _⟩) rfl _ rfl _ _ ?_ hm ?_); rfl))
      refine (pack_any n _ ⟨rfl⟩ _).mono ?_
      rintro e v2 ⟨A, c, rfl, o1, b1⟩
      have HN2 := Lib.hid (HN.out.below b1)
      have B2 := Lib.hid (bel_next BB.out b1)
      clear b1 HN BB hm
      obtain ⟨HN, _⟩ : _ ∧ True := ⟨HN2, trivial⟩
      clear HN2
      cases hok : n.ok with
      | false =>
        as_aux_lemma =>
          have hl0 : n.packL.length = 0 := by rw [NoteD.packL, hok]; rfl
          have he0 : n.packE = 50 := by rw [NoteD.packE, hok]; rfl
          rw [he0, hl0]
          clear hl0 he0 o1 hok
          go_wp2_with fail
          refine (awake_any _).mono ?_
          rintro e w12 ⟨rfl, b12⟩
          go_wp2_with fail
          go_ret
          exact ⟨rfl, bel_next B2.out b12⟩
      | true =>
        as_aux_lemma =>
          have hpl : n.packL = n.enc := by rw [NoteD.packL, hok]; rfl
          have he0 : n.packE = 0 := by rw [NoteD.packE, hok]; rfl
          rw [he0, hpl]
          rw [hpl] at o1
          have hlen4 := note424 hok
          have hpos : 0 < n.enc.length := by rw [NoteD.enc, List.length_append, List.length_singleton]; omega
          have hA1 := Lib.hid (barg_own o1 (isB_note n) (by omega))
          have hL : Hid (0 < n.enc.length ∧ n.enc.length ≤ 20000) := ⟨hpos, by omega⟩
          have HD := Lib.hid (And.intro (fun k (hk : k < n.enc.length) => unp_cut hok hk) (unp_more hok mo))
          have HBL := Lib.hid (isB_note n)
          clear hpl he0 o1 hlen4 hpos hok
          generalize n.enc = l at *
          obtain ⟨j, hj⟩ : ∃ j, Hid (j = l.length) := ⟨_, rfl⟩
          have hjp : 0 < j := by rw [hj.out]; exact hL.out.1
          have hjl : j ≤ 20000 := by rw [hj.out]; exact hL.out.2
          have i1 : ((j : Int) == 0) = false := by rw [beq_eq_false_iff_ne]; omega
          have i2 : ¬ j = 0 := by omega
          rw [← hj.out]
          go_wp2_with fail
          refine (place_any at' (j : Int) _ (by omega) (by omega)).mono ?_
          rintro e wP ⟨rfl, rfl⟩
          obtain ⟨k, hk⟩ : ∃ k : Nat, at' % (j : Int) = k := ⟨(at' % (j : Int)).toNat, by have := Int.emod_nonneg at' (show (j : Int) ≠ 0 by omega); omega⟩
          have hkj : k < j := by have := Int.emod_lt_of_pos at' (show (0 : Int) < j by omega); omega
          rw [hk]
          clear hk
          obtain ⟨hq1, hq2, hq3⟩ := hA1.out.len'
          rw [← hj.out] at hq2
          have k1 : (0 : Int) ≤ (k : Int) := by omega
          have k2 : (k : Int) ≤ (c : Int) := by omega
          have hKL : Hid ((l.take k).length = k) := by show _ = _; rw [List.length_take, ← hj.out]; omega
          have hT := Lib.hid (barg_take hA1.out k (by rw [← hj.out]; omega))
          have hcn := HD.out.1 k (by rw [← hj.out]; exact hkj)
          obtain ⟨hu1, hu2⟩ := unpNone hcn
          have HU1 := Lib.hid (And.intro hu1 hu2)
          clear hq1 hq2 hq3 hcn hu1 hu2 i1 i2
          go_wp2_with fail
          rw [← hKL.out]
          refine (unpack_any _ A c (l.take k) hT.out).mono ?_
          rintro e w3 ⟨rfl, b3⟩
          rw [HU1.out.1, HU1.out.2, hKL.out]
          obtain ⟨z1, z2⟩ := ztwo w3 NoteD.zero
          have hz : NoteAt (w3.alloc (.cells #[.int .i64 0, .int .i64 0, .int .i64 0, .int .i64 0, .int .i64 0, .int .i64 0, .string ⟨#[]⟩, .bool false, .int .i64 0, .int .i64 0, .int .i64 0, .string ⟨#[]⟩, .int .i64 0, .int .i64 0, .int .i64 0, .int .i64 0, .int .i64 0, .string ⟨#[]⟩, .int .i64 0, .string ⟨#[]⟩, .int .i64 0, .string ⟨#[]⟩] 51)) w3.heap.size NoteD.zero := ⟨Blk.new w3 NoteD.zero.cells.toArray _⟩
          have HN3 := Lib.hid ((HN.out.below b3).below z2)
          have B3 := Lib.hid (bel_next (bel_next B2.out b3) z2)
          have hA3 := Lib.hid ((hA1.out.below b3).below z2)
          clear b3 z1 z2 HN B2 hA1 hT
          go_upto_region 14 with (((with_reducible refine wpList_store_note (op := ⟨_, Op.store 51 _ _, _, _, _, _⟩) rfl _ _ rfl _ _ NoteD.zero ?_ ?_ hz ?_); rfl; rfl))
          clear hz
          generalize (w3.alloc (.cells #[.int .i64 0, .int .i64 0, .int .i64 0, .int .i64 0, .int .i64 0, .int .i64 0, .string ⟨#[]⟩, .bool false, .int .i64 0, .int .i64 0, .int .i64 0, .string ⟨#[]⟩, .int .i64 0, .int .i64 0, .int .i64 0, .int .i64 0, .int .i64 0, .string ⟨#[]⟩, .int .i64 0, .string ⟨#[]⟩, .int .i64 0, .string ⟨#[]⟩] 51)).setCells w3.heap.size 0 NoteD.zero.cells = w4 at *
          clear hKL HU1
          go_wp2_with fail
          rw [hj.out]
          refine (copyB_any A c l _ hA3.out.rd (by rw [← hj.out]; omega)).mono ?_
          rintro e w5 ⟨A5, c5, rfl, o5, b5⟩
          obtain ⟨A6, c6, w6, hr6, HR6⟩ := Row.one (w0 := w4) (w := w5) (base := w4.heap.size) ⟨o5, b5, b5.size⟩ (by rw [← hj.out]; omega) mo 28 _ _ rfl rfl
          rw [← hj.out] at hr6
          rw [← hj.out]
          have hl7 : Hid ((l ++ [mo]).length = j + 1) := by show _ = _; rw [List.length_append, ← hj.out]; rfl
          have hA7 := Lib.hid (barg_own HR6.out.own (isB_app HBL.out HMB.out) (by rw [hl7.out]; omega))
          have HN5 := Lib.hid (HN3.out.below HR6.out.bel)
          have B5 := Lib.hid (bel_next B3.out HR6.out.bel)
          obtain ⟨hu1, hu2⟩ := unpNone HD.out.2
          have HU1 := Lib.hid (And.intro hu1 hu2)
          clear o5 b5 HN3 B3 hA3 HR6 hu1 hu2
          go_wp2_with (at_builtin; refine wpList_append_run rfl _ _ _ _ rfl _ _ _ rfl rfl hr6 ?_)
          rw [← hl7.out]
          refine (unpack_any _ A6 c6 (l ++ [mo]) hA7.out).mono ?_
          rintro e w8 ⟨rfl, b8⟩
          rw [HU1.out.1, HU1.out.2, hl7.out]
          obtain ⟨z1, z2⟩ := ztwo w8 NoteD.zero
          have hz : NoteAt (w8.alloc (.cells #[.int .i64 0, .int .i64 0, .int .i64 0, .int .i64 0, .int .i64 0, .int .i64 0, .string ⟨#[]⟩, .bool false, .int .i64 0, .int .i64 0, .int .i64 0, .string ⟨#[]⟩, .int .i64 0, .int .i64 0, .int .i64 0, .int .i64 0, .int .i64 0, .string ⟨#[]⟩, .int .i64 0, .string ⟨#[]⟩, .int .i64 0, .string ⟨#[]⟩] 51)) w8.heap.size NoteD.zero := ⟨Blk.new w8 NoteD.zero.cells.toArray _⟩
          have HN := Lib.hid ((HN5.out.below b8).below z2)
          have BB := Lib.hid (bel_next (bel_next B5.out b8) z2)
          clear b8 z1 z2 HN5 B5 hA7 hr6 HU1 hl7
          go_upto_region 15 with (((with_reducible refine wpList_store_note (op := ⟨_, Op.store 51 _ _, _, _, _, _⟩) rfl _ _ rfl _ _ NoteD.zero ?_ ?_ hz ?_); rfl; rfl))
          clear hz
          generalize (w8.alloc (.cells #[.int .i64 0, .int .i64 0, .int .i64 0, .int .i64 0, .int .i64 0, .int .i64 0, .string ⟨#[]⟩, .bool false, .int .i64 0, .int .i64 0, .int .i64 0, .string ⟨#[]⟩, .int .i64 0, .int .i64 0, .int .i64 0, .int .i64 0, .int .i64 0, .string ⟨#[]⟩, .int .i64 0, .string ⟨#[]⟩, .int .i64 0, .string ⟨#[]⟩] 51)).setCells w8.heap.size 0 NoteD.zero.cells = w9 at *
          go_wp2_with fail
          refine (awake_any _).mono ?_
          rintro e w12 ⟨rfl, b12⟩
          go_wp2_with fail
          go_ret
          exact ⟨rfl, bel_next BB.out b12⟩
end Go.Proofs.Ytmhcjkiaogimgaa
