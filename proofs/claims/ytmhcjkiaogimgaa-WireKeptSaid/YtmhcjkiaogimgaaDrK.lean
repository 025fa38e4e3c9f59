/- The document's Decode. -/
import Derived.Test.YtmhcjkiaogimgaaDrJ
import Derived.Test.YtmhcjkiaogimgaaWirR
import Derived.Test.YtmhcjkiaogimgaaLwE
import Derived.Test.YtmhcjkiaogimgaaDrG
namespace Go.Proofs.Ytmhcjkiaogimgaa
open Go.RowKit

/-- What the program reads the document reads, too. -/
theorem doc_some {l : List Int} {m md : MD} {st : Option (List Int)} (hb : isB l) (hd : dec l = some m) (h : Read (gmsg dnum dtxt dcnt) (some l) md st) : m = md ∧ st = some [] ∧ md.msg.ok = true ∧ md.enc = l ∧ okN md.epoch = true ∧ okN md.number = true := by
  obtain ⟨h1, h2, h3, h4⟩ := dec_back hb hd
  have := reads_d.msg dcnt_ok m [] h1 h3 h4
  rw [List.append_nil, h2] at this
  rw [Read, this] at h
  obtain ⟨h5, h6⟩ := h
  subst h5
  exact ⟨rfl, h6, h1, h2, h3, h4⟩
theorem doc_mv {md : MD} (hb : (0 ≤ md.epoch ∧ md.epoch ≤ 4398046511104) ∧ 0 ≤ md.number ∧ md.number ≤ 4398046511104) {e n : Nat} (h : MV md.msg.ma md.msg.mb e n) : md.epoch = e ∧ md.number = n :=
  ⟨val_unique (val_nearest md.epoch (by omega)) h.re, val_unique (val_nearest md.number (by omega)) h.im⟩
theorem wpList_store_mt {ops : Array Oper} {rest : List Oper} {op : Oper} {a : Act} {w : World} {Q : Exit → Act → World → Prop} (hgd : op.guard = none) (x y : Operand) (ho : op.op = .store 34 x y) (g : Nat) (m : MsgD) (s : Sls)
    (hx : a.eval x = .pointer (some ⟨g, 0, none⟩)) (hy : a.eval y = .agg (m.cells s).toArray) (ht : w.there g 0 (m.cells s).length) (h : wpList Try.prog ops Q rest (a.put op.dst undef) (w.setCells g 0 (m.cells s))) : wpList Try.prog ops Q (op :: rest) a w :=
  wpList_store_mid hgd _ x y ho g 0 (m.cells s).toArray hx hy ht size_msg (msg_one m s) h
theorem dzero_same : (MsgD.new 0 0 0 0).same (MsgD.new 0 0 0 0) = true := by
  have h : feq 0 0 = true := by kernel_rfl
  simp [MsgD.same, MsgD.new, h]
theorem dzero_arg (w : World) : MsgArg w ((MsgD.new 0 0 0 0).cells NSL).toArray (MsgD.new 0 0 0 0) NSL := ⟨⟨rfl⟩, RowsAt.nil _ _ _, RowsAt.nil _ _ _⟩
/-- The answer: a message in memory, and a number. -/
theorem dec_fin {w X : World} {l : List Int} (hz : Blk X w.heap.size ((MsgD.new 0 0 0 0).cells NSL).toArray 34) (bel : Below w.heap.size w X) (m : MsgD) (s : Sls) (err : Int) (hE : decE l = err) (hU : decM l = m) (ha : MsgArg (X.setCells w.heap.size 0 (m.cells s)) (m.cells s).toArray m s) :
    ∀ tmps : Array Value, tmps.getD 2 undef = .pointer (some ⟨w.heap.size, 0, none⟩) → tmps.getD 3 undef = .int .i64 err → bodyPost Try.prog Try.f24 (DecRes l w) Exit.ret { tmps := tmps, defers := [] } (X.setCells w.heap.size 0 (m.cells s)) :=
  msg_fin (fn := Try.f24) (Q := DecRes l w) rfl hz rfl m s err ⟨_, s, by rw [hE], by rw [hU]; exact ha, below_kp bel (Kp.setCells (S := fun k => k = w.heap.size) w.heap.size rfl (m.cells s) 0 _ (Kp.refl _ X)) bel.size (fun k hk => by omega)⟩

set_option maxRecDepth 100000 in
set_option maxHeartbeats 8000000 in
theorem ddecode_any (w : World) (A : Option Addr) (c : Nat) (l : List Int) (h : DS w A c l) :
    Calls Try.prog 24 #[.slice A l.length c] w (DecRes l w) := by
  have HA : Hid (∀ W, W = w.alloc (.cells #[.int .i64 0, .int .i64 0, .int .i64 0, .int .i64 0, .complex .f64 0 0, .int .i64 0, .int .i64 0, .int .i64 0, .int .i64 0, .string ⟨#[]⟩, .int .i64 0, .string ⟨#[]⟩, .int .i64 0, .string ⟨#[]⟩, .slice none 0 0, .slice none 0 0] 34) → Blk W w.heap.size ((MsgD.new 0 0 0 0).cells NSL).toArray 34 ∧ Below w.heap.size w W ∧ W.heap.size = w.heap.size + 1) := by
    rintro W rfl
    exact ⟨Blk.new w ZERO.toArray _, bel_al (Below.refl _ _) _, by simp⟩
  obtain ⟨k0, hk0⟩ : ∃ m, Hid (m = l.length) := ⟨_, rfl⟩
  have H := Lib.hid h
  clear h
  rw [← hk0.out]
  go_enter Try.func24, Try.ntmps24
  go_upto_region 1 with fail
  obtain ⟨V, hV⟩ : ∃ V, V = w.alloc (.cells #[.int .i64 0, .int .i64 0, .int .i64 0, .int .i64 0, .complex .f64 0 0, .int .i64 0, .int .i64 0, .int .i64 0, .int .i64 0, .string ⟨#[]⟩, .int .i64 0, .string ⟨#[]⟩, .int .i64 0, .string ⟨#[]⟩, .slice none 0 0, .slice none 0 0] 34) := ⟨_, rfl⟩
  obtain ⟨N0, hB, hsz⟩ := HA.out V hV
  rw [← hV]
  have HN := Lib.hid N0
  have HB := Lib.hid hB
  have HSZ := Lib.hid hsz
  clear hV HA N0 hB hsz
  go_wp2_with fail
  rw [hk0.out]
  refine (said_any V A c l (H.out.below HB.out)).mono ?_
  rintro e w2 ⟨ys, md, s, A2, t, c2, ok, rfl, ha, _, hbel, hrd, hbd, hge1, hge2⟩
  have hys : ys = (md.msg.cells s).toArray := ha.is.eq
  subst hys
  obtain ⟨n2, hn2⟩ : ∃ m, Hid (m = t.length) := ⟨_, rfl⟩
  rw [← hk0.out, ← hn2.out]
  have HRD := Lib.hid hrd
  have HBD := Lib.hid hbd
  have HGE : Hid ((∀ x, s.ea = some x → ¬ x.block = w.heap.size) ∧ ∀ x, s.ka = some x → ¬ x.block = w.heap.size) := ⟨fun x hx e => by have := hge1 x hx; have := HSZ.out; omega, fun x hx e => by have := hge2 x hx; have := HSZ.out; omega⟩
  have B := Box2.mk' 34 w2 #[.int .i64 0, .int .i64 0, .int .i64 0, .int .i64 0, .complex .f64 0 0, .int .i64 0, .int .i64 0, .int .i64 0, .int .i64 0, .string ⟨#[]⟩, .int .i64 0, .string ⟨#[]⟩, .int .i64 0, .string ⟨#[]⟩, .slice none 0 0, .slice none 0 0] (md.msg.cells s) rfl A2 n2 c2 ok
  have hth := B.th
  have e0 := B.c0
  have e1 := B.c1
  have ef0 := B.f0
  have ef1 := B.f1
  have HX := Lib.hid ha
  have HN2 := Lib.hid (HN.out.kp (S := fun _ => False) (Kp.of_below hbel) (fun h => h))
  have HB2 := Lib.hid (bel_next HB.out hbel)
  have HBX := Lib.hid B
  clear B hrd hbd hge1 hge2 HN HB HSZ ha hbel
  go_upto_region 2 with ((with_reducible refine wpList_store_mt (op := ⟨_, Op.store 34 _ _, _, _, _, _⟩) rfl _ _ rfl w2.heap.size md.msg s ?_ ?_ hth ?_); rfl; rfl)
  have b4 : Blk (((((w2.alloc (.cells #[.int .i64 0, .int .i64 0, .int .i64 0, .int .i64 0, .complex .f64 0 0, .int .i64 0, .int .i64 0, .int .i64 0, .int .i64 0, .string ⟨#[]⟩, .int .i64 0, .string ⟨#[]⟩, .int .i64 0, .string ⟨#[]⟩, .slice none 0 0, .slice none 0 0] 34)).alloc (.cells #[.slice none 0 0, .bool false] 99)).setCells w2.heap.size 0 (md.msg.cells s)).setCell ⟨w2.heap.size + 1, 0, none⟩ (.slice A2 n2 c2)).setCell ⟨w2.heap.size + 1, 1, none⟩ (.bool ok)) w2.heap.size (md.msg.cells s).toArray 34 := HBX.out.b
  have b5 : Blk (((((w2.alloc (.cells #[.int .i64 0, .int .i64 0, .int .i64 0, .int .i64 0, .complex .f64 0 0, .int .i64 0, .int .i64 0, .int .i64 0, .int .i64 0, .string ⟨#[]⟩, .int .i64 0, .string ⟨#[]⟩, .int .i64 0, .string ⟨#[]⟩, .slice none 0 0, .slice none 0 0] 34)).alloc (.cells #[.slice none 0 0, .bool false] 99)).setCells w2.heap.size 0 (md.msg.cells s)).setCell ⟨w2.heap.size + 1, 0, none⟩ (.slice A2 n2 c2)).setCell ⟨w2.heap.size + 1, 1, none⟩ (.bool ok)) (w2.heap.size + 1) #[.slice A2 n2 c2, .bool ok] 99 := HBX.out.b'
  have bel : Below w2.heap.size w2 (((((w2.alloc (.cells #[.int .i64 0, .int .i64 0, .int .i64 0, .int .i64 0, .complex .f64 0 0, .int .i64 0, .int .i64 0, .int .i64 0, .int .i64 0, .string ⟨#[]⟩, .int .i64 0, .string ⟨#[]⟩, .int .i64 0, .string ⟨#[]⟩, .slice none 0 0, .slice none 0 0] 34)).alloc (.cells #[.slice none 0 0, .bool false] 99)).setCells w2.heap.size 0 (md.msg.cells s)).setCell ⟨w2.heap.size + 1, 0, none⟩ (.slice A2 n2 c2)).setCell ⟨w2.heap.size + 1, 1, none⟩ (.bool ok)) := HBX.out.bel
  clear HBX hth e0 e1 ef0 ef1
  generalize ((((w2.alloc (.cells #[.int .i64 0, .int .i64 0, .int .i64 0, .int .i64 0, .complex .f64 0 0, .int .i64 0, .int .i64 0, .int .i64 0, .int .i64 0, .string ⟨#[]⟩, .int .i64 0, .string ⟨#[]⟩, .int .i64 0, .string ⟨#[]⟩, .slice none 0 0, .slice none 0 0] 34)).alloc (.cells #[.slice none 0 0, .bool false] 99)).setCells w2.heap.size 0 (md.msg.cells s)).setCell ⟨w2.heap.size + 1, 0, none⟩ (.slice A2 n2 c2)).setCell ⟨w2.heap.size + 1, 1, none⟩ (.bool ok) = X at *
  have HX2 := Lib.hid (HX.out.below bel)
  have HZ := Lib.hid (HN2.out.kp (S := fun _ => False) (Kp.of_below bel) (fun h => h))
  have HBW := Lib.hid (bel_next HB2.out bel)
  have hlt0 : w.heap.size < w2.heap.size := HN2.out.lt
  clear HX HN2 HB2 bel
  generalize w2.heap.size + 1 = g5 at *
  generalize w2.heap.size = g4 at *
  have q0 : X.cell? ⟨g5, 0, none⟩ = some (.slice A2 n2 c2) := (b5.cell 0).trans rfl
  have q1 : X.cell? ⟨g5, 1, none⟩ = some (.bool ok) := (b5.cell 1).trans rfl
  obtain ⟨m, hm⟩ : ∃ m : MsgD, m = md.msg := ⟨_, rfl⟩
  have HMM := Lib.hid hm
  rw [← hm] at b4 HX2
  try rw [← hm]
  clear hm
  have HB4 := Lib.hid b4
  clear b4 b5
  have hb0 := build0m
  cases ok with
  | false =>
    have hu : Hid (dec l = none) := by
      show _ = _
      cases hd : dec l with
      | none => rfl
      | some x =>
        obtain ⟨d1, d2, d3, d4, d5, d6⟩ := doc_some H.out.isb hd HRD.out
        cases d2
    have hz3 := HZ.out
    have HF := Lib.hid (dec_fin (l := l) hz3 HBW.out (MsgD.new 0 0 0 0) NSL 50 (by unfold decE; rw [hu.out]; rfl) (by unfold decM; rw [hu.out]) (dzero_arg _))
    go_wp2_with (first | ((with_reducible refine wpList_build_run (op := ⟨_, Op.build 34 _, _, _, _, _⟩) rfl _ _ rfl _ ?_ _ (hb0 _) ?_); (focus (first | (go_simp; done) | (go_simp; rfl)))) | ((with_reducible refine wpList_store_blk34 (op := ⟨_, Op.store 34 _ _, _, _, _, _⟩) rfl _ _ rfl _ _ (MsgD.new 0 0 0 0) _ NSL ?_ ?_ hz3 ?_); rfl; rfl))
    exact HF.out _ (by rfl) (by rfl)
  | true =>
    by_cases ht : n2 = 0
    · have HT : Hid (t = []) := List.length_eq_zero_iff.1 (by rw [← hn2.out]; exact ht)
      subst ht
      have b4 := HB4.out
      rcases mark_or_bad m.ma m.mb with ⟨ee, nn, hmv⟩ | hbad
      · cases hok : m.ok with
        | false =>
          have HM := Lib.hid hmv
          have HO := Lib.hid hok
          clear hmv hok
          go_wp2_with ((with_reducible refine wpList_load_blk34 (op := ⟨_, Op.load 34 _, _, _, _, _⟩) rfl _ rfl _ _ _ ?_ b4 ?_); rfl)
          refine (rencode_yes m s _ _ HX2.out ee nn HM.out).mono ?_
          rintro e w20 ⟨A7, c7, rfl, o7, b20⟩
          have HZ3 := Lib.hid (HZ.out.kp (S := fun _ => False) (Kp.of_below b20) (fun h => h))
          have HB5 := Lib.hid (HB4.out.kp (S := fun _ => False) (Kp.of_below b20) (fun h => h))
          have HX3 := Lib.hid (HX2.out.below b20)
          have HB6 := Lib.hid (bel_next HBW.out b20)
          clear b20 b4 q0 q1
          rw [show m.encE = 50 by rw [MsgD.encE, HO.out]; rfl]
          clear o7
          have hu : Hid (dec l = none) := by
            show _ = _
            cases hd : dec l with
            | none => rfl
            | some x =>
              obtain ⟨d1, d2, d3, d4, d5, d6⟩ := doc_some H.out.isb hd HRD.out
              have := HO.out; rw [HMM.out, d3] at this; cases this
          have hz3 := HZ3.out
          have HF := Lib.hid (dec_fin (l := l) hz3 HB6.out (MsgD.new 0 0 0 0) NSL 50 (by unfold decE; rw [hu.out]; rfl) (by unfold decM; rw [hu.out]) (dzero_arg _))
          go_wp2_with (first | ((with_reducible refine wpList_build_run (op := ⟨_, Op.build 34 _, _, _, _, _⟩) rfl _ _ rfl _ ?_ _ (hb0 _) ?_); (focus (first | (go_simp; done) | (go_simp; rfl)))) | ((with_reducible refine wpList_store_blk34 (op := ⟨_, Op.store 34 _ _, _, _, _, _⟩) rfl _ _ rfl _ _ (MsgD.new 0 0 0 0) _ NSL ?_ ?_ hz3 ?_); rfl; rfl))
          exact HF.out _ (by rfl) (by rfl)
        | true =>
          have HM := Lib.hid hmv
          have HO := Lib.hid hok
          clear hmv hok
          go_wp2_with ((with_reducible refine wpList_load_blk34 (op := ⟨_, Op.load 34 _, _, _, _, _⟩) rfl _ rfl _ _ _ ?_ b4 ?_); rfl)
          refine (rencode_yes m s _ _ HX2.out ee nn HM.out).mono ?_
          rintro e w20 ⟨A7, c7, rfl, o7, b20⟩
          have HZ3 := Lib.hid (HZ.out.kp (S := fun _ => False) (Kp.of_below b20) (fun h => h))
          have HB5 := Lib.hid (HB4.out.kp (S := fun _ => False) (Kp.of_below b20) (fun h => h))
          have HX3 := Lib.hid (HX2.out.below b20)
          have HB6 := Lib.hid (bel_next HBW.out b20)
          clear b20 b4 q0 q1
          have hmm : MV md.msg.ma md.msg.mb ee nn := by have := HM.out; rwa [HMM.out] at this
          obtain ⟨m1, m2⟩ := doc_mv HBD.out hmm
          have hle := hmm.he
          have hln := hmm.hn
          have hme : Hid (m.encL ee nn = md.enc) := by
            show _ = _
            rw [MsgD.encL, HO.out, if_pos rfl, HMM.out]
            have e2 : md.msg.md ee nn = md := by rw [show md.msg.md ee nn = { md with epoch := (ee : Int), number := (nn : Int) } from rfl, ← m1, ← m2]
            rw [← md_enc' md.msg ee nn, e2]
          have HOK : Hid (okN md.epoch = true ∧ okN md.number = true) := ⟨by rw [m1]; exact okN_nat hle, by rw [m2]; exact okN_nat hln⟩
          have hEE : m.encE = 0 := by rw [MsgD.encE, HO.out]; rfl
          rw [hEE]
          rw [hme.out] at o7
          rw [hme.out]
          have HR7 := Lib.hid (rd_of_own o7)
          have hlen7 := md_len (m := md) (by rw [← HMM.out]; exact HO.out) HOK.out.1 HOK.out.2
          have HL7 := Lib.hid hlen7
          clear o7 hmm m1 m2 hle hln hEE hlen7
          obtain ⟨n7, hn7⟩ : ∃ m, Hid (m = md.enc.length) := ⟨_, rfl⟩
          rw [← hn7.out]
          go_wp2_with fail
          rw [hk0.out, hn7.out]
          refine (dsame_any A A7 c c7 l md.enc w20 (H.out.rd.below HB6.out) HR7.out (by have := H.out.len; omega) (by have := HL7.out; omega)).mono ?_
          rintro e w21 ⟨rfl, d21⟩
          have b21 : Below w20.heap.size w20 w21 := d21.below _
          have HZ4 := Lib.hid (HZ3.out.kp (S := fun _ => False) (Kp.of_below b21) (fun h => h))
          have b4 := HB5.out.kp (S := fun _ => False) (Kp.of_below b21) (fun h => h)
          have HX4 := Lib.hid (HX3.out.below b21)
          have HB7 := Lib.hid (bel_next HB6.out b21)
          clear d21 b21
          by_cases hq : l = md.enc
          · have hu : Hid (dec l = some md) := by
              show _ = _
              rw [hq]
              exact dec_enc (by rw [← HMM.out]; exact HO.out) HOK.out.1 HOK.out.2
            rw [decide_eq_true hq, ← hn7.out, ← hk0.out]
            have HQ := Lib.hid hq
            clear hq
            have hz3 := HZ4.out
            have hU : decM l = m := by unfold decM; rw [hu.out]; exact HMM.out.symm
            have hty : ∀ (X : Option Addr) (k : Nat) (rows : List (List Value)), (∀ x, X = some x → ¬ x.block = w.heap.size) → RowsAt w21 X k rows → RowsAt (w21.setCells w.heap.size 0 (m.cells s)) X k rows := fun X k rows hX hr => hr.kp (Kp.setCells (S := fun k => k = w.heap.size) w.heap.size rfl (m.cells s) 0 _ (Kp.refl _ w21)) (fun x hx => hX x hx)
            have HF := Lib.hid (dec_fin (l := l) hz3 HB7.out m s 0 (by unfold decE; rw [hu.out]; rfl) hU ⟨⟨rfl⟩, hty _ _ _ HGE.out.1 HX4.out.ents, hty _ _ _ HGE.out.2 HX4.out.keys⟩)
            clear hU hty
            go_wp2_with (first | ((with_reducible refine wpList_load_blk34 (op := ⟨_, Op.load 34 _, _, _, _, _⟩) rfl _ rfl _ _ _ ?_ b4 ?_); rfl) | ((with_reducible refine wpList_store_blk34 (op := ⟨_, Op.store 34 _ _, _, _, _, _⟩) rfl _ _ rfl _ _ m _ s ?_ ?_ hz3 ?_); rfl; rfl))
            exact HF.out _ (by rfl) (by rfl)
          · rw [decide_eq_false hq, ← hn7.out, ← hk0.out]
            have HQ := Lib.hid hq
            clear hq b4
            have hu : Hid (dec l = none) := by
              show _ = _
              cases hd : dec l with
              | none => rfl
              | some x =>
                obtain ⟨d1, d2, d3, d4, d5, d6⟩ := doc_some H.out.isb hd HRD.out
                exact absurd d4.symm HQ.out
            have hz3 := HZ4.out
            have HF := Lib.hid (dec_fin (l := l) hz3 HB7.out (MsgD.new 0 0 0 0) NSL 50 (by unfold decE; rw [hu.out]; rfl) (by unfold decM; rw [hu.out]) (dzero_arg _))
            go_wp2_with (first | ((with_reducible refine wpList_build_run (op := ⟨_, Op.build 34 _, _, _, _, _⟩) rfl _ _ rfl _ ?_ _ (hb0 _) ?_); (focus (first | (go_simp; done) | (go_simp; rfl)))) | ((with_reducible refine wpList_store_blk34 (op := ⟨_, Op.store 34 _ _, _, _, _, _⟩) rfl _ _ rfl _ _ (MsgD.new 0 0 0 0) _ NSL ?_ ?_ hz3 ?_); rfl; rfl))
            exact HF.out _ (by rfl) (by rfl)
      · have HBAD := Lib.hid hbad
        clear hbad
        go_wp2_with ((with_reducible refine wpList_load_blk34 (op := ⟨_, Op.load 34 _, _, _, _, _⟩) rfl _ rfl _ _ _ ?_ b4 ?_); rfl)
        refine (rencode_bad m s _ _ HX2.out HBAD.out).mono ?_
        rintro e w20 ⟨A7, c7, rfl, o7, b20⟩
        have HZ3 := Lib.hid (HZ.out.kp (S := fun _ => False) (Kp.of_below b20) (fun h => h))
        have HB5 := Lib.hid (HB4.out.kp (S := fun _ => False) (Kp.of_below b20) (fun h => h))
        have HX3 := Lib.hid (HX2.out.below b20)
        have HB6 := Lib.hid (bel_next HBW.out b20)
        clear b20 b4 q0 q1
        have hl0 : ([] : List Int).length = 0 := rfl
        rw [hl0]
        clear hl0 o7
        have hu : Hid (dec l = none) := by
          show _ = _
          cases hd : dec l with
          | none => rfl
          | some x =>
            obtain ⟨d1, d2, d3, d4, d5, d6⟩ := doc_some H.out.isb hd HRD.out
            have := HBAD.out; rw [HMM.out] at this; exact absurd this (mv_md d5 d6).not_bad
        have hz3 := HZ3.out
        have HF := Lib.hid (dec_fin (l := l) hz3 HB6.out (MsgD.new 0 0 0 0) NSL 50 (by unfold decE; rw [hu.out]; rfl) (by unfold decM; rw [hu.out]) (dzero_arg _))
        go_wp2_with (first | ((with_reducible refine wpList_build_run (op := ⟨_, Op.build 34 _, _, _, _, _⟩) rfl _ _ rfl _ ?_ _ (hb0 _) ?_); (focus (first | (go_simp; done) | (go_simp; rfl)))) | ((with_reducible refine wpList_store_blk34 (op := ⟨_, Op.store 34 _ _, _, _, _, _⟩) rfl _ _ rfl _ _ (MsgD.new 0 0 0 0) _ NSL ?_ ?_ hz3 ?_); rfl; rfl))
        exact HF.out _ (by rfl) (by rfl)
    · have hgt : decide ((n2 : Int) > 0) = true := by simp; omega
      have hu : Hid (dec l = none) := by
        show _ = _
        cases hd : dec l with
        | none => rfl
        | some x =>
          obtain ⟨d1, d2, d3, d4, d5, d6⟩ := doc_some H.out.isb hd HRD.out
          cases d2; exact absurd (by rw [hn2.out]; rfl) ht
      have hz3 := HZ.out
      have HF := Lib.hid (dec_fin (l := l) hz3 HBW.out (MsgD.new 0 0 0 0) NSL 50 (by unfold decE; rw [hu.out]; rfl) (by unfold decM; rw [hu.out]) (dzero_arg _))
      go_wp2_with (first | ((with_reducible refine wpList_build_run (op := ⟨_, Op.build 34 _, _, _, _, _⟩) rfl _ _ rfl _ ?_ _ (hb0 _) ?_); (focus (first | (go_simp; done) | (go_simp; rfl)))) | ((with_reducible refine wpList_store_blk34 (op := ⟨_, Op.store 34 _ _, _, _, _, _⟩) rfl _ _ rfl _ _ (MsgD.new 0 0 0 0) _ NSL ?_ ?_ hz3 ?_); rfl; rfl))
      exact HF.out _ (by rfl) (by rfl)

end Go.Proofs.Ytmhcjkiaogimgaa
