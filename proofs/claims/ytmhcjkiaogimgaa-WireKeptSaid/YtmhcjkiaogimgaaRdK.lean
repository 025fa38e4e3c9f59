/- The program's Decode. -/
import Derived.Test.YtmhcjkiaogimgaaRdJ
import Derived.Test.YtmhcjkiaogimgaaRdG
namespace Go.Proofs.Ytmhcjkiaogimgaa
open Go.RowKit

theorem mv_near {e n : Nat} (he : e ≤ 1099511627776) (hn : n ≤ 1099511627776) : MV (FloatKind.f64.nearest e) (FloatKind.f64.nearest n) e n :=
  ⟨val_nearest _ (by omega), val_nearest _ (by omega), he, hn⟩
theorem mv_md {m : MD} (he : okN m.epoch = true) (hn : okN m.number = true) : MV m.msg.ma m.msg.mb m.epoch.toNat m.number.toNat := by
  have h1 := okN_le he
  have h2 := okN_le hn
  have := mv_near (e := m.epoch.toNat) (n := m.number.toNat) (by omega) (by omega)
  rw [show ((m.epoch.toNat : Nat) : Int) = m.epoch by omega, show ((m.number.toNat : Nat) : Int) = m.number by omega] at this
  exact this
/-- What Decode answers. -/
def dec (l : List Int) : Option MD := match gmsg pnum ptxt pcnt l with | some (m, []) => if m.msg.ok then some m else none | _ => none
def decM (l : List Int) : MsgD := match dec l with | some m => m.msg | none => MsgD.new 0 0 0 0
def decE (l : List Int) : Int := if (dec l).isSome then 0 else 50
theorem dec_none {l : List Int} {m : MD} {st : Option (List Int)} (h : Read (gmsg pnum ptxt pcnt) (some l) m st) (hs : st ≠ some []) : dec l = none := by
  unfold dec
  cases hg : gmsg pnum ptxt pcnt l with
  | none => rfl
  | some xt =>
    obtain ⟨x, t⟩ := xt
    rw [Read, hg] at h
    cases t with
    | nil => exact absurd h.2 hs
    | cons a t => rfl
theorem dec_some {l : List Int} {m : MD} (h : Read (gmsg pnum ptxt pcnt) (some l) m (some [])) : dec l = (if m.msg.ok then some m else none) ∧ gmsg pnum ptxt pcnt l = some (m, []) := by
  unfold dec
  cases hg : gmsg pnum ptxt pcnt l with
  | none => rw [Read, hg] at h; cases h
  | some xt =>
    obtain ⟨x, t⟩ := xt
    rw [Read, hg] at h
    obtain ⟨rfl, h2⟩ := h
    injection h2 with h2
    subst h2
    exact ⟨rfl, rfl⟩
/-- Results: a message in memory, and a number. -/
theorem msg_fin {fn : Func} {w : World} {g : Nat} {cs0 : Array Value} {Q : Ending → World → Prop} (hres : fn.results = #[.cell 2 34, .tmp 3]) (hb : Blk w g cs0 34) (hc : cs0.size = 16) (m : MsgD) (s : Sls) (err : Int) (hp : Q (.returned (.tuple #[.agg (m.cells s).toArray, .int .i64 err])) (w.setCells g 0 (m.cells s))) :
    ∀ tmps : Array Value, tmps.getD 2 undef = .pointer (some ⟨g, 0, none⟩) → tmps.getD 3 undef = .int .i64 err → bodyPost Try.prog fn Q Exit.ret { tmps := tmps, defers := [] } (w.setCells g 0 (m.cells s)) := by
  intro tmps h2 h3
  have h2' : tmps[2]?.getD undef = .pointer (some ⟨g, 0, none⟩) := by simpa using h2
  have h3' : tmps[3]?.getD undef = .int .i64 err := by simpa using h3
  have hset := hb.setCells (m.cells s) 0
  rw [setMany_whole _ _ (by rw [hc]; rfl)] at hset
  have hr := run_loadVar_mid (P := Try.prog) (w.setCells g 0 (m.cells s)) g 0 34 (m.cells s) _ (fun j v hj => by rw [hset.cell, List.getElem?_toArray, Nat.zero_add]; exact hj) Try.underlying34 rfl size_msg
  refine bodyPost_ret (v := .tuple #[.agg (m.cells s).toArray, .int .i64 err]) ?_ rfl hp
  simp [results, hres, h2', h3', asAddr, hr]
theorem build0m (w : World) : (Instr.build 34 #[]).run Try.prog w = .ok (.agg ((MsgD.new 0 0 0 0).cells NSL).toArray) w := by
  go_simp; rfl
theorem wpList_load_blk34_g {ops : Array Oper} {rest : List Oper} {op : Oper} {a : Act} {w : World} {Q : Exit → Act → World → Prop} (x : Operand) (ho : op.op = .load 34 x) (hw : Region.wanted op (yielded ops a.tmps) = true) (g : Nat) (m : MsgD) (s : Sls)
    (hx : a.eval x = .pointer (some ⟨g, 0, none⟩)) (hb : Blk w g (m.cells s).toArray 34) (h : wpList Try.prog ops Q rest (a.put op.dst (.agg (m.cells s).toArray)) w) : wpList Try.prog ops Q (op :: rest) a w :=
  wpList_load_mid_g hw _ x ho g 0 hx (m.cells s) _ (fun j v hj => by rw [hb.cell, List.getElem?_toArray, Nat.zero_add]; exact hj) Try.underlying34 rfl size_msg h

theorem new_msg (w : World) : ∀ V, V = w.alloc (.cells #[.int .i64 0, .int .i64 0, .int .i64 0, .int .i64 0, .complex .f64 0 0, .int .i64 0, .int .i64 0, .int .i64 0, .int .i64 0, .string ⟨#[]⟩, .int .i64 0, .string ⟨#[]⟩, .int .i64 0, .string ⟨#[]⟩, .slice none 0 0, .slice none 0 0] 34) →
    Blk V w.heap.size ZERO.toArray 34 ∧ Below w.heap.size w V := by
  rintro V rfl
  exact ⟨Blk.new w _ _, bel_al (Below.refl _ _) _⟩

theorem mtwo (w : World) (m : MsgD) (s : Sls) : Blk ((w.alloc (.cells #[.int .i64 0, .int .i64 0, .int .i64 0, .int .i64 0, .complex .f64 0 0, .int .i64 0, .int .i64 0, .int .i64 0, .int .i64 0, .string ⟨#[]⟩, .int .i64 0, .string ⟨#[]⟩, .int .i64 0, .string ⟨#[]⟩, .slice none 0 0, .slice none 0 0] 34)).setCells w.heap.size 0 (m.cells s)) w.heap.size (m.cells s).toArray 34 ∧ Below w.heap.size w ((w.alloc (.cells #[.int .i64 0, .int .i64 0, .int .i64 0, .int .i64 0, .complex .f64 0 0, .int .i64 0, .int .i64 0, .int .i64 0, .int .i64 0, .string ⟨#[]⟩, .int .i64 0, .string ⟨#[]⟩, .int .i64 0, .string ⟨#[]⟩, .slice none 0 0, .slice none 0 0] 34)).setCells w.heap.size 0 (m.cells s)) := by
  have hZ : Blk (w.alloc (.cells #[.int .i64 0, .int .i64 0, .int .i64 0, .int .i64 0, .complex .f64 0 0, .int .i64 0, .int .i64 0, .int .i64 0, .int .i64 0, .string ⟨#[]⟩, .int .i64 0, .string ⟨#[]⟩, .int .i64 0, .string ⟨#[]⟩, .slice none 0 0, .slice none 0 0] 34)) w.heap.size ZERO.toArray 34 := Blk.new w ZERO.toArray _
  have hset := hZ.setCells (m.cells s) 0
  rw [setMany_whole _ _ (by rfl)] at hset
  exact ⟨hset, below_kp (bel_al (Below.refl _ _) _) (Kp.setCells (S := fun k => k = w.heap.size) _ rfl _ _ _ (Kp.refl _ _)) (by simp) (fun k hk => by omega)⟩
/-- What Decode leaves. -/
def DecRes (l : List Int) (w : World) (e : Ending) (w' : World) : Prop := ∃ ys s, e = .returned (.tuple #[.agg ys, .int .i64 (decE l)]) ∧ MsgArg w' ys (decM l) s ∧ Below w.heap.size w w'

/-- The same, and that its rows are new memory. -/
def DecOwn (l : List Int) (w : World) (e : Ending) (w' : World) : Prop := ∃ ys s, e = .returned (.tuple #[.agg ys, .int .i64 (decE l)]) ∧ MsgArg w' ys (decM l) s ∧ Below w.heap.size w w' ∧ (∀ x, s.ea = some x → w.heap.size ≤ x.block) ∧ ∀ x, s.ka = some x → w.heap.size ≤ x.block

set_option maxRecDepth 100000 in
set_option maxHeartbeats 8000000 in
theorem decode_own (w : World) (A : Option Addr) (c : Nat) (l : List Int) (h : BArg w A c l) :
    Calls Try.prog 22 #[.slice A l.length c] w (DecOwn l w) := by
  have HA : Hid (∀ W, W = w.alloc (.cells #[.int .i64 0, .int .i64 0, .int .i64 0, .int .i64 0, .complex .f64 0 0, .int .i64 0, .int .i64 0, .int .i64 0, .int .i64 0, .string ⟨#[]⟩, .int .i64 0, .string ⟨#[]⟩, .int .i64 0, .string ⟨#[]⟩, .slice none 0 0, .slice none 0 0] 34) → Blk W w.heap.size ((MsgD.new 0 0 0 0).cells NSL).toArray 34 ∧ Below w.heap.size w W ∧ W.heap.size = w.heap.size + 1) := by
    rintro W rfl
    exact ⟨Blk.new w ZERO.toArray _, bel_al (Below.refl _ _) _, by simp⟩
  obtain ⟨k0, hk0⟩ : ∃ m, Hid (m = l.length) := ⟨_, rfl⟩
  have H := Lib.hid h
  clear h
  rw [← hk0.out]
  go_enter Try.func22, Try.ntmps22
  go_upto_region 1 with fail
  obtain ⟨V, hV⟩ : ∃ V, V = w.alloc (.cells #[.int .i64 0, .int .i64 0, .int .i64 0, .int .i64 0, .complex .f64 0 0, .int .i64 0, .int .i64 0, .int .i64 0, .int .i64 0, .string ⟨#[]⟩, .int .i64 0, .string ⟨#[]⟩, .int .i64 0, .string ⟨#[]⟩, .slice none 0 0, .slice none 0 0] 34) := ⟨_, rfl⟩
  obtain ⟨N0, hB, hsz⟩ := HA.out V hV
  rw [← hV]
  have HR := Lib.hid ((H.out.below hB).reader)
  have HN := Lib.hid (N0.alloc (.cells #[.slice A l.length c, .int .i64 0, .bool false] 97))
  have HB := Lib.hid (bel_next hB (bel_al (Below.refl _ _) (.cells #[.slice A l.length c, .int .i64 0, .bool false] 97)))
  rw [← hk0.out] at HR HN HB
  clear hV HA N0 hB
  go_upto_region 2 with fail
  have hqm := HR.out.lt
  rw [hsz] at HR
  generalize V.alloc (.cells #[.slice A k0 c, .int .i64 0, .bool false] 97) = W1 at *
  obtain ⟨q, hq⟩ : ∃ q, q = w.heap.size + 1 := ⟨_, rfl⟩
  rw [hsz] at hqm
  rw [← hq] at HR hqm
  rw [← hq]
  have hq0 : w.heap.size < q := by omega
  clear hq
  go_wp2_with fail
  refine (message_any W1 q A c l (some l) HR.out).mono ?_
  rintro e w2 ⟨ys, md, s, st, rfl, hk, hr, ha, hrd, hge1, hge2⟩
  have HGE := Lib.hid (And.intro hge1 hge2)
  have hW1 : w.heap.size < W1.heap.size := by omega
  clear hge1 hge2
  have hZ := HN.out.kp hk (by omega)
  have BB := below_kp HB.out hk HB.out.size (fun k hk => by omega)
  have hn2 := new_msg w2
  have HMS := Lib.hid ha.is
  obtain ⟨V2, hV2⟩ : ∃ V2, V2 = w2.alloc (.cells #[.int .i64 0, .int .i64 0, .int .i64 0, .int .i64 0, .complex .f64 0 0, .int .i64 0, .int .i64 0, .int .i64 0, .int .i64 0, .string ⟨#[]⟩, .int .i64 0, .string ⟨#[]⟩, .int .i64 0, .string ⟨#[]⟩, .slice none 0 0, .slice none 0 0] 34) := ⟨_, rfl⟩
  obtain ⟨b2, bel2⟩ := hn2 V2 hV2
  have HK := Lib.hid hr
  have HA2 := Lib.hid ha
  have HZ2 := Lib.hid hZ
  have HBB := Lib.hid BB
  have HRD := Lib.hid hrd
  have HV2 := Lib.hid hV2
  have hlt0 : w.heap.size < w2.heap.size := hZ.lt
  clear hr ha hZ BB hrd hk HB HN HR hqm hn2
  have hz : Blk (w2.alloc (.cells #[.int .i64 0, .int .i64 0, .int .i64 0, .int .i64 0, .complex .f64 0 0, .int .i64 0, .int .i64 0, .int .i64 0, .int .i64 0, .string ⟨#[]⟩, .int .i64 0, .string ⟨#[]⟩, .int .i64 0, .string ⟨#[]⟩, .slice none 0 0, .slice none 0 0] 34)) w2.heap.size ((MsgD.new 0 0 0 0).cells NSL).toArray 34 := Blk.new w2 ZERO.toArray _
  have hys : ys = (md.msg.cells s).toArray := HMS.out.eq
  subst hys
  clear hV2
  go_upto_region 3 with ((with_reducible refine wpList_store_blk34 (op := ⟨_, Op.store 34 _ _, _, _, _, _⟩) rfl _ _ rfl _ _ md.msg _ s ?_ ?_ hz ?_); rfl; rfl)
  obtain ⟨bm, be3⟩ := mtwo w2 md.msg s
  have HR3 := HK.out.below be3
  have HA3 := Lib.hid (HA2.out.below be3)
  have hz3 := HZ2.out.kp (S := fun _ => False) (Kp.of_below be3) (fun h => h)
  have BB := Lib.hid (bel_next HBB.out be3)
  clear HK HA2 HZ2 HBB HV2 hz be3 b2 bel2 HMS
  generalize (w2.alloc (.cells #[.int .i64 0, .int .i64 0, .int .i64 0, .int .i64 0, .complex .f64 0 0, .int .i64 0, .int .i64 0, .int .i64 0, .int .i64 0, .string ⟨#[]⟩, .int .i64 0, .string ⟨#[]⟩, .int .i64 0, .string ⟨#[]⟩, .slice none 0 0, .slice none 0 0] 34)).setCells w2.heap.size 0 (md.msg.cells s) = W3 at *
  generalize w2.heap.size = g2 at *
  obtain ⟨k, bad, c0, c1, c2, f1, f2, hkl, he⟩ := HR3.cells
  rw [← hk0.out] at c0 hkl
  have HIS := Lib.hid (H.out.isb)
  clear HR3
  obtain ⟨m, hm⟩ : ∃ m : MsgD, m = md.msg := ⟨_, rfl⟩
  have HMM := Lib.hid hm
  rw [← hm] at bm HA3
  rw [← hm]
  clear hm
  have hb0 := build0m
  cases bad with
  | true =>
    have hu : Hid (dec l = none) := dec_none HRD.out (by rw [show st = none from he]; simp)
    have hE : decE l = 50 := by unfold decE; rw [hu.out]; rfl
    have hU : decM l = MsgD.new 0 0 0 0 := by unfold decM; rw [hu.out]
    have hkz := Kp.setCells (S := fun k => k = w.heap.size) w.heap.size rfl ((MsgD.new 0 0 0 0).cells NSL) 0 _ (Kp.refl _ W3)
    have HF := Lib.hid (msg_fin (fn := Try.f22) (Q := DecOwn l w) rfl hz3 rfl (MsgD.new 0 0 0 0) NSL 50 ⟨_, NSL, by rw [hE], by rw [hU]; exact ⟨⟨rfl⟩, RowsAt.nil _ _ _, RowsAt.nil _ _ _⟩, below_kp BB.out hkz BB.out.size (fun k hk => by omega), (fun x h => by cases h), (fun x h => by cases h)⟩)
    clear hE hU hkz
    go_wp2_with (first | ((with_reducible refine wpList_build_run (op := ⟨_, Op.build 34 _, _, _, _, _⟩) rfl _ _ rfl _ ?_ _ (hb0 _) ?_); (focus (first | (go_simp; done) | (go_simp; rfl)))) | ((with_reducible refine wpList_store_blk34 (op := ⟨_, Op.store 34 _ _, _, _, _, _⟩) rfl _ _ rfl _ _ (MsgD.new 0 0 0 0) _ NSL ?_ ?_ hz3 ?_); rfl; rfl))
    exact HF.out _ (by rfl) (by rfl)
  | false =>
    have hst : Hid (st = some (l.drop k)) := he
    by_cases hlt : k < k0
    · have hi : (k : Int) < (k0 : Int) := by omega
      have hu : Hid (dec l = none) := dec_none HRD.out (by rw [hst.out]; intro h; injection h with h; have := congrArg List.length h; rw [List.length_drop, ← hk0.out] at this; simp at this; omega)
      have hE : decE l = 50 := by unfold decE; rw [hu.out]; rfl
      have hU : decM l = MsgD.new 0 0 0 0 := by unfold decM; rw [hu.out]
      have hkz := Kp.setCells (S := fun k => k = w.heap.size) w.heap.size rfl ((MsgD.new 0 0 0 0).cells NSL) 0 _ (Kp.refl _ W3)
      have HF := Lib.hid (msg_fin (fn := Try.f22) (Q := DecOwn l w) rfl hz3 rfl (MsgD.new 0 0 0 0) NSL 50 ⟨_, NSL, by rw [hE], by rw [hU]; exact ⟨⟨rfl⟩, RowsAt.nil _ _ _, RowsAt.nil _ _ _⟩, below_kp BB.out hkz BB.out.size (fun k hk => by omega), (fun x h => by cases h), (fun x h => by cases h)⟩)
      clear hE hU hkz
      clear he hlt
      go_wp2_with (first | ((with_reducible refine wpList_build_run (op := ⟨_, Op.build 34 _, _, _, _, _⟩) rfl _ _ rfl _ ?_ _ (hb0 _) ?_); (focus (first | (go_simp; done) | (go_simp; rfl)))) | ((with_reducible refine wpList_store_blk34 (op := ⟨_, Op.store 34 _ _, _, _, _, _⟩) rfl _ _ rfl _ _ (MsgD.new 0 0 0 0) _ NSL ?_ ?_ hz3 ?_); rfl; rfl))
      exact HF.out _ (by rfl) (by rfl)
    · obtain rfl : k = k0 := by omega
      obtain ⟨hu0, hg⟩ := dec_some (by have := HRD.out; rw [hst.out, List.drop_eq_nil_of_le (by rw [hk0.out]; exact Nat.le_refl _)] at this; exact this)
      obtain ⟨_, ok1, ok2⟩ := writes_msg HIS.out hg
      have hmv := Lib.hid (mv_md ok1 ok2)
      have HU0 := Lib.hid hu0
      clear hu0 hg ok1 ok2
      have HN := Lib.hid bm
      have HN0 := Lib.hid hz3
      clear he hlt hz3
      go_wp2_with (((with_reducible refine wpList_load_blk34_g (op := ⟨_, Op.load 34 _, _, _, _, _⟩) _ rfl ?_ _ _ _ ?_ bm ?_); rfl; rfl))
      refine (plain_yes m s _ _ HA3.out md.epoch.toNat md.number.toNat (by rw [HMM.out]; exact hmv.out)).mono ?_
      rintro e w20 ⟨rfl, b20⟩
      have hz3 := HN0.out.kp (S := fun _ => False) (Kp.of_below b20) (fun h => h)
      have hb2 := HN.out.kp (S := fun _ => False) (Kp.of_below b20) (fun h => h)
      have HA4 := Lib.hid (HA3.out.below b20)
      have B2 := Lib.hid (bel_next BB.out b20)
      clear HN HN0 bm b20 HA3
      cases hok : m.ok with
      | false =>
        have hu : Hid (dec l = none) := by show _ = _; rw [HU0.out, ← HMM.out, hok]; rfl
        have hE : decE l = 50 := by unfold decE; rw [hu.out]; rfl
        have hU : decM l = MsgD.new 0 0 0 0 := by unfold decM; rw [hu.out]
        have hkz := Kp.setCells (S := fun k => k = w.heap.size) w.heap.size rfl ((MsgD.new 0 0 0 0).cells NSL) 0 _ (Kp.refl _ w20)
        have HF := Lib.hid (msg_fin (fn := Try.f22) (Q := DecOwn l w) rfl hz3 rfl (MsgD.new 0 0 0 0) NSL 50 ⟨_, NSL, by rw [hE], by rw [hU]; exact ⟨⟨rfl⟩, RowsAt.nil _ _ _, RowsAt.nil _ _ _⟩, below_kp B2.out hkz B2.out.size (fun k hk => by omega), (fun x h => by cases h), (fun x h => by cases h)⟩)
        clear hE hU hkz
        go_wp2_with (first | ((with_reducible refine wpList_build_run (op := ⟨_, Op.build 34 _, _, _, _, _⟩) rfl _ _ rfl _ ?_ _ (hb0 _) ?_); (focus (first | (go_simp; done) | (go_simp; rfl)))) | ((with_reducible refine wpList_store_blk34 (op := ⟨_, Op.store 34 _ _, _, _, _, _⟩) rfl _ _ rfl _ _ (MsgD.new 0 0 0 0) _ NSL ?_ ?_ hz3 ?_); rfl; rfl))
        exact HF.out _ (by rfl) (by rfl)
      | true =>
        have hu : Hid (dec l = some md) := by show _ = _; rw [HU0.out, ← HMM.out, hok]; rfl
        have hty : ∀ (X : Option Addr) (k : Nat) (rows : List (List Value)), (∀ x, X = some x → W1.heap.size ≤ x.block) → RowsAt w20 X k rows → RowsAt (w20.setCells w.heap.size 0 (m.cells s)) X k rows := fun X k rows hX hr => hr.kp (Kp.setCells (S := fun k => k = w.heap.size) w.heap.size rfl (m.cells s) 0 _ (Kp.refl _ w20)) (fun x hx e => by have := hX x hx; omega)
        have hE : decE l = 0 := by unfold decE; rw [hu.out]; rfl
        have hU : decM l = m := by unfold decM; rw [hu.out]; exact HMM.out.symm
        have hkz := Kp.setCells (S := fun k => k = w.heap.size) w.heap.size rfl ((m).cells s) 0 _ (Kp.refl _ w20)
        have HF := Lib.hid (msg_fin (fn := Try.f22) (Q := DecOwn l w) rfl hz3 rfl (m) s 0 ⟨_, s, by rw [hE], by rw [hU]; exact ⟨HA4.out.is, hty _ _ _ HGE.out.1 HA4.out.ents, hty _ _ _ HGE.out.2 HA4.out.keys⟩, below_kp B2.out hkz B2.out.size (fun k hk => by omega), (fun x h => by have := HGE.out.1 x h; omega), (fun x h => by have := HGE.out.2 x h; omega)⟩)
        clear hE hU hkz
        go_wp2_with (first | ((with_reducible refine wpList_load_blk34 (op := ⟨_, Op.load 34 _, _, _, _, _⟩) rfl _ rfl _ _ _ ?_ hb2 ?_); rfl) | ((with_reducible refine wpList_store_blk34 (op := ⟨_, Op.store 34 _ _, _, _, _, _⟩) rfl _ _ rfl _ _ m _ s ?_ ?_ hz3 ?_); rfl; rfl))
        exact HF.out _ (by rfl) (by rfl)
theorem decode_any (w : World) (A : Option Addr) (c : Nat) (l : List Int) (h : BArg w A c l) :
    Calls Try.prog 22 #[.slice A l.length c] w (DecRes l w) :=
  (decode_own w A c l h).mono fun _ _ ⟨ys, s, h1, h2, h3, _⟩ => ⟨ys, s, h1, h2, h3⟩

end Go.Proofs.Ytmhcjkiaogimgaa
