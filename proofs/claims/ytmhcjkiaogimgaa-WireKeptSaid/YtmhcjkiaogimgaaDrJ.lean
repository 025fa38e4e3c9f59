/- The document's said. -/
import Derived.Test.YtmhcjkiaogimgaaDrI
namespace Go.Proofs.Ytmhcjkiaogimgaa
open Go.RowKit

/-- What said leaves. -/
def GotSaid (l : List Int) (w : World) (e : Ending) (w' : World) : Prop :=
  ∃ ys md s A t c ok, e = .returned (.tuple #[.agg ys, .agg #[.slice A t.length c, .bool ok]]) ∧ MsgArg w' ys (MD.msg md) s ∧ DS w A c t ∧ Below w.heap.size w w' ∧ Read (gmsg dnum dtxt dcnt) (some l) md (stOf ok t) ∧
    ((0 ≤ md.epoch ∧ md.epoch ≤ 4398046511104) ∧ 0 ≤ md.number ∧ md.number ≤ 4398046511104) ∧ (∀ x, s.ea = some x → w.heap.size ≤ x.block) ∧ ∀ x, s.ka = some x → w.heap.size ≤ x.block
/-- What the last region does. -/
structure SEnd (w : World) (g1 gm ga gb : Nat) (ins : List Value) (m : MsgD) (s : Sls) (V : World) : Prop where
  f0 : V.rangeAt gm 0 (m.cells s) ∧ V.rangeAt g1 0 ins
  f1 : (V.setCells ga 0 (m.cells s)).rangeAt gm 0 (m.cells s) ∧ (V.setCells ga 0 (m.cells s)).rangeAt g1 0 ins
  f2 : ((V.setCells ga 0 (m.cells s)).setCells gb 0 ins).rangeAt gm 0 (m.cells s) ∧ ((V.setCells ga 0 (m.cells s)).setCells gb 0 ins).rangeAt g1 0 ins
  t1 : V.there ga 0 (m.cells s).toArray.size
  t2 : (V.setCells ga 0 (m.cells s)).there gb 0 ins.toArray.size
  hi : (Try.prog.info? 99).map (·.size) = some ins.length
  h1 : ins.toArray.all (·.oneCell') = true
  ba : Blk ((V.setCells ga 0 (m.cells s)).setCells gb 0 ins) ga (m.cells s).toArray 34
  bb : Blk ((V.setCells ga 0 (m.cells s)).setCells gb 0 ins) gb ins.toArray 99
  bel : Below w.heap.size w ((V.setCells ga 0 (m.cells s)).setCells gb 0 ins)
  arg : MsgArg ((V.setCells ga 0 (m.cells s)).setCells gb 0 ins) (m.cells s).toArray m s
  ge : (∀ x, s.ea = some x → w.heap.size ≤ x.block) ∧ ∀ x, s.ka = some x → w.heap.size ≤ x.block
theorem there_blk {V : World} {g : Nat} {cs : Array Value} {t : TypeId} (h : Blk V g cs t) {k : Nat} (hk : k ≤ cs.size) : V.there g 0 k := fun j hj => by
  rw [Nat.zero_add]
  refine ⟨?_, h.frozen _⟩
  rw [h.cell, Array.getElem?_eq_getElem (by omega)]
  rfl
theorem SSt.last {w W : World} {g1 gm ga gb : Nat} {A : Option Addr} {n c : Nat} {ok : Bool} {m : MsgD} (h : SSt w g1 gm ga gb A n c ok m W) : ∃ s ins, Hid (ins = [.slice A n c, .bool ok]) ∧ SEnd w g1 gm ga gb ins m s W := by
  obtain ⟨EA, ec, KA, kc, bm, o1, o2⟩ := h.ex
  refine ⟨⟨EA, ec, KA, kc⟩, [.slice A n c, .bool ok], rfl, ?_⟩
  have ha : Kp (fun k => k = ga) W (W.setCells ga 0 (m.cells ⟨EA, ec, KA, kc⟩)) := Kp.setCells (S := fun k => k = ga) _ rfl _ _ _ (Kp.refl _ _)
  have hb : Kp (fun k => k = gb) (W.setCells ga 0 (m.cells ⟨EA, ec, KA, kc⟩)) ((W.setCells ga 0 (m.cells ⟨EA, ec, KA, kc⟩)).setCells gb 0 [.slice A n c, .bool ok]) := Kp.setCells (S := fun k => k = gb) _ rfl _ _ _ (Kp.refl _ _)
  have bma := bm.kp ha h.nma
  have b1a := h.b1.kp ha h.n1a
  have bmb := bma.kp hb h.nmb
  have b1b := b1a.kp hb h.n1b
  have zba := h.zb.kp ha (Ne.symm h.nab)
  have zaa := h.za.setCells (m.cells ⟨EA, ec, KA, kc⟩) 0
  rw [setMany_whole _ _ (by rfl)] at zaa
  refine ⟨⟨range_blk bm, range_blk (cs := [.slice A n c, .bool ok]) h.b1⟩, ⟨range_blk bma, range_blk (cs := [.slice A n c, .bool ok]) b1a⟩, ⟨range_blk bmb, range_blk (cs := [.slice A n c, .bool ok]) b1b⟩, there_blk h.za (Nat.le_refl 16), there_blk zba (Nat.le_refl 2), by kernel_rfl, by simp [Value.oneCell'], zaa.kp hb h.nab, zba.setCells [.slice A n c, .bool ok] 0, bel_sets (bel_sets h.bel h.gea _ _) h.geb _ _, ⟨⟨rfl⟩, ?_, ?_⟩, fun x hx => own_ge o1 _ (by rw [show EA = some x from hx]; rfl), fun x hx => own_ge o2 _ (by rw [show KA = some x from hx]; rfl)⟩
  · refine rows_own (c := ec) (own_set (own_set o1 h.za (by decide) ha) zba (by decide) hb) (fun r hr => by obtain ⟨x, _, rfl⟩ := List.mem_map.1 hr; rfl) (by omega)
  · refine rows_own (c := kc) (own_set (own_set o2 h.za (by decide) ha) zba (by decide) hb) (fun r hr => by obtain ⟨x, _, rfl⟩ := List.mem_map.1 hr; rfl) (by omega)
theorem SEnd.fin {w : World} {g1 gm ga gb : Nat} {A : Option Addr} {c : Nat} {ok : Bool} {m : MsgD} {s : Sls} {V : World} {l t : List Int} {n : Nat} {ins : List Value} (hI : ins = [.slice A n c, .bool ok]) (h : SEnd w g1 gm ga gb ins m s V) (hn : n = t.length) (md : MD) (hm : MD.msg md = m) (hd : DS w A c t) (hr : Read (gmsg dnum dtxt dcnt) (some l) md (stOf ok t)) (hb : (0 ≤ md.epoch ∧ md.epoch ≤ 4398046511104) ∧ 0 ≤ md.number ∧ md.number ≤ 4398046511104) :
    ∀ tmps : Array Value, tmps.getD 2 undef = .pointer (some ⟨ga, 0, none⟩) → tmps.getD 3 undef = .pointer (some ⟨gb, 0, none⟩) → bodyPost Try.prog Try.f52 (GotSaid l w) Exit.ret { tmps := tmps, defers := [] } ((V.setCells ga 0 (m.cells s)).setCells gb 0 ins) := by
  subst hn
  subst hI
  refine in2_fin (fn := Try.f52) (vs := m.cells s) rfl h.ba Try.underlying34 rfl size_msg h.bb ⟨_, md, s, A, t, c, ok, rfl, ?_, hd, h.bel, hr, hb, h.ge⟩
  rw [hm]
  exact h.arg

set_option maxRecDepth 100000 in
set_option maxHeartbeats 16000000 in
theorem said_any (w : World) (A : Option Addr) (c : Nat) (l : List Int) (h : DS w A c l) :
    Calls Try.prog 52 #[.slice A l.length c] w (GotSaid l w) := by
  obtain ⟨n, hn⟩ : ∃ m, Hid (m = l.length) := ⟨_, rfl⟩
  have HD := Lib.hid h
  clear h
  have HA : Hid (∀ V, V = (((w.alloc (.cells #[.int .i64 0, .int .i64 0, .int .i64 0, .int .i64 0, .complex .f64 0 0, .int .i64 0, .int .i64 0, .int .i64 0, .int .i64 0, .string ⟨#[]⟩, .int .i64 0, .string ⟨#[]⟩, .int .i64 0, .string ⟨#[]⟩, .slice none 0 0, .slice none 0 0] 34)).alloc (.cells #[.slice none 0 0, .bool false] 99)).alloc (.cells #[.slice A n c, .bool true] 99)).alloc (.cells #[.int .i64 0, .int .i64 0, .int .i64 0, .int .i64 0, .complex .f64 0 0, .int .i64 0, .int .i64 0, .int .i64 0, .int .i64 0, .string ⟨#[]⟩, .int .i64 0, .string ⟨#[]⟩, .int .i64 0, .string ⟨#[]⟩, .slice none 0 0, .slice none 0 0] 34) → SSt w (w.heap.size + 1 + 1) (w.heap.size + 1 + 1 + 1) w.heap.size (w.heap.size + 1) A n c true (MsgD.new 0 0 0 0) V) := by
    rintro V rfl
    have e1 : (w.alloc (.cells #[.int .i64 0, .int .i64 0, .int .i64 0, .int .i64 0, .complex .f64 0 0, .int .i64 0, .int .i64 0, .int .i64 0, .int .i64 0, .string ⟨#[]⟩, .int .i64 0, .string ⟨#[]⟩, .int .i64 0, .string ⟨#[]⟩, .slice none 0 0, .slice none 0 0] 34)).heap.size = w.heap.size + 1 := by simp
    have e2 : ((w.alloc (.cells #[.int .i64 0, .int .i64 0, .int .i64 0, .int .i64 0, .complex .f64 0 0, .int .i64 0, .int .i64 0, .int .i64 0, .int .i64 0, .string ⟨#[]⟩, .int .i64 0, .string ⟨#[]⟩, .int .i64 0, .string ⟨#[]⟩, .slice none 0 0, .slice none 0 0] 34)).alloc (.cells #[.slice none 0 0, .bool false] 99)).heap.size = w.heap.size + 1 + 1 := by simp
    have e3 : (((w.alloc (.cells #[.int .i64 0, .int .i64 0, .int .i64 0, .int .i64 0, .complex .f64 0 0, .int .i64 0, .int .i64 0, .int .i64 0, .int .i64 0, .string ⟨#[]⟩, .int .i64 0, .string ⟨#[]⟩, .int .i64 0, .string ⟨#[]⟩, .slice none 0 0, .slice none 0 0] 34)).alloc (.cells #[.slice none 0 0, .bool false] 99)).alloc (.cells #[.slice A n c, .bool true] 99)).heap.size = w.heap.size + 1 + 1 + 1 := by simp
    have k1 := Blk.new w ((MsgD.new 0 0 0 0).cells NSL).toArray 34
    have k2 := Blk.new (w.alloc (.cells #[.int .i64 0, .int .i64 0, .int .i64 0, .int .i64 0, .complex .f64 0 0, .int .i64 0, .int .i64 0, .int .i64 0, .int .i64 0, .string ⟨#[]⟩, .int .i64 0, .string ⟨#[]⟩, .int .i64 0, .string ⟨#[]⟩, .slice none 0 0, .slice none 0 0] 34)) #[.slice none 0 0, .bool false] 99
    have k3 := Blk.new ((w.alloc (.cells #[.int .i64 0, .int .i64 0, .int .i64 0, .int .i64 0, .complex .f64 0 0, .int .i64 0, .int .i64 0, .int .i64 0, .int .i64 0, .string ⟨#[]⟩, .int .i64 0, .string ⟨#[]⟩, .int .i64 0, .string ⟨#[]⟩, .slice none 0 0, .slice none 0 0] 34)).alloc (.cells #[.slice none 0 0, .bool false] 99)) #[.slice A n c, .bool true] 99
    have k4 := Blk.new (((w.alloc (.cells #[.int .i64 0, .int .i64 0, .int .i64 0, .int .i64 0, .complex .f64 0 0, .int .i64 0, .int .i64 0, .int .i64 0, .int .i64 0, .string ⟨#[]⟩, .int .i64 0, .string ⟨#[]⟩, .int .i64 0, .string ⟨#[]⟩, .slice none 0 0, .slice none 0 0] 34)).alloc (.cells #[.slice none 0 0, .bool false] 99)).alloc (.cells #[.slice A n c, .bool true] 99)) ((MsgD.new 0 0 0 0).cells NSL).toArray 34
    rw [e1] at k2
    rw [e2] at k3
    rw [e3] at k4
    exact ⟨bel_al (bel_al (bel_al (bel_al (Below.refl _ _) _) _) _) _, k3.alloc _, ((k1.alloc _).alloc _).alloc _, (k2.alloc _).alloc _, by omega, by omega, by omega, by omega, by omega, by omega, none, 0, none, 0, k4, own_none _ _ _ _, own_none _ _ _ _⟩
  rw [← hn.out]
  go_enter Try.func52, Try.ntmps52
  go_upto_region 3 with fail
  obtain ⟨V, hV⟩ : ∃ V, V = (((w.alloc (.cells #[.int .i64 0, .int .i64 0, .int .i64 0, .int .i64 0, .complex .f64 0 0, .int .i64 0, .int .i64 0, .int .i64 0, .int .i64 0, .string ⟨#[]⟩, .int .i64 0, .string ⟨#[]⟩, .int .i64 0, .string ⟨#[]⟩, .slice none 0 0, .slice none 0 0] 34)).alloc (.cells #[.slice none 0 0, .bool false] 99)).alloc (.cells #[.slice A n c, .bool true] 99)).alloc (.cells #[.int .i64 0, .int .i64 0, .int .i64 0, .int .i64 0, .complex .f64 0 0, .int .i64 0, .int .i64 0, .int .i64 0, .int .i64 0, .string ⟨#[]⟩, .int .i64 0, .string ⟨#[]⟩, .int .i64 0, .string ⟨#[]⟩, .slice none 0 0, .slice none 0 0] 34) := ⟨_, rfl⟩
  have S := HA.out V hV
  rw [← hV]
  clear hV HA
  generalize hga : w.heap.size = ga at S ⊢
  generalize hgb : ga + 1 = gb at S ⊢
  generalize hg1 : gb + 1 = g1 at S ⊢
  generalize hgm : g1 + 1 = gm at S ⊢
  clear hga hgb hg1 hgm
  have hn1m := S.n1m
  have a0 : V.cell? ⟨g1, 0, none⟩ = some (.slice A n c) := (S.b1.cell 0).trans rfl
  have a1 : V.cell? ⟨g1, 1, none⟩ = some (.bool true) := (S.b1.cell 1).trans rfl
  have HS := Lib.hid S
  clear S
  go_wp2_with fail
  rw [hn.out]
  refine (dbyte_any w V HS.out.bel A c l true HD.out).mono ?_
  rintro e w4 ⟨v0, A0, s0, c0, ok0, rfl, _, hD, hbel, rd0⟩
  obtain ⟨n0, hn0⟩ : ∃ m, Hid (m = s0.length) := ⟨_, rfl⟩
  rw [← hn0.out, ← hn.out]
  have HD0 := Lib.hid hD
  have S := HS.out.next hbel
  clear HS hbel hD a0 a1
  have a0 : w4.cell? ⟨g1, 0, none⟩ = some (.slice A n c) := (S.b1.cell 0).trans rfl
  have a1 : w4.cell? ⟨g1, 1, none⟩ = some (.bool true) := (S.b1.cell 1).trans rfl
  have fa0 := S.b1.frozen 0
  have fa1 := S.b1.frozen 1
  obtain ⟨⟨d0, hd0⟩, fd0⟩ := S.fact 0 (by omega)
  have HS := Lib.hid S
  clear S
  go_upto_region 4 with fail
  have S : SSt w g1 gm ga gb A0 n0 c0 ok0 ⟨v0, 0, 0, 0, 0, 0, 0, 0, OpD.zero, [], []⟩ (((w4.setCell ⟨gm, 0, none⟩ (.int .i64 v0)).setCell ⟨g1, 0, none⟩ (.slice A0 n0 c0)).setCell ⟨g1, 1, none⟩ (.bool ok0)) := (HS.out.setM 0 [.int .i64 v0] ⟨v0, 0, 0, 0, 0, 0, 0, 0, OpD.zero, [], []⟩ rfl rfl (fun _ => rfl)).setIn A0 n0 c0 ok0
  clear HS a0 a1 fa0 fa1 hd0 fd0
  generalize ((w4.setCell ⟨gm, 0, none⟩ (.int .i64 v0)).setCell ⟨g1, 0, none⟩ (.slice A0 n0 c0)).setCell ⟨g1, 1, none⟩ (.bool ok0) = X25 at *
  have a0 : X25.cell? ⟨g1, 0, none⟩ = some (.slice A0 n0 c0) := (S.b1.cell 0).trans rfl
  have a1 : X25.cell? ⟨g1, 1, none⟩ = some (.bool ok0) := (S.b1.cell 1).trans rfl
  have HS := Lib.hid S
  clear S
  go_wp2_with fail
  rw [hn0.out]
  refine (dnum_any w X25 HS.out.bel A0 c0 s0 ok0 HD0.out).mono ?_
  rintro e w6 ⟨v1, A1, s1, c1, ok1, rfl, _, hD, hbel, rd1⟩
  obtain ⟨n1, hn1⟩ : ∃ m, Hid (m = s1.length) := ⟨_, rfl⟩
  rw [← hn1.out, ← hn0.out]
  have HD1 := Lib.hid hD
  have S := HS.out.next hbel
  clear HS hbel hD a0 a1
  clear HD0
  have a0 : w6.cell? ⟨g1, 0, none⟩ = some (.slice A0 n0 c0) := (S.b1.cell 0).trans rfl
  have a1 : w6.cell? ⟨g1, 1, none⟩ = some (.bool ok0) := (S.b1.cell 1).trans rfl
  have fa0 := S.b1.frozen 0
  have fa1 := S.b1.frozen 1
  obtain ⟨⟨d1, hd1⟩, fd1⟩ := S.fact 1 (by omega)
  have HS := Lib.hid S
  clear S
  go_upto_region 5 with fail
  have S : SSt w g1 gm ga gb A1 n1 c1 ok1 ⟨v0, v1, 0, 0, 0, 0, 0, 0, OpD.zero, [], []⟩ (((w6.setCell ⟨gm, 1, none⟩ (.int .i64 v1)).setCell ⟨g1, 0, none⟩ (.slice A1 n1 c1)).setCell ⟨g1, 1, none⟩ (.bool ok1)) := (HS.out.setM 1 [.int .i64 v1] ⟨v0, v1, 0, 0, 0, 0, 0, 0, OpD.zero, [], []⟩ rfl rfl (fun _ => rfl)).setIn A1 n1 c1 ok1
  clear HS a0 a1 fa0 fa1 hd1 fd1
  generalize ((w6.setCell ⟨gm, 1, none⟩ (.int .i64 v1)).setCell ⟨g1, 0, none⟩ (.slice A1 n1 c1)).setCell ⟨g1, 1, none⟩ (.bool ok1) = X27 at *
  have a0 : X27.cell? ⟨g1, 0, none⟩ = some (.slice A1 n1 c1) := (S.b1.cell 0).trans rfl
  have a1 : X27.cell? ⟨g1, 1, none⟩ = some (.bool ok1) := (S.b1.cell 1).trans rfl
  have HS := Lib.hid S
  clear S
  go_wp2_with fail
  rw [hn1.out]
  refine (dnum_any w X27 HS.out.bel A1 c1 s1 ok1 HD1.out).mono ?_
  rintro e w8 ⟨v2, A2, s2, c2, ok2, rfl, _, hD, hbel, rd2⟩
  obtain ⟨n2, hn2⟩ : ∃ m, Hid (m = s2.length) := ⟨_, rfl⟩
  rw [← hn2.out, ← hn1.out]
  have HD2 := Lib.hid hD
  have S := HS.out.next hbel
  clear HS hbel hD a0 a1
  clear HD1
  have a0 : w8.cell? ⟨g1, 0, none⟩ = some (.slice A1 n1 c1) := (S.b1.cell 0).trans rfl
  have a1 : w8.cell? ⟨g1, 1, none⟩ = some (.bool ok1) := (S.b1.cell 1).trans rfl
  have fa0 := S.b1.frozen 0
  have fa1 := S.b1.frozen 1
  obtain ⟨⟨d2, hd2⟩, fd2⟩ := S.fact 2 (by omega)
  have HS := Lib.hid S
  clear S
  go_upto_region 6 with fail
  have S : SSt w g1 gm ga gb A2 n2 c2 ok2 ⟨v0, v1, v2, 0, 0, 0, 0, 0, OpD.zero, [], []⟩ (((w8.setCell ⟨gm, 2, none⟩ (.int .i64 v2)).setCell ⟨g1, 0, none⟩ (.slice A2 n2 c2)).setCell ⟨g1, 1, none⟩ (.bool ok2)) := (HS.out.setM 2 [.int .i64 v2] ⟨v0, v1, v2, 0, 0, 0, 0, 0, OpD.zero, [], []⟩ rfl rfl (fun _ => rfl)).setIn A2 n2 c2 ok2
  clear HS a0 a1 fa0 fa1 hd2 fd2
  generalize ((w8.setCell ⟨gm, 2, none⟩ (.int .i64 v2)).setCell ⟨g1, 0, none⟩ (.slice A2 n2 c2)).setCell ⟨g1, 1, none⟩ (.bool ok2) = X29 at *
  have a0 : X29.cell? ⟨g1, 0, none⟩ = some (.slice A2 n2 c2) := (S.b1.cell 0).trans rfl
  have a1 : X29.cell? ⟨g1, 1, none⟩ = some (.bool ok2) := (S.b1.cell 1).trans rfl
  have HS := Lib.hid S
  clear S
  go_wp2_with fail
  rw [hn2.out]
  refine (dnum_any w X29 HS.out.bel A2 c2 s2 ok2 HD2.out).mono ?_
  rintro e w10 ⟨v3, A3, s3, c3, ok3, rfl, _, hD, hbel, rd3⟩
  obtain ⟨n3, hn3⟩ : ∃ m, Hid (m = s3.length) := ⟨_, rfl⟩
  rw [← hn3.out, ← hn2.out]
  have HD3 := Lib.hid hD
  have S := HS.out.next hbel
  clear HS hbel hD a0 a1
  clear HD2
  have a0 : w10.cell? ⟨g1, 0, none⟩ = some (.slice A2 n2 c2) := (S.b1.cell 0).trans rfl
  have a1 : w10.cell? ⟨g1, 1, none⟩ = some (.bool ok2) := (S.b1.cell 1).trans rfl
  have fa0 := S.b1.frozen 0
  have fa1 := S.b1.frozen 1
  obtain ⟨⟨d3, hd3⟩, fd3⟩ := S.fact 3 (by omega)
  have HS := Lib.hid S
  clear S
  go_upto_region 7 with fail
  have S : SSt w g1 gm ga gb A3 n3 c3 ok3 ⟨v0, v1, v2, v3, 0, 0, 0, 0, OpD.zero, [], []⟩ (((w10.setCell ⟨gm, 3, none⟩ (.int .i64 v3)).setCell ⟨g1, 0, none⟩ (.slice A3 n3 c3)).setCell ⟨g1, 1, none⟩ (.bool ok3)) := (HS.out.setM 3 [.int .i64 v3] ⟨v0, v1, v2, v3, 0, 0, 0, 0, OpD.zero, [], []⟩ rfl rfl (fun _ => rfl)).setIn A3 n3 c3 ok3
  clear HS a0 a1 fa0 fa1 hd3 fd3
  generalize ((w10.setCell ⟨gm, 3, none⟩ (.int .i64 v3)).setCell ⟨g1, 0, none⟩ (.slice A3 n3 c3)).setCell ⟨g1, 1, none⟩ (.bool ok3) = X31 at *
  have a0 : X31.cell? ⟨g1, 0, none⟩ = some (.slice A3 n3 c3) := (S.b1.cell 0).trans rfl
  have a1 : X31.cell? ⟨g1, 1, none⟩ = some (.bool ok3) := (S.b1.cell 1).trans rfl
  have HS := Lib.hid S
  clear S
  go_wp2_with fail
  rw [hn3.out]
  refine (dnum_any w X31 HS.out.bel A3 c3 s3 ok3 HD3.out).mono ?_
  rintro e w12 ⟨v4, A4, s4, c4, ok4, rfl, hb4, hD, hbel, rd4⟩
  obtain ⟨n4, hn4⟩ : ∃ m, Hid (m = s4.length) := ⟨_, rfl⟩
  rw [← hn4.out, ← hn3.out]
  have HD4 := Lib.hid hD
  have S := HS.out.next hbel
  clear HS hbel hD a0 a1
  clear HD3
  have a0 : w12.cell? ⟨g1, 0, none⟩ = some (.slice A3 n3 c3) := (S.b1.cell 0).trans rfl
  have a1 : w12.cell? ⟨g1, 1, none⟩ = some (.bool ok3) := (S.b1.cell 1).trans rfl
  have fa0 := S.b1.frozen 0
  have fa1 := S.b1.frozen 1
  have HS := Lib.hid S
  clear S
  go_upto_region 8 with fail
  have S : SSt w g1 gm ga gb A4 n4 c4 ok4 ⟨v0, v1, v2, v3, 0, 0, 0, 0, OpD.zero, [], []⟩ ((w12.setCell ⟨g1, 0, none⟩ (.slice A4 n4 c4)).setCell ⟨g1, 1, none⟩ (.bool ok4)) := HS.out.setIn A4 n4 c4 ok4
  clear HS a0 a1 fa0 fa1 
  generalize (w12.setCell ⟨g1, 0, none⟩ (.slice A4 n4 c4)).setCell ⟨g1, 1, none⟩ (.bool ok4) = X33 at *
  have HB4 := Lib.hid hb4
  clear hb4
  have a0 : X33.cell? ⟨g1, 0, none⟩ = some (.slice A4 n4 c4) := (S.b1.cell 0).trans rfl
  have a1 : X33.cell? ⟨g1, 1, none⟩ = some (.bool ok4) := (S.b1.cell 1).trans rfl
  have HS := Lib.hid S
  clear S
  go_wp2_with fail
  rw [hn4.out]
  refine (dnum_any w X33 HS.out.bel A4 c4 s4 ok4 HD4.out).mono ?_
  rintro e w14 ⟨v5, A5, s5, c5, ok5, rfl, hb5, hD, hbel, rd5⟩
  obtain ⟨n5, hn5⟩ : ∃ m, Hid (m = s5.length) := ⟨_, rfl⟩
  rw [← hn5.out, ← hn4.out]
  have HD5 := Lib.hid hD
  have S := HS.out.next hbel
  clear HS hbel hD a0 a1
  clear HD4
  have a0 : w14.cell? ⟨g1, 0, none⟩ = some (.slice A4 n4 c4) := (S.b1.cell 0).trans rfl
  have a1 : w14.cell? ⟨g1, 1, none⟩ = some (.bool ok4) := (S.b1.cell 1).trans rfl
  have fa0 := S.b1.frozen 0
  have fa1 := S.b1.frozen 1
  have HS := Lib.hid S
  clear S
  go_upto_region 9 with fail
  have S : SSt w g1 gm ga gb A5 n5 c5 ok5 ⟨v0, v1, v2, v3, 0, 0, 0, 0, OpD.zero, [], []⟩ ((w14.setCell ⟨g1, 0, none⟩ (.slice A5 n5 c5)).setCell ⟨g1, 1, none⟩ (.bool ok5)) := HS.out.setIn A5 n5 c5 ok5
  clear HS a0 a1 fa0 fa1 
  generalize (w14.setCell ⟨g1, 0, none⟩ (.slice A5 n5 c5)).setCell ⟨g1, 1, none⟩ (.bool ok5) = X35 at *
  have HB5 := Lib.hid hb5
  clear hb5
  obtain ⟨⟨dv, d4⟩, f4⟩ := S.fact 4 (by omega)
  have h1c : (Value.complex .f64 (floatOfInt FloatKind.f64 v4) (floatOfInt FloatKind.f64 v5)).oneCell' = true := rfl
  have hst := run_store_c X35 gm 4 dv (.complex .f64 (floatOfInt FloatKind.f64 v4) (floatOfInt FloatKind.f64 v5)) d4 f4 rfl
  have HS := Lib.hid S
  clear S
  go_upto_region 10 with fail
  have S : SSt w g1 gm ga gb A5 n5 c5 ok5 ⟨v0, v1, v2, v3, floatOfInt FloatKind.f64 v4, floatOfInt FloatKind.f64 v5, 0, 0, OpD.zero, [], []⟩ (X35.setCell ⟨gm, 4, none⟩ (.complex .f64 (floatOfInt FloatKind.f64 v4) (floatOfInt FloatKind.f64 v5))) := HS.out.setM 4 [.complex .f64 (floatOfInt FloatKind.f64 v4) (floatOfInt FloatKind.f64 v5)] ⟨v0, v1, v2, v3, floatOfInt FloatKind.f64 v4, floatOfInt FloatKind.f64 v5, 0, 0, OpD.zero, [], []⟩ rfl rfl (fun _ => rfl)
  clear HS hst h1c d4 f4
  generalize X35.setCell ⟨gm, 4, none⟩ (.complex .f64 (floatOfInt FloatKind.f64 v4) (floatOfInt FloatKind.f64 v5)) = X36 at *
  have a0 : X36.cell? ⟨g1, 0, none⟩ = some (.slice A5 n5 c5) := (S.b1.cell 0).trans rfl
  have a1 : X36.cell? ⟨g1, 1, none⟩ = some (.bool ok5) := (S.b1.cell 1).trans rfl
  have HS := Lib.hid S
  clear S
  go_wp2_with fail
  rw [hn5.out]
  refine (dnum_any w X36 HS.out.bel A5 c5 s5 ok5 HD5.out).mono ?_
  rintro e w17 ⟨v6, A6, s6, c6, ok6, rfl, _, hD, hbel, rd6⟩
  obtain ⟨n6, hn6⟩ : ∃ m, Hid (m = s6.length) := ⟨_, rfl⟩
  rw [← hn6.out, ← hn5.out]
  have HD6 := Lib.hid hD
  have S := HS.out.next hbel
  clear HS hbel hD a0 a1
  clear HD5
  have a0 : w17.cell? ⟨g1, 0, none⟩ = some (.slice A5 n5 c5) := (S.b1.cell 0).trans rfl
  have a1 : w17.cell? ⟨g1, 1, none⟩ = some (.bool ok5) := (S.b1.cell 1).trans rfl
  have fa0 := S.b1.frozen 0
  have fa1 := S.b1.frozen 1
  obtain ⟨⟨d5, hd5⟩, fd5⟩ := S.fact 5 (by omega)
  have HS := Lib.hid S
  clear S
  go_upto_region 11 with fail
  have S : SSt w g1 gm ga gb A6 n6 c6 ok6 ⟨v0, v1, v2, v3, floatOfInt FloatKind.f64 v4, floatOfInt FloatKind.f64 v5, v6, 0, OpD.zero, [], []⟩ (((w17.setCell ⟨gm, 5, none⟩ (.int .i64 v6)).setCell ⟨g1, 0, none⟩ (.slice A6 n6 c6)).setCell ⟨g1, 1, none⟩ (.bool ok6)) := (HS.out.setM 5 [.int .i64 v6] ⟨v0, v1, v2, v3, floatOfInt FloatKind.f64 v4, floatOfInt FloatKind.f64 v5, v6, 0, OpD.zero, [], []⟩ rfl rfl (fun _ => rfl)).setIn A6 n6 c6 ok6
  clear HS a0 a1 fa0 fa1 hd5 fd5
  generalize ((w17.setCell ⟨gm, 5, none⟩ (.int .i64 v6)).setCell ⟨g1, 0, none⟩ (.slice A6 n6 c6)).setCell ⟨g1, 1, none⟩ (.bool ok6) = X38 at *
  have a0 : X38.cell? ⟨g1, 0, none⟩ = some (.slice A6 n6 c6) := (S.b1.cell 0).trans rfl
  have a1 : X38.cell? ⟨g1, 1, none⟩ = some (.bool ok6) := (S.b1.cell 1).trans rfl
  have HS := Lib.hid S
  clear S
  go_wp2_with fail
  rw [hn6.out]
  refine (dnum_any w X38 HS.out.bel A6 c6 s6 ok6 HD6.out).mono ?_
  rintro e w19 ⟨v7, A7, s7, c7, ok7, rfl, _, hD, hbel, rd7⟩
  obtain ⟨n7, hn7⟩ : ∃ m, Hid (m = s7.length) := ⟨_, rfl⟩
  rw [← hn7.out, ← hn6.out]
  have HD7 := Lib.hid hD
  have S := HS.out.next hbel
  clear HS hbel hD a0 a1
  clear HD6
  have a0 : w19.cell? ⟨g1, 0, none⟩ = some (.slice A6 n6 c6) := (S.b1.cell 0).trans rfl
  have a1 : w19.cell? ⟨g1, 1, none⟩ = some (.bool ok6) := (S.b1.cell 1).trans rfl
  have fa0 := S.b1.frozen 0
  have fa1 := S.b1.frozen 1
  have HS := Lib.hid S
  clear S
  go_upto_region 12 with fail
  have S : SSt w g1 gm ga gb A7 n7 c7 ok7 ⟨v0, v1, v2, v3, floatOfInt FloatKind.f64 v4, floatOfInt FloatKind.f64 v5, v6, 0, OpD.zero, [], []⟩ ((w19.setCell ⟨g1, 0, none⟩ (.slice A7 n7 c7)).setCell ⟨g1, 1, none⟩ (.bool ok7)) := HS.out.setIn A7 n7 c7 ok7
  clear HS a0 a1 fa0 fa1 
  generalize (w19.setCell ⟨g1, 0, none⟩ (.slice A7 n7 c7)).setCell ⟨g1, 1, none⟩ (.bool ok7) = X40 at *
  obtain ⟨⟨d6, hd6⟩, fd6⟩ := S.fact 6 (by omega)
  have HS := Lib.hid S
  clear S
  go_upto_region 13 with fail
  have S : SSt w g1 gm ga gb A7 n7 c7 ok7 ⟨v0, v1, v2, v3, floatOfInt FloatKind.f64 v4, floatOfInt FloatKind.f64 v5, v6, v7, OpD.zero, [], []⟩ (X40.setCell ⟨gm, 6, none⟩ (.int .i64 v7)) := HS.out.setM 6 [.int .i64 v7] ⟨v0, v1, v2, v3, floatOfInt FloatKind.f64 v4, floatOfInt FloatKind.f64 v5, v6, v7, OpD.zero, [], []⟩ rfl rfl (fun _ => rfl)
  clear HS hd6 fd6
  generalize X40.setCell ⟨gm, 6, none⟩ (.int .i64 v7) = X41 at *
  have k9 : X41.cell? ⟨gm, 0, none⟩ = some (.int .i64 v0) := S.kind
  have HC : Hid (∀ {md : MD} {st' : Option (List Int)}, Read (dmsgK v0 v1 v2 v3 v4 v5 v6 v7) (stOf ok7 s7) md st' → Read (gmsg dnum dtxt dcnt) (some l) md st') := fun h => rd0.bind (rd1.bind (rd2.bind (rd3.bind (rd4.bind (rd5.bind (rd6.bind (rd7.bind (h))))))))
  clear rd0 rd1 rd2 rd3 rd4 rd5 rd6 rd7
  by_cases h1 : v0 = 1
  · subst h1
    have a0 : X41.cell? ⟨g1, 0, none⟩ = some (.slice A7 n7 c7) := (S.b1.cell 0).trans rfl
    have a1 : X41.cell? ⟨g1, 1, none⟩ = some (.bool ok7) := (S.b1.cell 1).trans rfl
    have HS := Lib.hid S
    clear S
    go_wp2_with fail
    rw [hn7.out]
    refine (dop_any w X41 HS.out.bel A7 c7 s7 ok7 HD7.out).mono ?_
    rintro e w22 ⟨⟨oa, ob, oc, od, oe, of, og⟩, A8, s8, c8, ok8, he, _, hD, hbel, rd8⟩
    have he : e = .returned (.tuple #[.agg #[.int .i64 oa, .int .i64 ob, .string oc, .int .i64 od, .string oe, .int .i64 of, .string og], .agg #[.slice A8 s8.length c8, .bool ok8]]) := he
    subst he
    obtain ⟨n8, hn8⟩ : ∃ m, Hid (m = s8.length) := ⟨_, rfl⟩
    rw [← hn8.out, ← hn7.out]
    have HD8 := Lib.hid hD
    have S := HS.out.next hbel
    clear HS hbel hD a0 a1
    clear HD7
    have a0 : w22.cell? ⟨g1, 0, none⟩ = some (.slice A7 n7 c7) := (S.b1.cell 0).trans rfl
    have a1 : w22.cell? ⟨g1, 1, none⟩ = some (.bool ok7) := (S.b1.cell 1).trans rfl
    have fa0 := S.b1.frozen 0
    have fa1 := S.b1.frozen 1
    have hth := S.there 7 7 (by omega)
    have S2 : SSt w g1 gm ga gb A7 n7 c7 ok7 ⟨1, v1, v2, v3, floatOfInt FloatKind.f64 v4, floatOfInt FloatKind.f64 v5, v6, v7, ⟨oa, ob, oc, od, oe, of, og⟩, [], []⟩ (w22.setCells gm 7 (OpD.cells ⟨oa, ob, oc, od, oe, of, og⟩)) := SSt.setOp (m := ⟨1, v1, v2, v3, floatOfInt FloatKind.f64 v4, floatOfInt FloatKind.f64 v5, v6, v7, OpD.zero, [], []⟩) S ⟨oa, ob, oc, od, oe, of, og⟩
    have a2 : (w22.setCells gm 7 (OpD.cells ⟨oa, ob, oc, od, oe, of, og⟩)).cell? ⟨g1, 0, none⟩ = some (.slice A7 n7 c7) := (S2.b1.cell 0).trans rfl
    have a3 : (w22.setCells gm 7 (OpD.cells ⟨oa, ob, oc, od, oe, of, og⟩)).cell? ⟨g1, 1, none⟩ = some (.bool ok7) := (S2.b1.cell 1).trans rfl
    have fa2 := S2.b1.frozen 0
    have fa3 := S2.b1.frozen 1
    clear S
    have S := S2
    clear S2
    have HS := Lib.hid S
    clear S
    go_upto_region 34 with ((with_reducible refine wpList_store_opc rfl _ _ rfl gm 7 ⟨oa, ob, oc, od, oe, of, og⟩ ?_ ?_ hth ?_); rfl; rfl)
    have S : SSt w g1 gm ga gb A8 n8 c8 ok8 ⟨1, v1, v2, v3, floatOfInt FloatKind.f64 v4, floatOfInt FloatKind.f64 v5, v6, v7, ⟨oa, ob, oc, od, oe, of, og⟩, [], []⟩ (((w22.setCells gm 7 (OpD.cells ⟨oa, ob, oc, od, oe, of, og⟩)).setCell ⟨g1, 0, none⟩ (.slice A8 n8 c8)).setCell ⟨g1, 1, none⟩ (.bool ok8)) := HS.out.setIn A8 n8 c8 ok8
    clear HS a0 a1 fa0 fa1 hth a2 a3 fa2 fa3
    generalize ((w22.setCells gm 7 (OpD.cells ⟨oa, ob, oc, od, oe, of, og⟩)).setCell ⟨g1, 0, none⟩ (.slice A8 n8 c8)).setCell ⟨g1, 1, none⟩ (.bool ok8) = X43 at *
    clear k9
    have RD : Hid (Read (gmsg dnum dtxt dcnt) (some l) ⟨1, v1, v2, v3, v4, v5, v6, v7, ⟨oa, ob, oc, od, oe, of, og⟩, [], []⟩ (stOf ok8 s8)) := HC.out (rd8.bind (Read.ret _ _))
    have HS := Lib.hid S
    clear S
    go_upto_region 34 with fail
    have S := HS.out.next ((Drawn.refl X43).drew.below _)
    clear HS
    generalize hM : (⟨1, v1, v2, v3, floatOfInt FloatKind.f64 v4, floatOfInt FloatKind.f64 v5, v6, v7, ⟨oa, ob, oc, od, oe, of, og⟩, [], []⟩ : MsgD) = M at S
    have HM := Lib.hid hM
    clear hM
    obtain ⟨s, ins, HI, E⟩ := S.last
    have hh := E.f0
    refine wp_region_held_drew (S := fun w' => w'.rangeAt gm 0 (M.cells s) ∧ w'.rangeAt g1 0 ins) (by kernel_rfl) hh (fun hHeld => ?_)
    generalize X43.drew = V9 at *
    clear S
    have HF := Lib.hid (SEnd.fin HI.out E hn8.out ⟨1, v1, v2, v3, v4, v5, v6, v7, ⟨oa, ob, oc, od, oe, of, og⟩, [], []⟩ HM.out HD8.out RD.out ⟨HB4.out, HB5.out⟩)
    have f1 := E.f1
    have f2 := E.f2
    have t1 := E.t1
    have t2 := E.t2
    have hi2 := E.hi
    have ho2 := E.h1
    have HE := Lib.hid E
    clear E
    refine' wpAnyH_take (i := 0) (oi := { dst := some 150, op := Op.load 34 (Operand.tmp 5), type := 34, pos := "ref.go:242", after := #[], guard := none }) (v := .agg (M.cells s).toArray) rfl (by kernel_rfl) (by kernel_rfl) (by kernel_rfl) (fun _ _ _ h => h) (yieldsIf_load_mid (by kernel_rfl) _ _ rfl gm 0 rfl (M.cells s) _ (fun w hSw => hSw.1) Try.underlying34 rfl size_msg) hHeld ?_
    simp only [Act.put, List.setIfInBounds_toArray, List.set_cons_zero, List.set_cons_succ]
    refine' wpAnyH_take (i := 1) (oi := { dst := some 151, op := Op.load 99 (Operand.tmp 4), type := 99, pos := "ref.go:242", after := #[{ on := 2, ground := Ground.gcOnly Departure.lateStores }], guard := none }) (v := .agg ins.toArray) rfl (by kernel_rfl) (by kernel_rfl) (by kernel_rfl) (fun _ _ _ h => h) (yieldsIf_load_mid (by kernel_rfl) _ _ rfl g1 0 rfl ins _ (fun w hSw => hSw.2) Try.underlying99 rfl hi2) hHeld ?_
    simp only [Act.put, List.setIfInBounds_toArray, List.set_cons_zero, List.set_cons_succ]
    refine wpAnyH_ready (rs := [2]) (by kernel_rfl) (by simp) ?_
    refine AllReadyH.cons (o := { dst := none, op := Op.store 34 (Operand.tmp 2) (Operand.tmp 150), type := 0, pos := "ref.go:242", after := #[{ on := 0, ground := Ground.data }, { on := 0, ground := Ground.phase }, { on := 1, ground := Ground.textOnly Departure.lateStores }], guard := none }) rfl (fun K hK => ?_) AllReadyH.nil
    refine if_wanted rfl ?_
    refine wp_store_mid 34 (.tmp 2) (.tmp 150) rfl ga 0 (M.cells s).toArray rfl rfl t1 size_msg (msg_one M s) ?_
    refine hK.out _ _ f1 (fun hHeld => ?_)
    clear hK K
    try simp only [Act.put, List.setIfInBounds_toArray, List.set_cons_zero, List.set_cons_succ]
    refine wpAnyH_ready (rs := [3]) (by kernel_rfl) (by simp) ?_
    refine AllReadyH.cons (o := { dst := none, op := Op.store 99 (Operand.tmp 3) (Operand.tmp 151), type := 0, pos := "ref.go:242", after := #[{ on := 1, ground := Ground.data }, { on := 2, ground := Ground.chain }, { on := 0, ground := Ground.phase }, { on := 1, ground := Ground.phase }, { on := 2, ground := Ground.phase }], guard := none }) rfl (fun K hK => ?_) AllReadyH.nil
    refine if_wanted rfl ?_
    refine wp_store_mid 99 (.tmp 3) (.tmp 151) rfl gb 0 ins.toArray rfl rfl t2 hi2 ho2 ?_
    refine hK.out _ _ f2 (fun hHeld => ?_)
    clear hK K
    try simp only [Act.put, List.setIfInBounds_toArray, List.set_cons_zero, List.set_cons_succ]
    refine wpAnyH_done (by kernel_rfl) ?_ _
    clear f1 f2 t1 t2 hh hHeld hi2 ho2
    go_wp2_with fail
    exact HF.out _ (by rfl) (by rfl)
  by_cases h2 : v0 = 2
  · subst h2
    have a0 : X41.cell? ⟨g1, 0, none⟩ = some (.slice A7 n7 c7) := (S.b1.cell 0).trans rfl
    have a1 : X41.cell? ⟨g1, 1, none⟩ = some (.bool ok7) := (S.b1.cell 1).trans rfl
    have HS := Lib.hid S
    clear S
    go_wp2_with fail
    rw [hn7.out]
    refine (dnum_any w X41 HS.out.bel A7 c7 s7 ok7 HD7.out).mono ?_
    rintro e w22 ⟨v8, A8, s8, c8, ok8, rfl, hb8, hD, hbel, rd8⟩
    obtain ⟨n8, hn8⟩ : ∃ m, Hid (m = s8.length) := ⟨_, rfl⟩
    rw [← hn8.out, ← hn7.out]
    have HD8 := Lib.hid hD
    have S := HS.out.next hbel
    clear HS hbel hD a0 a1
    clear HD7
    have b7 := Blk.new w22 #[.slice A8 n8 c8, .bool ok8] 99
    have S := S.next (bel_al (Below.refl _ _) (.cells #[.slice A8 n8 c8, .bool ok8] 99))
    have Hb7 := Lib.hid b7
    clear b7 k9
    have HS := Lib.hid S
    clear S
    go_upto_region 18 with fail
    generalize w22.alloc (.cells #[.slice A8 n8 c8, .bool ok8] 99) = X7 at *
    generalize w22.heap.size = g7 at *
    have S := HS.out
    clear HS
    have a0 : X7.cell? ⟨g1, 0, none⟩ = some (.slice A7 n7 c7) := (S.b1.cell 0).trans rfl
    have a1 : X7.cell? ⟨g1, 1, none⟩ = some (.bool ok7) := (S.b1.cell 1).trans rfl
    have fa0 := S.b1.frozen 0
    have fa1 := S.b1.frozen 1
    have q0 : X7.cell? ⟨g7, 0, none⟩ = some (.slice A8 n8 c8) := (Hb7.out.cell 0).trans rfl
    have q1 : X7.cell? ⟨g7, 1, none⟩ = some (.bool ok8) := (Hb7.out.cell 1).trans rfl
    have HS := Lib.hid S
    clear S
    go_upto_region 19 with fail
    have S : SSt w g1 gm ga gb A8 n8 c8 ok8 ⟨2, v1, v2, v3, floatOfInt FloatKind.f64 v4, floatOfInt FloatKind.f64 v5, v6, v7, OpD.zero, [], []⟩ ((X7.setCell ⟨g1, 0, none⟩ (.slice A8 n8 c8)).setCell ⟨g1, 1, none⟩ (.bool ok8)) := HS.out.setIn A8 n8 c8 ok8
    clear HS a0 a1 fa0 fa1 q0 q1 Hb7
    generalize (X7.setCell ⟨g1, 0, none⟩ (.slice A8 n8 c8)).setCell ⟨g1, 1, none⟩ (.bool ok8) = X43 at *
    have HCN := Lib.hid (dcnt_rel (p := (gentry dnum dtxt)) rd8)
    clear rd8
    obtain ⟨K, hK⟩ : ∃ K, Hid (K = min v8.toNat 49) := ⟨_, rfl⟩
    have hK1 : (K : Int) ≤ v8 ∧ K ≤ 49 := by have := hK.out; have := hb8.1; omega
    have hK2 : ∀ i : Nat, i < K → (i : Int) < v8 ∧ (i : Int) ≤ 48 := by have := hK.out; intro i hi; omega
    have hK3 : ¬ ((K : Int) < v8) ∨ ((K : Int) < v8 ∧ ¬ ((K : Int) ≤ 48)) := by have := hK.out; have := hb8.1; omega
    rw [← hK.out] at HCN
    have HS := Lib.hid S
    clear S
    have hb8c := Lib.hid hb8
    clear hb8
    go_upto_region 20 with fail
    go_loopw [11] (fun v wr => ∃ (i : Nat) (xs : List EntryD) (A : Option Addr) (s : List Int) (n c : Nat) (ok : Bool), v = .int .i64 i ∧ i ≤ K ∧ xs.length = i ∧ SSt w g1 gm ga gb A n c ok ⟨2, v1, v2, v3, floatOfInt FloatKind.f64 v4, floatOfInt FloatKind.f64 v5, v6, v7, OpD.zero, xs, []⟩ wr ∧ Hid (n = s.length) ∧ Hid (DS w A c s) ∧ Hid (∀ r st', Read (gmany (gentry dnum dtxt) (K - i)) (stOf ok s) r st' → Read (gcnt dnum dcnt (gentry dnum dtxt)) (stOf ok7 s7) (xs ++ r) st')) (fun v _ => K - (intOf v).toNat)
    case atStart => exact ⟨0, [], A8, s8, n8, c8, ok8, rfl, Nat.zero_le _, rfl, HS.out, hn8, HD8, HCN.out⟩
    case round =>
      clear HCN HS HD8 hn8
      obtain ⟨i, xs, A8, s8, n8, c8, ok8, rfl, hiK, hxl, S, hn8, HD8, HREL⟩ := hrel
      by_cases hlt : i < K
      · obtain ⟨j1, j2⟩ := hK2 i hlt
        cases ok8 with
        | false =>
          have a0 : wr.cell? ⟨g1, 0, none⟩ = some (.slice A8 n8 c8) := (S.b1.cell 0).trans rfl
          have a1 : wr.cell? ⟨g1, 1, none⟩ = some (.bool false) := (S.b1.cell 1).trans rfl
          have HX : Hid (Read (gcnt dnum dcnt (gentry dnum dtxt)) (stOf ok7 s7) xs (stOf false s8)) := by
            have := HREL.out [] (stOf false s8) (rfl)
            rwa [List.append_nil] at this
          clear HREL
          have RD : Hid (Read (gmsg dnum dtxt dcnt) (some l) ⟨2, v1, v2, v3, v4, v5, v6, v7, OpD.zero, xs, []⟩ (stOf false s8)) := HC.out (by unfold dmsgK; show Read _ _ _ _; rw [if_neg (by decide), if_pos rfl]; exact HX.out.bind (Read.ret _ _))
          have HS := Lib.hid S
          clear S
          go_upto_region 34 with fail
          have S := HS.out.next ((Drawn.refl wr).drew.below _)
          clear HS
          generalize hM : (⟨2, v1, v2, v3, floatOfInt FloatKind.f64 v4, floatOfInt FloatKind.f64 v5, v6, v7, OpD.zero, xs, []⟩ : MsgD) = M at S
          have HM := Lib.hid hM
          clear hM
          obtain ⟨s, ins, HI, E⟩ := S.last
          have hh := E.f0
          refine wp_region_held_drew (S := fun w' => w'.rangeAt gm 0 (M.cells s) ∧ w'.rangeAt g1 0 ins) (by kernel_rfl) hh (fun hHeld => ?_)
          generalize wr.drew = V9 at *
          clear S
          have HF := Lib.hid (SEnd.fin HI.out E hn8.out ⟨2, v1, v2, v3, v4, v5, v6, v7, OpD.zero, xs, []⟩ HM.out HD8.out RD.out ⟨HB4.out, HB5.out⟩)
          have f1 := E.f1
          have f2 := E.f2
          have t1 := E.t1
          have t2 := E.t2
          have hi2 := E.hi
          have ho2 := E.h1
          have HE := Lib.hid E
          clear E
          refine' wpAnyH_take (i := 0) (oi := { dst := some 150, op := Op.load 34 (Operand.tmp 5), type := 34, pos := "ref.go:242", after := #[], guard := none }) (v := .agg (M.cells s).toArray) rfl (by kernel_rfl) (by kernel_rfl) (by kernel_rfl) (fun _ _ _ h => h) (yieldsIf_load_mid (by kernel_rfl) _ _ rfl gm 0 rfl (M.cells s) _ (fun w hSw => hSw.1) Try.underlying34 rfl size_msg) hHeld ?_
          simp only [Act.put, List.setIfInBounds_toArray, List.set_cons_zero, List.set_cons_succ]
          refine' wpAnyH_take (i := 1) (oi := { dst := some 151, op := Op.load 99 (Operand.tmp 4), type := 99, pos := "ref.go:242", after := #[{ on := 2, ground := Ground.gcOnly Departure.lateStores }], guard := none }) (v := .agg ins.toArray) rfl (by kernel_rfl) (by kernel_rfl) (by kernel_rfl) (fun _ _ _ h => h) (yieldsIf_load_mid (by kernel_rfl) _ _ rfl g1 0 rfl ins _ (fun w hSw => hSw.2) Try.underlying99 rfl hi2) hHeld ?_
          simp only [Act.put, List.setIfInBounds_toArray, List.set_cons_zero, List.set_cons_succ]
          refine wpAnyH_ready (rs := [2]) (by kernel_rfl) (by simp) ?_
          refine AllReadyH.cons (o := { dst := none, op := Op.store 34 (Operand.tmp 2) (Operand.tmp 150), type := 0, pos := "ref.go:242", after := #[{ on := 0, ground := Ground.data }, { on := 0, ground := Ground.phase }, { on := 1, ground := Ground.textOnly Departure.lateStores }], guard := none }) rfl (fun K hK => ?_) AllReadyH.nil
          refine if_wanted rfl ?_
          refine wp_store_mid 34 (.tmp 2) (.tmp 150) rfl ga 0 (M.cells s).toArray rfl rfl t1 size_msg (msg_one M s) ?_
          refine hK.out _ _ f1 (fun hHeld => ?_)
          clear hK K
          try simp only [Act.put, List.setIfInBounds_toArray, List.set_cons_zero, List.set_cons_succ]
          refine wpAnyH_ready (rs := [3]) (by kernel_rfl) (by simp) ?_
          refine AllReadyH.cons (o := { dst := none, op := Op.store 99 (Operand.tmp 3) (Operand.tmp 151), type := 0, pos := "ref.go:242", after := #[{ on := 1, ground := Ground.data }, { on := 2, ground := Ground.chain }, { on := 0, ground := Ground.phase }, { on := 1, ground := Ground.phase }, { on := 2, ground := Ground.phase }], guard := none }) rfl (fun K hK => ?_) AllReadyH.nil
          refine if_wanted rfl ?_
          refine wp_store_mid 99 (.tmp 3) (.tmp 151) rfl gb 0 ins.toArray rfl rfl t2 hi2 ho2 ?_
          refine hK.out _ _ f2 (fun hHeld => ?_)
          clear hK K
          try simp only [Act.put, List.setIfInBounds_toArray, List.set_cons_zero, List.set_cons_succ]
          refine wpAnyH_done (by kernel_rfl) ?_ _
          clear f1 f2 t1 t2 hh hHeld hi2 ho2
          go_wp2_with fail
          exact HF.out _ (by rfl) (by rfl)
        | true =>
          have a0 : wr.cell? ⟨g1, 0, none⟩ = some (.slice A8 n8 c8) := (S.b1.cell 0).trans rfl
          have a1 : wr.cell? ⟨g1, 1, none⟩ = some (.bool true) := (S.b1.cell 1).trans rfl
          have HS := Lib.hid S
          clear S
          go_wp2_with fail
          rw [hn8.out]
          refine (dentry_any w wr HS.out.bel A8 c8 s8 true HD8.out).mono ?_
          rintro e w24 ⟨⟨⟨kd, kn⟩, ng, ⟨nid, nk, nm, nt⟩⟩, A9, s9, c9, ok9, he, _, hD, hbel, rd9⟩
          have he : e = .returned (.tuple #[.agg #[.int .i64 kd, .string kn, .bool ng, .int .i64 nid, .int .i64 nk, .int .i64 nm, .string nt], .agg #[.slice A9 s9.length c9, .bool ok9]]) := he
          subst he
          obtain ⟨n9, hn9⟩ : ∃ m, Hid (m = s9.length) := ⟨_, rfl⟩
          rw [← hn9.out, ← hn8.out]
          have HD9 := Lib.hid hD
          have S := HS.out.next hbel
          clear HS hbel hD a0 a1
          clear HD8
          have B := box3 47 w24 #[.int .i64 kd, .string kn, .bool ng, .int .i64 nid, .int .i64 nk, .int .i64 nm, .string nt] A9 n9 c9 ok9
          have S := S.next B.1
          have HBX := Lib.hid B
          clear B
          have HS := Lib.hid S
          clear S
          go_upto_region 23 with fail
          have S := HS.out
          have b12 : Blk ((w24.alloc (.cells #[.int .i64 kd, .string kn, .bool ng, .int .i64 nid, .int .i64 nk, .int .i64 nm, .string nt] 47)).alloc (.cells #[.slice A9 n9 c9, .bool ok9] 99)) w24.heap.size (EntryD.cells ⟨⟨kd, kn⟩, ng, ⟨nid, nk, nm, nt⟩⟩).toArray 47 := HBX.out.2.1
          have b13 := HBX.out.2.2
          clear HS HBX
          generalize (w24.alloc (.cells #[.int .i64 kd, .string kn, .bool ng, .int .i64 nid, .int .i64 nk, .int .i64 nm, .string nt] 47)).alloc (.cells #[.slice A9 n9 c9, .bool ok9] 99) = X45 at *
          generalize w24.heap.size + 1 = g13 at *
          generalize w24.heap.size = g12 at *
          have q0 : X45.cell? ⟨g13, 0, none⟩ = some (.slice A9 n9 c9) := (b13.cell 0).trans rfl
          have q1 : X45.cell? ⟨g13, 1, none⟩ = some (.bool ok9) := (b13.cell 1).trans rfl
          have hne : g12 ≠ g1 := by rintro rfl; exact absurd (blk_ty b12 S.b1) (by decide)
          have Hb12 := Lib.hid b12
          have Hne := Lib.hid hne
          clear b12 b13 hne
          have a0 : X45.cell? ⟨g1, 0, none⟩ = some (.slice A8 n8 c8) := (S.b1.cell 0).trans rfl
          have a1 : X45.cell? ⟨g1, 1, none⟩ = some (.bool true) := (S.b1.cell 1).trans rfl
          have fa0 := S.b1.frozen 0
          have fa1 := S.b1.frozen 1
          have HS := Lib.hid S
          clear S
          go_upto_region 24 with fail
          have S : SSt w g1 gm ga gb A9 n9 c9 ok9 ⟨2, v1, v2, v3, floatOfInt FloatKind.f64 v4, floatOfInt FloatKind.f64 v5, v6, v7, OpD.zero, xs, []⟩ ((X45.setCell ⟨g1, 0, none⟩ (.slice A9 n9 c9)).setCell ⟨g1, 1, none⟩ (.bool ok9)) := HS.out.setIn A9 n9 c9 ok9
          have b12 : Blk ((X45.setCell ⟨g1, 0, none⟩ (.slice A9 n9 c9)).setCell ⟨g1, 1, none⟩ (.bool ok9)) g12 (EntryD.cells ⟨⟨kd, kn⟩, ng, ⟨nid, nk, nm, nt⟩⟩).toArray 47 := Hb12.out.kp (S := fun k => k = g1) (Kp.setCells (S := fun k => k = g1) g1 rfl [.slice A9 n9 c9, .bool ok9] 0 _ (Kp.refl _ X45)) Hne.out
          clear HS Hb12 Hne a0 a1 fa0 fa1 q0 q1
          generalize (X45.setCell ⟨g1, 0, none⟩ (.slice A9 n9 c9)).setCell ⟨g1, 1, none⟩ (.bool ok9) = X46 at *
          have r12 : X46.rangeAt g12 0 [.int .i64 kd, .string kn, .bool ng, .int .i64 nid, .int .i64 nk, .int .i64 nm, .string nt] := range_blk b12
          have hl12 : ([.int .i64 kd, .string kn, .bool ng, .int .i64 nid, .int .i64 nk, .int .i64 nm, .string nt] : List Value).length = 7 := rfl
          obtain ⟨EA, ec, KA, kc, bm, o1, o2⟩ := S.ex
          obtain ⟨A2, c2, w', hr, ⟨v14, d14⟩, f14, HF⟩ := S.pushE ⟨⟨kd, kn⟩, ng, ⟨nid, nk, nm, nt⟩⟩ (by show xs.length < 50; omega) bm o1 o2
          have d10 : X46.cell? ⟨gm, 14, none⟩ = some (.slice EA xs.length ec) := (bm.cell 14).trans rfl
          simp only [EntryD.cells] at hr
          rw [hxl] at hr d10
          have HF2 : SSt w g1 gm ga gb A9 n9 c9 ok9 ⟨2, v1, v2, v3, floatOfInt FloatKind.f64 v4, floatOfInt FloatKind.f64 v5, v6, v7, OpD.zero, (xs ++ [⟨⟨kd, kn⟩, ng, ⟨nid, nk, nm, nt⟩⟩]), []⟩ (w'.setCell ⟨gm, 14, none⟩ (.slice A2 (xs.length + 1) c2)) := HF _ rfl
          rw [hxl] at HF2
          have HF3 := Lib.hid HF2
          clear HF HF2
          clear S bm o1 o2 b12
          go_wp2_with (first | ((with_reducible refine wpList_load_el rfl _ rfl g12 0 [.int .i64 kd, .string kn, .bool ng, .int .i64 nid, .int .i64 nk, .int .i64 nm, .string nt] ?_ hl12 r12 ?_); rfl) | (at_builtin; (with_reducible refine wpList_append_run rfl _ _ _ _ rfl _ _ _ ?_ ?_ hr ?_); rfl; rfl))
          go_roundw
          case rel => exact ⟨i + 1, xs ++ [⟨⟨kd, kn⟩, ng, ⟨nid, nk, nm, nt⟩⟩], A9, s9, n9, c9, ok9, by go_num, by omega, by rw [List.length_append, hxl]; rfl, HF3.out, hn9, HD9, fun r st' hr => by rw [List.append_assoc]; exact HREL.out (⟨⟨kd, kn⟩, ng, ⟨nid, nk, nm, nt⟩⟩ :: r) st' (by rw [show K - i = K - (i + 1) + 1 by omega, gmany]; exact rd9.bind (hr.bind (Read.ret _ _)))⟩
          case measure => simp [intOf]; omega
      · obtain rfl : i = K := by omega
        have a0 : wr.cell? ⟨g1, 0, none⟩ = some (.slice A8 n8 c8) := (S.b1.cell 0).trans rfl
        have a1 : wr.cell? ⟨g1, 1, none⟩ = some (.bool ok8) := (S.b1.cell 1).trans rfl
        have HX : Hid (Read (gcnt dnum dcnt (gentry dnum dtxt)) (stOf ok7 s7) xs (stOf ok8 s8)) := by
          have := HREL.out [] (stOf ok8 s8) (by rw [Nat.sub_self]; exact Read.ret _ _)
          rwa [List.append_nil] at this
        clear HREL
        rcases hK3 with j1 | ⟨j1, j2⟩
        · skip
          clear a0 a1
          have a0 : wr.cell? ⟨g1, 0, none⟩ = some (.slice A8 n8 c8) := (S.b1.cell 0).trans rfl
          have a1 : wr.cell? ⟨g1, 1, none⟩ = some (.bool ok8) := (S.b1.cell 1).trans rfl
          have RD : Hid (Read (gmsg dnum dtxt dcnt) (some l) ⟨2, v1, v2, v3, v4, v5, v6, v7, OpD.zero, xs, []⟩ (stOf ok8 s8)) := HC.out (by unfold dmsgK; show Read _ _ _ _; rw [if_neg (by decide), if_pos rfl]; exact HX.out.bind (Read.ret _ _))
          have HS := Lib.hid S
          clear S
          go_upto_region 34 with fail
          have S := HS.out.next ((Drawn.refl wr).drew.below _)
          clear HS
          generalize hM : (⟨2, v1, v2, v3, floatOfInt FloatKind.f64 v4, floatOfInt FloatKind.f64 v5, v6, v7, OpD.zero, xs, []⟩ : MsgD) = M at S
          have HM := Lib.hid hM
          clear hM
          obtain ⟨s, ins, HI, E⟩ := S.last
          have hh := E.f0
          refine wp_region_held_drew (S := fun w' => w'.rangeAt gm 0 (M.cells s) ∧ w'.rangeAt g1 0 ins) (by kernel_rfl) hh (fun hHeld => ?_)
          generalize wr.drew = V9 at *
          clear S
          have HF := Lib.hid (SEnd.fin HI.out E hn8.out ⟨2, v1, v2, v3, v4, v5, v6, v7, OpD.zero, xs, []⟩ HM.out HD8.out RD.out ⟨HB4.out, HB5.out⟩)
          have f1 := E.f1
          have f2 := E.f2
          have t1 := E.t1
          have t2 := E.t2
          have hi2 := E.hi
          have ho2 := E.h1
          have HE := Lib.hid E
          clear E
          refine' wpAnyH_take (i := 0) (oi := { dst := some 150, op := Op.load 34 (Operand.tmp 5), type := 34, pos := "ref.go:242", after := #[], guard := none }) (v := .agg (M.cells s).toArray) rfl (by kernel_rfl) (by kernel_rfl) (by kernel_rfl) (fun _ _ _ h => h) (yieldsIf_load_mid (by kernel_rfl) _ _ rfl gm 0 rfl (M.cells s) _ (fun w hSw => hSw.1) Try.underlying34 rfl size_msg) hHeld ?_
          simp only [Act.put, List.setIfInBounds_toArray, List.set_cons_zero, List.set_cons_succ]
          refine' wpAnyH_take (i := 1) (oi := { dst := some 151, op := Op.load 99 (Operand.tmp 4), type := 99, pos := "ref.go:242", after := #[{ on := 2, ground := Ground.gcOnly Departure.lateStores }], guard := none }) (v := .agg ins.toArray) rfl (by kernel_rfl) (by kernel_rfl) (by kernel_rfl) (fun _ _ _ h => h) (yieldsIf_load_mid (by kernel_rfl) _ _ rfl g1 0 rfl ins _ (fun w hSw => hSw.2) Try.underlying99 rfl hi2) hHeld ?_
          simp only [Act.put, List.setIfInBounds_toArray, List.set_cons_zero, List.set_cons_succ]
          refine wpAnyH_ready (rs := [2]) (by kernel_rfl) (by simp) ?_
          refine AllReadyH.cons (o := { dst := none, op := Op.store 34 (Operand.tmp 2) (Operand.tmp 150), type := 0, pos := "ref.go:242", after := #[{ on := 0, ground := Ground.data }, { on := 0, ground := Ground.phase }, { on := 1, ground := Ground.textOnly Departure.lateStores }], guard := none }) rfl (fun K hK => ?_) AllReadyH.nil
          refine if_wanted rfl ?_
          refine wp_store_mid 34 (.tmp 2) (.tmp 150) rfl ga 0 (M.cells s).toArray rfl rfl t1 size_msg (msg_one M s) ?_
          refine hK.out _ _ f1 (fun hHeld => ?_)
          clear hK K
          try simp only [Act.put, List.setIfInBounds_toArray, List.set_cons_zero, List.set_cons_succ]
          refine wpAnyH_ready (rs := [3]) (by kernel_rfl) (by simp) ?_
          refine AllReadyH.cons (o := { dst := none, op := Op.store 99 (Operand.tmp 3) (Operand.tmp 151), type := 0, pos := "ref.go:242", after := #[{ on := 1, ground := Ground.data }, { on := 2, ground := Ground.chain }, { on := 0, ground := Ground.phase }, { on := 1, ground := Ground.phase }, { on := 2, ground := Ground.phase }], guard := none }) rfl (fun K hK => ?_) AllReadyH.nil
          refine if_wanted rfl ?_
          refine wp_store_mid 99 (.tmp 3) (.tmp 151) rfl gb 0 ins.toArray rfl rfl t2 hi2 ho2 ?_
          refine hK.out _ _ f2 (fun hHeld => ?_)
          clear hK K
          try simp only [Act.put, List.setIfInBounds_toArray, List.set_cons_zero, List.set_cons_succ]
          refine wpAnyH_done (by kernel_rfl) ?_ _
          clear f1 f2 t1 t2 hh hHeld hi2 ho2
          go_wp2_with fail
          exact HF.out _ (by rfl) (by rfl)
        · skip
          clear a0 a1
          have a0 : wr.cell? ⟨g1, 0, none⟩ = some (.slice A8 n8 c8) := (S.b1.cell 0).trans rfl
          have a1 : wr.cell? ⟨g1, 1, none⟩ = some (.bool ok8) := (S.b1.cell 1).trans rfl
          have RD : Hid (Read (gmsg dnum dtxt dcnt) (some l) ⟨2, v1, v2, v3, v4, v5, v6, v7, OpD.zero, xs, []⟩ (stOf ok8 s8)) := HC.out (by unfold dmsgK; show Read _ _ _ _; rw [if_neg (by decide), if_pos rfl]; exact HX.out.bind (Read.ret _ _))
          have HS := Lib.hid S
          clear S
          go_upto_region 34 with fail
          have S := HS.out.next ((Drawn.refl wr).drew.below _)
          clear HS
          generalize hM : (⟨2, v1, v2, v3, floatOfInt FloatKind.f64 v4, floatOfInt FloatKind.f64 v5, v6, v7, OpD.zero, xs, []⟩ : MsgD) = M at S
          have HM := Lib.hid hM
          clear hM
          obtain ⟨s, ins, HI, E⟩ := S.last
          have hh := E.f0
          refine wp_region_held_drew (S := fun w' => w'.rangeAt gm 0 (M.cells s) ∧ w'.rangeAt g1 0 ins) (by kernel_rfl) hh (fun hHeld => ?_)
          generalize wr.drew = V9 at *
          clear S
          have HF := Lib.hid (SEnd.fin HI.out E hn8.out ⟨2, v1, v2, v3, v4, v5, v6, v7, OpD.zero, xs, []⟩ HM.out HD8.out RD.out ⟨HB4.out, HB5.out⟩)
          have f1 := E.f1
          have f2 := E.f2
          have t1 := E.t1
          have t2 := E.t2
          have hi2 := E.hi
          have ho2 := E.h1
          have HE := Lib.hid E
          clear E
          refine' wpAnyH_take (i := 0) (oi := { dst := some 150, op := Op.load 34 (Operand.tmp 5), type := 34, pos := "ref.go:242", after := #[], guard := none }) (v := .agg (M.cells s).toArray) rfl (by kernel_rfl) (by kernel_rfl) (by kernel_rfl) (fun _ _ _ h => h) (yieldsIf_load_mid (by kernel_rfl) _ _ rfl gm 0 rfl (M.cells s) _ (fun w hSw => hSw.1) Try.underlying34 rfl size_msg) hHeld ?_
          simp only [Act.put, List.setIfInBounds_toArray, List.set_cons_zero, List.set_cons_succ]
          refine' wpAnyH_take (i := 1) (oi := { dst := some 151, op := Op.load 99 (Operand.tmp 4), type := 99, pos := "ref.go:242", after := #[{ on := 2, ground := Ground.gcOnly Departure.lateStores }], guard := none }) (v := .agg ins.toArray) rfl (by kernel_rfl) (by kernel_rfl) (by kernel_rfl) (fun _ _ _ h => h) (yieldsIf_load_mid (by kernel_rfl) _ _ rfl g1 0 rfl ins _ (fun w hSw => hSw.2) Try.underlying99 rfl hi2) hHeld ?_
          simp only [Act.put, List.setIfInBounds_toArray, List.set_cons_zero, List.set_cons_succ]
          refine wpAnyH_ready (rs := [2]) (by kernel_rfl) (by simp) ?_
          refine AllReadyH.cons (o := { dst := none, op := Op.store 34 (Operand.tmp 2) (Operand.tmp 150), type := 0, pos := "ref.go:242", after := #[{ on := 0, ground := Ground.data }, { on := 0, ground := Ground.phase }, { on := 1, ground := Ground.textOnly Departure.lateStores }], guard := none }) rfl (fun K hK => ?_) AllReadyH.nil
          refine if_wanted rfl ?_
          refine wp_store_mid 34 (.tmp 2) (.tmp 150) rfl ga 0 (M.cells s).toArray rfl rfl t1 size_msg (msg_one M s) ?_
          refine hK.out _ _ f1 (fun hHeld => ?_)
          clear hK K
          try simp only [Act.put, List.setIfInBounds_toArray, List.set_cons_zero, List.set_cons_succ]
          refine wpAnyH_ready (rs := [3]) (by kernel_rfl) (by simp) ?_
          refine AllReadyH.cons (o := { dst := none, op := Op.store 99 (Operand.tmp 3) (Operand.tmp 151), type := 0, pos := "ref.go:242", after := #[{ on := 1, ground := Ground.data }, { on := 2, ground := Ground.chain }, { on := 0, ground := Ground.phase }, { on := 1, ground := Ground.phase }, { on := 2, ground := Ground.phase }], guard := none }) rfl (fun K hK => ?_) AllReadyH.nil
          refine if_wanted rfl ?_
          refine wp_store_mid 99 (.tmp 3) (.tmp 151) rfl gb 0 ins.toArray rfl rfl t2 hi2 ho2 ?_
          refine hK.out _ _ f2 (fun hHeld => ?_)
          clear hK K
          try simp only [Act.put, List.setIfInBounds_toArray, List.set_cons_zero, List.set_cons_succ]
          refine wpAnyH_done (by kernel_rfl) ?_ _
          clear f1 f2 t1 t2 hh hHeld hi2 ho2
          go_wp2_with fail
          exact HF.out _ (by rfl) (by rfl)
  by_cases h3 : v0 = 3
  · subst h3
    have a0 : X41.cell? ⟨g1, 0, none⟩ = some (.slice A7 n7 c7) := (S.b1.cell 0).trans rfl
    have a1 : X41.cell? ⟨g1, 1, none⟩ = some (.bool ok7) := (S.b1.cell 1).trans rfl
    have HS := Lib.hid S
    clear S
    go_wp2_with fail
    rw [hn7.out]
    refine (dnum_any w X41 HS.out.bel A7 c7 s7 ok7 HD7.out).mono ?_
    rintro e w22 ⟨v8, A8, s8, c8, ok8, rfl, hb8, hD, hbel, rd8⟩
    obtain ⟨n8, hn8⟩ : ∃ m, Hid (m = s8.length) := ⟨_, rfl⟩
    rw [← hn8.out, ← hn7.out]
    have HD8 := Lib.hid hD
    have S := HS.out.next hbel
    clear HS hbel hD a0 a1
    clear HD7
    have b7 := Blk.new w22 #[.slice A8 n8 c8, .bool ok8] 99
    have S := S.next (bel_al (Below.refl _ _) (.cells #[.slice A8 n8 c8, .bool ok8] 99))
    have Hb7 := Lib.hid b7
    clear b7 k9
    have HS := Lib.hid S
    clear S
    go_upto_region 27 with fail
    generalize w22.alloc (.cells #[.slice A8 n8 c8, .bool ok8] 99) = X7 at *
    generalize w22.heap.size = g7 at *
    have S := HS.out
    clear HS
    have a0 : X7.cell? ⟨g1, 0, none⟩ = some (.slice A7 n7 c7) := (S.b1.cell 0).trans rfl
    have a1 : X7.cell? ⟨g1, 1, none⟩ = some (.bool ok7) := (S.b1.cell 1).trans rfl
    have fa0 := S.b1.frozen 0
    have fa1 := S.b1.frozen 1
    have q0 : X7.cell? ⟨g7, 0, none⟩ = some (.slice A8 n8 c8) := (Hb7.out.cell 0).trans rfl
    have q1 : X7.cell? ⟨g7, 1, none⟩ = some (.bool ok8) := (Hb7.out.cell 1).trans rfl
    have HS := Lib.hid S
    clear S
    go_upto_region 28 with fail
    have S : SSt w g1 gm ga gb A8 n8 c8 ok8 ⟨3, v1, v2, v3, floatOfInt FloatKind.f64 v4, floatOfInt FloatKind.f64 v5, v6, v7, OpD.zero, [], []⟩ ((X7.setCell ⟨g1, 0, none⟩ (.slice A8 n8 c8)).setCell ⟨g1, 1, none⟩ (.bool ok8)) := HS.out.setIn A8 n8 c8 ok8
    clear HS a0 a1 fa0 fa1 q0 q1 Hb7
    generalize (X7.setCell ⟨g1, 0, none⟩ (.slice A8 n8 c8)).setCell ⟨g1, 1, none⟩ (.bool ok8) = X43 at *
    have HCN := Lib.hid (dcnt_rel (p := (gkey dnum dtxt)) rd8)
    clear rd8
    obtain ⟨K, hK⟩ : ∃ K, Hid (K = min v8.toNat 49) := ⟨_, rfl⟩
    have hK1 : (K : Int) ≤ v8 ∧ K ≤ 49 := by have := hK.out; have := hb8.1; omega
    have hK2 : ∀ i : Nat, i < K → (i : Int) < v8 ∧ (i : Int) ≤ 48 := by have := hK.out; intro i hi; omega
    have hK3 : ¬ ((K : Int) < v8) ∨ ((K : Int) < v8 ∧ ¬ ((K : Int) ≤ 48)) := by have := hK.out; have := hb8.1; omega
    rw [← hK.out] at HCN
    have HS := Lib.hid S
    clear S
    have hb8c := Lib.hid hb8
    clear hb8
    go_upto_region 29 with fail
    go_loopw [16] (fun v wr => ∃ (i : Nat) (xs : List KeyD) (A : Option Addr) (s : List Int) (n c : Nat) (ok : Bool), v = .int .i64 i ∧ i ≤ K ∧ xs.length = i ∧ SSt w g1 gm ga gb A n c ok ⟨3, v1, v2, v3, floatOfInt FloatKind.f64 v4, floatOfInt FloatKind.f64 v5, v6, v7, OpD.zero, [], xs⟩ wr ∧ Hid (n = s.length) ∧ Hid (DS w A c s) ∧ Hid (∀ r st', Read (gmany (gkey dnum dtxt) (K - i)) (stOf ok s) r st' → Read (gcnt dnum dcnt (gkey dnum dtxt)) (stOf ok7 s7) (xs ++ r) st')) (fun v _ => K - (intOf v).toNat)
    case atStart => exact ⟨0, [], A8, s8, n8, c8, ok8, rfl, Nat.zero_le _, rfl, HS.out, hn8, HD8, HCN.out⟩
    case round =>
      clear HCN HS HD8 hn8
      obtain ⟨i, xs, A8, s8, n8, c8, ok8, rfl, hiK, hxl, S, hn8, HD8, HREL⟩ := hrel
      by_cases hlt : i < K
      · obtain ⟨j1, j2⟩ := hK2 i hlt
        cases ok8 with
        | false =>
          have a0 : wr.cell? ⟨g1, 0, none⟩ = some (.slice A8 n8 c8) := (S.b1.cell 0).trans rfl
          have a1 : wr.cell? ⟨g1, 1, none⟩ = some (.bool false) := (S.b1.cell 1).trans rfl
          have HX : Hid (Read (gcnt dnum dcnt (gkey dnum dtxt)) (stOf ok7 s7) xs (stOf false s8)) := by
            have := HREL.out [] (stOf false s8) (rfl)
            rwa [List.append_nil] at this
          clear HREL
          have RD : Hid (Read (gmsg dnum dtxt dcnt) (some l) ⟨3, v1, v2, v3, v4, v5, v6, v7, OpD.zero, [], xs⟩ (stOf false s8)) := HC.out (by unfold dmsgK; show Read _ _ _ _; rw [if_neg (by decide), if_neg (by decide), if_pos rfl]; exact HX.out.bind (Read.ret _ _))
          have HS := Lib.hid S
          clear S
          go_upto_region 34 with fail
          have S := HS.out.next ((Drawn.refl wr).drew.below _)
          clear HS
          generalize hM : (⟨3, v1, v2, v3, floatOfInt FloatKind.f64 v4, floatOfInt FloatKind.f64 v5, v6, v7, OpD.zero, [], xs⟩ : MsgD) = M at S
          have HM := Lib.hid hM
          clear hM
          obtain ⟨s, ins, HI, E⟩ := S.last
          have hh := E.f0
          refine wp_region_held_drew (S := fun w' => w'.rangeAt gm 0 (M.cells s) ∧ w'.rangeAt g1 0 ins) (by kernel_rfl) hh (fun hHeld => ?_)
          generalize wr.drew = V9 at *
          clear S
          have HF := Lib.hid (SEnd.fin HI.out E hn8.out ⟨3, v1, v2, v3, v4, v5, v6, v7, OpD.zero, [], xs⟩ HM.out HD8.out RD.out ⟨HB4.out, HB5.out⟩)
          have f1 := E.f1
          have f2 := E.f2
          have t1 := E.t1
          have t2 := E.t2
          have hi2 := E.hi
          have ho2 := E.h1
          have HE := Lib.hid E
          clear E
          refine' wpAnyH_take (i := 0) (oi := { dst := some 150, op := Op.load 34 (Operand.tmp 5), type := 34, pos := "ref.go:242", after := #[], guard := none }) (v := .agg (M.cells s).toArray) rfl (by kernel_rfl) (by kernel_rfl) (by kernel_rfl) (fun _ _ _ h => h) (yieldsIf_load_mid (by kernel_rfl) _ _ rfl gm 0 rfl (M.cells s) _ (fun w hSw => hSw.1) Try.underlying34 rfl size_msg) hHeld ?_
          simp only [Act.put, List.setIfInBounds_toArray, List.set_cons_zero, List.set_cons_succ]
          refine' wpAnyH_take (i := 1) (oi := { dst := some 151, op := Op.load 99 (Operand.tmp 4), type := 99, pos := "ref.go:242", after := #[{ on := 2, ground := Ground.gcOnly Departure.lateStores }], guard := none }) (v := .agg ins.toArray) rfl (by kernel_rfl) (by kernel_rfl) (by kernel_rfl) (fun _ _ _ h => h) (yieldsIf_load_mid (by kernel_rfl) _ _ rfl g1 0 rfl ins _ (fun w hSw => hSw.2) Try.underlying99 rfl hi2) hHeld ?_
          simp only [Act.put, List.setIfInBounds_toArray, List.set_cons_zero, List.set_cons_succ]
          refine wpAnyH_ready (rs := [2]) (by kernel_rfl) (by simp) ?_
          refine AllReadyH.cons (o := { dst := none, op := Op.store 34 (Operand.tmp 2) (Operand.tmp 150), type := 0, pos := "ref.go:242", after := #[{ on := 0, ground := Ground.data }, { on := 0, ground := Ground.phase }, { on := 1, ground := Ground.textOnly Departure.lateStores }], guard := none }) rfl (fun K hK => ?_) AllReadyH.nil
          refine if_wanted rfl ?_
          refine wp_store_mid 34 (.tmp 2) (.tmp 150) rfl ga 0 (M.cells s).toArray rfl rfl t1 size_msg (msg_one M s) ?_
          refine hK.out _ _ f1 (fun hHeld => ?_)
          clear hK K
          try simp only [Act.put, List.setIfInBounds_toArray, List.set_cons_zero, List.set_cons_succ]
          refine wpAnyH_ready (rs := [3]) (by kernel_rfl) (by simp) ?_
          refine AllReadyH.cons (o := { dst := none, op := Op.store 99 (Operand.tmp 3) (Operand.tmp 151), type := 0, pos := "ref.go:242", after := #[{ on := 1, ground := Ground.data }, { on := 2, ground := Ground.chain }, { on := 0, ground := Ground.phase }, { on := 1, ground := Ground.phase }, { on := 2, ground := Ground.phase }], guard := none }) rfl (fun K hK => ?_) AllReadyH.nil
          refine if_wanted rfl ?_
          refine wp_store_mid 99 (.tmp 3) (.tmp 151) rfl gb 0 ins.toArray rfl rfl t2 hi2 ho2 ?_
          refine hK.out _ _ f2 (fun hHeld => ?_)
          clear hK K
          try simp only [Act.put, List.setIfInBounds_toArray, List.set_cons_zero, List.set_cons_succ]
          refine wpAnyH_done (by kernel_rfl) ?_ _
          clear f1 f2 t1 t2 hh hHeld hi2 ho2
          go_wp2_with fail
          exact HF.out _ (by rfl) (by rfl)
        | true =>
          have a0 : wr.cell? ⟨g1, 0, none⟩ = some (.slice A8 n8 c8) := (S.b1.cell 0).trans rfl
          have a1 : wr.cell? ⟨g1, 1, none⟩ = some (.bool true) := (S.b1.cell 1).trans rfl
          have HS := Lib.hid S
          clear S
          go_wp2_with fail
          rw [hn8.out]
          refine (dkey_any w wr HS.out.bel A8 c8 s8 true HD8.out).mono ?_
          rintro e w24 ⟨⟨kd, kn⟩, A9, s9, c9, ok9, he, _, hD, hbel, rd9⟩
          have he : e = .returned (.tuple #[.agg #[.int .i64 kd, .string kn], .agg #[.slice A9 s9.length c9, .bool ok9]]) := he
          subst he
          obtain ⟨n9, hn9⟩ : ∃ m, Hid (m = s9.length) := ⟨_, rfl⟩
          rw [← hn9.out, ← hn8.out]
          have HD9 := Lib.hid hD
          have S := HS.out.next hbel
          clear HS hbel hD a0 a1
          clear HD8
          have B := box3 43 w24 #[.int .i64 kd, .string kn] A9 n9 c9 ok9
          have S := S.next B.1
          have HBX := Lib.hid B
          clear B
          have HS := Lib.hid S
          clear S
          go_upto_region 32 with fail
          have S := HS.out
          have b12 : Blk ((w24.alloc (.cells #[.int .i64 kd, .string kn] 43)).alloc (.cells #[.slice A9 n9 c9, .bool ok9] 99)) w24.heap.size (KeyD.cells ⟨kd, kn⟩).toArray 43 := HBX.out.2.1
          have b13 := HBX.out.2.2
          clear HS HBX
          generalize (w24.alloc (.cells #[.int .i64 kd, .string kn] 43)).alloc (.cells #[.slice A9 n9 c9, .bool ok9] 99) = X45 at *
          generalize w24.heap.size + 1 = g13 at *
          generalize w24.heap.size = g12 at *
          have q0 : X45.cell? ⟨g13, 0, none⟩ = some (.slice A9 n9 c9) := (b13.cell 0).trans rfl
          have q1 : X45.cell? ⟨g13, 1, none⟩ = some (.bool ok9) := (b13.cell 1).trans rfl
          have hne : g12 ≠ g1 := by rintro rfl; exact absurd (blk_ty b12 S.b1) (by decide)
          have Hb12 := Lib.hid b12
          have Hne := Lib.hid hne
          clear b12 b13 hne
          have a0 : X45.cell? ⟨g1, 0, none⟩ = some (.slice A8 n8 c8) := (S.b1.cell 0).trans rfl
          have a1 : X45.cell? ⟨g1, 1, none⟩ = some (.bool true) := (S.b1.cell 1).trans rfl
          have fa0 := S.b1.frozen 0
          have fa1 := S.b1.frozen 1
          have HS := Lib.hid S
          clear S
          go_upto_region 33 with fail
          have S : SSt w g1 gm ga gb A9 n9 c9 ok9 ⟨3, v1, v2, v3, floatOfInt FloatKind.f64 v4, floatOfInt FloatKind.f64 v5, v6, v7, OpD.zero, [], xs⟩ ((X45.setCell ⟨g1, 0, none⟩ (.slice A9 n9 c9)).setCell ⟨g1, 1, none⟩ (.bool ok9)) := HS.out.setIn A9 n9 c9 ok9
          have b12 : Blk ((X45.setCell ⟨g1, 0, none⟩ (.slice A9 n9 c9)).setCell ⟨g1, 1, none⟩ (.bool ok9)) g12 (KeyD.cells ⟨kd, kn⟩).toArray 43 := Hb12.out.kp (S := fun k => k = g1) (Kp.setCells (S := fun k => k = g1) g1 rfl [.slice A9 n9 c9, .bool ok9] 0 _ (Kp.refl _ X45)) Hne.out
          clear HS Hb12 Hne a0 a1 fa0 fa1 q0 q1
          generalize (X45.setCell ⟨g1, 0, none⟩ (.slice A9 n9 c9)).setCell ⟨g1, 1, none⟩ (.bool ok9) = X46 at *
          have r12 : X46.rangeAt g12 0 [.int .i64 kd, .string kn] := range_blk b12
          have hl12 : ([.int .i64 kd, .string kn] : List Value).length = 2 := rfl
          obtain ⟨EA, ec, KA, kc, bm, o1, o2⟩ := S.ex
          obtain ⟨A2, c2, w', hr, ⟨v14, d14⟩, f14, HF⟩ := S.pushK ⟨kd, kn⟩ (by show xs.length < 50; omega) bm o1 o2
          have d10 : X46.cell? ⟨gm, 15, none⟩ = some (.slice KA xs.length kc) := (bm.cell 15).trans rfl
          simp only [KeyD.cells] at hr
          rw [hxl] at hr d10
          have HF2 : SSt w g1 gm ga gb A9 n9 c9 ok9 ⟨3, v1, v2, v3, floatOfInt FloatKind.f64 v4, floatOfInt FloatKind.f64 v5, v6, v7, OpD.zero, [], (xs ++ [⟨kd, kn⟩])⟩ (w'.setCell ⟨gm, 15, none⟩ (.slice A2 (xs.length + 1) c2)) := HF _ rfl
          rw [hxl] at HF2
          have HF3 := Lib.hid HF2
          clear HF HF2
          clear S bm o1 o2 b12
          go_wp2_with (first | ((with_reducible refine wpList_load_kl rfl _ rfl g12 0 [.int .i64 kd, .string kn] ?_ hl12 r12 ?_); rfl) | (at_builtin; (with_reducible refine wpList_append_run rfl _ _ _ _ rfl _ _ _ ?_ ?_ hr ?_); rfl; rfl))
          go_roundw
          case rel => exact ⟨i + 1, xs ++ [⟨kd, kn⟩], A9, s9, n9, c9, ok9, by go_num, by omega, by rw [List.length_append, hxl]; rfl, HF3.out, hn9, HD9, fun r st' hr => by rw [List.append_assoc]; exact HREL.out (⟨kd, kn⟩ :: r) st' (by rw [show K - i = K - (i + 1) + 1 by omega, gmany]; exact rd9.bind (hr.bind (Read.ret _ _)))⟩
          case measure => simp [intOf]; omega
      · obtain rfl : i = K := by omega
        have a0 : wr.cell? ⟨g1, 0, none⟩ = some (.slice A8 n8 c8) := (S.b1.cell 0).trans rfl
        have a1 : wr.cell? ⟨g1, 1, none⟩ = some (.bool ok8) := (S.b1.cell 1).trans rfl
        have HX : Hid (Read (gcnt dnum dcnt (gkey dnum dtxt)) (stOf ok7 s7) xs (stOf ok8 s8)) := by
          have := HREL.out [] (stOf ok8 s8) (by rw [Nat.sub_self]; exact Read.ret _ _)
          rwa [List.append_nil] at this
        clear HREL
        rcases hK3 with j1 | ⟨j1, j2⟩
        · skip
          clear a0 a1
          have a0 : wr.cell? ⟨g1, 0, none⟩ = some (.slice A8 n8 c8) := (S.b1.cell 0).trans rfl
          have a1 : wr.cell? ⟨g1, 1, none⟩ = some (.bool ok8) := (S.b1.cell 1).trans rfl
          have RD : Hid (Read (gmsg dnum dtxt dcnt) (some l) ⟨3, v1, v2, v3, v4, v5, v6, v7, OpD.zero, [], xs⟩ (stOf ok8 s8)) := HC.out (by unfold dmsgK; show Read _ _ _ _; rw [if_neg (by decide), if_neg (by decide), if_pos rfl]; exact HX.out.bind (Read.ret _ _))
          have HS := Lib.hid S
          clear S
          go_upto_region 34 with fail
          have S := HS.out.next ((Drawn.refl wr).drew.below _)
          clear HS
          generalize hM : (⟨3, v1, v2, v3, floatOfInt FloatKind.f64 v4, floatOfInt FloatKind.f64 v5, v6, v7, OpD.zero, [], xs⟩ : MsgD) = M at S
          have HM := Lib.hid hM
          clear hM
          obtain ⟨s, ins, HI, E⟩ := S.last
          have hh := E.f0
          refine wp_region_held_drew (S := fun w' => w'.rangeAt gm 0 (M.cells s) ∧ w'.rangeAt g1 0 ins) (by kernel_rfl) hh (fun hHeld => ?_)
          generalize wr.drew = V9 at *
          clear S
          have HF := Lib.hid (SEnd.fin HI.out E hn8.out ⟨3, v1, v2, v3, v4, v5, v6, v7, OpD.zero, [], xs⟩ HM.out HD8.out RD.out ⟨HB4.out, HB5.out⟩)
          have f1 := E.f1
          have f2 := E.f2
          have t1 := E.t1
          have t2 := E.t2
          have hi2 := E.hi
          have ho2 := E.h1
          have HE := Lib.hid E
          clear E
          refine' wpAnyH_take (i := 0) (oi := { dst := some 150, op := Op.load 34 (Operand.tmp 5), type := 34, pos := "ref.go:242", after := #[], guard := none }) (v := .agg (M.cells s).toArray) rfl (by kernel_rfl) (by kernel_rfl) (by kernel_rfl) (fun _ _ _ h => h) (yieldsIf_load_mid (by kernel_rfl) _ _ rfl gm 0 rfl (M.cells s) _ (fun w hSw => hSw.1) Try.underlying34 rfl size_msg) hHeld ?_
          simp only [Act.put, List.setIfInBounds_toArray, List.set_cons_zero, List.set_cons_succ]
          refine' wpAnyH_take (i := 1) (oi := { dst := some 151, op := Op.load 99 (Operand.tmp 4), type := 99, pos := "ref.go:242", after := #[{ on := 2, ground := Ground.gcOnly Departure.lateStores }], guard := none }) (v := .agg ins.toArray) rfl (by kernel_rfl) (by kernel_rfl) (by kernel_rfl) (fun _ _ _ h => h) (yieldsIf_load_mid (by kernel_rfl) _ _ rfl g1 0 rfl ins _ (fun w hSw => hSw.2) Try.underlying99 rfl hi2) hHeld ?_
          simp only [Act.put, List.setIfInBounds_toArray, List.set_cons_zero, List.set_cons_succ]
          refine wpAnyH_ready (rs := [2]) (by kernel_rfl) (by simp) ?_
          refine AllReadyH.cons (o := { dst := none, op := Op.store 34 (Operand.tmp 2) (Operand.tmp 150), type := 0, pos := "ref.go:242", after := #[{ on := 0, ground := Ground.data }, { on := 0, ground := Ground.phase }, { on := 1, ground := Ground.textOnly Departure.lateStores }], guard := none }) rfl (fun K hK => ?_) AllReadyH.nil
          refine if_wanted rfl ?_
          refine wp_store_mid 34 (.tmp 2) (.tmp 150) rfl ga 0 (M.cells s).toArray rfl rfl t1 size_msg (msg_one M s) ?_
          refine hK.out _ _ f1 (fun hHeld => ?_)
          clear hK K
          try simp only [Act.put, List.setIfInBounds_toArray, List.set_cons_zero, List.set_cons_succ]
          refine wpAnyH_ready (rs := [3]) (by kernel_rfl) (by simp) ?_
          refine AllReadyH.cons (o := { dst := none, op := Op.store 99 (Operand.tmp 3) (Operand.tmp 151), type := 0, pos := "ref.go:242", after := #[{ on := 1, ground := Ground.data }, { on := 2, ground := Ground.chain }, { on := 0, ground := Ground.phase }, { on := 1, ground := Ground.phase }, { on := 2, ground := Ground.phase }], guard := none }) rfl (fun K hK => ?_) AllReadyH.nil
          refine if_wanted rfl ?_
          refine wp_store_mid 99 (.tmp 3) (.tmp 151) rfl gb 0 ins.toArray rfl rfl t2 hi2 ho2 ?_
          refine hK.out _ _ f2 (fun hHeld => ?_)
          clear hK K
          try simp only [Act.put, List.setIfInBounds_toArray, List.set_cons_zero, List.set_cons_succ]
          refine wpAnyH_done (by kernel_rfl) ?_ _
          clear f1 f2 t1 t2 hh hHeld hi2 ho2
          go_wp2_with fail
          exact HF.out _ (by rfl) (by rfl)
        · skip
          clear a0 a1
          have a0 : wr.cell? ⟨g1, 0, none⟩ = some (.slice A8 n8 c8) := (S.b1.cell 0).trans rfl
          have a1 : wr.cell? ⟨g1, 1, none⟩ = some (.bool ok8) := (S.b1.cell 1).trans rfl
          have RD : Hid (Read (gmsg dnum dtxt dcnt) (some l) ⟨3, v1, v2, v3, v4, v5, v6, v7, OpD.zero, [], xs⟩ (stOf ok8 s8)) := HC.out (by unfold dmsgK; show Read _ _ _ _; rw [if_neg (by decide), if_neg (by decide), if_pos rfl]; exact HX.out.bind (Read.ret _ _))
          have HS := Lib.hid S
          clear S
          go_upto_region 34 with fail
          have S := HS.out.next ((Drawn.refl wr).drew.below _)
          clear HS
          generalize hM : (⟨3, v1, v2, v3, floatOfInt FloatKind.f64 v4, floatOfInt FloatKind.f64 v5, v6, v7, OpD.zero, [], xs⟩ : MsgD) = M at S
          have HM := Lib.hid hM
          clear hM
          obtain ⟨s, ins, HI, E⟩ := S.last
          have hh := E.f0
          refine wp_region_held_drew (S := fun w' => w'.rangeAt gm 0 (M.cells s) ∧ w'.rangeAt g1 0 ins) (by kernel_rfl) hh (fun hHeld => ?_)
          generalize wr.drew = V9 at *
          clear S
          have HF := Lib.hid (SEnd.fin HI.out E hn8.out ⟨3, v1, v2, v3, v4, v5, v6, v7, OpD.zero, [], xs⟩ HM.out HD8.out RD.out ⟨HB4.out, HB5.out⟩)
          have f1 := E.f1
          have f2 := E.f2
          have t1 := E.t1
          have t2 := E.t2
          have hi2 := E.hi
          have ho2 := E.h1
          have HE := Lib.hid E
          clear E
          refine' wpAnyH_take (i := 0) (oi := { dst := some 150, op := Op.load 34 (Operand.tmp 5), type := 34, pos := "ref.go:242", after := #[], guard := none }) (v := .agg (M.cells s).toArray) rfl (by kernel_rfl) (by kernel_rfl) (by kernel_rfl) (fun _ _ _ h => h) (yieldsIf_load_mid (by kernel_rfl) _ _ rfl gm 0 rfl (M.cells s) _ (fun w hSw => hSw.1) Try.underlying34 rfl size_msg) hHeld ?_
          simp only [Act.put, List.setIfInBounds_toArray, List.set_cons_zero, List.set_cons_succ]
          refine' wpAnyH_take (i := 1) (oi := { dst := some 151, op := Op.load 99 (Operand.tmp 4), type := 99, pos := "ref.go:242", after := #[{ on := 2, ground := Ground.gcOnly Departure.lateStores }], guard := none }) (v := .agg ins.toArray) rfl (by kernel_rfl) (by kernel_rfl) (by kernel_rfl) (fun _ _ _ h => h) (yieldsIf_load_mid (by kernel_rfl) _ _ rfl g1 0 rfl ins _ (fun w hSw => hSw.2) Try.underlying99 rfl hi2) hHeld ?_
          simp only [Act.put, List.setIfInBounds_toArray, List.set_cons_zero, List.set_cons_succ]
          refine wpAnyH_ready (rs := [2]) (by kernel_rfl) (by simp) ?_
          refine AllReadyH.cons (o := { dst := none, op := Op.store 34 (Operand.tmp 2) (Operand.tmp 150), type := 0, pos := "ref.go:242", after := #[{ on := 0, ground := Ground.data }, { on := 0, ground := Ground.phase }, { on := 1, ground := Ground.textOnly Departure.lateStores }], guard := none }) rfl (fun K hK => ?_) AllReadyH.nil
          refine if_wanted rfl ?_
          refine wp_store_mid 34 (.tmp 2) (.tmp 150) rfl ga 0 (M.cells s).toArray rfl rfl t1 size_msg (msg_one M s) ?_
          refine hK.out _ _ f1 (fun hHeld => ?_)
          clear hK K
          try simp only [Act.put, List.setIfInBounds_toArray, List.set_cons_zero, List.set_cons_succ]
          refine wpAnyH_ready (rs := [3]) (by kernel_rfl) (by simp) ?_
          refine AllReadyH.cons (o := { dst := none, op := Op.store 99 (Operand.tmp 3) (Operand.tmp 151), type := 0, pos := "ref.go:242", after := #[{ on := 1, ground := Ground.data }, { on := 2, ground := Ground.chain }, { on := 0, ground := Ground.phase }, { on := 1, ground := Ground.phase }, { on := 2, ground := Ground.phase }], guard := none }) rfl (fun K hK => ?_) AllReadyH.nil
          refine if_wanted rfl ?_
          refine wp_store_mid 99 (.tmp 3) (.tmp 151) rfl gb 0 ins.toArray rfl rfl t2 hi2 ho2 ?_
          refine hK.out _ _ f2 (fun hHeld => ?_)
          clear hK K
          try simp only [Act.put, List.setIfInBounds_toArray, List.set_cons_zero, List.set_cons_succ]
          refine wpAnyH_done (by kernel_rfl) ?_ _
          clear f1 f2 t1 t2 hh hHeld hi2 ho2
          go_wp2_with fail
          exact HF.out _ (by rfl) (by rfl)
  have RD : Hid (Read (gmsg dnum dtxt dcnt) (some l) ⟨v0, v1, v2, v3, v4, v5, v6, v7, OpD.zero, [], []⟩ (stOf ok7 s7)) := HC.out (by unfold dmsgK; rw [if_neg h1, if_neg h2, if_neg h3]; exact Read.ret _ _)
  have HS := Lib.hid S
  clear S
  go_upto_region 34 with fail
  have S := HS.out.next ((Drawn.refl X41).drew.below _)
  clear HS
  generalize hM : (⟨v0, v1, v2, v3, floatOfInt FloatKind.f64 v4, floatOfInt FloatKind.f64 v5, v6, v7, OpD.zero, [], []⟩ : MsgD) = M at S
  have HM := Lib.hid hM
  clear hM
  obtain ⟨s, ins, HI, E⟩ := S.last
  have hh := E.f0
  refine wp_region_held_drew (S := fun w' => w'.rangeAt gm 0 (M.cells s) ∧ w'.rangeAt g1 0 ins) (by kernel_rfl) hh (fun hHeld => ?_)
  generalize X41.drew = V9 at *
  clear S
  have HF := Lib.hid (SEnd.fin HI.out E hn7.out ⟨v0, v1, v2, v3, v4, v5, v6, v7, OpD.zero, [], []⟩ HM.out HD7.out RD.out ⟨HB4.out, HB5.out⟩)
  have f1 := E.f1
  have f2 := E.f2
  have t1 := E.t1
  have t2 := E.t2
  have hi2 := E.hi
  have ho2 := E.h1
  have HE := Lib.hid E
  clear E
  refine' wpAnyH_take (i := 0) (oi := { dst := some 150, op := Op.load 34 (Operand.tmp 5), type := 34, pos := "ref.go:242", after := #[], guard := none }) (v := .agg (M.cells s).toArray) rfl (by kernel_rfl) (by kernel_rfl) (by kernel_rfl) (fun _ _ _ h => h) (yieldsIf_load_mid (by kernel_rfl) _ _ rfl gm 0 rfl (M.cells s) _ (fun w hSw => hSw.1) Try.underlying34 rfl size_msg) hHeld ?_
  simp only [Act.put, List.setIfInBounds_toArray, List.set_cons_zero, List.set_cons_succ]
  refine' wpAnyH_take (i := 1) (oi := { dst := some 151, op := Op.load 99 (Operand.tmp 4), type := 99, pos := "ref.go:242", after := #[{ on := 2, ground := Ground.gcOnly Departure.lateStores }], guard := none }) (v := .agg ins.toArray) rfl (by kernel_rfl) (by kernel_rfl) (by kernel_rfl) (fun _ _ _ h => h) (yieldsIf_load_mid (by kernel_rfl) _ _ rfl g1 0 rfl ins _ (fun w hSw => hSw.2) Try.underlying99 rfl hi2) hHeld ?_
  simp only [Act.put, List.setIfInBounds_toArray, List.set_cons_zero, List.set_cons_succ]
  refine wpAnyH_ready (rs := [2]) (by kernel_rfl) (by simp) ?_
  refine AllReadyH.cons (o := { dst := none, op := Op.store 34 (Operand.tmp 2) (Operand.tmp 150), type := 0, pos := "ref.go:242", after := #[{ on := 0, ground := Ground.data }, { on := 0, ground := Ground.phase }, { on := 1, ground := Ground.textOnly Departure.lateStores }], guard := none }) rfl (fun K hK => ?_) AllReadyH.nil
  refine if_wanted rfl ?_
  refine wp_store_mid 34 (.tmp 2) (.tmp 150) rfl ga 0 (M.cells s).toArray rfl rfl t1 size_msg (msg_one M s) ?_
  refine hK.out _ _ f1 (fun hHeld => ?_)
  clear hK K
  try simp only [Act.put, List.setIfInBounds_toArray, List.set_cons_zero, List.set_cons_succ]
  refine wpAnyH_ready (rs := [3]) (by kernel_rfl) (by simp) ?_
  refine AllReadyH.cons (o := { dst := none, op := Op.store 99 (Operand.tmp 3) (Operand.tmp 151), type := 0, pos := "ref.go:242", after := #[{ on := 1, ground := Ground.data }, { on := 2, ground := Ground.chain }, { on := 0, ground := Ground.phase }, { on := 1, ground := Ground.phase }, { on := 2, ground := Ground.phase }], guard := none }) rfl (fun K hK => ?_) AllReadyH.nil
  refine if_wanted rfl ?_
  refine wp_store_mid 99 (.tmp 3) (.tmp 151) rfl gb 0 ins.toArray rfl rfl t2 hi2 ho2 ?_
  refine hK.out _ _ f2 (fun hHeld => ?_)
  clear hK K
  try simp only [Act.put, List.setIfInBounds_toArray, List.set_cons_zero, List.set_cons_succ]
  refine wpAnyH_done (by kernel_rfl) ?_ _
  clear f1 f2 t1 t2 hh hHeld hi2 ho2
  go_wp2_with fail
  exact HF.out _ (by rfl) (by rfl)

end Go.Proofs.Ytmhcjkiaogimgaa
