/- reader.message. -/
import Derived.Test.YtmhcjkiaogimgaaRdI
import Derived.Deep.Cut
import Derived.Deep.RegionHeld3
namespace Go.Proofs.Ytmhcjkiaogimgaa
open Go.RowKit

set_option maxHeartbeats 400000 in
theorem at_yes {e n : Int} (he : 0 ≤ e) (he' : e ≤ 1099511627776) (hn : 0 ≤ n) (hn' : n ≤ 1099511627776) (w : World) :
    Calls Try.prog 77 #[.int .i64 e, .int .i64 n] w fun r w' => r = .returned (.tuple #[.complex .f64 (FloatKind.f64.nearest e) (FloatKind.f64.nearest n), .int .i64 0]) ∧ w = w' := by
  rcases Int.lt_trichotomy e n with h | rfl | h
  all_goals
    go_enter Try.func77, Try.ntmps77
    go_wp2_with fail
    go_ret2
    exact ⟨rfl, rfl⟩

theorem run_store_c (w : World) (g i : Nat) (dv v : Value) (hd : w.cell? ⟨g, i, none⟩ = some dv) (hf : w.frozen? ⟨g, i, none⟩ = false) (h1 : v.oneCell' = true) : (store ⟨g, i, none⟩ v).run Try.prog w = .ok () (w.setCell ⟨g, i, none⟩ v) := by
  rw [run_store _ _ _ _ _ h1, hd]
  simp [hf]
def NSL : Sls := ⟨none, 0, none, 0⟩
def MsgD.new (a b c d : Int) : MsgD := ⟨a, b, c, d, 0, 0, 0, 0, OpD.zero, [], []⟩
theorem zero_msg : ((MsgD.new 0 0 0 0).cells NSL).toArray = ZERO.toArray := rfl
theorem build4m (a b c d : Int) (w : World) : (Instr.build 34 #[(0, .int .i64 a), (1, .int .i64 b), (2, .int .i64 c), (3, .int .i64 d)]).run Try.prog w = .ok (.agg ((MsgD.new a b c d).cells NSL).toArray) w := by
  go_simp; rfl
/-- Reading, with the reader's address in block gr. -/
structure PSt (w0 : World) (q : Nat) (A : Option Addr) (c : Nat) (l : List Int) (gr : Nat) (st : Option (List Int)) (w : World) : Prop where
  rg : RG w0 q A c l st w
  gr0 : w0.heap.size ≤ gr
  rb : Blk w gr #[.pointer (some ⟨q, 0, none⟩)] 95
theorem PSt.next {w0 w w' : World} {q c gr : Nat} {A : Option Addr} {l : List Int} {st st' : Option (List Int)} (h : PSt w0 q A c l gr st w) (hk : Kp (fun k => k = q) w w') (hr : RSt w' q A c l st') : PSt w0 q A c l gr st' w' :=
  ⟨h.rg.next hk hr, h.gr0, h.rb.kp hk (by have := h.rg.lt; have := h.gr0; omega)⟩
theorem PSt.cell {w0 w : World} {q c gr : Nat} {A : Option Addr} {l : List Int} {st : Option (List Int)} (h : PSt w0 q A c l gr st w) : w.cell? ⟨gr, 0, none⟩ = some (.pointer (some ⟨q, 0, none⟩)) := by rw [h.rb.cell]; rfl
theorem MSt.cell {w0 w : World} {q c gm gr : Nat} {A : Option Addr} {l : List Int} {m : MsgD} {st : Option (List Int)} (h : MSt w0 q A c l gm gr m st w) : w.cell? ⟨gr, 0, none⟩ = some (.pointer (some ⟨q, 0, none⟩)) := by rw [h.rb.cell]; rfl
theorem PSt.fresh {w0 w : World} {q c gr : Nat} {A : Option Addr} {l : List Int} {st : Option (List Int)} (h : PSt w0 q A c l gr st w) : ∀ V, V = w.alloc (.cells #[.int .i64 0, .int .i64 0, .int .i64 0, .int .i64 0, .complex .f64 0 0, .int .i64 0, .int .i64 0, .int .i64 0, .int .i64 0, .string ⟨#[]⟩, .int .i64 0, .string ⟨#[]⟩, .int .i64 0, .string ⟨#[]⟩, .slice none 0 0, .slice none 0 0] 34) → MSt w0 q A c l w.heap.size gr (MsgD.new 0 0 0 0) st V := by
  rintro V rfl
  have hb : Below w.heap.size w (w.alloc (.cells #[.int .i64 0, .int .i64 0, .int .i64 0, .int .i64 0, .complex .f64 0 0, .int .i64 0, .int .i64 0, .int .i64 0, .int .i64 0, .string ⟨#[]⟩, .int .i64 0, .string ⟨#[]⟩, .int .i64 0, .string ⟨#[]⟩, .slice none 0 0, .slice none 0 0] 34)) := bel_al (Below.refl _ _) _
  exact ⟨h.rg.al _, h.rg.kp.size, h.gr0, by have := h.rb.lt; omega, h.rb.kp (S := fun _ => False) (Kp.of_below hb) (fun h => h), none, 0, none, 0, Blk.new w ZERO.toArray _, own_none _ _ _ _, own_none _ _ _ _⟩
/-- Cells of the message are stored. -/
theorem MSt.setS {w0 w : World} {q c gm gr : Nat} {A : Option Addr} {l : List Int} {m m' : MsgD} {st : Option (List Int)} (h : MSt w0 q A c l gm gr m st w) (o : Nat) (vs : List Value) (hes : m'.entries = m.entries) (hks : m'.keys = m.keys) (hc : ∀ s, setMany (m.cells s).toArray o vs = (m'.cells s).toArray) :
    MSt w0 q A c l gm gr m' st (w.setCells gm o vs) := by
  have hk : Kp (fun k => k = gm) w (w.setCells gm o vs) := Kp.setCells (S := fun k => k = gm) _ rfl _ _ _ (Kp.refl _ _)
  obtain ⟨EA, ec, KA, kc, b, o1, o2⟩ := h.ex
  have hb := b.setCells vs o
  rw [hc] at hb
  refine ⟨h.rg.sets h.gm0 o vs, h.gm0, h.gr0, h.ne, h.rb.kp hk (fun e => h.ne e.symm), EA, ec, KA, kc, hb, ?_, ?_⟩
  · rw [hes]
    exact own_kp o1 hk (fun k hk' e => by
      obtain ⟨cs, hc'⟩ := own_blk o1 k hk'
      rw [e] at hc'
      exact absurd (blk_ty b hc') (by decide))
  · rw [hks]
    exact own_kp o2 hk (fun k hk' e => by
      obtain ⟨cs, hc'⟩ := own_blk o2 k hk'
      rw [e] at hc'
      exact absurd (blk_ty b hc') (by decide))
/-- The whole of it, while it has no rows. -/
theorem MSt.put {w0 w : World} {q c gm gr : Nat} {A : Option Addr} {l : List Int} {st : Option (List Int)} {a0 b0 c0 d0 : Int} (h : MSt w0 q A c l gm gr (MsgD.new a0 b0 c0 d0) st w) (a b c' d : Int) :
    MSt w0 q A c l gm gr (MsgD.new a b c' d) st (w.setCells gm 0 ((MsgD.new a b c' d).cells NSL)) := by
  have hk : Kp (fun k => k = gm) w (w.setCells gm 0 ((MsgD.new a b c' d).cells NSL)) := Kp.setCells (S := fun k => k = gm) _ rfl _ _ _ (Kp.refl _ _)
  obtain ⟨EA, ec, KA, kc, bb, o1, o2⟩ := h.ex
  have hb := bb.setCells ((MsgD.new a b c' d).cells NSL) 0
  rw [setMany_whole _ _ (by rfl)] at hb
  exact ⟨h.rg.sets h.gm0 0 _, h.gm0, h.gr0, h.ne, h.rb.kp hk (fun e => h.ne e.symm), none, 0, none, 0, hb, own_none _ _ _ _, own_none _ _ _ _⟩
theorem MSt.there {w0 w : World} {q c gm gr : Nat} {A : Option Addr} {l : List Int} {m : MsgD} {st : Option (List Int)} (h : MSt w0 q A c l gm gr m st w) : w.there gm 0 16 := by
  obtain ⟨EA, ec, KA, kc, b, _⟩ := h.ex
  intro j hj
  rw [Nat.zero_add]
  refine ⟨?_, b.frozen _⟩
  rw [b.cell, Array.getElem?_eq_getElem (by exact hj)]
  rfl
theorem MSt.kpOther {w0 w w' : World} {q c gm gr g : Nat} {A : Option Addr} {l : List Int} {m : MsgD} {st : Option (List Int)} (h : MSt w0 q A c l gm gr m st w) (hk : Kp (fun k => k = g) w w') (hg : w0.heap.size ≤ g) (h1 : gm ≠ g) (h2 : gr ≠ g) (hty : ∀ cs t, Blk w g cs t → t = 34) (hgl : ∃ cs, Blk w g cs 34) (hkp0 : Kp (fun k => k = q) w0 w') : MSt w0 q A c l gm gr m st w' := by
  obtain ⟨EA, ec, KA, kc, b, o1, o2⟩ := h.ex
  obtain ⟨k, bad, qb, hl, he⟩ := h.rg.rst.blk
  have hq := h.rg.lt
  refine ⟨⟨hkp0, ⟨h.rg.rd0.kp hkp0 (fun x hx => h.rg.rst.ne x hx), h.rg.rst.ne, h.rg.rst.isb, h.rg.rst.len, h.rg.rst.cap, h.rg.rst.lim, k, bad, qb.kp hk (by omega), hl, he⟩, h.rg.rd0, h.rg.lt⟩, h.gm0, h.gr0, h.ne, h.rb.kp hk h2, EA, ec, KA, kc, b.kp hk h1, own_kp o1 hk (fun k hk' e => ?_), own_kp o2 hk (fun k hk' e => ?_)⟩
  · obtain ⟨cs, hc'⟩ := own_blk o1 k hk'
    rw [e] at hc'
    exact absurd (hty _ _ hc') (by decide)
  · obtain ⟨cs, hc'⟩ := own_blk o2 k hk'
    rw [e] at hc'
    exact absurd (hty _ _ hc') (by decide)
theorem MSt.facts {w0 w : World} {q c gm gr : Nat} {A : Option Addr} {l : List Int} {m : MsgD} {st : Option (List Int)} (h : MSt w0 q A c l gm gr m st w) (i : Nat) (hi : i < 16) : (∃ v, w.cell? ⟨gm, i, none⟩ = some v) ∧ w.frozen? ⟨gm, i, none⟩ = false := by
  obtain ⟨EA, ec, KA, kc, b, _⟩ := h.ex
  exact ⟨⟨_, (b.cell i).trans (Array.getElem?_eq_getElem (by exact hi))⟩, b.frozen i⟩
theorem MSt.kind {w0 w : World} {q c gm gr : Nat} {A : Option Addr} {l : List Int} {m : MsgD} {st : Option (List Int)} (h : MSt w0 q A c l gm gr m st w) : w.cell? ⟨gm, 0, none⟩ = some (.int .i64 m.kind) := by
  obtain ⟨EA, ec, KA, kc, b, _⟩ := h.ex
  rw [b.cell]; rfl
theorem MSt.fin {w0 w : World} {q c gm gr g : Nat} {A : Option Addr} {l : List Int} {m : MsgD} {st : Option (List Int)} (h : MSt w0 q A c l gm gr m st w) (hg : w0.heap.size ≤ g) {cs : Array Value} (hZ : Blk w g cs 34) :
    ∃ s, Blk w gm (m.cells s).toArray 34 ∧ ∀ W, W = w.setCells g 0 (m.cells s) → Kp (fun k => k = q) w0 W ∧ RSt W q A c l st ∧ MsgArg W (m.cells s).toArray m s ∧ (∀ x, s.ea = some x → w0.heap.size ≤ x.block) ∧ ∀ x, s.ka = some x → w0.heap.size ≤ x.block := by
  obtain ⟨EA, ec, KA, kc, b, o1, o2⟩ := h.ex
  refine ⟨⟨EA, ec, KA, kc⟩, b, ?_⟩
  rintro W rfl
  have hG := h.rg.sets hg 0 (m.cells ⟨EA, ec, KA, kc⟩)
  have hk : Kp (fun k => k = g) w (w.setCells g 0 (m.cells ⟨EA, ec, KA, kc⟩)) := Kp.setCells (S := fun k => k = g) _ rfl _ _ _ (Kp.refl _ _)
  refine ⟨hG.kp, hG.rst, ⟨⟨rfl⟩, ?_, ?_⟩, fun x hx => own_ge o1 _ (by rw [show EA = some x from hx]; rfl), fun x hx => own_ge o2 _ (by rw [show KA = some x from hx]; rfl)⟩
  · refine rows_own (own_kp o1 hk (fun k hk' e => ?_)) (fun r hr => by obtain ⟨x, _, rfl⟩ := List.mem_map.1 hr; rfl) (by omega)
    obtain ⟨cs', hc'⟩ := own_blk o1 k hk'
    rw [e] at hc'
    exact absurd (blk_ty hZ hc') (by decide)
  · refine rows_own (own_kp o2 hk (fun k hk' e => ?_)) (fun r hr => by obtain ⟨x, _, rfl⟩ := List.mem_map.1 hr; rfl) (by omega)
    obtain ⟨cs', hc'⟩ := own_blk o2 k hk'
    rw [e] at hc'
    exact absurd (blk_ty hZ hc') (by decide)
theorem readerE (w0 : World) (q : Nat) (A : Option Addr) (c : Nat) (l : List Int) (gm gr g : Nat) (cs : Array Value) (m : MsgD) (hgm : g ≠ gm) (hgq : g ≠ q) : Reader 79 #[.pointer (some ⟨gm, 0, none⟩), .pointer (some ⟨gr, 0, none⟩)] (gentry pnum ptxt) q A c l (fun xs st w => MSt w0 q A c l gm gr { m with entries := xs } st w ∧ Blk w g cs 34) :=
  ⟨fun _ _ _ h => h.1.rg.rst, fun _ _ _ _ _ h hk hr => ⟨h.1.next hk hr, h.2.kp hk hgq⟩, run_enter Try.func79 (by kernel_rfl) (by kernel_rfl), fun xs st w hn h => (readE_any w0 q A c l gm gr { m with entries := xs } st w h.1 hn).mono fun _ _ hh => by
    obtain ⟨h1, x, st', h2, h3, h4⟩ := hh
    exact ⟨h1, x, st', h2, h3, h4 g cs hgm h.2⟩⟩
theorem readerK (w0 : World) (q : Nat) (A : Option Addr) (c : Nat) (l : List Int) (gm gr g : Nat) (cs : Array Value) (m : MsgD) (hgm : g ≠ gm) (hgq : g ≠ q) : Reader 80 #[.pointer (some ⟨gm, 0, none⟩), .pointer (some ⟨gr, 0, none⟩)] (gkey pnum ptxt) q A c l (fun xs st w => MSt w0 q A c l gm gr { m with keys := xs } st w ∧ Blk w g cs 34) :=
  ⟨fun _ _ _ h => h.1.rg.rst, fun _ _ _ _ _ h hk hr => ⟨h.1.next hk hr, h.2.kp hk hgq⟩, run_enter Try.func80 (by kernel_rfl) (by kernel_rfl), fun xs st w hn h => (readK_any w0 q A c l gm gr { m with keys := xs } st w h.1 hn).mono fun _ _ hh => by
    obtain ⟨h1, x, st', h2, h3, h4⟩ := hh
    exact ⟨h1, x, st', h2, h3, h4 g cs hgm h.2⟩⟩
def gmsgK (a b c d e f g h : Int) : Prs MD :=
  if a = 1 then pbind (gop pnum ptxt) fun o => pret ⟨a, b, c, d, e, f, g, h, o, [], []⟩
  else if a = 2 then pbind (gcnt pnum pcnt (gentry pnum ptxt)) fun l => pret ⟨a, b, c, d, e, f, g, h, OpD.zero, l, []⟩
  else if a = 3 then pbind (gcnt pnum pcnt (gkey pnum ptxt)) fun l => pret ⟨a, b, c, d, e, f, g, h, OpD.zero, [], l⟩
  else pret ⟨a, b, c, d, e, f, g, h, OpD.zero, [], []⟩
/-- What reader.message leaves. -/
def GotMsg (q : Nat) (A : Option Addr) (c : Nat) (l : List Int) (st : Option (List Int)) (w : World) (e : Ending) (w' : World) : Prop :=
  ∃ ys md s st', e = .returned (.agg ys) ∧ Kp (fun k => k = q) w w' ∧ RSt w' q A c l st' ∧ MsgArg w' ys (MD.msg md) s ∧ Read (gmsg pnum ptxt pcnt) st md st' ∧ (∀ x, s.ea = some x → w.heap.size ≤ x.block) ∧ ∀ x, s.ka = some x → w.heap.size ≤ x.block
theorem wpList_load_blk34 {ops : Array Oper} {rest : List Oper} {op : Oper} {a : Act} {w : World} {Q : Exit → Act → World → Prop} (hgd : op.guard = none) (x : Operand) (ho : op.op = .load 34 x) (g : Nat) (m : MsgD) (s : Sls)
    (hx : a.eval x = .pointer (some ⟨g, 0, none⟩)) (hb : Blk w g (m.cells s).toArray 34) (h : wpList Try.prog ops Q rest (a.put op.dst (.agg (m.cells s).toArray)) w) : wpList Try.prog ops Q (op :: rest) a w :=
  wpList_load_mid hgd _ x ho g 0 hx (m.cells s) _ (fun j v hj => by rw [hb.cell, List.getElem?_toArray, Nat.zero_add]; exact hj) Try.underlying34 rfl size_msg h
theorem wpList_store_blk34 {ops : Array Oper} {rest : List Oper} {op : Oper} {a : Act} {w : World} {Q : Exit → Act → World → Prop} (hgd : op.guard = none) (x y : Operand) (ho : op.op = .store 34 x y) (g : Nat) (m0 m : MsgD) (s0 s : Sls)
    (hx : a.eval x = .pointer (some ⟨g, 0, none⟩)) (hy : a.eval y = .agg (m.cells s).toArray) (hb : Blk w g (m0.cells s0).toArray 34) (h : wpList Try.prog ops Q rest (a.put op.dst undef) (w.setCells g 0 (m.cells s))) : wpList Try.prog ops Q (op :: rest) a w :=
  wpList_store_mid hgd _ x y ho g 0 (m.cells s).toArray hx hy (fun j hj => by
    rw [Nat.zero_add]
    refine ⟨?_, hb.frozen _⟩
    rw [hb.cell, Array.getElem?_eq_getElem (by exact hj)]
    rfl) size_msg (msg_one m s) h

set_option maxRecDepth 100000 in
set_option maxHeartbeats 20000000 in
theorem message_any (w : World) (q : Nat) (A : Option Addr) (c : Nat) (l : List Int) (st0 : Option (List Int)) (h : RSt w q A c l st0) :
    Calls Try.prog 51 #[.pointer (some ⟨q, 0, none⟩)] w (GotMsg q A c l st0 w) := by
  have hlt := h.lt
  have HA : Hid (∀ V, V = (w.alloc (.cells #[.pointer (some ⟨q, 0, none⟩)] 95)).alloc (.cells #[.int .i64 0, .int .i64 0, .int .i64 0, .int .i64 0, .complex .f64 0 0, .int .i64 0, .int .i64 0, .int .i64 0, .int .i64 0, .string ⟨#[]⟩, .int .i64 0, .string ⟨#[]⟩, .int .i64 0, .string ⟨#[]⟩, .slice none 0 0, .slice none 0 0] 34) → PSt w q A c l w.heap.size st0 V ∧ Blk V (w.heap.size + 1) ((MsgD.new 0 0 0 0).cells NSL).toArray 34) := by
    rintro V rfl
    refine ⟨⟨(h.start.al _).al _, Nat.le_refl _, (Blk.new w _ _).alloc _⟩, ?_⟩
    have := Blk.new (w.alloc (.cells #[.pointer (some ⟨q, 0, none⟩)] 95)) ZERO.toArray 34
    rw [show (w.alloc (.cells #[.pointer (some ⟨q, 0, none⟩)] 95)).heap.size = w.heap.size + 1 by simp] at this
    exact this
  clear h
  have hmf : ∀ (fn : Fn) (first cap : Array Value) (w : World), (Instr.makeFunc fn first cap).run Try.prog w = .ok (.func fn first cap) w := fun _ _ _ _ => rfl
  go_enter Try.func51, Try.ntmps51
  go_upto_region 1 with fail
  obtain ⟨V, hV⟩ : ∃ V, V = (w.alloc (.cells #[.pointer (some ⟨q, 0, none⟩)] 95)).alloc (.cells #[.int .i64 0, .int .i64 0, .int .i64 0, .int .i64 0, .complex .f64 0 0, .int .i64 0, .int .i64 0, .int .i64 0, .int .i64 0, .string ⟨#[]⟩, .int .i64 0, .string ⟨#[]⟩, .int .i64 0, .string ⟨#[]⟩, .slice none 0 0, .slice none 0 0] 34) := ⟨_, rfl⟩
  obtain ⟨hP, hZ⟩ := HA.out V hV
  rw [← hV]
  clear hV HA
  have HP := Lib.hid hP
  have HZ := Lib.hid hZ
  clear hP hZ
  obtain ⟨gr, hgr⟩ : ∃ gr, gr = w.heap.size := ⟨_, rfl⟩
  have hqg : q < gr := by omega
  rw [← hgr] at HP HZ
  rw [← hgr]
  have HGR := Lib.hid hgr
  clear hgr hlt
  go_cut [3] from 6 (fun v3 wx => ∃ (gm : Nat) (a b c' d : Int) (st4 : Option (List Int)), v3 = .pointer (some ⟨gm, 0, none⟩) ∧ MSt w q A c l gm gr (MsgD.new a b c' d) st4 wx ∧ Blk wx (gr + 1) ((MsgD.new 0 0 0 0).cells NSL).toArray 34 ∧ gm ≠ gr + 1 ∧
    Hid (∀ {α : Type} (f : Int → Int → Int → Int → Prs α) (y : α) (st' : Option (List Int)), Read (f a b c' d) st4 y st' → Read (pbind pbyte fun a => pbind pnum fun b => pbind pnum fun c => pbind pnum fun d => f a b c d) st0 y st'))
  case first =>
    have hP : PSt w q A c l gr st0 V.drew := ⟨HP.out.rg.drawn ((Drawn.refl V).drew), HP.out.gr0, HP.out.rb⟩
    have hZ : Blk V.drew (gr + 1) ((MsgD.new 0 0 0 0).cells NSL).toArray 34 := HZ.out
    have s0 := hP.cell
    refine wp_region_held_drew (S := fun w' => w'.cell? ⟨gr, 0, none⟩ = some (.pointer (some ⟨q, 0, none⟩))) (by kernel_rfl) s0 (fun hHeld => ?_)
    clear HP HZ
    generalize V.drew = V0 at *
    refine' wpAnyH_take (i := 0) (oi := { dst := some 6, op := Op.load 95 (Operand.tmp 1), type := 95, pos := "wire.go:219", after := #[], guard := none }) (v := ?v1) rfl (by kernel_rfl) (by kernel_rfl) (by kernel_rfl) (fun _ _ _ h => h) (Or.inl ⟨by rfl, ?hy1⟩) (by assumption) ?rest1
    case hy1 => (intro w hSw; go_simp; (try with_reducible rfl))
    simp only [Act.put, List.setIfInBounds_toArray, List.set_cons_zero, List.set_cons_succ]
    refine' wpAnyH_take (i := 2) (oi := { dst := some 8, op := Op.load 95 (Operand.tmp 1), type := 95, pos := "wire.go:219", after := #[], guard := none }) (v := ?v2) rfl (by kernel_rfl) (by kernel_rfl) (by kernel_rfl) (fun _ _ _ h => h) (Or.inl ⟨by rfl, ?hy2⟩) (by assumption) ?rest2
    case hy2 => (intro w hSw; go_simp; (try with_reducible rfl))
    simp only [Act.put, List.setIfInBounds_toArray, List.set_cons_zero, List.set_cons_succ]
    refine' wpAnyH_take (i := 4) (oi := { dst := some 10, op := Op.load 95 (Operand.tmp 1), type := 95, pos := "wire.go:219", after := #[], guard := none }) (v := ?v3) rfl (by kernel_rfl) (by kernel_rfl) (by kernel_rfl) (fun _ _ _ h => h) (Or.inl ⟨by rfl, ?hy3⟩) (by assumption) ?rest3
    case hy3 => (intro w hSw; go_simp; (try with_reducible rfl))
    simp only [Act.put, List.setIfInBounds_toArray, List.set_cons_zero, List.set_cons_succ]
    refine' wpAnyH_take (i := 6) (oi := { dst := some 12, op := Op.load 95 (Operand.tmp 1), type := 95, pos := "wire.go:219", after := #[], guard := none }) (v := ?v4) rfl (by kernel_rfl) (by kernel_rfl) (by kernel_rfl) (fun _ _ _ h => h) (Or.inl ⟨by rfl, ?hy4⟩) (by assumption) ?rest4
    case hy4 => (intro w hSw; go_simp; (try with_reducible rfl))
    simp only [Act.put, List.setIfInBounds_toArray, List.set_cons_zero, List.set_cons_succ]
    refine wpAnyH_ready (rs := [1, 9]) (by kernel_rfl) (by simp) ?_
    refine (AllReadyH.cons (o := { dst := some 7, op := Op.call { callee := Callee.value (Operand.func 54), args := #[Operand.tmp 6], argTypes := #[95] }, type := 3, pos := "wire.go:219", after := #[{ on := 0, ground := Ground.data }], guard := none }) rfl (fun K hK => ?_) (AllReadyH.cons (o := { dst := some 3, op := Op.alloc 34, type := 0, pos := "wire.go:219", after := #[], guard := none }) rfl (fun K hK => ?_) AllReadyH.nil))
    · skip
      go_simp
      refine (rbyte_any _ q A c l st0 hP.rg.rst).mono ?_
      rintro e w1 ⟨a, st1, rfl, _, hk, hr, rd1⟩
      have hP := hP.next hk hr
      have hZ := hZ.kp hk (by omega)
      have s1 := hP.cell
      clear hk hr
      go_wp2_with fail
      refine hK.out _ _ s1 (fun hHeld => ?_)
      clear hK K
      try simp only [Act.put, List.setIfInBounds_toArray, List.set_cons_zero, List.set_cons_succ]
      refine wpAnyH_ready (rs := [3, 9]) (by kernel_rfl) (by simp) ?_
      refine (AllReadyH.cons (o := { dst := some 9, op := Op.call { callee := Callee.value (Operand.func 55), args := #[Operand.tmp 8], argTypes := #[95] }, type := 3, pos := "wire.go:219", after := #[{ on := 2, ground := Ground.data }, { on := 1, ground := Ground.chain }], guard := none }) rfl (fun K hK => ?_) (AllReadyH.cons (o := { dst := some 3, op := Op.alloc 34, type := 0, pos := "wire.go:219", after := #[], guard := none }) rfl (fun K hK => ?_) AllReadyH.nil))
      · skip
        go_simp
        refine (rnum_any _ q A c l st1 hP.rg.rst).mono ?_
        rintro e w3 ⟨b, st2, rfl, _, hk, hr, rd3⟩
        have hP := hP.next hk hr
        have hZ := hZ.kp hk (by omega)
        have s3 := hP.cell
        clear hk hr
        go_wp2_with fail
        refine hK.out _ _ s3 (fun hHeld => ?_)
        clear hK K
        try simp only [Act.put, List.setIfInBounds_toArray, List.set_cons_zero, List.set_cons_succ]
        refine wpAnyH_ready (rs := [5, 9]) (by kernel_rfl) (by simp) ?_
        refine (AllReadyH.cons (o := { dst := some 11, op := Op.call { callee := Callee.value (Operand.func 55), args := #[Operand.tmp 10], argTypes := #[95] }, type := 3, pos := "wire.go:219", after := #[{ on := 4, ground := Ground.data }, { on := 3, ground := Ground.chain }], guard := none }) rfl (fun K hK => ?_) (AllReadyH.cons (o := { dst := some 3, op := Op.alloc 34, type := 0, pos := "wire.go:219", after := #[], guard := none }) rfl (fun K hK => ?_) AllReadyH.nil))
        · skip
          go_simp
          refine (rnum_any _ q A c l st2 hP.rg.rst).mono ?_
          rintro e w5 ⟨c2, st3, rfl, _, hk, hr, rd5⟩
          have hP := hP.next hk hr
          have hZ := hZ.kp hk (by omega)
          have s5 := hP.cell
          clear hk hr
          go_wp2_with fail
          refine hK.out _ _ s5 (fun hHeld => ?_)
          clear hK K
          try simp only [Act.put, List.setIfInBounds_toArray, List.set_cons_zero, List.set_cons_succ]
          refine wpAnyH_ready (rs := [7, 9]) (by kernel_rfl) (by simp) ?_
          refine (AllReadyH.cons (o := { dst := some 13, op := Op.call { callee := Callee.value (Operand.func 55), args := #[Operand.tmp 12], argTypes := #[95] }, type := 3, pos := "wire.go:219", after := #[{ on := 6, ground := Ground.data }, { on := 5, ground := Ground.chain }], guard := none }) rfl (fun K hK => ?_) (AllReadyH.cons (o := { dst := some 3, op := Op.alloc 34, type := 0, pos := "wire.go:219", after := #[], guard := none }) rfl (fun K hK => ?_) AllReadyH.nil))
          · skip
            go_simp
            refine (rnum_any _ q A c l st3 hP.rg.rst).mono ?_
            rintro e w7 ⟨d, st4, rfl, _, hk, hr, rd7⟩
            have hP := hP.next hk hr
            have hZ := hZ.kp hk (by omega)
            have s7 := hP.cell
            clear hk hr
            go_wp2_with fail
            refine hK.out _ _ s7 (fun hHeld => ?_)
            clear hK K
            try simp only [Act.put, List.setIfInBounds_toArray, List.set_cons_zero, List.set_cons_succ]
            refine' wpAnyH_take (i := 8) (oi := { dst := some 14, op := Op.build 34 #[(0, Operand.tmp 7), (1, Operand.tmp 9), (2, Operand.tmp 11), (3, Operand.tmp 13)], type := 34, pos := "wire.go:219", after := #[{ on := 1, ground := Ground.data }, { on := 3, ground := Ground.data }, { on := 5, ground := Ground.data }, { on := 7, ground := Ground.data }], guard := none }) (v := .agg ((MsgD.new a b c2 d).cells NSL).toArray) rfl (by kernel_rfl) (by kernel_rfl) (by kernel_rfl) (fun _ _ _ h => h) (yieldsIf_build_run (by rfl) _ _ rfl _ (by first | (go_simp; done) | (go_simp; rfl)) _ (build4m a b c2 d)) (by assumption) ?_
            simp only [Act.put, List.setIfInBounds_toArray, List.set_cons_zero, List.set_cons_succ]
            refine wpAnyH_ready (rs := [9]) (by kernel_rfl) (by simp) ?_
            refine (AllReadyH.cons (o := { dst := some 3, op := Op.alloc 34, type := 0, pos := "wire.go:219", after := #[], guard := none }) rfl (fun K hK => ?_) AllReadyH.nil)
            have hM := hP.fresh _ rfl
            have hgne : w7.heap.size ≠ gr + 1 := by have := hZ.lt; omega
            have hZ := hZ.alloc (.cells #[.int .i64 0, .int .i64 0, .int .i64 0, .int .i64 0, .complex .f64 0 0, .int .i64 0, .int .i64 0, .int .i64 0, .int .i64 0, .string ⟨#[]⟩, .int .i64 0, .string ⟨#[]⟩, .int .i64 0, .string ⟨#[]⟩, .slice none 0 0, .slice none 0 0] 34)
            have s9 := hM.cell
            clear hP
            go_simp
            refine hK.out _ _ s9 (fun hHeld => ?_)
            clear hK K
            try simp only [Act.put, List.setIfInBounds_toArray, List.set_cons_zero, List.set_cons_succ]
            generalize w7.alloc (.cells #[.int .i64 0, .int .i64 0, .int .i64 0, .int .i64 0, .complex .f64 0 0, .int .i64 0, .int .i64 0, .int .i64 0, .int .i64 0, .string ⟨#[]⟩, .int .i64 0, .string ⟨#[]⟩, .int .i64 0, .string ⟨#[]⟩, .slice none 0 0, .slice none 0 0] 34) = V9 at *
            generalize w7.heap.size = gm at *
            refine wpAnyH_ready (rs := [10]) (by kernel_rfl) (by simp) ?_
            refine AllReadyH.cons rfl (fun K hK => ?_) AllReadyH.nil
            refine wp_store_mid 34 (.tmp 3) (.tmp 14) rfl gm 0 ((MsgD.new a b c2 d).cells NSL).toArray rfl rfl hM.there size_msg (msg_one _ _) ?_
            have hZ := Blk.setCells_other (fun e => hgne e.symm) ((MsgD.new a b c2 d).cells NSL) 0 hZ
            have hM := hM.put a b c2 d
            have s10 := hM.cell
            refine hK.out _ _ s10 (fun hHeld => ?_)
            clear hK K
            try simp only [Act.put, List.setIfInBounds_toArray, List.set_cons_zero, List.set_cons_succ]
            refine wpAnyH_done (by kernel_rfl) ?_ _
            go_wp2_with fail
            go_meet
            exact ⟨_, a, b, c2, d, st4, rfl, hM, hZ, hgne, fun f y st' hh => rd1.bind (rd3.bind (rd5.bind (rd7.bind hh)))⟩
          · skip
            have hM := hP.fresh _ rfl
            have hgne : w5.heap.size ≠ gr + 1 := by have := hZ.lt; omega
            have hZ := hZ.alloc (.cells #[.int .i64 0, .int .i64 0, .int .i64 0, .int .i64 0, .complex .f64 0 0, .int .i64 0, .int .i64 0, .int .i64 0, .int .i64 0, .string ⟨#[]⟩, .int .i64 0, .string ⟨#[]⟩, .int .i64 0, .string ⟨#[]⟩, .slice none 0 0, .slice none 0 0] 34)
            have s9 := hM.cell
            clear hP
            go_simp
            refine hK.out _ _ s9 (fun hHeld => ?_)
            clear hK K
            try simp only [Act.put, List.setIfInBounds_toArray, List.set_cons_zero, List.set_cons_succ]
            generalize w5.alloc (.cells #[.int .i64 0, .int .i64 0, .int .i64 0, .int .i64 0, .complex .f64 0 0, .int .i64 0, .int .i64 0, .int .i64 0, .int .i64 0, .string ⟨#[]⟩, .int .i64 0, .string ⟨#[]⟩, .int .i64 0, .string ⟨#[]⟩, .slice none 0 0, .slice none 0 0] 34) = V9 at *
            generalize w5.heap.size = gm at *
            refine wpAnyH_ready (rs := [7]) (by kernel_rfl) (by simp) ?_
            refine (AllReadyH.cons (o := { dst := some 13, op := Op.call { callee := Callee.value (Operand.func 55), args := #[Operand.tmp 12], argTypes := #[95] }, type := 3, pos := "wire.go:219", after := #[{ on := 6, ground := Ground.data }, { on := 5, ground := Ground.chain }], guard := none }) rfl (fun K hK => ?_) AllReadyH.nil)
            go_simp
            refine (rnum_any _ q A c l st3 hM.rg.rst).mono ?_
            rintro e w7 ⟨d, st4, rfl, _, hk, hr, rd7⟩
            have hM := hM.next hk hr
            have hZ := hZ.kp hk (by omega)
            have s7 := hM.cell
            clear hk hr
            go_wp2_with fail
            refine hK.out _ _ s7 (fun hHeld => ?_)
            clear hK K
            try simp only [Act.put, List.setIfInBounds_toArray, List.set_cons_zero, List.set_cons_succ]
            refine' wpAnyH_take (i := 8) (oi := { dst := some 14, op := Op.build 34 #[(0, Operand.tmp 7), (1, Operand.tmp 9), (2, Operand.tmp 11), (3, Operand.tmp 13)], type := 34, pos := "wire.go:219", after := #[{ on := 1, ground := Ground.data }, { on := 3, ground := Ground.data }, { on := 5, ground := Ground.data }, { on := 7, ground := Ground.data }], guard := none }) (v := .agg ((MsgD.new a b c2 d).cells NSL).toArray) rfl (by kernel_rfl) (by kernel_rfl) (by kernel_rfl) (fun _ _ _ h => h) (yieldsIf_build_run (by rfl) _ _ rfl _ (by first | (go_simp; done) | (go_simp; rfl)) _ (build4m a b c2 d)) (by assumption) ?_
            simp only [Act.put, List.setIfInBounds_toArray, List.set_cons_zero, List.set_cons_succ]
            refine wpAnyH_ready (rs := [10]) (by kernel_rfl) (by simp) ?_
            refine AllReadyH.cons rfl (fun K hK => ?_) AllReadyH.nil
            refine wp_store_mid 34 (.tmp 3) (.tmp 14) rfl gm 0 ((MsgD.new a b c2 d).cells NSL).toArray rfl rfl hM.there size_msg (msg_one _ _) ?_
            have hZ := Blk.setCells_other (fun e => hgne e.symm) ((MsgD.new a b c2 d).cells NSL) 0 hZ
            have hM := hM.put a b c2 d
            have s10 := hM.cell
            refine hK.out _ _ s10 (fun hHeld => ?_)
            clear hK K
            try simp only [Act.put, List.setIfInBounds_toArray, List.set_cons_zero, List.set_cons_succ]
            refine wpAnyH_done (by kernel_rfl) ?_ _
            go_wp2_with fail
            go_meet
            exact ⟨_, a, b, c2, d, st4, rfl, hM, hZ, hgne, fun f y st' hh => rd1.bind (rd3.bind (rd5.bind (rd7.bind hh)))⟩
        · skip
          have hM := hP.fresh _ rfl
          have hgne : w3.heap.size ≠ gr + 1 := by have := hZ.lt; omega
          have hZ := hZ.alloc (.cells #[.int .i64 0, .int .i64 0, .int .i64 0, .int .i64 0, .complex .f64 0 0, .int .i64 0, .int .i64 0, .int .i64 0, .int .i64 0, .string ⟨#[]⟩, .int .i64 0, .string ⟨#[]⟩, .int .i64 0, .string ⟨#[]⟩, .slice none 0 0, .slice none 0 0] 34)
          have s9 := hM.cell
          clear hP
          go_simp
          refine hK.out _ _ s9 (fun hHeld => ?_)
          clear hK K
          try simp only [Act.put, List.setIfInBounds_toArray, List.set_cons_zero, List.set_cons_succ]
          generalize w3.alloc (.cells #[.int .i64 0, .int .i64 0, .int .i64 0, .int .i64 0, .complex .f64 0 0, .int .i64 0, .int .i64 0, .int .i64 0, .int .i64 0, .string ⟨#[]⟩, .int .i64 0, .string ⟨#[]⟩, .int .i64 0, .string ⟨#[]⟩, .slice none 0 0, .slice none 0 0] 34) = V9 at *
          generalize w3.heap.size = gm at *
          refine wpAnyH_ready (rs := [5]) (by kernel_rfl) (by simp) ?_
          refine (AllReadyH.cons (o := { dst := some 11, op := Op.call { callee := Callee.value (Operand.func 55), args := #[Operand.tmp 10], argTypes := #[95] }, type := 3, pos := "wire.go:219", after := #[{ on := 4, ground := Ground.data }, { on := 3, ground := Ground.chain }], guard := none }) rfl (fun K hK => ?_) AllReadyH.nil)
          go_simp
          refine (rnum_any _ q A c l st2 hM.rg.rst).mono ?_
          rintro e w5 ⟨c2, st3, rfl, _, hk, hr, rd5⟩
          have hM := hM.next hk hr
          have hZ := hZ.kp hk (by omega)
          have s5 := hM.cell
          clear hk hr
          go_wp2_with fail
          refine hK.out _ _ s5 (fun hHeld => ?_)
          clear hK K
          try simp only [Act.put, List.setIfInBounds_toArray, List.set_cons_zero, List.set_cons_succ]
          refine wpAnyH_ready (rs := [7]) (by kernel_rfl) (by simp) ?_
          refine (AllReadyH.cons (o := { dst := some 13, op := Op.call { callee := Callee.value (Operand.func 55), args := #[Operand.tmp 12], argTypes := #[95] }, type := 3, pos := "wire.go:219", after := #[{ on := 6, ground := Ground.data }, { on := 5, ground := Ground.chain }], guard := none }) rfl (fun K hK => ?_) AllReadyH.nil)
          go_simp
          refine (rnum_any _ q A c l st3 hM.rg.rst).mono ?_
          rintro e w7 ⟨d, st4, rfl, _, hk, hr, rd7⟩
          have hM := hM.next hk hr
          have hZ := hZ.kp hk (by omega)
          have s7 := hM.cell
          clear hk hr
          go_wp2_with fail
          refine hK.out _ _ s7 (fun hHeld => ?_)
          clear hK K
          try simp only [Act.put, List.setIfInBounds_toArray, List.set_cons_zero, List.set_cons_succ]
          refine' wpAnyH_take (i := 8) (oi := { dst := some 14, op := Op.build 34 #[(0, Operand.tmp 7), (1, Operand.tmp 9), (2, Operand.tmp 11), (3, Operand.tmp 13)], type := 34, pos := "wire.go:219", after := #[{ on := 1, ground := Ground.data }, { on := 3, ground := Ground.data }, { on := 5, ground := Ground.data }, { on := 7, ground := Ground.data }], guard := none }) (v := .agg ((MsgD.new a b c2 d).cells NSL).toArray) rfl (by kernel_rfl) (by kernel_rfl) (by kernel_rfl) (fun _ _ _ h => h) (yieldsIf_build_run (by rfl) _ _ rfl _ (by first | (go_simp; done) | (go_simp; rfl)) _ (build4m a b c2 d)) (by assumption) ?_
          simp only [Act.put, List.setIfInBounds_toArray, List.set_cons_zero, List.set_cons_succ]
          refine wpAnyH_ready (rs := [10]) (by kernel_rfl) (by simp) ?_
          refine AllReadyH.cons rfl (fun K hK => ?_) AllReadyH.nil
          refine wp_store_mid 34 (.tmp 3) (.tmp 14) rfl gm 0 ((MsgD.new a b c2 d).cells NSL).toArray rfl rfl hM.there size_msg (msg_one _ _) ?_
          have hZ := Blk.setCells_other (fun e => hgne e.symm) ((MsgD.new a b c2 d).cells NSL) 0 hZ
          have hM := hM.put a b c2 d
          have s10 := hM.cell
          refine hK.out _ _ s10 (fun hHeld => ?_)
          clear hK K
          try simp only [Act.put, List.setIfInBounds_toArray, List.set_cons_zero, List.set_cons_succ]
          refine wpAnyH_done (by kernel_rfl) ?_ _
          go_wp2_with fail
          go_meet
          exact ⟨_, a, b, c2, d, st4, rfl, hM, hZ, hgne, fun f y st' hh => rd1.bind (rd3.bind (rd5.bind (rd7.bind hh)))⟩
      · skip
        have hM := hP.fresh _ rfl
        have hgne : w1.heap.size ≠ gr + 1 := by have := hZ.lt; omega
        have hZ := hZ.alloc (.cells #[.int .i64 0, .int .i64 0, .int .i64 0, .int .i64 0, .complex .f64 0 0, .int .i64 0, .int .i64 0, .int .i64 0, .int .i64 0, .string ⟨#[]⟩, .int .i64 0, .string ⟨#[]⟩, .int .i64 0, .string ⟨#[]⟩, .slice none 0 0, .slice none 0 0] 34)
        have s9 := hM.cell
        clear hP
        go_simp
        refine hK.out _ _ s9 (fun hHeld => ?_)
        clear hK K
        try simp only [Act.put, List.setIfInBounds_toArray, List.set_cons_zero, List.set_cons_succ]
        generalize w1.alloc (.cells #[.int .i64 0, .int .i64 0, .int .i64 0, .int .i64 0, .complex .f64 0 0, .int .i64 0, .int .i64 0, .int .i64 0, .int .i64 0, .string ⟨#[]⟩, .int .i64 0, .string ⟨#[]⟩, .int .i64 0, .string ⟨#[]⟩, .slice none 0 0, .slice none 0 0] 34) = V9 at *
        generalize w1.heap.size = gm at *
        refine wpAnyH_ready (rs := [3]) (by kernel_rfl) (by simp) ?_
        refine (AllReadyH.cons (o := { dst := some 9, op := Op.call { callee := Callee.value (Operand.func 55), args := #[Operand.tmp 8], argTypes := #[95] }, type := 3, pos := "wire.go:219", after := #[{ on := 2, ground := Ground.data }, { on := 1, ground := Ground.chain }], guard := none }) rfl (fun K hK => ?_) AllReadyH.nil)
        go_simp
        refine (rnum_any _ q A c l st1 hM.rg.rst).mono ?_
        rintro e w3 ⟨b, st2, rfl, _, hk, hr, rd3⟩
        have hM := hM.next hk hr
        have hZ := hZ.kp hk (by omega)
        have s3 := hM.cell
        clear hk hr
        go_wp2_with fail
        refine hK.out _ _ s3 (fun hHeld => ?_)
        clear hK K
        try simp only [Act.put, List.setIfInBounds_toArray, List.set_cons_zero, List.set_cons_succ]
        refine wpAnyH_ready (rs := [5]) (by kernel_rfl) (by simp) ?_
        refine (AllReadyH.cons (o := { dst := some 11, op := Op.call { callee := Callee.value (Operand.func 55), args := #[Operand.tmp 10], argTypes := #[95] }, type := 3, pos := "wire.go:219", after := #[{ on := 4, ground := Ground.data }, { on := 3, ground := Ground.chain }], guard := none }) rfl (fun K hK => ?_) AllReadyH.nil)
        go_simp
        refine (rnum_any _ q A c l st2 hM.rg.rst).mono ?_
        rintro e w5 ⟨c2, st3, rfl, _, hk, hr, rd5⟩
        have hM := hM.next hk hr
        have hZ := hZ.kp hk (by omega)
        have s5 := hM.cell
        clear hk hr
        go_wp2_with fail
        refine hK.out _ _ s5 (fun hHeld => ?_)
        clear hK K
        try simp only [Act.put, List.setIfInBounds_toArray, List.set_cons_zero, List.set_cons_succ]
        refine wpAnyH_ready (rs := [7]) (by kernel_rfl) (by simp) ?_
        refine (AllReadyH.cons (o := { dst := some 13, op := Op.call { callee := Callee.value (Operand.func 55), args := #[Operand.tmp 12], argTypes := #[95] }, type := 3, pos := "wire.go:219", after := #[{ on := 6, ground := Ground.data }, { on := 5, ground := Ground.chain }], guard := none }) rfl (fun K hK => ?_) AllReadyH.nil)
        go_simp
        refine (rnum_any _ q A c l st3 hM.rg.rst).mono ?_
        rintro e w7 ⟨d, st4, rfl, _, hk, hr, rd7⟩
        have hM := hM.next hk hr
        have hZ := hZ.kp hk (by omega)
        have s7 := hM.cell
        clear hk hr
        go_wp2_with fail
        refine hK.out _ _ s7 (fun hHeld => ?_)
        clear hK K
        try simp only [Act.put, List.setIfInBounds_toArray, List.set_cons_zero, List.set_cons_succ]
        refine' wpAnyH_take (i := 8) (oi := { dst := some 14, op := Op.build 34 #[(0, Operand.tmp 7), (1, Operand.tmp 9), (2, Operand.tmp 11), (3, Operand.tmp 13)], type := 34, pos := "wire.go:219", after := #[{ on := 1, ground := Ground.data }, { on := 3, ground := Ground.data }, { on := 5, ground := Ground.data }, { on := 7, ground := Ground.data }], guard := none }) (v := .agg ((MsgD.new a b c2 d).cells NSL).toArray) rfl (by kernel_rfl) (by kernel_rfl) (by kernel_rfl) (fun _ _ _ h => h) (yieldsIf_build_run (by rfl) _ _ rfl _ (by first | (go_simp; done) | (go_simp; rfl)) _ (build4m a b c2 d)) (by assumption) ?_
        simp only [Act.put, List.setIfInBounds_toArray, List.set_cons_zero, List.set_cons_succ]
        refine wpAnyH_ready (rs := [10]) (by kernel_rfl) (by simp) ?_
        refine AllReadyH.cons rfl (fun K hK => ?_) AllReadyH.nil
        refine wp_store_mid 34 (.tmp 3) (.tmp 14) rfl gm 0 ((MsgD.new a b c2 d).cells NSL).toArray rfl rfl hM.there size_msg (msg_one _ _) ?_
        have hZ := Blk.setCells_other (fun e => hgne e.symm) ((MsgD.new a b c2 d).cells NSL) 0 hZ
        have hM := hM.put a b c2 d
        have s10 := hM.cell
        refine hK.out _ _ s10 (fun hHeld => ?_)
        clear hK K
        try simp only [Act.put, List.setIfInBounds_toArray, List.set_cons_zero, List.set_cons_succ]
        refine wpAnyH_done (by kernel_rfl) ?_ _
        go_wp2_with fail
        go_meet
        exact ⟨_, a, b, c2, d, st4, rfl, hM, hZ, hgne, fun f y st' hh => rd1.bind (rd3.bind (rd5.bind (rd7.bind hh)))⟩
    · skip
      have hM := hP.fresh _ rfl
      have hgne : V0.heap.size ≠ gr + 1 := by have := hZ.lt; omega
      have hZ := hZ.alloc (.cells #[.int .i64 0, .int .i64 0, .int .i64 0, .int .i64 0, .complex .f64 0 0, .int .i64 0, .int .i64 0, .int .i64 0, .int .i64 0, .string ⟨#[]⟩, .int .i64 0, .string ⟨#[]⟩, .int .i64 0, .string ⟨#[]⟩, .slice none 0 0, .slice none 0 0] 34)
      have s9 := hM.cell
      clear hP
      go_simp
      refine hK.out _ _ s9 (fun hHeld => ?_)
      clear hK K
      try simp only [Act.put, List.setIfInBounds_toArray, List.set_cons_zero, List.set_cons_succ]
      generalize V0.alloc (.cells #[.int .i64 0, .int .i64 0, .int .i64 0, .int .i64 0, .complex .f64 0 0, .int .i64 0, .int .i64 0, .int .i64 0, .int .i64 0, .string ⟨#[]⟩, .int .i64 0, .string ⟨#[]⟩, .int .i64 0, .string ⟨#[]⟩, .slice none 0 0, .slice none 0 0] 34) = V9 at *
      generalize V0.heap.size = gm at *
      refine wpAnyH_ready (rs := [1]) (by kernel_rfl) (by simp) ?_
      refine (AllReadyH.cons (o := { dst := some 7, op := Op.call { callee := Callee.value (Operand.func 54), args := #[Operand.tmp 6], argTypes := #[95] }, type := 3, pos := "wire.go:219", after := #[{ on := 0, ground := Ground.data }], guard := none }) rfl (fun K hK => ?_) AllReadyH.nil)
      go_simp
      refine (rbyte_any _ q A c l st0 hM.rg.rst).mono ?_
      rintro e w1 ⟨a, st1, rfl, _, hk, hr, rd1⟩
      have hM := hM.next hk hr
      have hZ := hZ.kp hk (by omega)
      have s1 := hM.cell
      clear hk hr
      go_wp2_with fail
      refine hK.out _ _ s1 (fun hHeld => ?_)
      clear hK K
      try simp only [Act.put, List.setIfInBounds_toArray, List.set_cons_zero, List.set_cons_succ]
      refine wpAnyH_ready (rs := [3]) (by kernel_rfl) (by simp) ?_
      refine (AllReadyH.cons (o := { dst := some 9, op := Op.call { callee := Callee.value (Operand.func 55), args := #[Operand.tmp 8], argTypes := #[95] }, type := 3, pos := "wire.go:219", after := #[{ on := 2, ground := Ground.data }, { on := 1, ground := Ground.chain }], guard := none }) rfl (fun K hK => ?_) AllReadyH.nil)
      go_simp
      refine (rnum_any _ q A c l st1 hM.rg.rst).mono ?_
      rintro e w3 ⟨b, st2, rfl, _, hk, hr, rd3⟩
      have hM := hM.next hk hr
      have hZ := hZ.kp hk (by omega)
      have s3 := hM.cell
      clear hk hr
      go_wp2_with fail
      refine hK.out _ _ s3 (fun hHeld => ?_)
      clear hK K
      try simp only [Act.put, List.setIfInBounds_toArray, List.set_cons_zero, List.set_cons_succ]
      refine wpAnyH_ready (rs := [5]) (by kernel_rfl) (by simp) ?_
      refine (AllReadyH.cons (o := { dst := some 11, op := Op.call { callee := Callee.value (Operand.func 55), args := #[Operand.tmp 10], argTypes := #[95] }, type := 3, pos := "wire.go:219", after := #[{ on := 4, ground := Ground.data }, { on := 3, ground := Ground.chain }], guard := none }) rfl (fun K hK => ?_) AllReadyH.nil)
      go_simp
      refine (rnum_any _ q A c l st2 hM.rg.rst).mono ?_
      rintro e w5 ⟨c2, st3, rfl, _, hk, hr, rd5⟩
      have hM := hM.next hk hr
      have hZ := hZ.kp hk (by omega)
      have s5 := hM.cell
      clear hk hr
      go_wp2_with fail
      refine hK.out _ _ s5 (fun hHeld => ?_)
      clear hK K
      try simp only [Act.put, List.setIfInBounds_toArray, List.set_cons_zero, List.set_cons_succ]
      refine wpAnyH_ready (rs := [7]) (by kernel_rfl) (by simp) ?_
      refine (AllReadyH.cons (o := { dst := some 13, op := Op.call { callee := Callee.value (Operand.func 55), args := #[Operand.tmp 12], argTypes := #[95] }, type := 3, pos := "wire.go:219", after := #[{ on := 6, ground := Ground.data }, { on := 5, ground := Ground.chain }], guard := none }) rfl (fun K hK => ?_) AllReadyH.nil)
      go_simp
      refine (rnum_any _ q A c l st3 hM.rg.rst).mono ?_
      rintro e w7 ⟨d, st4, rfl, _, hk, hr, rd7⟩
      have hM := hM.next hk hr
      have hZ := hZ.kp hk (by omega)
      have s7 := hM.cell
      clear hk hr
      go_wp2_with fail
      refine hK.out _ _ s7 (fun hHeld => ?_)
      clear hK K
      try simp only [Act.put, List.setIfInBounds_toArray, List.set_cons_zero, List.set_cons_succ]
      refine' wpAnyH_take (i := 8) (oi := { dst := some 14, op := Op.build 34 #[(0, Operand.tmp 7), (1, Operand.tmp 9), (2, Operand.tmp 11), (3, Operand.tmp 13)], type := 34, pos := "wire.go:219", after := #[{ on := 1, ground := Ground.data }, { on := 3, ground := Ground.data }, { on := 5, ground := Ground.data }, { on := 7, ground := Ground.data }], guard := none }) (v := .agg ((MsgD.new a b c2 d).cells NSL).toArray) rfl (by kernel_rfl) (by kernel_rfl) (by kernel_rfl) (fun _ _ _ h => h) (yieldsIf_build_run (by rfl) _ _ rfl _ (by first | (go_simp; done) | (go_simp; rfl)) _ (build4m a b c2 d)) (by assumption) ?_
      simp only [Act.put, List.setIfInBounds_toArray, List.set_cons_zero, List.set_cons_succ]
      refine wpAnyH_ready (rs := [10]) (by kernel_rfl) (by simp) ?_
      refine AllReadyH.cons rfl (fun K hK => ?_) AllReadyH.nil
      refine wp_store_mid 34 (.tmp 3) (.tmp 14) rfl gm 0 ((MsgD.new a b c2 d).cells NSL).toArray rfl rfl hM.there size_msg (msg_one _ _) ?_
      have hZ := Blk.setCells_other (fun e => hgne e.symm) ((MsgD.new a b c2 d).cells NSL) 0 hZ
      have hM := hM.put a b c2 d
      have s10 := hM.cell
      refine hK.out _ _ s10 (fun hHeld => ?_)
      clear hK K
      try simp only [Act.put, List.setIfInBounds_toArray, List.set_cons_zero, List.set_cons_succ]
      refine wpAnyH_done (by kernel_rfl) ?_ _
      go_wp2_with fail
      go_meet
      exact ⟨_, a, b, c2, d, st4, rfl, hM, hZ, hgne, fun f y st' hh => rd1.bind (rd3.bind (rd5.bind (rd7.bind hh)))⟩
  case rest =>
    obtain ⟨gm, a, b, c2, d, st4, rfl, hM, hZ, hgne, hrd⟩ := hcut
    have HM := Lib.hid hM
    have HZ := Lib.hid hZ
    clear hM hZ
    go_upto_region 2 with fail
    have hM := HM.out.below ((Drawn.refl wc).drew.below _)
    have hZ := HZ.out
    clear HM HZ
    have hZ : Blk wc.drew (gr + 1) ((MsgD.new 0 0 0 0).cells NSL).toArray 34 := hZ
    have s0 := hM.cell
    refine wp_region_held_drew (S := fun w' => w'.cell? ⟨gr, 0, none⟩ = some (.pointer (some ⟨q, 0, none⟩))) (by kernel_rfl) s0 (fun hHeld => ?_)
    generalize wc.drew = V2 at *
    refine' wpAnyH_take (i := 0) (oi := { dst := some 15, op := Op.load 95 (Operand.tmp 1), type := 95, pos := "wire.go:220", after := #[], guard := none }) (v := ?v5) rfl (by kernel_rfl) (by kernel_rfl) (by kernel_rfl) (fun _ _ _ h => h) (Or.inl ⟨by rfl, ?hy5⟩) (by assumption) ?rest5
    case hy5 => (intro w hSw; go_simp; (try with_reducible rfl))
    simp only [Act.put, List.setIfInBounds_toArray, List.set_cons_zero, List.set_cons_succ]
    refine' wpAnyH_take (i := 2) (oi := { dst := some 17, op := Op.load 95 (Operand.tmp 1), type := 95, pos := "wire.go:220", after := #[], guard := none }) (v := ?v6) rfl (by kernel_rfl) (by kernel_rfl) (by kernel_rfl) (fun _ _ _ h => h) (Or.inl ⟨by rfl, ?hy6⟩) (by assumption) ?rest6
    case hy6 => (intro w hSw; go_simp; (try with_reducible rfl))
    simp only [Act.put, List.setIfInBounds_toArray, List.set_cons_zero, List.set_cons_succ]
    refine wpAnyH_ready (rs := [1]) (by kernel_rfl) (by simp) ?_
    refine AllReadyH.cons (o := { dst := some 16, op := Op.call { callee := Callee.value (Operand.func 55), args := #[Operand.tmp 15], argTypes := #[95] }, type := 3, pos := "wire.go:220", after := #[{ on := 0, ground := Ground.data }], guard := none }) rfl (fun K hK => ?_) AllReadyH.nil
    go_simp
    refine (rnum_any _ q A c l st4 hM.rg.rst).mono ?_
    rintro e wep ⟨ep, st5, rfl, ⟨ep0, ep1⟩, hk, hr, rdep⟩
    have hM := hM.next hk hr
    have hZ := hZ.kp hk (by omega)
    have s1 := hM.cell
    clear hk hr
    go_wp2_with fail
    refine hK.out _ _ s1 (fun hHeld => ?_)
    clear hK K
    try simp only [Act.put, List.setIfInBounds_toArray, List.set_cons_zero, List.set_cons_succ]
    refine wpAnyH_ready (rs := [3]) (by kernel_rfl) (by simp) ?_
    refine AllReadyH.cons (o := { dst := some 18, op := Op.call { callee := Callee.value (Operand.func 55), args := #[Operand.tmp 17], argTypes := #[95] }, type := 3, pos := "wire.go:220", after := #[{ on := 2, ground := Ground.data }, { on := 1, ground := Ground.chain }], guard := none }) rfl (fun K hK => ?_) AllReadyH.nil
    go_simp
    refine (rnum_any _ q A c l st5 hM.rg.rst).mono ?_
    rintro e wnu ⟨nu, st6, rfl, ⟨nu0, nu1⟩, hk, hr, rdnu⟩
    have hM := hM.next hk hr
    have hZ := hZ.kp hk (by omega)
    have s2 := hM.cell
    clear hk hr
    go_wp2_with fail
    refine hK.out _ _ s2 (fun hHeld => ?_)
    clear hK K
    try simp only [Act.put, List.setIfInBounds_toArray, List.set_cons_zero, List.set_cons_succ]
    refine' wpAnyH_take (i := 4) (oi := { dst := some 4, op := Op.assign (Operand.tmp 16), type := 3, pos := "wire.go:220", after := #[{ on := 1, ground := Ground.data }, { on := 3, ground := Ground.chain }, { on := 0, ground := Ground.phase }, { on := 1, ground := Ground.phase }, { on := 2, ground := Ground.textOnly Departure.lateStores }, { on := 3, ground := Ground.textOnly Departure.lateStoresUnsure }], guard := none }) (v := ?v7) rfl (by kernel_rfl) (by kernel_rfl) (by kernel_rfl) (fun _ _ _ h => h) (Or.inl ⟨by rfl, ?hy7⟩) (by assumption) ?rest7
    case hy7 => (intro w hSw; go_simp; (try with_reducible rfl))
    simp only [Act.put, List.setIfInBounds_toArray, List.set_cons_zero, List.set_cons_succ]
    refine' wpAnyH_take (i := 5) (oi := { dst := some 5, op := Op.assign (Operand.tmp 18), type := 3, pos := "wire.go:220", after := #[{ on := 3, ground := Ground.data }, { on := 4, ground := Ground.chain }, { on := 0, ground := Ground.phase }, { on := 1, ground := Ground.phase }, { on := 2, ground := Ground.phase }, { on := 3, ground := Ground.phase }, { on := 4, ground := Ground.phase }], guard := none }) (v := ?v8) rfl (by kernel_rfl) (by kernel_rfl) (by kernel_rfl) (fun _ _ _ h => h) (Or.inl ⟨by rfl, ?hy8⟩) (by assumption) ?rest8
    case hy8 => (intro w hSw; go_simp; (try with_reducible rfl))
    simp only [Act.put, List.setIfInBounds_toArray, List.set_cons_zero, List.set_cons_succ]
    refine wpAnyH_done (by kernel_rfl) ?_ _
    have HM := Lib.hid hM
    have HZ := Lib.hid hZ
    clear hM hZ s0 s1 s2 hHeld
    go_wp2_with fail
    refine (at_yes ep0 ep1 nu0 nu1 _).mono ?_
    rintro e w6 ⟨rfl, rfl⟩
    obtain ⟨⟨dv, d4⟩, f4⟩ := HM.out.facts 4 (by omega)
    have h1c : (Value.complex .f64 (FloatKind.f64.nearest ep) (FloatKind.f64.nearest nu)).oneCell' = true := rfl
    have hst := run_store_c wnu gm 4 dv (.complex .f64 (FloatKind.f64.nearest ep) (FloatKind.f64.nearest nu)) d4 f4 rfl
    go_upto_region 4 with fail
    have hM := HM.out.setS (m' := ⟨a, b, c2, d, FloatKind.f64.nearest ep, FloatKind.f64.nearest nu, 0, 0, OpD.zero, [], []⟩) 4 [.complex .f64 (FloatKind.f64.nearest ep) (FloatKind.f64.nearest nu)] rfl rfl (fun _ => rfl)
    have hZ := Blk.setCells_other (fun e => hgne e.symm) [.complex .f64 (FloatKind.f64.nearest ep) (FloatKind.f64.nearest nu)] 4 HZ.out
    clear HM HZ d4 f4
    obtain ⟨V3, hV3⟩ : ∃ V3, V3 = World.setCells wnu gm 4 [.complex .f64 (FloatKind.f64.nearest ep) (FloatKind.f64.nearest nu)] := ⟨_, rfl⟩
    rw [← hV3] at hM hZ
    change Code.wp _ _ _ _ (World.setCells wnu gm 4 [.complex .f64 (FloatKind.f64.nearest ep) (FloatKind.f64.nearest nu)])
    rw [← hV3]
    clear hV3
    have hM := hM.below ((Drawn.refl V3).drew.below _)
    have hZ : Blk V3.drew (gr + 1) ((MsgD.new 0 0 0 0).cells NSL).toArray 34 := hZ
    have s0 := hM.cell
    refine wp_region_held_drew (S := fun w' => w'.cell? ⟨gr, 0, none⟩ = some (.pointer (some ⟨q, 0, none⟩))) (by kernel_rfl) s0 (fun hHeld => ?_)
    generalize V3.drew = V4 at *
    refine' wpAnyH_take (i := 0) (oi := { dst := some 26, op := Op.load 95 (Operand.tmp 1), type := 95, pos := "wire.go:222", after := #[], guard := none }) (v := ?v9) rfl (by kernel_rfl) (by kernel_rfl) (by kernel_rfl) (fun _ _ _ h => h) (Or.inl ⟨by rfl, ?hy9⟩) (by assumption) ?rest9
    case hy9 => (intro w hSw; go_simp; (try with_reducible rfl))
    simp only [Act.put, List.setIfInBounds_toArray, List.set_cons_zero, List.set_cons_succ]
    refine' wpAnyH_take (i := 2) (oi := { dst := some 28, op := Op.load 95 (Operand.tmp 1), type := 95, pos := "wire.go:222", after := #[], guard := none }) (v := ?v10) rfl (by kernel_rfl) (by kernel_rfl) (by kernel_rfl) (fun _ _ _ h => h) (Or.inl ⟨by rfl, ?hy10⟩) (by assumption) ?rest10
    case hy10 => (intro w hSw; go_simp; (try with_reducible rfl))
    simp only [Act.put, List.setIfInBounds_toArray, List.set_cons_zero, List.set_cons_succ]
    refine wpAnyH_ready (rs := [1]) (by kernel_rfl) (by simp) ?_
    refine AllReadyH.cons (o := { dst := some 27, op := Op.call { callee := Callee.value (Operand.func 55), args := #[Operand.tmp 26], argTypes := #[95] }, type := 3, pos := "wire.go:222", after := #[{ on := 0, ground := Ground.data }], guard := none }) rfl (fun K hK => ?_) AllReadyH.nil
    go_simp
    refine (rnum_any _ q A c l st6 hM.rg.rst).mono ?_
    rintro e wve ⟨ve, st7, rfl, ⟨ve0, ve1⟩, hk, hr, rdve⟩
    have hM := hM.next hk hr
    have hZ := hZ.kp hk (by omega)
    have s1 := hM.cell
    clear hk hr
    go_wp2_with fail
    refine hK.out _ _ s1 (fun hHeld => ?_)
    clear hK K
    try simp only [Act.put, List.setIfInBounds_toArray, List.set_cons_zero, List.set_cons_succ]
    refine' wpAnyH_take (i := 4) (oi := { dst := some 30, op := Op.fieldAddr 34 (Operand.tmp 3) 5, type := 0, pos := "wire.go:222", after := #[{ on := 0, ground := Ground.phase }, { on := 1, ground := Ground.phase }, { on := 2, ground := Ground.textOnly Departure.lateStores }, { on := 3, ground := Ground.textOnly Departure.lateStoresUnsure }], guard := none }) (v := ?v11) rfl (by kernel_rfl) (by kernel_rfl) (by kernel_rfl) (fun _ _ _ h => h) (Or.inl ⟨by rfl, ?hy11⟩) (by assumption) ?rest11
    case hy11 => (intro w hSw; go_simp; (try with_reducible rfl))
    simp only [Act.put, List.setIfInBounds_toArray, List.set_cons_zero, List.set_cons_succ]
    refine wpAnyH_ready (rs := [3]) (by kernel_rfl) (by simp) ?_
    refine AllReadyH.cons (o := { dst := some 29, op := Op.call { callee := Callee.value (Operand.func 55), args := #[Operand.tmp 28], argTypes := #[95] }, type := 3, pos := "wire.go:222", after := #[{ on := 2, ground := Ground.data }, { on := 1, ground := Ground.chain }], guard := none }) rfl (fun K hK => ?_) AllReadyH.nil
    go_simp
    refine (rnum_any _ q A c l st7 hM.rg.rst).mono ?_
    rintro e wer ⟨er, st8, rfl, ⟨er0, er1⟩, hk, hr, rder⟩
    have hM := hM.next hk hr
    have hZ := hZ.kp hk (by omega)
    have s2 := hM.cell
    clear hk hr
    go_wp2_with fail
    refine hK.out _ _ s2 (fun hHeld => ?_)
    clear hK K
    try simp only [Act.put, List.setIfInBounds_toArray, List.set_cons_zero, List.set_cons_succ]
    obtain ⟨⟨dv5, d5⟩, f5⟩ := hM.facts 5 (by omega)
    have hM := hM.setS (m' := ⟨a, b, c2, d, FloatKind.f64.nearest ep, FloatKind.f64.nearest nu, ve, 0, OpD.zero, [], []⟩) 5 [.int .i64 ve] rfl rfl (fun _ => rfl)
    have hZ := Blk.setCells_other (fun e => hgne e.symm) [.int .i64 ve] 5 hZ
    have s5 := hM.cell
    refine wpAnyH_ready (rs := [5]) (by kernel_rfl) (by simp) ?_
    refine AllReadyH.cons (o := { dst := none, op := Op.store 3 (Operand.tmp 30) (Operand.tmp 27), type := 0, pos := "wire.go:222", after := #[{ on := 4, ground := Ground.data }, { on := 1, ground := Ground.data }, { on := 3, ground := Ground.chain }, { on := 0, ground := Ground.phase }, { on := 1, ground := Ground.phase }, { on := 2, ground := Ground.textOnly Departure.lateStores }, { on := 3, ground := Ground.textOnly Departure.lateStoresUnsure }], guard := none }) rfl (fun K hK => ?_) AllReadyH.nil
    go_simp
    refine hK.out _ (World.setCells wer gm 5 [.int .i64 ve]) s5 (fun hHeld => ?_)
    clear hK K d5 f5
    try simp only [Act.put, List.setIfInBounds_toArray, List.set_cons_zero, List.set_cons_succ]
    generalize World.setCells wer gm 5 [.int .i64 ve] = W5 at *
    refine' wpAnyH_take (i := 6) (oi := { dst := some 31, op := Op.fieldAddr 34 (Operand.tmp 3) 6, type := 0, pos := "wire.go:222", after := #[{ on := 0, ground := Ground.phase }, { on := 1, ground := Ground.phase }, { on := 2, ground := Ground.phase }, { on := 3, ground := Ground.phase }, { on := 4, ground := Ground.phase }, { on := 5, ground := Ground.phase }], guard := none }) (v := ?v12) rfl (by kernel_rfl) (by kernel_rfl) (by kernel_rfl) (fun _ _ _ h => h) (Or.inl ⟨by rfl, ?hy12⟩) (by assumption) ?rest12
    case hy12 => (intro w hSw; go_simp; (try with_reducible rfl))
    simp only [Act.put, List.setIfInBounds_toArray, List.set_cons_zero, List.set_cons_succ]
    obtain ⟨⟨dv6, d6⟩, f6⟩ := hM.facts 6 (by omega)
    have hM := hM.setS (m' := ⟨a, b, c2, d, FloatKind.f64.nearest ep, FloatKind.f64.nearest nu, ve, er, OpD.zero, [], []⟩) 6 [.int .i64 er] rfl rfl (fun _ => rfl)
    have hZ := Blk.setCells_other (fun e => hgne e.symm) [.int .i64 er] 6 hZ
    have s6 := hM.cell
    refine wpAnyH_ready (rs := [7]) (by kernel_rfl) (by simp) ?_
    refine AllReadyH.cons (o := { dst := none, op := Op.store 29 (Operand.tmp 31) (Operand.tmp 29), type := 0, pos := "wire.go:222", after := #[{ on := 6, ground := Ground.data }, { on := 3, ground := Ground.data }, { on := 5, ground := Ground.chain }, { on := 0, ground := Ground.phase }, { on := 1, ground := Ground.phase }, { on := 2, ground := Ground.phase }, { on := 3, ground := Ground.phase }, { on := 4, ground := Ground.phase }, { on := 5, ground := Ground.phase }], guard := none }) rfl (fun K hK => ?_) AllReadyH.nil
    go_simp
    refine hK.out _ (World.setCells W5 gm 6 [.int .i64 er]) s6 (fun hHeld => ?_)
    clear hK K d6 f6
    try simp only [Act.put, List.setIfInBounds_toArray, List.set_cons_zero, List.set_cons_succ]
    generalize World.setCells W5 gm 6 [.int .i64 er] = W6 at *
    refine wpAnyH_done (by kernel_rfl) ?_ _
    go_upto_region 5 with fail
    have k0 := hM.kind
    have hgr1 : w.heap.size ≤ gr + 1 := by have := HGR.out; omega
    have hqz : ¬ gr + 1 = q := by omega
    have hgq : ¬ gm = q := by have := hM.rg.lt; have := hM.gm0; omega
    have HM := Lib.hid hM
    have HZ := Lib.hid hZ
    clear hM hZ
    by_cases h1 : a = 1
    · subst h1
      go_wp2_with fail
      refine (rop1_any _ q A c l st8 HM.out.rg.rst).mono ?_
      rintro e w9 ⟨⟨oa, ob, oc, od, oe, of, og⟩, st9, he, _, hk, hr, rd9⟩
      have he : e = .returned (.agg #[.int .i64 oa, .int .i64 ob, .string oc, .int .i64 od, .string oe, .int .i64 of, .string og]) := he
      subst he
      have hM := HM.out.next hk hr
      have hZ := HZ.out.kp hk hqz
      clear HM HZ hk hr
      obtain ⟨⟨dv7, d7⟩, f7⟩ := hM.facts 7 (by omega)
      obtain ⟨⟨dv8, d8⟩, f8⟩ := hM.facts 8 (by omega)
      obtain ⟨⟨dv9, d9⟩, f9⟩ := hM.facts 9 (by omega)
      obtain ⟨⟨dv10, d10⟩, f10⟩ := hM.facts 10 (by omega)
      obtain ⟨⟨dv11, d11⟩, f11⟩ := hM.facts 11 (by omega)
      obtain ⟨⟨dv12, d12⟩, f12⟩ := hM.facts 12 (by omega)
      obtain ⟨⟨dv13, d13⟩, f13⟩ := hM.facts 13 (by omega)
      have HM := Lib.hid hM
      have HZ := Lib.hid hZ
      clear hM hZ
      go_upto_region 12 with fail
      have hM : MSt w q A c l gm gr ⟨1, b, c2, d, FloatKind.f64.nearest ep, FloatKind.f64.nearest nu, ve, er, ⟨oa, ob, oc, od, oe, of, og⟩, [], []⟩ st9 (((((((w9.setCell ⟨gm, 7, none⟩ (.int .i64 oa)).setCell ⟨gm, 8, none⟩ (.int .i64 ob)).setCell ⟨gm, 9, none⟩ (.string oc)).setCell ⟨gm, 10, none⟩ (.int .i64 od)).setCell ⟨gm, 11, none⟩ (.string oe)).setCell ⟨gm, 12, none⟩ (.int .i64 of)).setCell ⟨gm, 13, none⟩ (.string og)) := HM.out.setS 7 [.int .i64 oa, .int .i64 ob, .string oc, .int .i64 od, .string oe, .int .i64 of, .string og] rfl rfl (fun _ => rfl)
      have hZ : Blk (((((((w9.setCell ⟨gm, 7, none⟩ (.int .i64 oa)).setCell ⟨gm, 8, none⟩ (.int .i64 ob)).setCell ⟨gm, 9, none⟩ (.string oc)).setCell ⟨gm, 10, none⟩ (.int .i64 od)).setCell ⟨gm, 11, none⟩ (.string oe)).setCell ⟨gm, 12, none⟩ (.int .i64 of)).setCell ⟨gm, 13, none⟩ (.string og)) (gr + 1) ((MsgD.new 0 0 0 0).cells NSL).toArray 34 := Blk.setCells_other (fun e => hgne e.symm) [.int .i64 oa, .int .i64 ob, .string oc, .int .i64 od, .string oe, .int .i64 of, .string og] 7 HZ.out
      clear HM HZ d7 f7 d8 f8 d9 f9 d10 f10 d11 f11 d12 f12 d13 f13
      generalize ((((((w9.setCell ⟨gm, 7, none⟩ (.int .i64 oa)).setCell ⟨gm, 8, none⟩ (.int .i64 ob)).setCell ⟨gm, 9, none⟩ (.string oc)).setCell ⟨gm, 10, none⟩ (.int .i64 od)).setCell ⟨gm, 11, none⟩ (.string oe)).setCell ⟨gm, 12, none⟩ (.int .i64 of)).setCell ⟨gm, 13, none⟩ (.string og) = W9 at *
      have HR : Hid (Read (gmsg pnum ptxt pcnt) st0 ⟨1, b, c2, d, ep, nu, ve, er, ⟨oa, ob, oc, od, oe, of, og⟩, [], []⟩ st9) := hrd.out (fun a b c d => pbind pnum fun e => pbind pnum fun f => pbind pnum fun g => pbind pnum fun h => gmsgK a b c d e f g h) _ _ (rdep.bind (rdnu.bind (rdve.bind (rder.bind (rd9.bind (Read.ret _ _))))))
      obtain ⟨s, hb, HW⟩ := hM.fin hgr1 hZ
      obtain ⟨x1, x2, x3, x4, x5⟩ := HW _ rfl
      have HF := Lib.hid (box_fin (fn := Try.f51) (Q := GotMsg q A c l st0 w) rfl hZ ((⟨1, b, c2, d, FloatKind.f64.nearest ep, FloatKind.f64.nearest nu, ve, er, ⟨oa, ob, oc, od, oe, of, og⟩, [], []⟩ : MsgD).cells s) rfl Try.underlying34 rfl size_msg ⟨_, ⟨1, b, c2, d, ep, nu, ve, er, ⟨oa, ob, oc, od, oe, of, og⟩, [], []⟩, s, _, rfl, x1, x2, x3, HR.out, x4, x5⟩)
      clear HW x1 x2 x3 x4 x5 hM
      obtain ⟨ms, hms⟩ : ∃ ms : MsgD, ms = ⟨1, b, c2, d, FloatKind.f64.nearest ep, FloatKind.f64.nearest nu, ve, er, ⟨oa, ob, oc, od, oe, of, og⟩, [], []⟩ := ⟨_, rfl⟩
      rw [← hms] at hb HF
      clear hms
      go_wp2_with (first | ((with_reducible refine wpList_load_blk34 (op := ⟨_, Op.load 34 _, _, _, _, _⟩) rfl _ rfl _ _ _ ?_ hb ?_); rfl) | ((with_reducible refine wpList_store_blk34 (op := ⟨_, Op.store 34 _ _, _, _, _, _⟩) rfl _ _ rfl _ _ ms _ s ?_ ?_ hZ ?_); rfl; rfl))
      exact HF.out _ (by rfl)
    by_cases h2 : a = 2
    · subst h2
      go_wp2_with fail
      refine (many_any (readerE w q A c l gm gr (gr + 1) _ ⟨2, b, c2, d, FloatKind.f64.nearest ep, FloatKind.f64.nearest nu, ve, er, OpD.zero, [], []⟩ (fun e => hgne e.symm) hqz) st8 _ ⟨HM.out, HZ.out⟩).mono ?_
      rintro e w9 ⟨rfl, xs, st9, rd9, hM, hZ⟩
      clear HM HZ
      have HM := Lib.hid hM
      have HZ := Lib.hid hZ
      clear hM hZ
      go_upto_region 12 with fail
      have hM := HM.out
      have hZ := HZ.out
      clear HM HZ
      have HR : Hid (Read (gmsg pnum ptxt pcnt) st0 ⟨2, b, c2, d, ep, nu, ve, er, OpD.zero, xs, []⟩ st9) := hrd.out (fun a b c d => pbind pnum fun e => pbind pnum fun f => pbind pnum fun g => pbind pnum fun h => gmsgK a b c d e f g h) _ _ (rdep.bind (rdnu.bind (rdve.bind (rder.bind (rd9.bind (Read.ret _ _))))))
      obtain ⟨s, hb, HW⟩ := hM.fin hgr1 hZ
      obtain ⟨x1, x2, x3, x4, x5⟩ := HW _ rfl
      have HF := Lib.hid (box_fin (fn := Try.f51) (Q := GotMsg q A c l st0 w) rfl hZ ((⟨2, b, c2, d, FloatKind.f64.nearest ep, FloatKind.f64.nearest nu, ve, er, OpD.zero, xs, []⟩ : MsgD).cells s) rfl Try.underlying34 rfl size_msg ⟨_, ⟨2, b, c2, d, ep, nu, ve, er, OpD.zero, xs, []⟩, s, _, rfl, x1, x2, x3, HR.out, x4, x5⟩)
      clear HW x1 x2 x3 x4 x5 hM
      obtain ⟨ms, hms⟩ : ∃ ms : MsgD, ms = ⟨2, b, c2, d, FloatKind.f64.nearest ep, FloatKind.f64.nearest nu, ve, er, OpD.zero, xs, []⟩ := ⟨_, rfl⟩
      rw [← hms] at hb HF
      clear hms
      go_wp2_with (first | ((with_reducible refine wpList_load_blk34 (op := ⟨_, Op.load 34 _, _, _, _, _⟩) rfl _ rfl _ _ _ ?_ hb ?_); rfl) | ((with_reducible refine wpList_store_blk34 (op := ⟨_, Op.store 34 _ _, _, _, _, _⟩) rfl _ _ rfl _ _ ms _ s ?_ ?_ hZ ?_); rfl; rfl))
      exact HF.out _ (by rfl)
    by_cases h3 : a = 3
    · subst h3
      go_wp2_with fail
      refine (many_any (readerK w q A c l gm gr (gr + 1) _ ⟨3, b, c2, d, FloatKind.f64.nearest ep, FloatKind.f64.nearest nu, ve, er, OpD.zero, [], []⟩ (fun e => hgne e.symm) hqz) st8 _ ⟨HM.out, HZ.out⟩).mono ?_
      rintro e w9 ⟨rfl, xs, st9, rd9, hM, hZ⟩
      clear HM HZ
      have HM := Lib.hid hM
      have HZ := Lib.hid hZ
      clear hM hZ
      go_upto_region 12 with fail
      have hM := HM.out
      have hZ := HZ.out
      clear HM HZ
      have HR : Hid (Read (gmsg pnum ptxt pcnt) st0 ⟨3, b, c2, d, ep, nu, ve, er, OpD.zero, [], xs⟩ st9) := hrd.out (fun a b c d => pbind pnum fun e => pbind pnum fun f => pbind pnum fun g => pbind pnum fun h => gmsgK a b c d e f g h) _ _ (rdep.bind (rdnu.bind (rdve.bind (rder.bind (rd9.bind (Read.ret _ _))))))
      obtain ⟨s, hb, HW⟩ := hM.fin hgr1 hZ
      obtain ⟨x1, x2, x3, x4, x5⟩ := HW _ rfl
      have HF := Lib.hid (box_fin (fn := Try.f51) (Q := GotMsg q A c l st0 w) rfl hZ ((⟨3, b, c2, d, FloatKind.f64.nearest ep, FloatKind.f64.nearest nu, ve, er, OpD.zero, [], xs⟩ : MsgD).cells s) rfl Try.underlying34 rfl size_msg ⟨_, ⟨3, b, c2, d, ep, nu, ve, er, OpD.zero, [], xs⟩, s, _, rfl, x1, x2, x3, HR.out, x4, x5⟩)
      clear HW x1 x2 x3 x4 x5 hM
      obtain ⟨ms, hms⟩ : ∃ ms : MsgD, ms = ⟨3, b, c2, d, FloatKind.f64.nearest ep, FloatKind.f64.nearest nu, ve, er, OpD.zero, [], xs⟩ := ⟨_, rfl⟩
      rw [← hms] at hb HF
      clear hms
      go_wp2_with (first | ((with_reducible refine wpList_load_blk34 (op := ⟨_, Op.load 34 _, _, _, _, _⟩) rfl _ rfl _ _ _ ?_ hb ?_); rfl) | ((with_reducible refine wpList_store_blk34 (op := ⟨_, Op.store 34 _ _, _, _, _, _⟩) rfl _ _ rfl _ _ ms _ s ?_ ?_ hZ ?_); rfl; rfl))
      exact HF.out _ (by rfl)
    have e1 : (a == 1) = false := by simp [h1]
    have e2 : (a == 2) = false := by simp [h2]
    have e3 : (a == 3) = false := by simp [h3]
    go_upto_region 12 with fail
    have hM := HM.out
    have hZ := HZ.out
    clear HM HZ
    have HK8 : Hid (Read (gmsgK a b c2 d ep nu ve er) st8 ⟨a, b, c2, d, ep, nu, ve, er, OpD.zero, [], []⟩ st8) := by show Read _ _ _ _; unfold gmsgK; rw [if_neg h1, if_neg h2, if_neg h3]; exact Read.ret _ _
    have HR : Hid (Read (gmsg pnum ptxt pcnt) st0 ⟨a, b, c2, d, ep, nu, ve, er, OpD.zero, [], []⟩ st8) := hrd.out (fun a b c d => pbind pnum fun e => pbind pnum fun f => pbind pnum fun g => pbind pnum fun h => gmsgK a b c d e f g h) _ _ (rdep.bind (rdnu.bind (rdve.bind (rder.bind (HK8.out)))))
    obtain ⟨s, hb, HW⟩ := hM.fin hgr1 hZ
    obtain ⟨x1, x2, x3, x4, x5⟩ := HW _ rfl
    have HF := Lib.hid (box_fin (fn := Try.f51) (Q := GotMsg q A c l st0 w) rfl hZ ((⟨a, b, c2, d, FloatKind.f64.nearest ep, FloatKind.f64.nearest nu, ve, er, OpD.zero, [], []⟩ : MsgD).cells s) rfl Try.underlying34 rfl size_msg ⟨_, ⟨a, b, c2, d, ep, nu, ve, er, OpD.zero, [], []⟩, s, _, rfl, x1, x2, x3, HR.out, x4, x5⟩)
    clear HW x1 x2 x3 x4 x5 hM
    obtain ⟨ms, hms⟩ : ∃ ms : MsgD, ms = ⟨a, b, c2, d, FloatKind.f64.nearest ep, FloatKind.f64.nearest nu, ve, er, OpD.zero, [], []⟩ := ⟨_, rfl⟩
    rw [← hms] at hb HF
    clear hms
    go_wp2_with (first | ((with_reducible refine wpList_load_blk34 (op := ⟨_, Op.load 34 _, _, _, _, _⟩) rfl _ rfl _ _ _ ?_ hb ?_); rfl) | ((with_reducible refine wpList_store_blk34 (op := ⟨_, Op.store 34 _ _, _, _, _, _⟩) rfl _ _ rfl _ _ ms _ s ?_ ?_ hZ ?_); rfl; rfl))
    exact HF.out _ (by rfl)

end Go.Proofs.Ytmhcjkiaogimgaa
