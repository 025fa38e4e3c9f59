/- The program's Unpack. -/
import Derived.Test.YtmhcjkiaogimgaaRdF
import Derived.Test.YtmhcjkiaogimgaaWirI
namespace Go.Proofs.Ytmhcjkiaogimgaa
open Go.RowKit

/-- Bytes that are handed over. -/
structure BArg (w : World) (A : Option Addr) (c : Nat) (l : List Int) : Prop where
  rd : Rd .u8 w A l
  isb : isB l
  len : l.length ≤ 140737488355328
  cap : l.length ≤ c
  lim : c ≤ 9223372036854775807
  blk : ∀ x, A = some x → x.block < w.heap.size
theorem BArg.below {w w' : World} {A : Option Addr} {c : Nat} {l : List Int} (h : BArg w A c l) (b : Below w.heap.size w w') : BArg w' A c l := ⟨h.rd.below b, h.isb, h.len, h.cap, h.lim, fun x hx => Nat.lt_of_lt_of_le (h.blk x hx) b.size⟩
theorem BArg.reader {w : World} {A : Option Addr} {c : Nat} {l : List Int} (h : BArg w A c l) : RSt (w.alloc (.cells #[.slice A l.length c, .int .i64 0, .bool false] 97)) w.heap.size A c l (some l) :=
  ⟨h.rd.below (bel_al (Below.refl _ _) _), fun x hx e => by have := h.blk x hx; omega, h.isb, h.len, h.cap, h.lim, 0, false, Blk.new _ _ _, Nat.zero_le _, rfl⟩
/-- What Unpack answers. -/
def unp (l : List Int) : Option NoteD := match gnote pnum ptxt l with | some (n, []) => if n.ok then some n else none | _ => none
def unpN (l : List Int) : NoteD := (unp l).getD NoteD.zero
def unpE (l : List Int) : Int := if (unp l).isSome then 0 else 50
def gnoteK (num : Prs Int) (txt : Prs ByteArray) (a : Int) : Prs NoteD :=
  if a = 1 then pbind num fun b => pret ⟨a, b, 0, 0, 0, EntryD.zero, SeenD.zero, OpD.zero⟩
  else if a = 2 then pbind num fun b => pbind num fun c => pbind num fun d => pret ⟨a, b, c, d, 0, EntryD.zero, SeenD.zero, OpD.zero⟩
  else if a = 3 then pbind (gentry num txt) fun x => pret ⟨a, 0, 0, 0, 0, x, SeenD.zero, OpD.zero⟩
  else if a = 4 ∨ a = 5 then pbind num fun b => pbind num fun c => pbind num fun d => pbind num fun e => if a = 5 then pbind (gop num txt) fun o => pret ⟨a, 0, 0, 0, b, EntryD.zero, ⟨c, d, e⟩, o⟩ else pret ⟨a, 0, 0, 0, b, EntryD.zero, ⟨c, d, e⟩, OpD.zero⟩
  else pret ⟨a, 0, 0, 0, 0, EntryD.zero, SeenD.zero, OpD.zero⟩
theorem gnote_k (num : Prs Int) (txt : Prs ByteArray) : gnote num txt = pbind pbyte (gnoteK num txt) := rfl
theorem buildk (z : Int) (w : World) : (Instr.build 51 #[(0, .int .i64 z)]).run Try.prog w = .ok (.agg (⟨z, 0, 0, 0, 0, EntryD.zero, SeenD.zero, OpD.zero⟩ : NoteD).cells.toArray) w := by
  go_simp; rfl
/-- Results: a note in memory, and a number. -/
theorem note_fin {fn : Func} {w : World} {g : Nat} {n0 : NoteD} {Q : Ending → World → Prop} (hres : fn.results = #[.cell 2 51, .tmp 3]) (hb : NoteAt w g n0) (n : NoteD) (err : Int) (hp : Q (.returned (.tuple #[.agg n.cells.toArray, .int .i64 err])) (w.setCells g 0 n.cells)) :
    ∀ tmps : Array Value, tmps.getD 2 undef = .pointer (some ⟨g, 0, none⟩) → tmps.getD 3 undef = .int .i64 err → bodyPost Try.prog fn Q Exit.ret { tmps := tmps, defers := [] } (w.setCells g 0 n.cells) := by
  intro tmps h2 h3
  have h2' : tmps[2]?.getD undef = .pointer (some ⟨g, 0, none⟩) := by simpa using h2
  have h3' : tmps[3]?.getD undef = .int .i64 err := by simpa using h3
  have hr := run_loadVar_mid (P := Try.prog) (w.setCells g 0 n.cells) g 0 51 n.cells _ (hb.stored n).all Try.underlying51 rfl size_note
  refine bodyPost_ret (v := .tuple #[.agg n.cells.toArray, .int .i64 err]) ?_ rfl hp
  simp [results, hres, h2', h3', asAddr, hr]
theorem NoteAt.setI {w : World} {g : Nat} {n n' : NoteD} (h : NoteAt w g n) (i : Nat) (v : Value) (he : n.cells.toArray.setIfInBounds i v = n'.cells.toArray) : NoteAt (w.setCell ⟨g, i, none⟩ v) g n' := ⟨he ▸ h.blk.set i v⟩
theorem NoteAt.setS {w : World} {g : Nat} {n n' : NoteD} (h : NoteAt w g n) (o : Nat) (vs : List Value) (he : setMany n.cells.toArray o vs = n'.cells.toArray) : NoteAt (w.setCells g o vs) g n' := ⟨he ▸ h.blk.setCells vs o⟩
theorem NoteAt.kp {S : Nat → Prop} {w w' : World} {g : Nat} {n : NoteD} (h : NoteAt w g n) (hk : Kp S w w') (hs : ¬ S g) : NoteAt w' g n := ⟨h.blk.kp hk hs⟩
theorem wpList_load_mid_g {P : Program} {ops : Array Oper} {rest : List Oper} {op : Oper} {a : Act} {w : World} {Q : Exit → Act → World → Prop} (hw : Region.wanted op (yielded ops a.tmps) = true) (ty : TypeId) (x : Operand) (ho : op.op = .load ty x)
    (b o : Nat) (hx : a.eval x = .pointer (some ⟨b, o, none⟩)) (cs : List Value) (d : TypeDesc) (hc : w.rangeAt b o cs)
    (hu : P.underlying ty = some d) (hd : d.isRow = true) (hi : (P.info? ty).map (·.size) = some cs.length)
    (h : wpList P ops Q rest (a.put op.dst (.agg cs.toArray)) w) : wpList P ops Q (op :: rest) a w :=
  BigFrame.wpList_want hw fun _ hK => wp_load_mid ty x ho b o hx cs d hc hu hd hi (hK _ _ h)
theorem wpList_load_note_g {ops : Array Oper} {rest : List Oper} {op : Oper} {a : Act} {w : World} {Q : Exit → Act → World → Prop} (x : Operand) (ho : op.op = .load 51 x) (hw : Region.wanted op (yielded ops a.tmps) = true) (g : Nat) (n : NoteD)
    (hx : a.eval x = .pointer (some ⟨g, 0, none⟩)) (hN : NoteAt w g n) (h : wpList Try.prog ops Q rest (a.put op.dst (.agg n.cells.toArray)) w) : wpList Try.prog ops Q (op :: rest) a w :=
  wpList_load_mid_g hw _ x ho g 0 hx _ _ hN.all Try.underlying51 rfl size_note h
theorem unp_none {l : List Int} {n : NoteD} {st : Option (List Int)} (h : Read (gnote pnum ptxt) (some l) n st) (hs : st ≠ some []) : unp l = none := by
  unfold unp
  cases hg : gnote pnum ptxt l with
  | none => rfl
  | some xt =>
    obtain ⟨x, t⟩ := xt
    rw [Read, hg] at h
    cases t with
    | nil => exact absurd h.2 hs
    | cons a t => rfl
theorem unp_some {l : List Int} {n : NoteD} (h : Read (gnote pnum ptxt) (some l) n (some [])) : unp l = if n.ok then some n else none := by
  unfold unp
  cases hg : gnote pnum ptxt l with
  | none => rw [Read, hg] at h; cases h
  | some xt =>
    obtain ⟨x, t⟩ := xt
    rw [Read, hg] at h
    obtain ⟨rfl, h2⟩ := h
    injection h2 with h2
    subst h2
    rfl

set_option maxRecDepth 100000 in
set_option maxHeartbeats 8000000 in
theorem unpack_any (w : World) (A : Option Addr) (c : Nat) (l : List Int) (h : BArg w A c l) :
    Calls Try.prog 27 #[.slice A l.length c] w fun e w' => e = .returned (.tuple #[.agg (unpN l).cells.toArray, .int .i64 (unpE l)]) ∧ Below w.heap.size w w' := by
  have HA : Hid (∀ W, W = w.alloc (.cells NoteD.zero.cells.toArray 51) → NoteAt W w.heap.size NoteD.zero ∧ Below w.heap.size w W ∧ W.heap.size = w.heap.size + 1) := by
    rintro W rfl
    exact ⟨⟨Blk.new _ _ _⟩, bel_al (Below.refl _ _) _, by simp⟩
  obtain ⟨m, hm⟩ : ∃ m, Hid (m = l.length) := ⟨_, rfl⟩
  have H := Lib.hid h
  clear h
  rw [← hm.out]
  go_enter Try.func27, Try.ntmps27
  go_upto_region 1 with fail
  obtain ⟨V, hV⟩ : ∃ V, V = w.alloc (.cells NoteD.zero.cells.toArray 51) := ⟨_, rfl⟩
  obtain ⟨N0, hB, hsz⟩ := HA.out V hV
  rw [zero_cells] at hV
  rw [← hV]
  have HR := Lib.hid ((H.out.below hB).reader)
  have HN := Lib.hid (N0.below (w' := V.alloc (.cells #[.slice A l.length c, .int .i64 0, .bool false] 97)) (bel_al (Below.refl _ _) _))
  have HB := Lib.hid (bel_next hB (bel_al (Below.refl _ _) (.cells #[.slice A l.length c, .int .i64 0, .bool false] 97)))
  rw [← hm.out] at HR HN HB
  clear hV HA N0 hB
  go_upto_region 2 with fail
  have hqm := HR.out.lt
  rw [hsz] at HR
  generalize V.alloc (.cells #[.slice A m c, .int .i64 0, .bool false] 97) = W1 at *
  obtain ⟨q, hq⟩ : ∃ q, q = w.heap.size + 1 := ⟨_, rfl⟩
  rw [hsz] at hqm
  rw [← hq] at HR hqm
  rw [← hq]
  have hq0 : w.heap.size < q := by omega
  clear hq
  go_wp2_with fail
  refine (rbyte_any W1 q A c l (some l) HR.out).mono ?_
  rintro e w2 ⟨a, st1, rfl, _, hk, hr, rd0⟩
  have G := HR.out.start.next hk hr
  have N0 := HN.out.kp hk (by omega)
  have hbk := buildk a
  have hZ : NoteAt (w2.alloc (.cells #[.int .i64 0, .int .i64 0, .int .i64 0, .int .i64 0, .int .i64 0, .int .i64 0, .string ⟨#[]⟩, .bool false, .int .i64 0, .int .i64 0, .int .i64 0, .string ⟨#[]⟩, .int .i64 0, .int .i64 0, .int .i64 0, .int .i64 0, .int .i64 0, .string ⟨#[]⟩, .int .i64 0, .string ⟨#[]⟩, .int .i64 0, .string ⟨#[]⟩] 51)) w2.heap.size NoteD.zero := ⟨Blk.new w2 NoteD.zero.cells.toArray _⟩
  have h12 := hk.size
  clear hk hr
  have HG := Lib.hid G
  have HN0 := Lib.hid N0
  clear G N0
  go_upto_region 3 with (first | ((with_reducible refine wpList_build_run (op := ⟨_, Op.build 51 _, _, _, _, _⟩) rfl _ _ rfl _ ?_ _ (hbk _) ?_); (focus (first | (go_simp; done) | (go_simp; rfl)))) | ((with_reducible refine wpList_store_note (op := ⟨_, Op.store 51 _ _, _, _, _, _⟩) rfl _ _ rfl _ _ ⟨a, 0, 0, 0, 0, EntryD.zero, SeenD.zero, OpD.zero⟩ ?_ ?_ hZ ?_); rfl; rfl))
  have N : NoteAt ((w2.alloc (.cells #[.int .i64 0, .int .i64 0, .int .i64 0, .int .i64 0, .int .i64 0, .int .i64 0, .string ⟨#[]⟩, .bool false, .int .i64 0, .int .i64 0, .int .i64 0, .string ⟨#[]⟩, .int .i64 0, .int .i64 0, .int .i64 0, .int .i64 0, .int .i64 0, .string ⟨#[]⟩, .int .i64 0, .string ⟨#[]⟩, .int .i64 0, .string ⟨#[]⟩] 51)).setCells w2.heap.size 0 (⟨a, 0, 0, 0, 0, EntryD.zero, SeenD.zero, OpD.zero⟩ : NoteD).cells) w2.heap.size ⟨a, 0, 0, 0, 0, EntryD.zero, SeenD.zero, OpD.zero⟩ := hZ.stored _
  have G : RG W1 q A c l st1 ((w2.alloc (.cells #[.int .i64 0, .int .i64 0, .int .i64 0, .int .i64 0, .int .i64 0, .int .i64 0, .string ⟨#[]⟩, .bool false, .int .i64 0, .int .i64 0, .int .i64 0, .string ⟨#[]⟩, .int .i64 0, .int .i64 0, .int .i64 0, .int .i64 0, .int .i64 0, .string ⟨#[]⟩, .int .i64 0, .string ⟨#[]⟩, .int .i64 0, .string ⟨#[]⟩] 51)).setCells w2.heap.size 0 (⟨a, 0, 0, 0, 0, EntryD.zero, SeenD.zero, OpD.zero⟩ : NoteD).cells) := (HG.out.al _).sets h12 0 _
  have N0 : NoteAt ((w2.alloc (.cells #[.int .i64 0, .int .i64 0, .int .i64 0, .int .i64 0, .int .i64 0, .int .i64 0, .string ⟨#[]⟩, .bool false, .int .i64 0, .int .i64 0, .int .i64 0, .string ⟨#[]⟩, .int .i64 0, .int .i64 0, .int .i64 0, .int .i64 0, .int .i64 0, .string ⟨#[]⟩, .int .i64 0, .string ⟨#[]⟩, .int .i64 0, .string ⟨#[]⟩] 51)).setCells w2.heap.size 0 (⟨a, 0, 0, 0, 0, EntryD.zero, SeenD.zero, OpD.zero⟩ : NoteD).cells) w.heap.size NoteD.zero := ⟨Blk.setCells_other (by omega) _ _ (HN0.out.blk.alloc _)⟩
  clear hZ HG HN0 hbk
  generalize (w2.alloc (.cells #[.int .i64 0, .int .i64 0, .int .i64 0, .int .i64 0, .int .i64 0, .int .i64 0, .string ⟨#[]⟩, .bool false, .int .i64 0, .int .i64 0, .int .i64 0, .string ⟨#[]⟩, .int .i64 0, .int .i64 0, .int .i64 0, .int .i64 0, .int .i64 0, .string ⟨#[]⟩, .int .i64 0, .string ⟨#[]⟩, .int .i64 0, .string ⟨#[]⟩] 51)).setCells w2.heap.size 0 (⟨a, 0, 0, 0, 0, EntryD.zero, SeenD.zero, OpD.zero⟩ : NoteD).cells = W3 at *
  generalize w2.heap.size = g2 at *
  have hg2q : ¬ g2 = q := by omega
  have hg20 : ¬ w.heap.size = g2 := by omega
  have hq0' : ¬ w.heap.size = q := by omega
  have HRD := Lib.hid rd0
  have HM := Lib.hid hqm
  clear rd0 hsz hqm HN HR
  have k0 : W3.cell? ⟨g2, 0, none⟩ = some (.int .i64 a) := (N.blk.cell 0).trans rfl
  by_cases h1 : a = 1
  · subst h1
    have HG := Lib.hid G
    have HN := Lib.hid N
    have HN0 := Lib.hid N0
    clear G N N0
    go_wp2_with fail
    refine (rnum_any _ q A c l st1 HG.out.rst).mono ?_
    rintro e w4 ⟨v0, st2, rfl, _, hk, hr, rd1⟩
    have G := HG.out.next hk hr
    have N := HN.out.kp hk hg2q
    have N0 := HN0.out.kp hk hq0'
    clear HG HN HN0 hk hr
    have ⟨d1, hd1⟩ : ∃ v, w4.cell? ⟨g2, 1, none⟩ = some v := ⟨_, (N.blk.cell 1).trans rfl⟩
    have fd1 := N.blk.frozen 1
    have HG := Lib.hid G
    have HN := Lib.hid N
    have HN0 := Lib.hid N0
    clear G N N0
    go_upto_region 16 with fail
    have G : RG W1 q A c l st2 (w4.setCell ⟨g2, 1, none⟩ (.int .i64 v0)) := (HG.out.sets h12 1 [.int .i64 v0])
    have N0 : NoteAt (w4.setCell ⟨g2, 1, none⟩ (.int .i64 v0)) w.heap.size NoteD.zero := ⟨(Blk.setCells_other hg20 [.int .i64 v0] 1 HN0.out.blk)⟩
    have N : NoteAt (w4.setCell ⟨g2, 1, none⟩ (.int .i64 v0)) g2 ⟨1, v0, 0, 0, 0, EntryD.zero, SeenD.zero, OpD.zero⟩ := ⟨(HN.out.blk.setCells [.int .i64 v0] 1)⟩
    clear HG HN HN0 hd1 fd1
    generalize w4.setCell ⟨g2, 1, none⟩ (.int .i64 v0) = X5 at *
    have RD : Hid (Read (gnote pnum ptxt) (some l) ⟨1, v0, 0, 0, 0, EntryD.zero, SeenD.zero, OpD.zero⟩ st2) := HRD.out.bind (rd1.bind (Read.ret _ _))
    have BB := Lib.hid (below_kp HB.out G.kp HB.out.size (fun k hk => by omega))
    obtain ⟨k, bad, c0, c1, c2, f1, f2, hkl, he⟩ := G.rst.cells
    rw [← hm.out] at c0 hkl
    clear G
    obtain ⟨n, hn⟩ : ∃ n : NoteD, n = ⟨1, v0, 0, 0, 0, EntryD.zero, SeenD.zero, OpD.zero⟩ := ⟨_, rfl⟩
    rw [← hn] at RD N
    clear hn
    have hb0 := build0
    cases bad with
    | true =>
      have hu : Hid (unp l = none) := unp_none RD.out (by rw [show st2 = none from he]; simp)
      have hE : unpE l = 50 := by unfold unpE; rw [hu.out]; rfl
      have hU : unpN l = NoteD.zero := by unfold unpN; rw [hu.out]; rfl
      have HF := Lib.hid (note_fin (fn := Try.f27) (Q := fun e w' => e = .returned (.tuple #[.agg (unpN l).cells.toArray, .int .i64 (unpE l)]) ∧ Below w.heap.size w w') rfl N0 NoteD.zero 50 ⟨by rw [hE, hU], below_kp BB.out (Kp.setCells (S := fun k => k = w.heap.size) _ rfl _ _ _ (Kp.refl _ _)) BB.out.size (fun k hk => by omega)⟩)
      clear hE hU
      go_wp2_with (first | ((with_reducible refine wpList_build_run (op := ⟨_, Op.build 51 _, _, _, _, _⟩) rfl _ _ rfl _ ?_ _ (hb0 _) ?_); (focus (first | (go_simp; done) | (go_simp; rfl)))) | ((with_reducible refine wpList_store_note (op := ⟨_, Op.store 51 _ _, _, _, _, _⟩) rfl _ _ rfl _ _ NoteD.zero ?_ ?_ N0 ?_); rfl; rfl))
      exact HF.out _ (by rfl) (by rfl)
    | false =>
      have hst : Hid (st2 = some (l.drop k)) := he
      by_cases hlt : k < m
      · have hi : (k : Int) < (m : Int) := by omega
        have hu : Hid (unp l = none) := unp_none RD.out (by rw [hst.out]; intro h; injection h with h; have := congrArg List.length h; rw [List.length_drop, ← hm.out] at this; simp at this; omega)
        have hE : unpE l = 50 := by unfold unpE; rw [hu.out]; rfl
        have hU : unpN l = NoteD.zero := by unfold unpN; rw [hu.out]; rfl
        have HF := Lib.hid (note_fin (fn := Try.f27) (Q := fun e w' => e = .returned (.tuple #[.agg (unpN l).cells.toArray, .int .i64 (unpE l)]) ∧ Below w.heap.size w w') rfl N0 NoteD.zero 50 ⟨by rw [hE, hU], below_kp BB.out (Kp.setCells (S := fun k => k = w.heap.size) _ rfl _ _ _ (Kp.refl _ _)) BB.out.size (fun k hk => by omega)⟩)
        clear hE hU
        clear he hlt
        go_wp2_with (first | ((with_reducible refine wpList_build_run (op := ⟨_, Op.build 51 _, _, _, _, _⟩) rfl _ _ rfl _ ?_ _ (hb0 _) ?_); (focus (first | (go_simp; done) | (go_simp; rfl)))) | ((with_reducible refine wpList_store_note (op := ⟨_, Op.store 51 _ _, _, _, _, _⟩) rfl _ _ rfl _ _ NoteD.zero ?_ ?_ N0 ?_); rfl; rfl))
        exact HF.out _ (by rfl) (by rfl)
      · obtain rfl : k = m := by omega
        have hu0 := Lib.hid (unp_some (by have := RD.out; rw [hst.out, List.drop_eq_nil_of_le (by rw [hm.out]; exact Nat.le_refl _)] at this; exact this))
        have HN := Lib.hid N
        have HN0 := Lib.hid N0
        clear he hlt N0
        go_wp2_with (((with_reducible refine wpList_load_note_g (op := ⟨_, Op.load 51 _, _, _, _, _⟩) _ rfl ?_ _ _ ?_ N ?_); rfl; rfl))
        refine (plainNote_any n _ ⟨rfl⟩ _).mono ?_
        rintro e w20 ⟨rfl, b20⟩
        have N0 := HN0.out.below b20
        have N2 := HN.out.below b20
        have B2 := Lib.hid (bel_next BB.out b20)
        clear HN HN0 N b20
        cases hok : n.ok with
        | false =>
          have hu : Hid (unp l = none) := by show _ = _; rw [hu0.out, hok]; rfl
          have hE : unpE l = 50 := by unfold unpE; rw [hu.out]; rfl
          have hU : unpN l = NoteD.zero := by unfold unpN; rw [hu.out]; rfl
          have HF := Lib.hid (note_fin (fn := Try.f27) (Q := fun e w' => e = .returned (.tuple #[.agg (unpN l).cells.toArray, .int .i64 (unpE l)]) ∧ Below w.heap.size w w') rfl N0 NoteD.zero 50 ⟨by rw [hE, hU], below_kp B2.out (Kp.setCells (S := fun k => k = w.heap.size) _ rfl _ _ _ (Kp.refl _ _)) B2.out.size (fun k hk => by omega)⟩)
          clear hE hU
          go_wp2_with (first | ((with_reducible refine wpList_build_run (op := ⟨_, Op.build 51 _, _, _, _, _⟩) rfl _ _ rfl _ ?_ _ (hb0 _) ?_); (focus (first | (go_simp; done) | (go_simp; rfl)))) | ((with_reducible refine wpList_store_note (op := ⟨_, Op.store 51 _ _, _, _, _, _⟩) rfl _ _ rfl _ _ NoteD.zero ?_ ?_ N0 ?_); rfl; rfl))
          exact HF.out _ (by rfl) (by rfl)
        | true =>
          have hu : Hid (unp l = some n) := by show _ = _; rw [hu0.out, hok]; rfl
          have hE : unpE l = 0 := by unfold unpE; rw [hu.out]; rfl
          have hU : unpN l = n := by unfold unpN; rw [hu.out]; rfl
          have HF := Lib.hid (note_fin (fn := Try.f27) (Q := fun e w' => e = .returned (.tuple #[.agg (unpN l).cells.toArray, .int .i64 (unpE l)]) ∧ Below w.heap.size w w') rfl N0 n 0 ⟨by rw [hE, hU], below_kp B2.out (Kp.setCells (S := fun k => k = w.heap.size) _ rfl _ _ _ (Kp.refl _ _)) B2.out.size (fun k hk => by omega)⟩)
          clear hE hU
          go_wp2_with (first | ((with_reducible refine wpList_load_note (op := ⟨_, Op.load 51 _, _, _, _, _⟩) rfl _ rfl _ _ ?_ N2 ?_); rfl) | ((with_reducible refine wpList_store_note (op := ⟨_, Op.store 51 _ _, _, _, _, _⟩) rfl _ _ rfl _ _ n ?_ ?_ N0 ?_); rfl; rfl))
          exact HF.out _ (by rfl) (by rfl)
  by_cases h2 : a = 2
  · subst h2
    have HG := Lib.hid G
    have HN := Lib.hid N
    have HN0 := Lib.hid N0
    clear G N N0
    go_wp2_with fail
    refine (rnum_any _ q A c l st1 HG.out.rst).mono ?_
    rintro e w4 ⟨v0, st2, rfl, _, hk, hr, rd1⟩
    have G := HG.out.next hk hr
    have N := HN.out.kp hk hg2q
    have N0 := HN0.out.kp hk hq0'
    clear HG HN HN0 hk hr
    have HG := Lib.hid G
    have HN := Lib.hid N
    have HN0 := Lib.hid N0
    clear G N N0
    go_wp2_with fail
    refine (rnum_any _ q A c l st2 HG.out.rst).mono ?_
    rintro e w5 ⟨v1, st3, rfl, _, hk, hr, rd2⟩
    have G := HG.out.next hk hr
    have N := HN.out.kp hk hg2q
    have N0 := HN0.out.kp hk hq0'
    clear HG HN HN0 hk hr
    have HG := Lib.hid G
    have HN := Lib.hid N
    have HN0 := Lib.hid N0
    clear G N N0
    go_wp2_with fail
    refine (rnum_any _ q A c l st3 HG.out.rst).mono ?_
    rintro e w6 ⟨v2, st4, rfl, _, hk, hr, rd3⟩
    have G := HG.out.next hk hr
    have N := HN.out.kp hk hg2q
    have N0 := HN0.out.kp hk hq0'
    clear HG HN HN0 hk hr
    have ⟨d1, hd1⟩ : ∃ v, w6.cell? ⟨g2, 1, none⟩ = some v := ⟨_, (N.blk.cell 1).trans rfl⟩
    have fd1 := N.blk.frozen 1
    have ⟨d2, hd2⟩ : ∃ v, w6.cell? ⟨g2, 2, none⟩ = some v := ⟨_, (N.blk.cell 2).trans rfl⟩
    have fd2 := N.blk.frozen 2
    have ⟨d3, hd3⟩ : ∃ v, w6.cell? ⟨g2, 3, none⟩ = some v := ⟨_, (N.blk.cell 3).trans rfl⟩
    have fd3 := N.blk.frozen 3
    have HG := Lib.hid G
    have HN := Lib.hid N
    have HN0 := Lib.hid N0
    clear G N N0
    go_upto_region 16 with fail
    have G : RG W1 q A c l st4 (((w6.setCell ⟨g2, 1, none⟩ (.int .i64 v0)).setCell ⟨g2, 2, none⟩ (.int .i64 v1)).setCell ⟨g2, 3, none⟩ (.int .i64 v2)) := (((HG.out.sets h12 1 [.int .i64 v0]).sets h12 2 [.int .i64 v1]).sets h12 3 [.int .i64 v2])
    have N0 : NoteAt (((w6.setCell ⟨g2, 1, none⟩ (.int .i64 v0)).setCell ⟨g2, 2, none⟩ (.int .i64 v1)).setCell ⟨g2, 3, none⟩ (.int .i64 v2)) w.heap.size NoteD.zero := ⟨(Blk.setCells_other hg20 [.int .i64 v2] 3 (Blk.setCells_other hg20 [.int .i64 v1] 2 (Blk.setCells_other hg20 [.int .i64 v0] 1 HN0.out.blk)))⟩
    have N : NoteAt (((w6.setCell ⟨g2, 1, none⟩ (.int .i64 v0)).setCell ⟨g2, 2, none⟩ (.int .i64 v1)).setCell ⟨g2, 3, none⟩ (.int .i64 v2)) g2 ⟨2, v0, v1, v2, 0, EntryD.zero, SeenD.zero, OpD.zero⟩ := ⟨(((HN.out.blk.setCells [.int .i64 v0] 1).setCells [.int .i64 v1] 2).setCells [.int .i64 v2] 3)⟩
    clear HG HN HN0 hd1 fd1 hd2 fd2 hd3 fd3
    generalize ((w6.setCell ⟨g2, 1, none⟩ (.int .i64 v0)).setCell ⟨g2, 2, none⟩ (.int .i64 v1)).setCell ⟨g2, 3, none⟩ (.int .i64 v2) = X7 at *
    have RD : Hid (Read (gnote pnum ptxt) (some l) ⟨2, v0, v1, v2, 0, EntryD.zero, SeenD.zero, OpD.zero⟩ st4) := HRD.out.bind (rd1.bind (rd2.bind (rd3.bind (Read.ret _ _))))
    have BB := Lib.hid (below_kp HB.out G.kp HB.out.size (fun k hk => by omega))
    obtain ⟨k, bad, c0, c1, c2, f1, f2, hkl, he⟩ := G.rst.cells
    rw [← hm.out] at c0 hkl
    clear G
    obtain ⟨n, hn⟩ : ∃ n : NoteD, n = ⟨2, v0, v1, v2, 0, EntryD.zero, SeenD.zero, OpD.zero⟩ := ⟨_, rfl⟩
    rw [← hn] at RD N
    clear hn
    have hb0 := build0
    cases bad with
    | true =>
      have hu : Hid (unp l = none) := unp_none RD.out (by rw [show st4 = none from he]; simp)
      have hE : unpE l = 50 := by unfold unpE; rw [hu.out]; rfl
      have hU : unpN l = NoteD.zero := by unfold unpN; rw [hu.out]; rfl
      have HF := Lib.hid (note_fin (fn := Try.f27) (Q := fun e w' => e = .returned (.tuple #[.agg (unpN l).cells.toArray, .int .i64 (unpE l)]) ∧ Below w.heap.size w w') rfl N0 NoteD.zero 50 ⟨by rw [hE, hU], below_kp BB.out (Kp.setCells (S := fun k => k = w.heap.size) _ rfl _ _ _ (Kp.refl _ _)) BB.out.size (fun k hk => by omega)⟩)
      clear hE hU
      go_wp2_with (first | ((with_reducible refine wpList_build_run (op := ⟨_, Op.build 51 _, _, _, _, _⟩) rfl _ _ rfl _ ?_ _ (hb0 _) ?_); (focus (first | (go_simp; done) | (go_simp; rfl)))) | ((with_reducible refine wpList_store_note (op := ⟨_, Op.store 51 _ _, _, _, _, _⟩) rfl _ _ rfl _ _ NoteD.zero ?_ ?_ N0 ?_); rfl; rfl))
      exact HF.out _ (by rfl) (by rfl)
    | false =>
      have hst : Hid (st4 = some (l.drop k)) := he
      by_cases hlt : k < m
      · have hi : (k : Int) < (m : Int) := by omega
        have hu : Hid (unp l = none) := unp_none RD.out (by rw [hst.out]; intro h; injection h with h; have := congrArg List.length h; rw [List.length_drop, ← hm.out] at this; simp at this; omega)
        have hE : unpE l = 50 := by unfold unpE; rw [hu.out]; rfl
        have hU : unpN l = NoteD.zero := by unfold unpN; rw [hu.out]; rfl
        have HF := Lib.hid (note_fin (fn := Try.f27) (Q := fun e w' => e = .returned (.tuple #[.agg (unpN l).cells.toArray, .int .i64 (unpE l)]) ∧ Below w.heap.size w w') rfl N0 NoteD.zero 50 ⟨by rw [hE, hU], below_kp BB.out (Kp.setCells (S := fun k => k = w.heap.size) _ rfl _ _ _ (Kp.refl _ _)) BB.out.size (fun k hk => by omega)⟩)
        clear hE hU
        clear he hlt
        go_wp2_with (first | ((with_reducible refine wpList_build_run (op := ⟨_, Op.build 51 _, _, _, _, _⟩) rfl _ _ rfl _ ?_ _ (hb0 _) ?_); (focus (first | (go_simp; done) | (go_simp; rfl)))) | ((with_reducible refine wpList_store_note (op := ⟨_, Op.store 51 _ _, _, _, _, _⟩) rfl _ _ rfl _ _ NoteD.zero ?_ ?_ N0 ?_); rfl; rfl))
        exact HF.out _ (by rfl) (by rfl)
      · obtain rfl : k = m := by omega
        have hu0 := Lib.hid (unp_some (by have := RD.out; rw [hst.out, List.drop_eq_nil_of_le (by rw [hm.out]; exact Nat.le_refl _)] at this; exact this))
        have HN := Lib.hid N
        have HN0 := Lib.hid N0
        clear he hlt N0
        go_wp2_with (((with_reducible refine wpList_load_note_g (op := ⟨_, Op.load 51 _, _, _, _, _⟩) _ rfl ?_ _ _ ?_ N ?_); rfl; rfl))
        refine (plainNote_any n _ ⟨rfl⟩ _).mono ?_
        rintro e w20 ⟨rfl, b20⟩
        have N0 := HN0.out.below b20
        have N2 := HN.out.below b20
        have B2 := Lib.hid (bel_next BB.out b20)
        clear HN HN0 N b20
        cases hok : n.ok with
        | false =>
          have hu : Hid (unp l = none) := by show _ = _; rw [hu0.out, hok]; rfl
          have hE : unpE l = 50 := by unfold unpE; rw [hu.out]; rfl
          have hU : unpN l = NoteD.zero := by unfold unpN; rw [hu.out]; rfl
          have HF := Lib.hid (note_fin (fn := Try.f27) (Q := fun e w' => e = .returned (.tuple #[.agg (unpN l).cells.toArray, .int .i64 (unpE l)]) ∧ Below w.heap.size w w') rfl N0 NoteD.zero 50 ⟨by rw [hE, hU], below_kp B2.out (Kp.setCells (S := fun k => k = w.heap.size) _ rfl _ _ _ (Kp.refl _ _)) B2.out.size (fun k hk => by omega)⟩)
          clear hE hU
          go_wp2_with (first | ((with_reducible refine wpList_build_run (op := ⟨_, Op.build 51 _, _, _, _, _⟩) rfl _ _ rfl _ ?_ _ (hb0 _) ?_); (focus (first | (go_simp; done) | (go_simp; rfl)))) | ((with_reducible refine wpList_store_note (op := ⟨_, Op.store 51 _ _, _, _, _, _⟩) rfl _ _ rfl _ _ NoteD.zero ?_ ?_ N0 ?_); rfl; rfl))
          exact HF.out _ (by rfl) (by rfl)
        | true =>
          have hu : Hid (unp l = some n) := by show _ = _; rw [hu0.out, hok]; rfl
          have hE : unpE l = 0 := by unfold unpE; rw [hu.out]; rfl
          have hU : unpN l = n := by unfold unpN; rw [hu.out]; rfl
          have HF := Lib.hid (note_fin (fn := Try.f27) (Q := fun e w' => e = .returned (.tuple #[.agg (unpN l).cells.toArray, .int .i64 (unpE l)]) ∧ Below w.heap.size w w') rfl N0 n 0 ⟨by rw [hE, hU], below_kp B2.out (Kp.setCells (S := fun k => k = w.heap.size) _ rfl _ _ _ (Kp.refl _ _)) B2.out.size (fun k hk => by omega)⟩)
          clear hE hU
          go_wp2_with (first | ((with_reducible refine wpList_load_note (op := ⟨_, Op.load 51 _, _, _, _, _⟩) rfl _ rfl _ _ ?_ N2 ?_); rfl) | ((with_reducible refine wpList_store_note (op := ⟨_, Op.store 51 _ _, _, _, _, _⟩) rfl _ _ rfl _ _ n ?_ ?_ N0 ?_); rfl; rfl))
          exact HF.out _ (by rfl) (by rfl)
  by_cases h3 : a = 3
  · subst h3
    have HG := Lib.hid G
    have HN := Lib.hid N
    have HN0 := Lib.hid N0
    clear G N N0
    go_wp2_with fail
    refine (rentry1_any _ q A c l st1 HG.out.rst).mono ?_
    rintro e w4 ⟨⟨⟨kd, kn⟩, ng, ⟨nid, nk, nm, nt⟩⟩, st2, he, _, hk, hr, rd1⟩
    have he : e = .returned (.agg #[.int .i64 kd, .string kn, .bool ng, .int .i64 nid, .int .i64 nk, .int .i64 nm, .string nt]) := he
    subst he
    have G := HG.out.next hk hr
    have N := HN.out.kp hk hg2q
    have N0 := HN0.out.kp hk hq0'
    clear HG HN HN0 hk hr
    have ⟨d5, hd5⟩ : ∃ v, w4.cell? ⟨g2, 5, none⟩ = some v := ⟨_, (N.blk.cell 5).trans rfl⟩
    have fd5 := N.blk.frozen 5
    have ⟨d6, hd6⟩ : ∃ v, w4.cell? ⟨g2, 6, none⟩ = some v := ⟨_, (N.blk.cell 6).trans rfl⟩
    have fd6 := N.blk.frozen 6
    have ⟨d7, hd7⟩ : ∃ v, w4.cell? ⟨g2, 7, none⟩ = some v := ⟨_, (N.blk.cell 7).trans rfl⟩
    have fd7 := N.blk.frozen 7
    have ⟨d8, hd8⟩ : ∃ v, w4.cell? ⟨g2, 8, none⟩ = some v := ⟨_, (N.blk.cell 8).trans rfl⟩
    have fd8 := N.blk.frozen 8
    have ⟨d9, hd9⟩ : ∃ v, w4.cell? ⟨g2, 9, none⟩ = some v := ⟨_, (N.blk.cell 9).trans rfl⟩
    have fd9 := N.blk.frozen 9
    have ⟨d10, hd10⟩ : ∃ v, w4.cell? ⟨g2, 10, none⟩ = some v := ⟨_, (N.blk.cell 10).trans rfl⟩
    have fd10 := N.blk.frozen 10
    have ⟨d11, hd11⟩ : ∃ v, w4.cell? ⟨g2, 11, none⟩ = some v := ⟨_, (N.blk.cell 11).trans rfl⟩
    have fd11 := N.blk.frozen 11
    have HG := Lib.hid G
    have HN := Lib.hid N
    have HN0 := Lib.hid N0
    clear G N N0
    go_upto_region 16 with fail
    have G : RG W1 q A c l st2 (((((((w4.setCell ⟨g2, 5, none⟩ (.int .i64 kd)).setCell ⟨g2, 6, none⟩ (.string kn)).setCell ⟨g2, 7, none⟩ (.bool ng)).setCell ⟨g2, 8, none⟩ (.int .i64 nid)).setCell ⟨g2, 9, none⟩ (.int .i64 nk)).setCell ⟨g2, 10, none⟩ (.int .i64 nm)).setCell ⟨g2, 11, none⟩ (.string nt)) := (HG.out.sets h12 5 [.int .i64 kd, .string kn, .bool ng, .int .i64 nid, .int .i64 nk, .int .i64 nm, .string nt])
    have N0 : NoteAt (((((((w4.setCell ⟨g2, 5, none⟩ (.int .i64 kd)).setCell ⟨g2, 6, none⟩ (.string kn)).setCell ⟨g2, 7, none⟩ (.bool ng)).setCell ⟨g2, 8, none⟩ (.int .i64 nid)).setCell ⟨g2, 9, none⟩ (.int .i64 nk)).setCell ⟨g2, 10, none⟩ (.int .i64 nm)).setCell ⟨g2, 11, none⟩ (.string nt)) w.heap.size NoteD.zero := ⟨(Blk.setCells_other hg20 [.int .i64 kd, .string kn, .bool ng, .int .i64 nid, .int .i64 nk, .int .i64 nm, .string nt] 5 HN0.out.blk)⟩
    have N : NoteAt (((((((w4.setCell ⟨g2, 5, none⟩ (.int .i64 kd)).setCell ⟨g2, 6, none⟩ (.string kn)).setCell ⟨g2, 7, none⟩ (.bool ng)).setCell ⟨g2, 8, none⟩ (.int .i64 nid)).setCell ⟨g2, 9, none⟩ (.int .i64 nk)).setCell ⟨g2, 10, none⟩ (.int .i64 nm)).setCell ⟨g2, 11, none⟩ (.string nt)) g2 ⟨3, 0, 0, 0, 0, ⟨⟨kd, kn⟩, ng, ⟨nid, nk, nm, nt⟩⟩, SeenD.zero, OpD.zero⟩ := ⟨(HN.out.blk.setCells [.int .i64 kd, .string kn, .bool ng, .int .i64 nid, .int .i64 nk, .int .i64 nm, .string nt] 5)⟩
    clear HG HN HN0 hd5 fd5 hd6 fd6 hd7 fd7 hd8 fd8 hd9 fd9 hd10 fd10 hd11 fd11
    generalize ((((((w4.setCell ⟨g2, 5, none⟩ (.int .i64 kd)).setCell ⟨g2, 6, none⟩ (.string kn)).setCell ⟨g2, 7, none⟩ (.bool ng)).setCell ⟨g2, 8, none⟩ (.int .i64 nid)).setCell ⟨g2, 9, none⟩ (.int .i64 nk)).setCell ⟨g2, 10, none⟩ (.int .i64 nm)).setCell ⟨g2, 11, none⟩ (.string nt) = X5 at *
    have RD : Hid (Read (gnote pnum ptxt) (some l) ⟨3, 0, 0, 0, 0, ⟨⟨kd, kn⟩, ng, ⟨nid, nk, nm, nt⟩⟩, SeenD.zero, OpD.zero⟩ st2) := HRD.out.bind (rd1.bind (Read.ret _ _))
    have BB := Lib.hid (below_kp HB.out G.kp HB.out.size (fun k hk => by omega))
    obtain ⟨k, bad, c0, c1, c2, f1, f2, hkl, he⟩ := G.rst.cells
    rw [← hm.out] at c0 hkl
    clear G
    obtain ⟨n, hn⟩ : ∃ n : NoteD, n = ⟨3, 0, 0, 0, 0, ⟨⟨kd, kn⟩, ng, ⟨nid, nk, nm, nt⟩⟩, SeenD.zero, OpD.zero⟩ := ⟨_, rfl⟩
    rw [← hn] at RD N
    clear hn
    have hb0 := build0
    cases bad with
    | true =>
      have hu : Hid (unp l = none) := unp_none RD.out (by rw [show st2 = none from he]; simp)
      have hE : unpE l = 50 := by unfold unpE; rw [hu.out]; rfl
      have hU : unpN l = NoteD.zero := by unfold unpN; rw [hu.out]; rfl
      have HF := Lib.hid (note_fin (fn := Try.f27) (Q := fun e w' => e = .returned (.tuple #[.agg (unpN l).cells.toArray, .int .i64 (unpE l)]) ∧ Below w.heap.size w w') rfl N0 NoteD.zero 50 ⟨by rw [hE, hU], below_kp BB.out (Kp.setCells (S := fun k => k = w.heap.size) _ rfl _ _ _ (Kp.refl _ _)) BB.out.size (fun k hk => by omega)⟩)
      clear hE hU
      go_wp2_with (first | ((with_reducible refine wpList_build_run (op := ⟨_, Op.build 51 _, _, _, _, _⟩) rfl _ _ rfl _ ?_ _ (hb0 _) ?_); (focus (first | (go_simp; done) | (go_simp; rfl)))) | ((with_reducible refine wpList_store_note (op := ⟨_, Op.store 51 _ _, _, _, _, _⟩) rfl _ _ rfl _ _ NoteD.zero ?_ ?_ N0 ?_); rfl; rfl))
      exact HF.out _ (by rfl) (by rfl)
    | false =>
      have hst : Hid (st2 = some (l.drop k)) := he
      by_cases hlt : k < m
      · have hi : (k : Int) < (m : Int) := by omega
        have hu : Hid (unp l = none) := unp_none RD.out (by rw [hst.out]; intro h; injection h with h; have := congrArg List.length h; rw [List.length_drop, ← hm.out] at this; simp at this; omega)
        have hE : unpE l = 50 := by unfold unpE; rw [hu.out]; rfl
        have hU : unpN l = NoteD.zero := by unfold unpN; rw [hu.out]; rfl
        have HF := Lib.hid (note_fin (fn := Try.f27) (Q := fun e w' => e = .returned (.tuple #[.agg (unpN l).cells.toArray, .int .i64 (unpE l)]) ∧ Below w.heap.size w w') rfl N0 NoteD.zero 50 ⟨by rw [hE, hU], below_kp BB.out (Kp.setCells (S := fun k => k = w.heap.size) _ rfl _ _ _ (Kp.refl _ _)) BB.out.size (fun k hk => by omega)⟩)
        clear hE hU
        clear he hlt
        go_wp2_with (first | ((with_reducible refine wpList_build_run (op := ⟨_, Op.build 51 _, _, _, _, _⟩) rfl _ _ rfl _ ?_ _ (hb0 _) ?_); (focus (first | (go_simp; done) | (go_simp; rfl)))) | ((with_reducible refine wpList_store_note (op := ⟨_, Op.store 51 _ _, _, _, _, _⟩) rfl _ _ rfl _ _ NoteD.zero ?_ ?_ N0 ?_); rfl; rfl))
        exact HF.out _ (by rfl) (by rfl)
      · obtain rfl : k = m := by omega
        have hu0 := Lib.hid (unp_some (by have := RD.out; rw [hst.out, List.drop_eq_nil_of_le (by rw [hm.out]; exact Nat.le_refl _)] at this; exact this))
        have HN := Lib.hid N
        have HN0 := Lib.hid N0
        clear he hlt N0
        go_wp2_with (((with_reducible refine wpList_load_note_g (op := ⟨_, Op.load 51 _, _, _, _, _⟩) _ rfl ?_ _ _ ?_ N ?_); rfl; rfl))
        refine (plainNote_any n _ ⟨rfl⟩ _).mono ?_
        rintro e w20 ⟨rfl, b20⟩
        have N0 := HN0.out.below b20
        have N2 := HN.out.below b20
        have B2 := Lib.hid (bel_next BB.out b20)
        clear HN HN0 N b20
        cases hok : n.ok with
        | false =>
          have hu : Hid (unp l = none) := by show _ = _; rw [hu0.out, hok]; rfl
          have hE : unpE l = 50 := by unfold unpE; rw [hu.out]; rfl
          have hU : unpN l = NoteD.zero := by unfold unpN; rw [hu.out]; rfl
          have HF := Lib.hid (note_fin (fn := Try.f27) (Q := fun e w' => e = .returned (.tuple #[.agg (unpN l).cells.toArray, .int .i64 (unpE l)]) ∧ Below w.heap.size w w') rfl N0 NoteD.zero 50 ⟨by rw [hE, hU], below_kp B2.out (Kp.setCells (S := fun k => k = w.heap.size) _ rfl _ _ _ (Kp.refl _ _)) B2.out.size (fun k hk => by omega)⟩)
          clear hE hU
          go_wp2_with (first | ((with_reducible refine wpList_build_run (op := ⟨_, Op.build 51 _, _, _, _, _⟩) rfl _ _ rfl _ ?_ _ (hb0 _) ?_); (focus (first | (go_simp; done) | (go_simp; rfl)))) | ((with_reducible refine wpList_store_note (op := ⟨_, Op.store 51 _ _, _, _, _, _⟩) rfl _ _ rfl _ _ NoteD.zero ?_ ?_ N0 ?_); rfl; rfl))
          exact HF.out _ (by rfl) (by rfl)
        | true =>
          have hu : Hid (unp l = some n) := by show _ = _; rw [hu0.out, hok]; rfl
          have hE : unpE l = 0 := by unfold unpE; rw [hu.out]; rfl
          have hU : unpN l = n := by unfold unpN; rw [hu.out]; rfl
          have HF := Lib.hid (note_fin (fn := Try.f27) (Q := fun e w' => e = .returned (.tuple #[.agg (unpN l).cells.toArray, .int .i64 (unpE l)]) ∧ Below w.heap.size w w') rfl N0 n 0 ⟨by rw [hE, hU], below_kp B2.out (Kp.setCells (S := fun k => k = w.heap.size) _ rfl _ _ _ (Kp.refl _ _)) B2.out.size (fun k hk => by omega)⟩)
          clear hE hU
          go_wp2_with (first | ((with_reducible refine wpList_load_note (op := ⟨_, Op.load 51 _, _, _, _, _⟩) rfl _ rfl _ _ ?_ N2 ?_); rfl) | ((with_reducible refine wpList_store_note (op := ⟨_, Op.store 51 _ _, _, _, _, _⟩) rfl _ _ rfl _ _ n ?_ ?_ N0 ?_); rfl; rfl))
          exact HF.out _ (by rfl) (by rfl)
  by_cases h4 : a = 4
  · subst h4
    have HG := Lib.hid G
    have HN := Lib.hid N
    have HN0 := Lib.hid N0
    clear G N N0
    go_wp2_with fail
    refine (rnum_any _ q A c l st1 HG.out.rst).mono ?_
    rintro e w4 ⟨v0, st2, rfl, _, hk, hr, rd1⟩
    have G := HG.out.next hk hr
    have N := HN.out.kp hk hg2q
    have N0 := HN0.out.kp hk hq0'
    clear HG HN HN0 hk hr
    have ⟨d4, hd4⟩ : ∃ v, w4.cell? ⟨g2, 4, none⟩ = some v := ⟨_, (N.blk.cell 4).trans rfl⟩
    have fd4 := N.blk.frozen 4
    have HG := Lib.hid G
    have HN := Lib.hid N
    have HN0 := Lib.hid N0
    clear G N N0
    go_upto_region 13 with fail
    have G : RG W1 q A c l st2 (w4.setCell ⟨g2, 4, none⟩ (.int .i64 v0)) := (HG.out.sets h12 4 [.int .i64 v0])
    have N0 : NoteAt (w4.setCell ⟨g2, 4, none⟩ (.int .i64 v0)) w.heap.size NoteD.zero := ⟨(Blk.setCells_other hg20 [.int .i64 v0] 4 HN0.out.blk)⟩
    have N : NoteAt (w4.setCell ⟨g2, 4, none⟩ (.int .i64 v0)) g2 ⟨4, 0, 0, 0, v0, EntryD.zero, SeenD.zero, OpD.zero⟩ := ⟨(HN.out.blk.setCells [.int .i64 v0] 4)⟩
    clear HG HN HN0 hd4 fd4
    generalize w4.setCell ⟨g2, 4, none⟩ (.int .i64 v0) = X5 at *
    have HG := Lib.hid G
    have HN := Lib.hid N
    have HN0 := Lib.hid N0
    clear G N N0
    go_wp2_with fail
    refine (rnum_any _ q A c l st2 HG.out.rst).mono ?_
    rintro e w6 ⟨v1, st3, rfl, _, hk, hr, rd2⟩
    have G := HG.out.next hk hr
    have N := HN.out.kp hk hg2q
    have N0 := HN0.out.kp hk hq0'
    clear HG HN HN0 hk hr
    have HG := Lib.hid G
    have HN := Lib.hid N
    have HN0 := Lib.hid N0
    clear G N N0
    go_wp2_with fail
    refine (rnum_any _ q A c l st3 HG.out.rst).mono ?_
    rintro e w7 ⟨v2, st4, rfl, _, hk, hr, rd3⟩
    have G := HG.out.next hk hr
    have N := HN.out.kp hk hg2q
    have N0 := HN0.out.kp hk hq0'
    clear HG HN HN0 hk hr
    have HG := Lib.hid G
    have HN := Lib.hid N
    have HN0 := Lib.hid N0
    clear G N N0
    go_wp2_with fail
    refine (rnum_any _ q A c l st4 HG.out.rst).mono ?_
    rintro e w8 ⟨v3, st5, rfl, _, hk, hr, rd4⟩
    have G := HG.out.next hk hr
    have N := HN.out.kp hk hg2q
    have N0 := HN0.out.kp hk hq0'
    clear HG HN HN0 hk hr
    have ⟨d12, hd12⟩ : ∃ v, w8.cell? ⟨g2, 12, none⟩ = some v := ⟨_, (N.blk.cell 12).trans rfl⟩
    have fd12 := N.blk.frozen 12
    have ⟨d13, hd13⟩ : ∃ v, w8.cell? ⟨g2, 13, none⟩ = some v := ⟨_, (N.blk.cell 13).trans rfl⟩
    have fd13 := N.blk.frozen 13
    have ⟨d14, hd14⟩ : ∃ v, w8.cell? ⟨g2, 14, none⟩ = some v := ⟨_, (N.blk.cell 14).trans rfl⟩
    have fd14 := N.blk.frozen 14
    have HG := Lib.hid G
    have HN := Lib.hid N
    have HN0 := Lib.hid N0
    clear G N N0
    go_upto_region 14 with fail
    have G : RG W1 q A c l st5 (((w8.setCell ⟨g2, 12, none⟩ (.int .i64 v1)).setCell ⟨g2, 13, none⟩ (.int .i64 v2)).setCell ⟨g2, 14, none⟩ (.int .i64 v3)) := (HG.out.sets h12 12 [.int .i64 v1, .int .i64 v2, .int .i64 v3])
    have N0 : NoteAt (((w8.setCell ⟨g2, 12, none⟩ (.int .i64 v1)).setCell ⟨g2, 13, none⟩ (.int .i64 v2)).setCell ⟨g2, 14, none⟩ (.int .i64 v3)) w.heap.size NoteD.zero := ⟨(Blk.setCells_other hg20 [.int .i64 v1, .int .i64 v2, .int .i64 v3] 12 HN0.out.blk)⟩
    have N : NoteAt (((w8.setCell ⟨g2, 12, none⟩ (.int .i64 v1)).setCell ⟨g2, 13, none⟩ (.int .i64 v2)).setCell ⟨g2, 14, none⟩ (.int .i64 v3)) g2 ⟨4, 0, 0, 0, v0, EntryD.zero, ⟨v1, v2, v3⟩, OpD.zero⟩ := ⟨(HN.out.blk.setCells [.int .i64 v1, .int .i64 v2, .int .i64 v3] 12)⟩
    clear HG HN HN0 hd12 fd12 hd13 fd13 hd14 fd14
    generalize ((w8.setCell ⟨g2, 12, none⟩ (.int .i64 v1)).setCell ⟨g2, 13, none⟩ (.int .i64 v2)).setCell ⟨g2, 14, none⟩ (.int .i64 v3) = X9 at *
    have k9 : X9.cell? ⟨g2, 0, none⟩ = some (.int .i64 4) := (N.blk.cell 0).trans rfl
    have RD : Hid (Read (gnote pnum ptxt) (some l) ⟨4, 0, 0, 0, v0, EntryD.zero, ⟨v1, v2, v3⟩, OpD.zero⟩ st5) := HRD.out.bind (rd1.bind (rd2.bind (rd3.bind (rd4.bind (Read.ret _ _)))))
    have BB := Lib.hid (below_kp HB.out G.kp HB.out.size (fun k hk => by omega))
    obtain ⟨k, bad, c0, c1, c2, f1, f2, hkl, he⟩ := G.rst.cells
    rw [← hm.out] at c0 hkl
    clear G
    obtain ⟨n, hn⟩ : ∃ n : NoteD, n = ⟨4, 0, 0, 0, v0, EntryD.zero, ⟨v1, v2, v3⟩, OpD.zero⟩ := ⟨_, rfl⟩
    rw [← hn] at RD N
    clear hn
    have hb0 := build0
    cases bad with
    | true =>
      have hu : Hid (unp l = none) := unp_none RD.out (by rw [show st5 = none from he]; simp)
      have hE : unpE l = 50 := by unfold unpE; rw [hu.out]; rfl
      have hU : unpN l = NoteD.zero := by unfold unpN; rw [hu.out]; rfl
      have HF := Lib.hid (note_fin (fn := Try.f27) (Q := fun e w' => e = .returned (.tuple #[.agg (unpN l).cells.toArray, .int .i64 (unpE l)]) ∧ Below w.heap.size w w') rfl N0 NoteD.zero 50 ⟨by rw [hE, hU], below_kp BB.out (Kp.setCells (S := fun k => k = w.heap.size) _ rfl _ _ _ (Kp.refl _ _)) BB.out.size (fun k hk => by omega)⟩)
      clear hE hU
      go_wp2_with (first | ((with_reducible refine wpList_build_run (op := ⟨_, Op.build 51 _, _, _, _, _⟩) rfl _ _ rfl _ ?_ _ (hb0 _) ?_); (focus (first | (go_simp; done) | (go_simp; rfl)))) | ((with_reducible refine wpList_store_note (op := ⟨_, Op.store 51 _ _, _, _, _, _⟩) rfl _ _ rfl _ _ NoteD.zero ?_ ?_ N0 ?_); rfl; rfl))
      exact HF.out _ (by rfl) (by rfl)
    | false =>
      have hst : Hid (st5 = some (l.drop k)) := he
      by_cases hlt : k < m
      · have hi : (k : Int) < (m : Int) := by omega
        have hu : Hid (unp l = none) := unp_none RD.out (by rw [hst.out]; intro h; injection h with h; have := congrArg List.length h; rw [List.length_drop, ← hm.out] at this; simp at this; omega)
        have hE : unpE l = 50 := by unfold unpE; rw [hu.out]; rfl
        have hU : unpN l = NoteD.zero := by unfold unpN; rw [hu.out]; rfl
        have HF := Lib.hid (note_fin (fn := Try.f27) (Q := fun e w' => e = .returned (.tuple #[.agg (unpN l).cells.toArray, .int .i64 (unpE l)]) ∧ Below w.heap.size w w') rfl N0 NoteD.zero 50 ⟨by rw [hE, hU], below_kp BB.out (Kp.setCells (S := fun k => k = w.heap.size) _ rfl _ _ _ (Kp.refl _ _)) BB.out.size (fun k hk => by omega)⟩)
        clear hE hU
        clear he hlt
        go_wp2_with (first | ((with_reducible refine wpList_build_run (op := ⟨_, Op.build 51 _, _, _, _, _⟩) rfl _ _ rfl _ ?_ _ (hb0 _) ?_); (focus (first | (go_simp; done) | (go_simp; rfl)))) | ((with_reducible refine wpList_store_note (op := ⟨_, Op.store 51 _ _, _, _, _, _⟩) rfl _ _ rfl _ _ NoteD.zero ?_ ?_ N0 ?_); rfl; rfl))
        exact HF.out _ (by rfl) (by rfl)
      · obtain rfl : k = m := by omega
        have hu0 := Lib.hid (unp_some (by have := RD.out; rw [hst.out, List.drop_eq_nil_of_le (by rw [hm.out]; exact Nat.le_refl _)] at this; exact this))
        have HN := Lib.hid N
        have HN0 := Lib.hid N0
        clear he hlt N0
        go_wp2_with (((with_reducible refine wpList_load_note_g (op := ⟨_, Op.load 51 _, _, _, _, _⟩) _ rfl ?_ _ _ ?_ N ?_); rfl; rfl))
        refine (plainNote_any n _ ⟨rfl⟩ _).mono ?_
        rintro e w20 ⟨rfl, b20⟩
        have N0 := HN0.out.below b20
        have N2 := HN.out.below b20
        have B2 := Lib.hid (bel_next BB.out b20)
        clear HN HN0 N b20
        cases hok : n.ok with
        | false =>
          have hu : Hid (unp l = none) := by show _ = _; rw [hu0.out, hok]; rfl
          have hE : unpE l = 50 := by unfold unpE; rw [hu.out]; rfl
          have hU : unpN l = NoteD.zero := by unfold unpN; rw [hu.out]; rfl
          have HF := Lib.hid (note_fin (fn := Try.f27) (Q := fun e w' => e = .returned (.tuple #[.agg (unpN l).cells.toArray, .int .i64 (unpE l)]) ∧ Below w.heap.size w w') rfl N0 NoteD.zero 50 ⟨by rw [hE, hU], below_kp B2.out (Kp.setCells (S := fun k => k = w.heap.size) _ rfl _ _ _ (Kp.refl _ _)) B2.out.size (fun k hk => by omega)⟩)
          clear hE hU
          go_wp2_with (first | ((with_reducible refine wpList_build_run (op := ⟨_, Op.build 51 _, _, _, _, _⟩) rfl _ _ rfl _ ?_ _ (hb0 _) ?_); (focus (first | (go_simp; done) | (go_simp; rfl)))) | ((with_reducible refine wpList_store_note (op := ⟨_, Op.store 51 _ _, _, _, _, _⟩) rfl _ _ rfl _ _ NoteD.zero ?_ ?_ N0 ?_); rfl; rfl))
          exact HF.out _ (by rfl) (by rfl)
        | true =>
          have hu : Hid (unp l = some n) := by show _ = _; rw [hu0.out, hok]; rfl
          have hE : unpE l = 0 := by unfold unpE; rw [hu.out]; rfl
          have hU : unpN l = n := by unfold unpN; rw [hu.out]; rfl
          have HF := Lib.hid (note_fin (fn := Try.f27) (Q := fun e w' => e = .returned (.tuple #[.agg (unpN l).cells.toArray, .int .i64 (unpE l)]) ∧ Below w.heap.size w w') rfl N0 n 0 ⟨by rw [hE, hU], below_kp B2.out (Kp.setCells (S := fun k => k = w.heap.size) _ rfl _ _ _ (Kp.refl _ _)) B2.out.size (fun k hk => by omega)⟩)
          clear hE hU
          go_wp2_with (first | ((with_reducible refine wpList_load_note (op := ⟨_, Op.load 51 _, _, _, _, _⟩) rfl _ rfl _ _ ?_ N2 ?_); rfl) | ((with_reducible refine wpList_store_note (op := ⟨_, Op.store 51 _ _, _, _, _, _⟩) rfl _ _ rfl _ _ n ?_ ?_ N0 ?_); rfl; rfl))
          exact HF.out _ (by rfl) (by rfl)
  by_cases h5 : a = 5
  · subst h5
    have HG := Lib.hid G
    have HN := Lib.hid N
    have HN0 := Lib.hid N0
    clear G N N0
    go_wp2_with fail
    refine (rnum_any _ q A c l st1 HG.out.rst).mono ?_
    rintro e w4 ⟨v0, st2, rfl, _, hk, hr, rd1⟩
    have G := HG.out.next hk hr
    have N := HN.out.kp hk hg2q
    have N0 := HN0.out.kp hk hq0'
    clear HG HN HN0 hk hr
    have ⟨d4, hd4⟩ : ∃ v, w4.cell? ⟨g2, 4, none⟩ = some v := ⟨_, (N.blk.cell 4).trans rfl⟩
    have fd4 := N.blk.frozen 4
    have HG := Lib.hid G
    have HN := Lib.hid N
    have HN0 := Lib.hid N0
    clear G N N0
    go_upto_region 13 with fail
    have G : RG W1 q A c l st2 (w4.setCell ⟨g2, 4, none⟩ (.int .i64 v0)) := (HG.out.sets h12 4 [.int .i64 v0])
    have N0 : NoteAt (w4.setCell ⟨g2, 4, none⟩ (.int .i64 v0)) w.heap.size NoteD.zero := ⟨(Blk.setCells_other hg20 [.int .i64 v0] 4 HN0.out.blk)⟩
    have N : NoteAt (w4.setCell ⟨g2, 4, none⟩ (.int .i64 v0)) g2 ⟨5, 0, 0, 0, v0, EntryD.zero, SeenD.zero, OpD.zero⟩ := ⟨(HN.out.blk.setCells [.int .i64 v0] 4)⟩
    clear HG HN HN0 hd4 fd4
    generalize w4.setCell ⟨g2, 4, none⟩ (.int .i64 v0) = X5 at *
    have HG := Lib.hid G
    have HN := Lib.hid N
    have HN0 := Lib.hid N0
    clear G N N0
    go_wp2_with fail
    refine (rnum_any _ q A c l st2 HG.out.rst).mono ?_
    rintro e w6 ⟨v1, st3, rfl, _, hk, hr, rd2⟩
    have G := HG.out.next hk hr
    have N := HN.out.kp hk hg2q
    have N0 := HN0.out.kp hk hq0'
    clear HG HN HN0 hk hr
    have HG := Lib.hid G
    have HN := Lib.hid N
    have HN0 := Lib.hid N0
    clear G N N0
    go_wp2_with fail
    refine (rnum_any _ q A c l st3 HG.out.rst).mono ?_
    rintro e w7 ⟨v2, st4, rfl, _, hk, hr, rd3⟩
    have G := HG.out.next hk hr
    have N := HN.out.kp hk hg2q
    have N0 := HN0.out.kp hk hq0'
    clear HG HN HN0 hk hr
    have HG := Lib.hid G
    have HN := Lib.hid N
    have HN0 := Lib.hid N0
    clear G N N0
    go_wp2_with fail
    refine (rnum_any _ q A c l st4 HG.out.rst).mono ?_
    rintro e w8 ⟨v3, st5, rfl, _, hk, hr, rd4⟩
    have G := HG.out.next hk hr
    have N := HN.out.kp hk hg2q
    have N0 := HN0.out.kp hk hq0'
    clear HG HN HN0 hk hr
    have ⟨d12, hd12⟩ : ∃ v, w8.cell? ⟨g2, 12, none⟩ = some v := ⟨_, (N.blk.cell 12).trans rfl⟩
    have fd12 := N.blk.frozen 12
    have ⟨d13, hd13⟩ : ∃ v, w8.cell? ⟨g2, 13, none⟩ = some v := ⟨_, (N.blk.cell 13).trans rfl⟩
    have fd13 := N.blk.frozen 13
    have ⟨d14, hd14⟩ : ∃ v, w8.cell? ⟨g2, 14, none⟩ = some v := ⟨_, (N.blk.cell 14).trans rfl⟩
    have fd14 := N.blk.frozen 14
    have HG := Lib.hid G
    have HN := Lib.hid N
    have HN0 := Lib.hid N0
    clear G N N0
    go_upto_region 14 with fail
    have G : RG W1 q A c l st5 (((w8.setCell ⟨g2, 12, none⟩ (.int .i64 v1)).setCell ⟨g2, 13, none⟩ (.int .i64 v2)).setCell ⟨g2, 14, none⟩ (.int .i64 v3)) := (HG.out.sets h12 12 [.int .i64 v1, .int .i64 v2, .int .i64 v3])
    have N0 : NoteAt (((w8.setCell ⟨g2, 12, none⟩ (.int .i64 v1)).setCell ⟨g2, 13, none⟩ (.int .i64 v2)).setCell ⟨g2, 14, none⟩ (.int .i64 v3)) w.heap.size NoteD.zero := ⟨(Blk.setCells_other hg20 [.int .i64 v1, .int .i64 v2, .int .i64 v3] 12 HN0.out.blk)⟩
    have N : NoteAt (((w8.setCell ⟨g2, 12, none⟩ (.int .i64 v1)).setCell ⟨g2, 13, none⟩ (.int .i64 v2)).setCell ⟨g2, 14, none⟩ (.int .i64 v3)) g2 ⟨5, 0, 0, 0, v0, EntryD.zero, ⟨v1, v2, v3⟩, OpD.zero⟩ := ⟨(HN.out.blk.setCells [.int .i64 v1, .int .i64 v2, .int .i64 v3] 12)⟩
    clear HG HN HN0 hd12 fd12 hd13 fd13 hd14 fd14
    generalize ((w8.setCell ⟨g2, 12, none⟩ (.int .i64 v1)).setCell ⟨g2, 13, none⟩ (.int .i64 v2)).setCell ⟨g2, 14, none⟩ (.int .i64 v3) = X9 at *
    have k9 : X9.cell? ⟨g2, 0, none⟩ = some (.int .i64 5) := (N.blk.cell 0).trans rfl
    have HG := Lib.hid G
    have HN := Lib.hid N
    have HN0 := Lib.hid N0
    clear G N N0
    go_wp2_with fail
    refine (rop1_any _ q A c l st5 HG.out.rst).mono ?_
    rintro e w10 ⟨⟨oa, ob, oc, od, oe, of, og⟩, st6, he, _, hk, hr, rd5⟩
    have he : e = .returned (.agg #[.int .i64 oa, .int .i64 ob, .string oc, .int .i64 od, .string oe, .int .i64 of, .string og]) := he
    subst he
    have G := HG.out.next hk hr
    have N := HN.out.kp hk hg2q
    have N0 := HN0.out.kp hk hq0'
    clear HG HN HN0 hk hr
    have ⟨d15, hd15⟩ : ∃ v, w10.cell? ⟨g2, 15, none⟩ = some v := ⟨_, (N.blk.cell 15).trans rfl⟩
    have fd15 := N.blk.frozen 15
    have ⟨d16, hd16⟩ : ∃ v, w10.cell? ⟨g2, 16, none⟩ = some v := ⟨_, (N.blk.cell 16).trans rfl⟩
    have fd16 := N.blk.frozen 16
    have ⟨d17, hd17⟩ : ∃ v, w10.cell? ⟨g2, 17, none⟩ = some v := ⟨_, (N.blk.cell 17).trans rfl⟩
    have fd17 := N.blk.frozen 17
    have ⟨d18, hd18⟩ : ∃ v, w10.cell? ⟨g2, 18, none⟩ = some v := ⟨_, (N.blk.cell 18).trans rfl⟩
    have fd18 := N.blk.frozen 18
    have ⟨d19, hd19⟩ : ∃ v, w10.cell? ⟨g2, 19, none⟩ = some v := ⟨_, (N.blk.cell 19).trans rfl⟩
    have fd19 := N.blk.frozen 19
    have ⟨d20, hd20⟩ : ∃ v, w10.cell? ⟨g2, 20, none⟩ = some v := ⟨_, (N.blk.cell 20).trans rfl⟩
    have fd20 := N.blk.frozen 20
    have ⟨d21, hd21⟩ : ∃ v, w10.cell? ⟨g2, 21, none⟩ = some v := ⟨_, (N.blk.cell 21).trans rfl⟩
    have fd21 := N.blk.frozen 21
    have HG := Lib.hid G
    have HN := Lib.hid N
    have HN0 := Lib.hid N0
    clear G N N0
    go_upto_region 16 with fail
    have G : RG W1 q A c l st6 (((((((w10.setCell ⟨g2, 15, none⟩ (.int .i64 oa)).setCell ⟨g2, 16, none⟩ (.int .i64 ob)).setCell ⟨g2, 17, none⟩ (.string oc)).setCell ⟨g2, 18, none⟩ (.int .i64 od)).setCell ⟨g2, 19, none⟩ (.string oe)).setCell ⟨g2, 20, none⟩ (.int .i64 of)).setCell ⟨g2, 21, none⟩ (.string og)) := (HG.out.sets h12 15 [.int .i64 oa, .int .i64 ob, .string oc, .int .i64 od, .string oe, .int .i64 of, .string og])
    have N0 : NoteAt (((((((w10.setCell ⟨g2, 15, none⟩ (.int .i64 oa)).setCell ⟨g2, 16, none⟩ (.int .i64 ob)).setCell ⟨g2, 17, none⟩ (.string oc)).setCell ⟨g2, 18, none⟩ (.int .i64 od)).setCell ⟨g2, 19, none⟩ (.string oe)).setCell ⟨g2, 20, none⟩ (.int .i64 of)).setCell ⟨g2, 21, none⟩ (.string og)) w.heap.size NoteD.zero := ⟨(Blk.setCells_other hg20 [.int .i64 oa, .int .i64 ob, .string oc, .int .i64 od, .string oe, .int .i64 of, .string og] 15 HN0.out.blk)⟩
    have N : NoteAt (((((((w10.setCell ⟨g2, 15, none⟩ (.int .i64 oa)).setCell ⟨g2, 16, none⟩ (.int .i64 ob)).setCell ⟨g2, 17, none⟩ (.string oc)).setCell ⟨g2, 18, none⟩ (.int .i64 od)).setCell ⟨g2, 19, none⟩ (.string oe)).setCell ⟨g2, 20, none⟩ (.int .i64 of)).setCell ⟨g2, 21, none⟩ (.string og)) g2 ⟨5, 0, 0, 0, v0, EntryD.zero, ⟨v1, v2, v3⟩, ⟨oa, ob, oc, od, oe, of, og⟩⟩ := ⟨(HN.out.blk.setCells [.int .i64 oa, .int .i64 ob, .string oc, .int .i64 od, .string oe, .int .i64 of, .string og] 15)⟩
    clear HG HN HN0 hd15 fd15 hd16 fd16 hd17 fd17 hd18 fd18 hd19 fd19 hd20 fd20 hd21 fd21
    generalize ((((((w10.setCell ⟨g2, 15, none⟩ (.int .i64 oa)).setCell ⟨g2, 16, none⟩ (.int .i64 ob)).setCell ⟨g2, 17, none⟩ (.string oc)).setCell ⟨g2, 18, none⟩ (.int .i64 od)).setCell ⟨g2, 19, none⟩ (.string oe)).setCell ⟨g2, 20, none⟩ (.int .i64 of)).setCell ⟨g2, 21, none⟩ (.string og) = X11 at *
    have RD : Hid (Read (gnote pnum ptxt) (some l) ⟨5, 0, 0, 0, v0, EntryD.zero, ⟨v1, v2, v3⟩, ⟨oa, ob, oc, od, oe, of, og⟩⟩ st6) := HRD.out.bind (rd1.bind (rd2.bind (rd3.bind (rd4.bind (rd5.bind (Read.ret _ _))))))
    have BB := Lib.hid (below_kp HB.out G.kp HB.out.size (fun k hk => by omega))
    obtain ⟨k, bad, c0, c1, c2, f1, f2, hkl, he⟩ := G.rst.cells
    rw [← hm.out] at c0 hkl
    clear G
    obtain ⟨n, hn⟩ : ∃ n : NoteD, n = ⟨5, 0, 0, 0, v0, EntryD.zero, ⟨v1, v2, v3⟩, ⟨oa, ob, oc, od, oe, of, og⟩⟩ := ⟨_, rfl⟩
    rw [← hn] at RD N
    clear hn
    have hb0 := build0
    cases bad with
    | true =>
      have hu : Hid (unp l = none) := unp_none RD.out (by rw [show st6 = none from he]; simp)
      have hE : unpE l = 50 := by unfold unpE; rw [hu.out]; rfl
      have hU : unpN l = NoteD.zero := by unfold unpN; rw [hu.out]; rfl
      have HF := Lib.hid (note_fin (fn := Try.f27) (Q := fun e w' => e = .returned (.tuple #[.agg (unpN l).cells.toArray, .int .i64 (unpE l)]) ∧ Below w.heap.size w w') rfl N0 NoteD.zero 50 ⟨by rw [hE, hU], below_kp BB.out (Kp.setCells (S := fun k => k = w.heap.size) _ rfl _ _ _ (Kp.refl _ _)) BB.out.size (fun k hk => by omega)⟩)
      clear hE hU
      go_wp2_with (first | ((with_reducible refine wpList_build_run (op := ⟨_, Op.build 51 _, _, _, _, _⟩) rfl _ _ rfl _ ?_ _ (hb0 _) ?_); (focus (first | (go_simp; done) | (go_simp; rfl)))) | ((with_reducible refine wpList_store_note (op := ⟨_, Op.store 51 _ _, _, _, _, _⟩) rfl _ _ rfl _ _ NoteD.zero ?_ ?_ N0 ?_); rfl; rfl))
      exact HF.out _ (by rfl) (by rfl)
    | false =>
      have hst : Hid (st6 = some (l.drop k)) := he
      by_cases hlt : k < m
      · have hi : (k : Int) < (m : Int) := by omega
        have hu : Hid (unp l = none) := unp_none RD.out (by rw [hst.out]; intro h; injection h with h; have := congrArg List.length h; rw [List.length_drop, ← hm.out] at this; simp at this; omega)
        have hE : unpE l = 50 := by unfold unpE; rw [hu.out]; rfl
        have hU : unpN l = NoteD.zero := by unfold unpN; rw [hu.out]; rfl
        have HF := Lib.hid (note_fin (fn := Try.f27) (Q := fun e w' => e = .returned (.tuple #[.agg (unpN l).cells.toArray, .int .i64 (unpE l)]) ∧ Below w.heap.size w w') rfl N0 NoteD.zero 50 ⟨by rw [hE, hU], below_kp BB.out (Kp.setCells (S := fun k => k = w.heap.size) _ rfl _ _ _ (Kp.refl _ _)) BB.out.size (fun k hk => by omega)⟩)
        clear hE hU
        clear he hlt
        go_wp2_with (first | ((with_reducible refine wpList_build_run (op := ⟨_, Op.build 51 _, _, _, _, _⟩) rfl _ _ rfl _ ?_ _ (hb0 _) ?_); (focus (first | (go_simp; done) | (go_simp; rfl)))) | ((with_reducible refine wpList_store_note (op := ⟨_, Op.store 51 _ _, _, _, _, _⟩) rfl _ _ rfl _ _ NoteD.zero ?_ ?_ N0 ?_); rfl; rfl))
        exact HF.out _ (by rfl) (by rfl)
      · obtain rfl : k = m := by omega
        have hu0 := Lib.hid (unp_some (by have := RD.out; rw [hst.out, List.drop_eq_nil_of_le (by rw [hm.out]; exact Nat.le_refl _)] at this; exact this))
        have HN := Lib.hid N
        have HN0 := Lib.hid N0
        clear he hlt N0
        go_wp2_with (((with_reducible refine wpList_load_note_g (op := ⟨_, Op.load 51 _, _, _, _, _⟩) _ rfl ?_ _ _ ?_ N ?_); rfl; rfl))
        refine (plainNote_any n _ ⟨rfl⟩ _).mono ?_
        rintro e w20 ⟨rfl, b20⟩
        have N0 := HN0.out.below b20
        have N2 := HN.out.below b20
        have B2 := Lib.hid (bel_next BB.out b20)
        clear HN HN0 N b20
        cases hok : n.ok with
        | false =>
          have hu : Hid (unp l = none) := by show _ = _; rw [hu0.out, hok]; rfl
          have hE : unpE l = 50 := by unfold unpE; rw [hu.out]; rfl
          have hU : unpN l = NoteD.zero := by unfold unpN; rw [hu.out]; rfl
          have HF := Lib.hid (note_fin (fn := Try.f27) (Q := fun e w' => e = .returned (.tuple #[.agg (unpN l).cells.toArray, .int .i64 (unpE l)]) ∧ Below w.heap.size w w') rfl N0 NoteD.zero 50 ⟨by rw [hE, hU], below_kp B2.out (Kp.setCells (S := fun k => k = w.heap.size) _ rfl _ _ _ (Kp.refl _ _)) B2.out.size (fun k hk => by omega)⟩)
          clear hE hU
          go_wp2_with (first | ((with_reducible refine wpList_build_run (op := ⟨_, Op.build 51 _, _, _, _, _⟩) rfl _ _ rfl _ ?_ _ (hb0 _) ?_); (focus (first | (go_simp; done) | (go_simp; rfl)))) | ((with_reducible refine wpList_store_note (op := ⟨_, Op.store 51 _ _, _, _, _, _⟩) rfl _ _ rfl _ _ NoteD.zero ?_ ?_ N0 ?_); rfl; rfl))
          exact HF.out _ (by rfl) (by rfl)
        | true =>
          have hu : Hid (unp l = some n) := by show _ = _; rw [hu0.out, hok]; rfl
          have hE : unpE l = 0 := by unfold unpE; rw [hu.out]; rfl
          have hU : unpN l = n := by unfold unpN; rw [hu.out]; rfl
          have HF := Lib.hid (note_fin (fn := Try.f27) (Q := fun e w' => e = .returned (.tuple #[.agg (unpN l).cells.toArray, .int .i64 (unpE l)]) ∧ Below w.heap.size w w') rfl N0 n 0 ⟨by rw [hE, hU], below_kp B2.out (Kp.setCells (S := fun k => k = w.heap.size) _ rfl _ _ _ (Kp.refl _ _)) B2.out.size (fun k hk => by omega)⟩)
          clear hE hU
          go_wp2_with (first | ((with_reducible refine wpList_load_note (op := ⟨_, Op.load 51 _, _, _, _, _⟩) rfl _ rfl _ _ ?_ N2 ?_); rfl) | ((with_reducible refine wpList_store_note (op := ⟨_, Op.store 51 _ _, _, _, _, _⟩) rfl _ _ rfl _ _ n ?_ ?_ N0 ?_); rfl; rfl))
          exact HF.out _ (by rfl) (by rfl)
  have e1 : (a == 1) = false := by simp [h1]
  have e2 : (a == 2) = false := by simp [h2]
  have e3 : (a == 3) = false := by simp [h3]
  have e4 : (a == 4) = false := by simp [h4]
  have e5 : (a == 5) = false := by simp [h5]
  have HK6 : Hid (Read (gnoteK pnum ptxt a) st1 ⟨a, 0, 0, 0, 0, EntryD.zero, SeenD.zero, OpD.zero⟩ st1) := by unfold gnoteK; show Read _ _ _ _; rw [if_neg h1, if_neg h2, if_neg h3, if_neg (by omega)]; exact Read.ret _ _
  have RD : Hid (Read (gnote pnum ptxt) (some l) ⟨a, 0, 0, 0, 0, EntryD.zero, SeenD.zero, OpD.zero⟩ st1) := HRD.out.bind (f := gnoteK pnum ptxt) HK6.out
  have BB := Lib.hid (below_kp HB.out G.kp HB.out.size (fun k hk => by omega))
  obtain ⟨k, bad, c0, c1, c2, f1, f2, hkl, he⟩ := G.rst.cells
  rw [← hm.out] at c0 hkl
  clear G
  obtain ⟨n, hn⟩ : ∃ n : NoteD, n = ⟨a, 0, 0, 0, 0, EntryD.zero, SeenD.zero, OpD.zero⟩ := ⟨_, rfl⟩
  rw [← hn] at RD N
  clear hn
  have hb0 := build0
  cases bad with
  | true =>
    have hu : Hid (unp l = none) := unp_none RD.out (by rw [show st1 = none from he]; simp)
    have hE : unpE l = 50 := by unfold unpE; rw [hu.out]; rfl
    have hU : unpN l = NoteD.zero := by unfold unpN; rw [hu.out]; rfl
    have HF := Lib.hid (note_fin (fn := Try.f27) (Q := fun e w' => e = .returned (.tuple #[.agg (unpN l).cells.toArray, .int .i64 (unpE l)]) ∧ Below w.heap.size w w') rfl N0 NoteD.zero 50 ⟨by rw [hE, hU], below_kp BB.out (Kp.setCells (S := fun k => k = w.heap.size) _ rfl _ _ _ (Kp.refl _ _)) BB.out.size (fun k hk => by omega)⟩)
    clear hE hU
    go_wp2_with (first | ((with_reducible refine wpList_build_run (op := ⟨_, Op.build 51 _, _, _, _, _⟩) rfl _ _ rfl _ ?_ _ (hb0 _) ?_); (focus (first | (go_simp; done) | (go_simp; rfl)))) | ((with_reducible refine wpList_store_note (op := ⟨_, Op.store 51 _ _, _, _, _, _⟩) rfl _ _ rfl _ _ NoteD.zero ?_ ?_ N0 ?_); rfl; rfl))
    exact HF.out _ (by rfl) (by rfl)
  | false =>
    have hst : Hid (st1 = some (l.drop k)) := he
    by_cases hlt : k < m
    · have hi : (k : Int) < (m : Int) := by omega
      have hu : Hid (unp l = none) := unp_none RD.out (by rw [hst.out]; intro h; injection h with h; have := congrArg List.length h; rw [List.length_drop, ← hm.out] at this; simp at this; omega)
      have hE : unpE l = 50 := by unfold unpE; rw [hu.out]; rfl
      have hU : unpN l = NoteD.zero := by unfold unpN; rw [hu.out]; rfl
      have HF := Lib.hid (note_fin (fn := Try.f27) (Q := fun e w' => e = .returned (.tuple #[.agg (unpN l).cells.toArray, .int .i64 (unpE l)]) ∧ Below w.heap.size w w') rfl N0 NoteD.zero 50 ⟨by rw [hE, hU], below_kp BB.out (Kp.setCells (S := fun k => k = w.heap.size) _ rfl _ _ _ (Kp.refl _ _)) BB.out.size (fun k hk => by omega)⟩)
      clear hE hU
      clear he hlt
      go_wp2_with (first | ((with_reducible refine wpList_build_run (op := ⟨_, Op.build 51 _, _, _, _, _⟩) rfl _ _ rfl _ ?_ _ (hb0 _) ?_); (focus (first | (go_simp; done) | (go_simp; rfl)))) | ((with_reducible refine wpList_store_note (op := ⟨_, Op.store 51 _ _, _, _, _, _⟩) rfl _ _ rfl _ _ NoteD.zero ?_ ?_ N0 ?_); rfl; rfl))
      exact HF.out _ (by rfl) (by rfl)
    · obtain rfl : k = m := by omega
      have hu0 := Lib.hid (unp_some (by have := RD.out; rw [hst.out, List.drop_eq_nil_of_le (by rw [hm.out]; exact Nat.le_refl _)] at this; exact this))
      have HN := Lib.hid N
      have HN0 := Lib.hid N0
      clear he hlt N0
      go_wp2_with (((with_reducible refine wpList_load_note_g (op := ⟨_, Op.load 51 _, _, _, _, _⟩) _ rfl ?_ _ _ ?_ N ?_); rfl; rfl))
      refine (plainNote_any n _ ⟨rfl⟩ _).mono ?_
      rintro e w20 ⟨rfl, b20⟩
      have N0 := HN0.out.below b20
      have N2 := HN.out.below b20
      have B2 := Lib.hid (bel_next BB.out b20)
      clear HN HN0 N b20
      cases hok : n.ok with
      | false =>
        have hu : Hid (unp l = none) := by show _ = _; rw [hu0.out, hok]; rfl
        have hE : unpE l = 50 := by unfold unpE; rw [hu.out]; rfl
        have hU : unpN l = NoteD.zero := by unfold unpN; rw [hu.out]; rfl
        have HF := Lib.hid (note_fin (fn := Try.f27) (Q := fun e w' => e = .returned (.tuple #[.agg (unpN l).cells.toArray, .int .i64 (unpE l)]) ∧ Below w.heap.size w w') rfl N0 NoteD.zero 50 ⟨by rw [hE, hU], below_kp B2.out (Kp.setCells (S := fun k => k = w.heap.size) _ rfl _ _ _ (Kp.refl _ _)) B2.out.size (fun k hk => by omega)⟩)
        clear hE hU
        go_wp2_with (first | ((with_reducible refine wpList_build_run (op := ⟨_, Op.build 51 _, _, _, _, _⟩) rfl _ _ rfl _ ?_ _ (hb0 _) ?_); (focus (first | (go_simp; done) | (go_simp; rfl)))) | ((with_reducible refine wpList_store_note (op := ⟨_, Op.store 51 _ _, _, _, _, _⟩) rfl _ _ rfl _ _ NoteD.zero ?_ ?_ N0 ?_); rfl; rfl))
        exact HF.out _ (by rfl) (by rfl)
      | true =>
        have hu : Hid (unp l = some n) := by show _ = _; rw [hu0.out, hok]; rfl
        have hE : unpE l = 0 := by unfold unpE; rw [hu.out]; rfl
        have hU : unpN l = n := by unfold unpN; rw [hu.out]; rfl
        have HF := Lib.hid (note_fin (fn := Try.f27) (Q := fun e w' => e = .returned (.tuple #[.agg (unpN l).cells.toArray, .int .i64 (unpE l)]) ∧ Below w.heap.size w w') rfl N0 n 0 ⟨by rw [hE, hU], below_kp B2.out (Kp.setCells (S := fun k => k = w.heap.size) _ rfl _ _ _ (Kp.refl _ _)) B2.out.size (fun k hk => by omega)⟩)
        clear hE hU
        go_wp2_with (first | ((with_reducible refine wpList_load_note (op := ⟨_, Op.load 51 _, _, _, _, _⟩) rfl _ rfl _ _ ?_ N2 ?_); rfl) | ((with_reducible refine wpList_store_note (op := ⟨_, Op.store 51 _ _, _, _, _, _⟩) rfl _ _ rfl _ _ n ?_ ?_ N0 ?_); rfl; rfl))
        exact HF.out _ (by rfl) (by rfl)

end Go.Proofs.Ytmhcjkiaogimgaa
