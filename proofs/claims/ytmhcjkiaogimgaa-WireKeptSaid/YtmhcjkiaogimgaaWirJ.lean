/- The document's bytes: number, text, key, entry, op. -/
import Derived.Test.YtmhcjkiaogimgaaWirH
import Derived.Deep.RegionHeld3
import Derived.Deep.AppendLies
namespace Go.Proofs.Ytmhcjkiaogimgaa
open Go.RowKit

/-- Bytes in new memory. -/
def OwnB (l : List Int) (w : World) (e : Ending) (w' : World) : Prop :=
  ∃ A c, e = .returned (.slice A l.length c) ∧ w'.ownsRow w.heap.size 5 1 (.slice A l.length c) l.length (bvals l) ∧ Below w.heap.size w w'

/-- A row of bytes of one's own, from base on, in a world that nothing older has turned in. -/
structure Row (base : Nat) (w0 w : World) (A : Option Addr) (c : Nat) (l : List Int) : Prop where
  own : w.ownsRow base 5 1 (.slice A l.length c) l.length (bvals l)
  bel : Below base w0 w
  ge : base ≤ w.heap.size
theorem Row.nil (w : World) : Row w.heap.size w w none 0 [] := ⟨own_none _ _ _ _, Below.refl _ _, Nat.le_refl _⟩
theorem Row.below {base : Nat} {w0 w w' : World} {A : Option Addr} {c : Nat} {l : List Int} (h : Row base w0 w A c l) (hb : Below w.heap.size w w') : Row base w0 w' A c l :=
  ⟨own_below h.own hb, h.bel.trans (hb.mono h.ge), Nat.le_trans h.ge hb.size⟩
/-- One byte more, laid in a block of its own. -/
theorem Row.one {base : Nat} {w0 w : World} {A : Option Addr} {c : Nat} {l : List Int} (h : Row base w0 w A c l) (hl : l.length + 1 ≤ 1000000000) (x : Int) (ty : TypeId) (H n : Nat) (hH : w.heap.size = H) (hn : l.length = n) :
    ∃ A2 c2 w2, (Builtin.append_ #[28, 28] ty #[.slice A n c, .slice (some ⟨H, 0, none⟩) 1 1]).run Try.prog (w.alloc (.cells #[.int .u8 x] 5)) = .ok (.slice A2 (n + 1) c2) w2 ∧ Hid (Row base w0 w2 A2 c2 (l ++ [x])) := by
  subst hH; subst hn
  have h1 := h.below (bel_al (Below.refl w.heap.size w) (.cells #[.int .u8 x] 5))
  obtain ⟨v2, w2, hr2, ho2, hg2, _⟩ := append_run2 (P := Try.prog) (base := base) ty Try.underlying28 binfo (by omega) h1.own (news := bvals [x]) (a := ⟨w.heap.size, 0, none⟩) (m := 1) (c := 1) rfl (fun j u hu => by
    rw [Addr.add_mid, Nat.zero_add, (Blk.new w _ _).cell]; simpa [bvals] using hu) (bvals_one _) (by omega) (by omega) h1.ge
  obtain ⟨A2, c2, rfl⟩ := own_form ho2
  refine ⟨A2, c2, w2, hr2, ?_, h1.bel.grown hg2 h1.ge (own_ge h1.own), Nat.le_trans h1.ge hg2.size⟩
  rw [List.length_append, List.length_singleton, bvals_append]
  exact ho2
/-- Bytes of a row of their own behind them. -/
theorem Row.more {base : Nat} {w0 w : World} {A : Option Addr} {c : Nat} {l : List Int} (h : Row base w0 w A c l) {b2 : Nat} {B : Option Addr} {k : Nat} {l2 : List Int} (h2 : w.ownsRow b2 5 1 (.slice B l2.length k) l2.length (bvals l2)) (hl : l.length + l2.length ≤ 1000000000) (ty : TypeId) (n m : Nat) (hn : l.length = n) (hm : l2.length = m) :
    ∃ A2 c2 w2, (Builtin.append_ #[28, 28] ty #[.slice A n c, .slice B m k]).run Try.prog w = .ok (.slice A2 (n + m) c2) w2 ∧ Hid (Row base w0 w2 A2 c2 (l ++ l2)) := by
  subst hn; subst hm
  have hfin : ∀ v' w2, (Builtin.append_ #[28, 28] ty #[.slice A l.length c, .slice B l2.length k]).run Try.prog w = .ok v' w2 → w2.ownsRow base 5 1 v' (l.length + l2.length) (bvals l ++ bvals l2) → w.grownBy w2 (Value.slice A l.length c).ownBlock →
      ∃ A2 c2 w2, (Builtin.append_ #[28, 28] ty #[.slice A l.length c, .slice B l2.length k]).run Try.prog w = .ok (.slice A2 (l.length + l2.length) c2) w2 ∧ Hid (Row base w0 w2 A2 c2 (l ++ l2)) := fun v' w2 hr ho hg => by
    obtain ⟨A2, c2, rfl⟩ := own_form ho
    refine ⟨A2, c2, w2, hr, ?_, h.bel.grown hg h.ge (own_ge h.own), Nat.le_trans h.ge hg.size⟩
    rw [List.length_append, bvals_append]
    exact ho
  by_cases h0 : 0 < l2.length
  · obtain ⟨g, cap, e, _, _⟩ := h2.form h0
    injection e with e1 _ e2
    subst e1; subst e2
    obtain ⟨v2, w2, hr2, ho2, hg2, _⟩ := append_run2 (P := Try.prog) (base := base) ty Try.underlying28 binfo (by omega) h.own (news := bvals l2) (a := ⟨g, 0, none⟩) (m := l2.length) (c := k) (by rw [bvals_length, Nat.mul_one]) (h2.cells (g := g) rfl) (bvals_one _) (by omega) (by omega) h.ge
    exact hfin _ _ hr2 ho2 hg2
  · have e0 : l2 = [] := List.eq_nil_of_length_eq_zero (by omega)
    subst e0
    rcases h2.2 with ⟨e, _⟩ | ⟨g, cap, cur, e, _⟩
    · injection e with e1 _ e2
      subst e1; subst e2
      obtain ⟨i, hi, _⟩ := Option.map_eq_some_iff.1 binfo
      have hr : (Builtin.append_ #[28, 28] ty #[.slice A l.length c, .slice none 0 0]).run Try.prog w = .ok (.slice A l.length c) w := by
        rcases h.own.2 with ⟨e, e'⟩ | ⟨g, cap, cur, e, _, _, hnc, _⟩
        · rw [e]
          simp [Builtin.append_, run_underlying Try.underlying28, sizeOf, typeInfo, hi, Builtin.lenOf, Builtin.firstCells]
        · rw [e]
          simp [Builtin.append_, run_underlying Try.underlying28, sizeOf, typeInfo, hi, Builtin.lenOf, Builtin.firstCells, hnc, storeCells]
      exact hfin _ _ hr (by have := h.own; simpa [bvals] using this) ⟨rfl, rfl, rfl, Nat.le_refl _, fun _ _ _ => rfl⟩
    · injection e with e1 _ e2
      subst e1; subst e2
      obtain ⟨v2, w2, hr2, ho2, hg2, _⟩ := append_run2 (P := Try.prog) (base := base) ty Try.underlying28 binfo (by omega) h.own (news := bvals []) (a := ⟨g, 0, none⟩) (m := 0) (c := k) rfl (fun j u hu => by simp [bvals] at hu) (bvals_one _) (by omega) (by omega) h.ge
      exact hfin _ _ hr2 ho2 hg2
theorem Row.str {base : Nat} {w0 w : World} {A : Option Addr} {c : Nat} {l : List Int} (h : Row base w0 w A c l) (s : ByteArray) (hl : l.length + s.size ≤ 1000000000) (ty : TypeId) (n : Nat) (hn : l.length = n) :
    ∃ A2 c2 w2, (Builtin.append_ #[28, 9] ty #[.slice A n c, .string s]).run Try.prog w = .ok (.slice A2 (n + s.size) c2) w2 ∧ Hid (Row base w0 w2 A2 c2 (l ++ strB s)) := by
  subst hn
  obtain ⟨v2, w2, hr2, ho2, hg2, _⟩ := append_str_run ty s h.own (by omega) h.ge
  obtain ⟨A2, c2, rfl⟩ := own_form ho2
  refine ⟨A2, c2, w2, hr2, ?_, h.bel.grown hg2 h.ge (own_ge h.own), Nat.le_trans h.ge hg2.size⟩
  rw [List.length_append, strB_length, bvals_append]
  exact ho2

set_option maxHeartbeats 2000000 in
theorem rnumber_any (v : Int) (hv : v ≤ 9223372036854775807) (w : World) : Calls Try.prog 43 #[.int .i64 v] w (OwnB (vb v) w) := by
  obtain ⟨L, hL⟩ : ∃ L, Hid (vb v = L) := ⟨_, rfl⟩
  have hLl : L.length ≤ 9 := by rw [← hL.out]; exact vb_length_i64 hv
  rw [hL.out]
  have HV := Lib.hid hv
  clear hv
  go_enter Try.func43, Try.ntmps43
  go_wp2_with fail
  go_loopw [0, 3] (fun v0 v3 wr => ∃ (x : Int) (l : List Int) (n : Nat) (A : Option Addr) (c : Nat), x ≤ 9223372036854775807 ∧ v0 = .int .i64 x ∧ n = l.length ∧ v3 = .slice A n c ∧ Row w.heap.size w wr A c l ∧ Hid (L = l ++ vb x)) (fun v _ _ => (intOf v).toNat)
  case atStart => exact ⟨v, [], 0, none, 0, HV.out, rfl, rfl, rfl, Row.nil w, by show _ = _; rw [← hL.out]; rfl⟩
  case round =>
    obtain ⟨x, l, n, A, c, hx, rfl, rfl, rfl, hrow, hvb⟩ := hrel
    have hll : l.length + 1 ≤ 1000000000 := by
      have := congrArg List.length hvb.out
      rw [List.length_append] at this
      omega
    by_cases hbig : 128 ≤ x
    · obtain ⟨A2, c2, w2, hr, HR⟩ := hrow.one hll (x % 128 + 128) 28 _ _ rfl rfl
      have hvb2 : Hid (L = (l ++ [x % 128 + 128]) ++ vb (x / 128)) := by
        show _ = _
        rw [hvb.out, vb_big (by omega)]; simp
      clear hrow hvb
      go_wp2_with (at_builtin; refine wpList_append_run rfl _ _ _ _ rfl _ _ _ rfl rfl hr ?_)
      go_roundw
      case rel => exact ⟨x / 128, l ++ [x % 128 + 128], l.length + 1, A2, c2, by omega, rfl, by simp, rfl, HR.out, hvb2⟩
      case measure => simp [intOf]; omega
    · obtain ⟨A2, c2, w2, hr, HR⟩ := hrow.one hll (x % 256) 28 _ _ rfl rfl
      have hvb2 : Hid (L = l ++ [x % 256]) := by
        show _ = _
        rw [hvb.out, vb_small (by omega)]
      have hln : Hid (L.length = l.length + 1) := by show _ = _; rw [hvb2.out]; simp
      clear hrow hvb
      go_wp2_with (at_builtin; refine wpList_append_run rfl _ _ _ _ rfl _ _ _ rfl rfl hr ?_)
      go_ret
      refine ⟨A2, c2, by rw [hln.out]; rfl, ?_, HR.out.bel⟩
      have := HR.out.own
      rwa [← hvb2.out] at this

theorem own_low {w : World} {base base' n : Nat} {e : TypeId} {size : Nat} {v : Value} {vs : List Value} (h : w.ownsRow base' e size v n vs) (hb : base ≤ base') : w.ownsRow base e size v n vs := by
  obtain ⟨hl, hv⟩ := h
  refine ⟨hl, ?_⟩
  rcases hv with hv | ⟨g, cap, cur, e1, e2, e3⟩
  · exact .inl hv
  · exact .inr ⟨g, cap, cur, e1, Nat.le_trans hb e2, e3⟩
theorem Row.of {base : Nat} {w0 W w1 : World} {A : Option Addr} {c : Nat} {l : List Int} (hB : Below base w0 W) (hge : base ≤ W.heap.size) (o : w1.ownsRow W.heap.size 5 1 (.slice A l.length c) l.length (bvals l)) (b : Below W.heap.size W w1) : Row base w0 w1 A c l :=
  ⟨own_low o hge, hB.trans (b.mono hge), Nat.le_trans hge b.size⟩
theorem Row.lit {base : Nat} {w0 W : World} (hB : Below base w0 W) (hge : base ≤ W.heap.size) (x : Int) (H : Nat) (hH : W.heap.size = H) : Row base w0 (W.alloc (.cells #[.int .u8 x] 5)) (some ⟨H, 0, none⟩) 1 [x] := by
  subst hH
  exact ⟨World.ownsRow_lit (base := base) (e := 5) (size := 1) W #[.int .u8 x] 1 hge (by simp [maxLen]) rfl, hB.alloc hge _, by simp; omega⟩

set_option maxHeartbeats 1000000 in
theorem rtext_any (s : ByteArray) (hs : s.size ≤ 100000000) (w : World) : Calls Try.prog 74 #[.string s] w (OwnB (tb s) w) := by
  have hln : Hid ((tb s).length = (vb (s.size : Int)).length + s.size) := by show _ = _; rw [tb, List.length_append, strB_length]
  have h9 := vb_length_i64 (z := (s.size : Int)) (by omega)
  go_enter Try.func74, Try.ntmps74
  go_wp2_with fail
  refine (rnumber_any (s.size : Int) (by omega) w).mono ?_
  rintro e w1 ⟨A, c, rfl, o1, b1⟩
  obtain ⟨A2, c2, w2, hr, HR⟩ := (Row.of (Below.refl _ w) (Nat.le_refl _) o1 b1).str s (by omega) 28 _ rfl
  clear o1
  go_wp2_with (at_builtin; refine wpList_append_run rfl _ _ _ _ rfl _ _ _ rfl rfl hr ?_)
  go_ret
  exact ⟨A2, c2, by rw [hln.out]; rfl, HR.out.own, HR.out.bel⟩

/-- An append in a drawn region, whose run is known. -/
theorem step_append_run {P : Program} {ops : Array Oper} {o : Oper} {a : Act} {w w' : World} {K : Act → World → Prop} {Q : Exit → Act → World → Prop} {E : Prop} (hgd : o.guard = none) (s x : Operand) (t t' : TypeId)
    (ho : o.op = .call { callee := .builtin .append, args := #[s, x], argTypes := #[t, t'] }) (vs vx v : Value) (hs : a.eval s = vs) (hx : a.eval x = vx) (hr : (Builtin.append_ #[t, t'] o.type #[vs, vx]).run P w = .ok v w')
    (h : K (a.put o.dst v) w') : if Region.wanted o (yielded ops a.tmps) = true then Oper.wp P o a w K Q else E := by
  have hw : Region.wanted o (yielded ops a.tmps) = true := by simp [Region.wanted, hgd]
  rw [if_pos hw]
  unfold Oper.wp execOp
  simp only [ho, resolve, invoke, builtin, Sem.run_bind, Sem.run_pure, Result.andThen_ok, List.map_toArray, List.map_cons, List.map_nil, hs, hx, hr]
  exact h

abbrev KS (g : Nat) (d : Int) (s : ByteArray) (w' : World) : Prop := w'.cell? ⟨g, 0, none⟩ = some (.int .i64 d) ∧ w'.cell? ⟨g, 1, none⟩ = some (.string s)
theorem ks_below {g : Nat} {d : Int} {s : ByteArray} {w w' : World} (h : KS g d s w) (hb : Below w.heap.size w w') : KS g d s w' := ⟨cell_keep hb h.1, cell_keep hb h.2⟩

set_option maxHeartbeats 1000000 in
theorem rkey_any (k : KeyD) (hk : k.fit) (w : World) : Calls Try.prog 46 #[.agg k.cells.toArray] w (OwnB k.enc w) := by
  obtain ⟨d, s⟩ := k
  obtain ⟨hd, hs⟩ := hk
  simp only at hd hs
  have hln : Hid ((KeyD.enc ⟨d, s⟩).length = (vb d).length + (tb s).length) := by show _ = _; rw [KeyD.enc, List.length_append]
  have h9 := vb_length_i64 (z := d) hd.2
  have ht := tb_length (s := s) (by omega)
  have hB0 : Hid (Below w.heap.size w (w.alloc (.cells #[.int .i64 d, .string s] 43))) := bel_al (Below.refl _ _) _
  have s0' : KS w.heap.size d s (w.alloc (.cells #[.int .i64 d, .string s] 43)) := by
    have hb := Blk.new w #[.int .i64 d, .string s] 43
    exact ⟨(hb.cell 0).trans rfl, (hb.cell 1).trans rfl⟩
  have s0 : KS w.heap.size d s (w.alloc (.cells #[.int .i64 d, .string s] 43)).drew := s0'
  show Calls Try.prog _ #[.agg #[.int .i64 d, .string s]] w _
  go_enter Try.func46, Try.ntmps46
  go_wp2_with fail
  go_region_held3 (fun w' => KS w.heap.size d s w') ((first | assumption | exact s0 | exact s1 | exact s2 | exact s3)) (first | (go_at_call 43; refine (rnumber_any d hd.2 _).mono ?_; rintro e w1 ⟨A1, c1, rfl, o1, b1'⟩; have b1 := below_undrew b1'; have s1 := ks_below s0 b1'; have R1 : Row (w.alloc (.cells #[.int .i64 d, .string s] 43)).heap.size (w.alloc (.cells #[.int .i64 d, .string s] 43)) w1 A1 c1 (vb d) := ⟨o1, b1, b1.size⟩) | (go_at_call 74; refine (rtext_any s (by omega) _).mono ?_; rintro e w2 ⟨A2, c2, rfl, o2, b2⟩; have s2 := ks_below s1 b2; obtain ⟨A3, c3, w3, hr, HR⟩ := (R1.below b2).more o2 (by omega) 28 _ _ rfl rfl; have s3 := ks_below s0' HR.out.bel) | (refine step_append_run (by rfl) _ _ _ _ (by rfl) _ _ _ (by rfl) (by rfl) hr ?_))
  go_wp2_with fail
  go_ret
  exact ⟨A3, c3, by rw [hln.out]; rfl, own_low HR.out.own hB0.out.size, bel_next hB0.out HR.out.bel⟩

/-- What stands while a box's fields are written down: the box, and the row so far. -/
structure RBox (w W : World) (cs : Array Value) (t : TypeId) (wr : World) (A : Option Addr) (c : Nat) (l : List Int) : Prop where
  row : Row W.heap.size W wr A c l
  bel : Below w.heap.size w W
  blk : Blk W w.heap.size cs t
theorem RBox.box {w W wr : World} {cs : Array Value} {t : TypeId} {A : Option Addr} {c : Nat} {l : List Int} (h : RBox w W cs t wr A c l) : Blk wr w.heap.size cs t := h.blk.kp (S := fun _ => False) (Kp.of_below h.row.bel) (fun h => h)
theorem RBox.more {w W wr w2 : World} {cs : Array Value} {t : TypeId} {A B : Option Addr} {c k : Nat} {l l2 : List Int} (h : RBox w W cs t wr A c l) (o2 : w2.ownsRow wr.heap.size 5 1 (.slice B l2.length k) l2.length (bvals l2)) (b2 : Below wr.heap.size wr w2) (hl : l.length + l2.length ≤ 1000000000) (ty : TypeId) (n m : Nat) (hn : l.length = n) (hm : l2.length = m) :
    ∃ A2 c2 w3, (Builtin.append_ #[28, 28] ty #[.slice A n c, .slice B m k]).run Try.prog w2 = .ok (.slice A2 (n + m) c2) w3 ∧ Hid (RBox w W cs t w3 A2 c2 (l ++ l2)) := by
  obtain ⟨A2, c2, w3, hr, HR⟩ := (h.row.below b2).more o2 hl ty n m hn hm
  exact ⟨A2, c2, w3, hr, HR.out, h.bel, h.blk⟩
theorem RBox.one {w W wr : World} {cs : Array Value} {t : TypeId} {A : Option Addr} {c : Nat} {l : List Int} (h : RBox w W cs t wr A c l) (hl : l.length + 1 ≤ 1000000000) (x : Int) (ty : TypeId) (H n : Nat) (hH : wr.heap.size = H) (hn : l.length = n) :
    ∃ A2 c2 w2, (Builtin.append_ #[28, 28] ty #[.slice A n c, .slice (some ⟨H, 0, none⟩) 1 1]).run Try.prog (wr.alloc (.cells #[.int .u8 x] 5)) = .ok (.slice A2 (n + 1) c2) w2 ∧ Hid (RBox w W cs t w2 A2 c2 (l ++ [x])) := by
  obtain ⟨A2, c2, w3, hr, HR⟩ := h.row.one hl x ty H n hH hn
  exact ⟨A2, c2, w3, hr, HR.out, h.bel, h.blk⟩
theorem RBox.fin {w W wr : World} {cs : Array Value} {t : TypeId} {A : Option Addr} {c n : Nat} {l l2 : List Int} (h : RBox w W cs t wr A c l) (hl : l = l2) (hn : l2.length = n) {e : Ending} (he : e = .returned (.slice A n c)) : OwnB l2 w e wr := by
  subst hl; subst hn
  exact ⟨A, c, he, own_low h.row.own h.bel.size, bel_next h.bel h.row.bel⟩

set_option maxRecDepth 100000 in
set_option maxHeartbeats 2000000 in
theorem rentry_any (x : EntryD) (hx : x.fit) (w : World) : Calls Try.prog 45 #[.agg x.cells.toArray] w (OwnB x.enc w) := by
  have hkl := KeyD.enc_length hx.key
  have hi9 := vb_length_i64 hx.id.2
  have hm9 := vb_length_i64 hx.mode.2
  have ht9 := tb_length (s := x.node.target) (by have := hx.target; omega)
  obtain ⟨⟨kd, ks⟩, neg, ⟨id, kind, mode, target⟩⟩ := x
  obtain ⟨hkey, hid, hmode, htarget⟩ := hx
  simp only at hkey hid hmode htarget hkl hi9 hm9 ht9
  have hW : Hid (Below w.heap.size w (w.alloc (.cells #[.int .i64 kd, .string ks, .bool neg, .int .i64 id, .int .i64 kind, .int .i64 mode, .string target] 47)) ∧
      Blk (w.alloc (.cells #[.int .i64 kd, .string ks, .bool neg, .int .i64 id, .int .i64 kind, .int .i64 mode, .string target] 47)) w.heap.size #[.int .i64 kd, .string ks, .bool neg, .int .i64 id, .int .i64 kind, .int .i64 mode, .string target] 47) := ⟨bel_al (Below.refl _ _) _, Blk.new _ _ _⟩
  show Calls Try.prog _ #[.agg #[.int .i64 kd, .string ks, .bool neg, .int .i64 id, .int .i64 kind, .int .i64 mode, .string target]] w _
  obtain ⟨E, hE⟩ : ∃ E : List Int, Hid (E = KeyD.enc ⟨kd, ks⟩) := ⟨_, rfl⟩
  rw [← hE.out] at hkl
  cases neg with
  | true =>
    have henc : Hid (EntryD.enc ⟨⟨kd, ks⟩, true, ⟨id, kind, mode, target⟩⟩ = E ++ [1]) := by show _ = _; rw [hE.out]; rfl
    rw [henc.out]
    go_enter Try.func45, Try.ntmps45
    go_wp2_with fail
    refine (rkey_any ⟨kd, ks⟩ hkey _).mono ?_
    rintro e w1 ⟨A1, k1, rfl, o1, b1⟩
    rw [← hE.out] at o1 ⊢
    have I1 : RBox w _ _ _ w1 A1 k1 E := ⟨Row.of (Below.refl _ _) (Nat.le_refl _) o1 b1, hW.out.1, hW.out.2⟩
    have c2 := I1.box.cell 2
    simp at c2
    obtain ⟨A2, k2, w2, hr2, I2⟩ := I1.one (by omega) 1 28 _ _ rfl rfl
    clear I1 o1 b1
    go_wp2_with (at_builtin; refine wpList_append_run rfl _ _ _ _ rfl _ _ _ rfl rfl hr2 ?_)
    go_ret
    exact I2.out.fin rfl (by simp) rfl
  | false =>
    have henc : Hid (EntryD.enc ⟨⟨kd, ks⟩, false, ⟨id, kind, mode, target⟩⟩ = E ++ [0] ++ vb id ++ [kind % 256] ++ vb mode ++ tb target) := by show _ = _; rw [hE.out]; simp [EntryD.enc, List.append_assoc]
    rw [henc.out]
    go_enter Try.func45, Try.ntmps45
    go_wp2_with fail
    refine (rkey_any ⟨kd, ks⟩ hkey _).mono ?_
    rintro e w1 ⟨A1, k1, rfl, o1, b1⟩
    rw [← hE.out] at o1 ⊢
    have I1 : RBox w _ _ _ w1 A1 k1 E := ⟨Row.of (Below.refl _ _) (Nat.le_refl _) o1 b1, hW.out.1, hW.out.2⟩
    have c2 := I1.box.cell 2
    simp at c2
    obtain ⟨A2, k2, w2, hr2, I2⟩ := I1.one (by omega) 0 28 _ _ rfl rfl
    have c3 := I2.out.box.cell 3
    simp at c3
    clear I1 o1 b1
    go_wp2_with (at_builtin; refine wpList_append_run rfl _ _ _ _ rfl _ _ _ rfl rfl hr2 ?_)
    refine (rnumber_any id hid.2 _).mono ?_
    rintro e w3 ⟨A3, k3, rfl, o3, b3⟩
    obtain ⟨A4, k4, w4, hr4, I4⟩ := I2.out.more o3 b3 (by simp; omega) 28 (E.length + 1) _ (by simp only [List.length_append, List.length_singleton]) rfl
    have c4 := I4.out.box.cell 4
    simp at c4
    clear o3 b3 c2 c3 hr2
    obtain ⟨A5, k5, w5, hr5, I5⟩ := I4.out.one (by simp; omega) (kind % 256) 28 _ (E.length + 1 + (vb id).length) rfl (by simp only [List.length_append, List.length_singleton])
    have c5 := I5.out.box.cell 5
    simp at c5
    go_wp2_with (at_builtin; first | ((with_reducible refine wpList_append_run rfl _ _ _ _ rfl _ _ _ ?_ ?_ hr4 ?_); rfl; rfl) | ((with_reducible refine wpList_append_run rfl _ _ _ _ rfl _ _ _ ?_ ?_ hr5 ?_); rfl; rfl))
    refine (rnumber_any mode hmode.2 _).mono ?_
    rintro e w6 ⟨A6, k6, rfl, o6, b6⟩
    obtain ⟨A7, k7, w7, hr7, I7⟩ := I5.out.more o6 b6 (by simp; omega) 28 (E.length + 1 + (vb id).length + 1) _ (by simp only [List.length_append, List.length_singleton]) rfl
    have c6 := I7.out.box.cell 6
    simp at c6
    clear o6 b6 c4 c5 hr4 hr5
    go_wp2_with (at_builtin; refine wpList_append_run rfl _ _ _ _ rfl _ _ _ rfl rfl hr7 ?_)
    refine (rtext_any target (by omega) _).mono ?_
    rintro e w8 ⟨A8, k8, rfl, o8, b8⟩
    obtain ⟨A9, k9, w9, hr9, I9⟩ := I7.out.more o8 b8 (by simp; omega) 28 (E.length + 1 + (vb id).length + 1 + (vb mode).length) _ (by simp only [List.length_append, List.length_singleton]) rfl
    clear o8 b8 c6 hr7
    go_wp2_with (at_builtin; refine wpList_append_run rfl _ _ _ _ rfl _ _ _ rfl rfl hr9 ?_)
    go_ret
    exact I9.out.fin rfl (by simp only [List.length_append, List.length_singleton]) rfl

set_option maxRecDepth 100000 in
set_option maxHeartbeats 2000000 in
theorem rop_any (o : OpD) (ho : o.fit) (w : World) : Calls Try.prog 44 #[.agg o.cells.toArray] w (OwnB o.enc w) := by
  have h1 := vb_length_i64 ho.dir.2
  have h2 := vb_length_i64 ho.to.2
  have h3 := vb_length_i64 ho.mode.2
  have h4 := tb_length (s := o.name) (by have := ho.name; omega)
  have h5 := tb_length (s := o.new) (by have := ho.new; omega)
  have h6 := tb_length (s := o.target) (by have := ho.target; omega)
  obtain ⟨k, d, s, t, n, m, g⟩ := o
  obtain ⟨hd, ht, hm, hs, hn, hg⟩ := ho
  simp only at hd ht hm hs hn hg h1 h2 h3 h4 h5 h6
  have hW : Hid (Below w.heap.size w (w.alloc (.cells #[.int .i64 k, .int .i64 d, .string s, .int .i64 t, .string n, .int .i64 m, .string g] 23)) ∧
      Blk (w.alloc (.cells #[.int .i64 k, .int .i64 d, .string s, .int .i64 t, .string n, .int .i64 m, .string g] 23)) w.heap.size #[.int .i64 k, .int .i64 d, .string s, .int .i64 t, .string n, .int .i64 m, .string g] 23) := ⟨bel_al (Below.refl _ _) _, Blk.new _ _ _⟩
  have henc : Hid (OpD.enc ⟨k, d, s, t, n, m, g⟩ = [k % 256] ++ vb d ++ tb s ++ vb t ++ tb n ++ vb m ++ tb g) := rfl
  rw [henc.out]
  show Calls Try.prog _ #[.agg #[.int .i64 k, .int .i64 d, .string s, .int .i64 t, .string n, .int .i64 m, .string g]] w _
  go_enter Try.func44, Try.ntmps44
  go_wp2_with fail
  have I1 : RBox w (w.alloc (.cells #[.int .i64 k, .int .i64 d, .string s, .int .i64 t, .string n, .int .i64 m, .string g] 23)) #[.int .i64 k, .int .i64 d, .string s, .int .i64 t, .string n, .int .i64 m, .string g] 23 _ (some ⟨w.heap.size + 1, 0, none⟩) 1 [k % 256] := ⟨Row.lit (Below.refl _ _) (Nat.le_refl _) (k % 256) _ (by simp), hW.out.1, hW.out.2⟩
  refine (rnumber_any d hd.2 _).mono ?_
  rintro e w2 ⟨A2, k2, rfl, o2, b2⟩
  obtain ⟨A3, k3, w3, hr3, I3⟩ := I1.more o2 b2 (by simp; omega) 28 1 _ rfl rfl
  have c2 := I3.out.box.cell 2
  simp at c2
  clear o2 b2 I1
  go_wp2_with (at_builtin; (with_reducible refine wpList_append_run rfl _ _ _ _ rfl _ _ _ ?_ ?_ hr3 ?_); rfl; rfl)
  refine (rtext_any s (by omega) _).mono ?_
  rintro e w4 ⟨A4, k4, rfl, o4, b4⟩
  obtain ⟨A5, k5, w5, hr5, I5⟩ := I3.out.more o4 b4 (by simp only [List.length_append, List.length_singleton]; omega) 28 (1 + (vb d).length) _ (by simp only [List.length_append, List.length_singleton]) rfl
  have c3 := I5.out.box.cell 3
  simp at c3
  clear o4 b4 c2 hr3 I3
  go_wp2_with (at_builtin; (with_reducible refine wpList_append_run rfl _ _ _ _ rfl _ _ _ ?_ ?_ hr5 ?_); rfl; rfl)
  refine (rnumber_any t ht.2 _).mono ?_
  rintro e w6 ⟨A6, k6, rfl, o6, b6⟩
  obtain ⟨A7, k7, w7, hr7, I7⟩ := I5.out.more o6 b6 (by simp only [List.length_append, List.length_singleton]; omega) 28 (1 + (vb d).length + (tb s).length) _ (by simp only [List.length_append, List.length_singleton]) rfl
  have c4 := I7.out.box.cell 4
  simp at c4
  clear o6 b6 c3 hr5 I5
  go_wp2_with (at_builtin; (with_reducible refine wpList_append_run rfl _ _ _ _ rfl _ _ _ ?_ ?_ hr7 ?_); rfl; rfl)
  refine (rtext_any n (by omega) _).mono ?_
  rintro e w8 ⟨A8, k8, rfl, o8, b8⟩
  obtain ⟨A9, k9, w9, hr9, I9⟩ := I7.out.more o8 b8 (by simp only [List.length_append, List.length_singleton]; omega) 28 (1 + (vb d).length + (tb s).length + (vb t).length) _ (by simp only [List.length_append, List.length_singleton]) rfl
  have c5 := I9.out.box.cell 5
  simp at c5
  clear o8 b8 c4 hr7 I7
  go_wp2_with (at_builtin; (with_reducible refine wpList_append_run rfl _ _ _ _ rfl _ _ _ ?_ ?_ hr9 ?_); rfl; rfl)
  refine (rnumber_any m hm.2 _).mono ?_
  rintro e w10 ⟨A10, k10, rfl, o10, b10⟩
  obtain ⟨A11, k11, w11, hr11, I11⟩ := I9.out.more o10 b10 (by simp only [List.length_append, List.length_singleton]; omega) 28 (1 + (vb d).length + (tb s).length + (vb t).length + (tb n).length) _ (by simp only [List.length_append, List.length_singleton]) rfl
  have c6 := I11.out.box.cell 6
  simp at c6
  clear o10 b10 c5 hr9 I9
  go_wp2_with (at_builtin; (with_reducible refine wpList_append_run rfl _ _ _ _ rfl _ _ _ ?_ ?_ hr11 ?_); rfl; rfl)
  refine (rtext_any g (by omega) _).mono ?_
  rintro e w12 ⟨A12, k12, rfl, o12, b12⟩
  obtain ⟨A13, k13, w13, hr13, I13⟩ := I11.out.more o12 b12 (by simp only [List.length_append, List.length_singleton]; omega) 28 (1 + (vb d).length + (tb s).length + (vb t).length + (tb n).length + (vb m).length) _ (by simp only [List.length_append, List.length_singleton]) rfl
  clear o12 b12 c6 hr11 I11
  go_wp2_with (at_builtin; (with_reducible refine wpList_append_run rfl _ _ _ _ rfl _ _ _ ?_ ?_ hr13 ?_); rfl; rfl)
  go_ret
  exact I13.out.fin rfl (by simp only [List.length_append, List.length_singleton]) rfl

end Go.Proofs.Ytmhcjkiaogimgaa
