/- The writer: key, entry, op. -/
import Derived.Test.YtmhcjkiaogimgaaWirG
namespace Go.Proofs.Ytmhcjkiaogimgaa
open Go.RowKit

theorem wnumber_lit (w : World) (base q : Nat) (r : Option Nat) (l : List Int) (h : WAt w base q r l) (hbase : base ≤ w.heap.size) (H : Nat) (z : Int) (hH : w.heap.size = H) (hz : 0 ≤ z ∧ z ≤ 9223372036854775807) (hlen : l.length ≤ 1000000000) :
    Calls Try.prog 32 #[.pointer (some ⟨q, 0, none⟩), .slice (some ⟨H, 0, none⟩) 1 1] (w.alloc (.cells #[.int .i64 z] 3)) (Wrote base q w r (l ++ vb z)) := by
  have := wnumbers_lit w base q r l h hbase H 1 [z] _ hH rfl rfl (by omega) (by simpa using hz) hlen
  have e : vbs [z] = vb z := by simp [vbs]
  rw [e] at this
  exact this

theorem cells2 {w : World} {g : Nat} {k : KeyD} {t : TypeId} (h : Blk w g k.cells.toArray t) : w.cell? ⟨g, 0, none⟩ = some (.int .i64 k.dir) ∧ w.cell? ⟨g, 1, none⟩ = some (.string k.name) :=
  ⟨by rw [h.cell]; rfl, by rw [h.cell]; rfl⟩

/-- What a key may be, to be written. -/
structure KeyD.fit (k : KeyD) : Prop where
  dir : 0 ≤ k.dir ∧ k.dir ≤ 9223372036854775807
  name : k.name.size ≤ 1000
theorem KeyD.enc_length {k : KeyD} (h : k.fit) : k.enc.length ≤ 1018 := by
  have h1 := vb_length_i64 h.dir.2
  have h2 := tb_length (s := k.name) (by have := h.name; omega)
  have := h.name
  rw [KeyD.enc, List.length_append]; omega

set_option maxHeartbeats 1000000 in
theorem wkey_any (w : World) (base q : Nat) (r : Option Nat) (l : List Int) (h : WAt w base q r l) (hbase : base ≤ w.heap.size) (k : KeyD) (hk : k.fit) (hlen : l.length ≤ 900000000) :
    Calls Try.prog 37 #[.pointer (some ⟨q, 0, none⟩), .agg k.cells.toArray] w (Wrote base q w r (l ++ k.enc)) := by
  have hq := h.lt
  have hne := h.ne
  have hB : Below w.heap.size w (w.alloc (.cells k.cells.toArray 43)) := bel_al (Below.refl _ _) _
  have hb := Blk.new w k.cells.toArray 43
  have ha := h.below hB
  have hsz : (w.alloc (.cells k.cells.toArray 43)).heap.size = w.heap.size + 1 := by simp
  have hr : r ≠ some w.heap.size := fun e => by have := (hne _ e).2.1; omega
  have HH : Hid (WAt (w.alloc (.cells k.cells.toArray 43)) base q r l ∧ Blk (w.alloc (.cells k.cells.toArray 43)) w.heap.size k.cells.toArray 43 ∧ WTo q w r (w.alloc (.cells k.cells.toArray 43)) r) := ⟨ha, hb, WTo.below hB⟩
  have HR := Lib.hid hr
  clear h hne hB hb ha hsz hr
  obtain ⟨d, s⟩ := k
  obtain ⟨hd, hs⟩ := hk
  simp only at hd hs
  change Hid (WAt (w.alloc (.cells #[.int .i64 d, .string s] 43)) base q r l ∧ Blk (w.alloc (.cells #[.int .i64 d, .string s] 43)) w.heap.size #[.int .i64 d, .string s] 43 ∧ WTo q w r (w.alloc (.cells #[.int .i64 d, .string s] 43)) r) at HH
  show Calls Try.prog _ #[_, .agg #[.int .i64 d, .string s]] w _
  go_enter Try.func37, Try.ntmps37
  go_wp2_with fail
  refine (wnumber_lit _ base q r l HH.out.1 (by simp; omega) _ d (by simp) hd (by omega)).mono ?_
  rintro e w1 ⟨rfl, r1, t1, a1⟩
  have k1 := t1.blk HH.out.2.1 (by omega) HR.out
  have c1 := k1.cell 1
  simp at c1
  have HT := Lib.hid (HH.out.2.2.trans t1)
  have hz := HT.out.kp.size
  have hl1 : (l ++ vb d).length ≤ 1000000000 := by
    have := vb_length_i64 hd.2
    rw [List.length_append]; omega
  clear k1 t1
  go_wp2_with fail
  refine (wtext_any w1 base q r1 _ a1 (by omega) s (by omega) hl1).mono ?_
  rintro e w2 ⟨rfl, r2, t2, a2⟩
  go_wp2_with fail
  go_end0
  exact ⟨rfl, r2, HT.out.trans t2, by rw [KeyD.enc, ← List.append_assoc]; exact a2⟩

/-- A box that the call makes first, and the writer's row from there on. -/
structure InBox (q : Nat) (r : Option Nat) (w0 : World) (b : Nat) (cs : Array Value) (t : TypeId) (base : Nat) (w : World) (r1 : Option Nat) (l : List Int) : Prop where
  to : WTo q w0 r w r1
  blk : Blk w b cs t
  at_ : WAt w base q r1 l
  sz : w0.heap.size ≤ w.heap.size
  nb : b ≠ q
  nr : r1 ≠ some b
theorem InBox.start {q : Nat} {r : Option Nat} {w : World} {base : Nat} {l : List Int} (h : WAt w base q r l) (cs : Array Value) (t : TypeId) : InBox q r w w.heap.size cs t base (w.alloc (.cells cs t)) r l :=
  ⟨WTo.below (bel_al (Below.refl _ _) _), Blk.new _ _ _, h.below (bel_al (Below.refl _ _) _), by simp, by have := h.lt; omega, fun e => by have := (h.ne _ e).2.1; omega⟩
theorem InBox.step {q : Nat} {r : Option Nat} {w0 : World} {b : Nat} {cs : Array Value} {t : TypeId} {base : Nat} {w w' : World} {r1 r2 : Option Nat} {l l2 : List Int} (h : InBox q r w0 b cs t base w r1 l) (ht : WTo q w r1 w' r2) (ha : WAt w' base q r2 l2) : InBox q r w0 b cs t base w' r2 l2 :=
  ⟨h.to.trans ht, ht.blk h.blk h.nb h.nr, ha, Nat.le_trans h.sz ht.kp.size, h.nb, fun e => by
    rcases ht.row with e2 | ⟨k, e2, hge⟩
    · exact h.nr (e2 ▸ e)
    · rw [e2] at e
      injection e with e
      have := h.blk.lt
      omega⟩

structure EntryD.fit (x : EntryD) : Prop where
  key : x.key.fit
  id : 0 ≤ x.node.id ∧ x.node.id ≤ 9223372036854775807
  mode : 0 ≤ x.node.mode ∧ x.node.mode ≤ 9223372036854775807
  target : x.node.target.size ≤ 1000
theorem EntryD.enc_length {x : EntryD} (h : x.fit) : x.enc.length ≤ 3000 := by
  have h1 := KeyD.enc_length h.key
  have h2 := vb_length_i64 h.id.2
  have h3 := vb_length_i64 h.mode.2
  have h4 := tb_length (s := x.node.target) (by have := h.target; omega)
  have := h.target
  rw [EntryD.enc, List.length_append]
  split <;> simp only [List.length_append, List.length_singleton] <;> omega

set_option maxHeartbeats 2000000 in
theorem wentry_any (w : World) (base q : Nat) (r : Option Nat) (l : List Int) (h : WAt w base q r l) (hbase : base ≤ w.heap.size) (x : EntryD) (hx : x.fit) (hlen : l.length ≤ 800000000) :
    Calls Try.prog 36 #[.pointer (some ⟨q, 0, none⟩), .agg x.cells.toArray] w (Wrote base q w r (l ++ x.enc)) := by
  have HI := Lib.hid (InBox.start h x.cells.toArray 47)
  have hkl := KeyD.enc_length hx.key
  have hi9 := vb_length_i64 hx.id.2
  have hm9 := vb_length_i64 hx.mode.2
  clear h
  obtain ⟨⟨kd, ks⟩, neg, ⟨id, kind, mode, target⟩⟩ := x
  obtain ⟨hkey, hid, hmode, htarget⟩ := hx
  simp only at hkey hid hmode htarget hkl hi9 hm9
  change Hid (InBox q r w w.heap.size #[.int .i64 kd, .string ks, .bool neg, .int .i64 id, .int .i64 kind, .int .i64 mode, .string target] 47 base (w.alloc (.cells #[.int .i64 kd, .string ks, .bool neg, .int .i64 id, .int .i64 kind, .int .i64 mode, .string target] 47)) r l) at HI
  show Calls Try.prog _ #[_, .agg #[.int .i64 kd, .string ks, .bool neg, .int .i64 id, .int .i64 kind, .int .i64 mode, .string target]] w _
  obtain ⟨E, hE⟩ : ∃ E : List Int, Hid (E = KeyD.enc ⟨kd, ks⟩) := ⟨_, rfl⟩
  rw [← hE.out] at hkl
  cases neg with
  | true =>
    have henc : Hid (EntryD.enc ⟨⟨kd, ks⟩, true, ⟨id, kind, mode, target⟩⟩ = E ++ [1]) := by show _ = _; rw [hE.out]; rfl
    go_enter Try.func36, Try.ntmps36
    go_wp2_with fail
    refine (wkey_any _ base q r l HI.out.at_ (by simp; omega) ⟨kd, ks⟩ hkey (by omega)).mono ?_
    rintro e w1 ⟨rfl, r1, t1, a1⟩
    rw [← hE.out] at a1
    have I1 := HI.out.step t1 a1
    have c2 := I1.blk.cell 2
    simp at c2
    clear t1 a1
    go_wp2_with fail
    refine (wbyte_any w1 base q r1 _ I1.at_ (Nat.le_trans hbase I1.sz) (by rw [List.length_append]; omega) 1).mono ?_
    rintro e w2 ⟨rfl, r2, t2, a2⟩
    have I2 := I1.step t2 a2
    clear c2
    go_wp2_with fail
    go_end0
    exact ⟨rfl, r2, I2.to, by rw [henc.out, ← List.append_assoc]; exact I2.at_⟩
  | false =>
    have henc : Hid (EntryD.enc ⟨⟨kd, ks⟩, false, ⟨id, kind, mode, target⟩⟩ = E ++ ([0] ++ vb id ++ [kind % 256] ++ vb mode ++ tb target)) := by show _ = _; rw [hE.out]; rfl
    go_enter Try.func36, Try.ntmps36
    go_wp2_with fail
    refine (wkey_any _ base q r l HI.out.at_ (by simp; omega) ⟨kd, ks⟩ hkey (by omega)).mono ?_
    rintro e w1 ⟨rfl, r1, t1, a1⟩
    rw [← hE.out] at a1
    have I1 := HI.out.step t1 a1
    have c2 := I1.blk.cell 2
    simp at c2
    clear t1 a1
    go_wp2_with fail
    refine (wbyte_any w1 base q r1 _ I1.at_ (Nat.le_trans hbase I1.sz) (by rw [List.length_append]; omega) 0).mono ?_
    rintro e w2 ⟨rfl, r2, t2, a2⟩
    have I2 := I1.step t2 a2
    have c3 := I2.blk.cell 3
    simp at c3
    clear c2 t2 a2 I1
    go_wp2_with fail
    refine (wnumber_lit w2 base q r2 _ I2.at_ (Nat.le_trans hbase I2.sz) _ id rfl hid (by simp only [List.length_append, List.length_singleton]; omega)).mono ?_
    rintro e w3 ⟨rfl, r3, t3, a3⟩
    have I3 := I2.step t3 a3
    have c4 := I3.blk.cell 4
    simp at c4
    clear c3 t3 a3 I2
    go_wp2_with fail
    refine (wbyte_any w3 base q r3 _ I3.at_ (Nat.le_trans hbase I3.sz) (by simp only [List.length_append, List.length_singleton]; omega) kind).mono ?_
    rintro e w4 ⟨rfl, r4, t4, a4⟩
    have I4 := I3.step t4 a4
    have c5 := I4.blk.cell 5
    simp at c5
    clear c4 t4 a4 I3
    go_wp2_with fail
    refine (wnumber_lit w4 base q r4 _ I4.at_ (Nat.le_trans hbase I4.sz) _ mode rfl hmode (by simp only [List.length_append, List.length_singleton]; omega)).mono ?_
    rintro e w5 ⟨rfl, r5, t5, a5⟩
    have I5 := I4.step t5 a5
    have c6 := I5.blk.cell 6
    simp at c6
    clear c5 t5 a5 I4
    go_wp2_with fail
    refine (wtext_any w5 base q r5 _ I5.at_ (Nat.le_trans hbase I5.sz) target (by omega) (by simp only [List.length_append, List.length_singleton]; omega)).mono ?_
    rintro e w6 ⟨rfl, r6, t6, a6⟩
    have I6 := I5.step t6 a6
    clear c6 t6 a6 I5
    go_wp2_with fail
    go_end0
    refine ⟨rfl, r6, I6.to, ?_⟩
    rw [henc.out]
    simpa [List.append_assoc] using I6.at_

structure OpD.fit (o : OpD) : Prop where
  dir : 0 ≤ o.dir ∧ o.dir ≤ 9223372036854775807
  to : 0 ≤ o.to ∧ o.to ≤ 9223372036854775807
  mode : 0 ≤ o.mode ∧ o.mode ≤ 9223372036854775807
  name : o.name.size ≤ 1000
  new : o.new.size ≤ 1000
  target : o.target.size ≤ 1000
theorem OpD.enc_length {o : OpD} (h : o.fit) : o.enc.length ≤ 4000 := by
  have h1 := vb_length_i64 h.dir.2
  have h2 := vb_length_i64 h.to.2
  have h3 := vb_length_i64 h.mode.2
  have h4 := tb_length (s := o.name) (by have := h.name; omega)
  have h5 := tb_length (s := o.new) (by have := h.new; omega)
  have h6 := tb_length (s := o.target) (by have := h.target; omega)
  have := h.name
  have := h.new
  have := h.target
  rw [OpD.enc]
  simp only [List.length_append, List.length_singleton]
  omega

set_option maxHeartbeats 2000000 in
theorem wop_any (w : World) (base q : Nat) (r : Option Nat) (l : List Int) (h : WAt w base q r l) (hbase : base ≤ w.heap.size) (o : OpD) (ho : o.fit) (hlen : l.length ≤ 800000000) :
    Calls Try.prog 35 #[.pointer (some ⟨q, 0, none⟩), .agg o.cells.toArray] w (Wrote base q w r (l ++ o.enc)) := by
  have HI := Lib.hid (InBox.start h o.cells.toArray 23)
  have h1 := vb_length_i64 ho.dir.2
  have h2 := vb_length_i64 ho.to.2
  have h3 := vb_length_i64 ho.mode.2
  have h4 := tb_length (s := o.name) (by have := ho.name; omega)
  have h5 := tb_length (s := o.new) (by have := ho.new; omega)
  have h6 := tb_length (s := o.target) (by have := ho.target; omega)
  clear h
  obtain ⟨k, d, s, t, n, m, g⟩ := o
  obtain ⟨hd, ht, hm, hs, hn, hg⟩ := ho
  simp only at hd ht hm hs hn hg h1 h2 h3 h4 h5 h6
  change Hid (InBox q r w w.heap.size #[.int .i64 k, .int .i64 d, .string s, .int .i64 t, .string n, .int .i64 m, .string g] 23 base (w.alloc (.cells #[.int .i64 k, .int .i64 d, .string s, .int .i64 t, .string n, .int .i64 m, .string g] 23)) r l) at HI
  show Calls Try.prog _ #[_, .agg #[.int .i64 k, .int .i64 d, .string s, .int .i64 t, .string n, .int .i64 m, .string g]] w _
  go_enter Try.func35, Try.ntmps35
  go_wp2_with fail
  refine (wbyte_any _ base q r _ HI.out.at_ (by simp; omega) (by omega) k).mono ?_
  rintro e w1 ⟨rfl, r1, t1, a1⟩
  have I1 := HI.out.step t1 a1
  have c1 := I1.blk.cell 1
  simp at c1
  clear t1 a1
  go_wp2_with fail
  refine (wnumber_lit w1 base q r1 _ I1.at_ (Nat.le_trans hbase I1.sz) _ d rfl hd (by simp only [List.length_append, List.length_singleton]; omega)).mono ?_
  rintro e w2 ⟨rfl, r2, t2, a2⟩
  have I2 := I1.step t2 a2
  have c2 := I2.blk.cell 2
  simp at c2
  clear c1 t2 a2 I1
  go_wp2_with fail
  refine (wtext_any w2 base q r2 _ I2.at_ (Nat.le_trans hbase I2.sz) s (by omega) (by simp only [List.length_append, List.length_singleton]; omega)).mono ?_
  rintro e w3 ⟨rfl, r3, t3, a3⟩
  have I3 := I2.step t3 a3
  have c3 := I3.blk.cell 3
  simp at c3
  clear c2 t3 a3 I2
  go_wp2_with fail
  refine (wnumber_lit w3 base q r3 _ I3.at_ (Nat.le_trans hbase I3.sz) _ t rfl ht (by simp only [List.length_append, List.length_singleton]; omega)).mono ?_
  rintro e w4 ⟨rfl, r4, t4, a4⟩
  have I4 := I3.step t4 a4
  have c4 := I4.blk.cell 4
  simp at c4
  clear c3 t4 a4 I3
  go_wp2_with fail
  refine (wtext_any w4 base q r4 _ I4.at_ (Nat.le_trans hbase I4.sz) n (by omega) (by simp only [List.length_append, List.length_singleton]; omega)).mono ?_
  rintro e w5 ⟨rfl, r5, t5, a5⟩
  have I5 := I4.step t5 a5
  have c5 := I5.blk.cell 5
  simp at c5
  clear c4 t5 a5 I4
  go_wp2_with fail
  refine (wnumber_lit w5 base q r5 _ I5.at_ (Nat.le_trans hbase I5.sz) _ m rfl hm (by simp only [List.length_append, List.length_singleton]; omega)).mono ?_
  rintro e w6 ⟨rfl, r6, t6, a6⟩
  have I6 := I5.step t6 a6
  have c6 := I6.blk.cell 6
  simp at c6
  clear c5 t6 a6 I5
  go_wp2_with fail
  refine (wtext_any w6 base q r6 _ I6.at_ (Nat.le_trans hbase I6.sz) g (by omega) (by simp only [List.length_append, List.length_singleton]; omega)).mono ?_
  rintro e w7 ⟨rfl, r7, t7, a7⟩
  have I7 := I6.step t7 a7
  clear c6 t7 a7 I6
  go_wp2_with fail
  go_end0
  refine ⟨rfl, r7, I7.to, ?_⟩
  rw [OpD.enc]
  simpa [List.append_assoc] using I7.at_

end Go.Proofs.Ytmhcjkiaogimgaa
