/- WireEncodes and WireHalves: the walks. -/
import Derived.Test.YtmhcjkiaogimgaaWirT
import Derived.Test.YtmhcjkiaogimgaaWirO
import Derived.Test.YtmhcjkiaogimgaaIee
namespace Go.Proofs.Ytmhcjkiaogimgaa
open Go.RowKit

theorem own_len {w : World} {base n : Nat} {e : TypeId} {size : Nat} {v : Value} {vs : List Value} (h : w.ownsRow base e size v n vs) : n ≤ 9223372036854775807 := by
  obtain ⟨_, ⟨_, h⟩ | ⟨g, cap, cur, _, _, _, h1, h2, _⟩⟩ := h
  · omega
  · simp only [maxLen] at h2; omega
/-- What the program and the document write of a message. -/
structure BothMsg (m : MsgD) (l : List Int) (E : Int) : Prop where
  prog : ∀ s xs w, MsgArg w xs m s → Calls Try.prog 14 #[.agg xs] w (OwnRes l E w)
  doc : ∀ s xs w, MsgArg w xs m s → Calls Try.prog 16 #[.agg xs] w (OwnRes l E w)
theorem both_msg (m : MsgD) : ∃ l E, BothMsg m l E ∧ ((∃ e n, MV m.ma m.mb e n ∧ l = m.encL e n ∧ E = m.encE) ∨ Bad m.ma m.mb ∧ l = [] ∧ E = 50) := by
  rcases mark_or_bad m.ma m.mb with ⟨e, n, h⟩ | h
  · exact ⟨m.encL e n, m.encE, ⟨fun s xs w hx => encode_yes m s xs w hx e n h, fun s xs w hx => rencode_yes m s xs w hx e n h⟩, .inl ⟨e, n, h, rfl, rfl⟩⟩
  · exact ⟨[], 50, ⟨fun s xs w hx => encode_bad m s xs w hx h, fun s xs w hx => rencode_bad m s xs w hx h⟩, .inr ⟨h, rfl, rfl⟩⟩
/-- An argument M in block g. -/
structure MAt (w : World) (g : Nat) (m : MD) (s : Sls) : Prop where
  blk : Blk w g (m.cells s).toArray 27
  ents : RowsAt w s.ea 7 (m.entries.map EntryD.cells)
  keys : RowsAt w s.ka 2 (m.keys.map KeyD.cells)
  el : m.entries.length * 72 ≤ 140737488355328
  kl : m.keys.length * 24 ≤ 140737488355328
theorem MAt.below {w w' : World} {g : Nat} {m : MD} {s : Sls} (h : MAt w g m s) (b : Below w.heap.size w w') : MAt w' g m s :=
  ⟨h.blk.kp (S := fun _ => False) (Kp.of_below b) (fun h => h), h.ents.below b, h.keys.below b, h.el, h.kl⟩
theorem MAt.arg {w : World} {g : Nat} {m : MD} {s : Sls} (h : MAt w g m s) : MArg w (m.cells s).toArray m s := ⟨rfl, h.ents, h.keys, h.el, h.kl⟩
theorem MAt.all {w : World} {g : Nat} {m : MD} {s : Sls} (h : MAt w g m s) : w.rangeAt g 0 (m.cells s) := fun j v hj => by
  rw [h.blk.cell, List.getElem?_toArray, Nat.zero_add]; exact hj
theorem MArg.box {w : World} {xs : Array Value} {m : MD} {s : Sls} (h : MArg w xs m s) : ∀ W, W = w.alloc (.cells xs 27) → MAt W w.heap.size m s ∧ Below w.heap.size w W := by
  rintro W rfl
  have hb : Below w.heap.size w (w.alloc (.cells xs 27)) := bel_al (Below.refl _ _) _
  exact ⟨⟨by rw [h.is]; exact Blk.new _ _ _, h.ents.below hb, h.keys.below hb, h.el, h.kl⟩, hb⟩
theorem size_m : (Try.prog.info? 27).map (·.size) = some 17 := by kernel_rfl
theorem wpList_load_m {ops : Array Oper} {rest : List Oper} {op : Oper} {a : Act} {w : World} {Q : Exit → Act → World → Prop} (hgd : op.guard = none) (x : Operand) (ho : op.op = .load 27 x) (g : Nat) (m : MD) (s : Sls)
    (hx : a.eval x = .pointer (some ⟨g, 0, none⟩)) (hN : MAt w g m s) (h : wpList Try.prog ops Q rest (a.put op.dst (.agg (m.cells s).toArray)) w) : wpList Try.prog ops Q (op :: rest) a w :=
  wpList_load_mid hgd _ x ho g 0 hx _ _ hN.all Try.underlying27 rfl size_m h

set_option maxHeartbeats 2000000 in
theorem encodes_law (m : MD) (s : Sls) (xs : Array Value) {W : World} (hx : MArg W xs m s) : Calls Try.prog 3 #[.agg xs] W fun e w' => e = .returned (.bool true) ∧ Below W.heap.size W w' := by
  obtain ⟨V, hV⟩ : ∃ V, V = W.alloc (.cells xs 27) := ⟨_, rfl⟩
  obtain ⟨hN, hB⟩ := hx.box V hV
  obtain ⟨l, E, P, _⟩ := both_msg m.msg
  have HV := Lib.hid hV
  have HP := Lib.hid P
  clear hV hx P
  go_enter Try.func3, Try.ntmps3
  go_upto_region 1 with fail
  rw [← HV.out]
  go_wp2_with (first | ((with_reducible refine wpList_load_m (op := ⟨_, Op.load 27 _, _, _, _, _⟩) rfl _ rfl _ _ _ ?_ hN ?_); rfl))
  refine (msg_any m s _ _ hN.arg).mono ?_
  rintro e w1 ⟨y1, s1, rfl, a1, b1⟩
  have hN1 := hN.below b1
  have B1 := bel_next hB b1
  clear b1 hN hB
  go_wp2_with fail
  refine (HP.out.prog _ _ _ a1).mono ?_
  rintro e w2 ⟨A, c, rfl, o1, b1⟩
  have hN2 := hN1.below b1
  have r1 := rd_of_own o1
  have B2 := bel_next B1 b1
  clear o1 b1 hN1 B1 a1
  go_wp2_with (first | ((with_reducible refine wpList_load_m (op := ⟨_, Op.load 27 _, _, _, _, _⟩) rfl _ rfl _ _ _ ?_ hN2 ?_); rfl))
  refine (msg_any m s _ _ hN2.arg).mono ?_
  rintro e w3 ⟨y2, s2, rfl, a2, b2⟩
  have r2 := r1.below b2
  have B3 := bel_next B2 b2
  clear b2 hN2 B2 r1
  go_wp2_with fail
  refine (HP.out.doc _ _ _ a2).mono ?_
  rintro e w4 ⟨A2, c2, rfl, o2, b2⟩
  have hlen := Lib.hid (own_len o2)
  have r3 := rd_of_own o2
  have r4 := r2.below b2
  have B4 := Lib.hid (bel_next B3 b2)
  clear o2 b2 B3 r2 a2
  go_wp2_with fail
  refine (same_any A A2 c c2 l l _ r4 r3 hlen.out hlen.out).mono ?_
  rintro e w5 ⟨rfl, d3⟩
  have B5 := Lib.hid (bel_next B4.out (d3.below _))
  clear d3
  go_wp2_with fail
  refine (awake_any _).mono ?_
  rintro e w6 ⟨rfl, b4⟩
  go_wp2_with fail
  go_ret
  exact ⟨rfl, bel_next B5.out b4⟩

end Go.Proofs.Ytmhcjkiaogimgaa
