/- A disk and the document's that stand alike: what each call answers is the same; like. -/
import Derived.Test.YtdmkphalihdmlaaBlkH
namespace Go.Proofs.Ytdmkphalihdmlaa
open Go.RowKit

theorem quiet_left {P : Program} {f : FuncId} {args : Array Value} {w : World} {n : Nat} {v : Value}
    (h : Calls P f args (w.drewN n) fun e w' => e = .returned v ∧ w.drewN n = w') : Calls P f args (w.drewN n) fun e w'' => e = .returned v ∧ ∃ m, w'' = w.drewN m :=
  h.mono fun _ _ ⟨he, hm⟩ => ⟨he, n, hm.symm⟩

/-- They stand alike. -/
structure Match (s : DS) (D : DD) : Prop where
  n : D.n = s.n
  lit : D.lit = !s.off
  fuse : D.fuse = s.fuse
  writes : s.writes = D.did.length
  c : ∀ k : Nat, k < s.n → s.c k = lastW D.did k
theorem Match.has {s : DS} {D : DD} (h : Match s D) (i : Int) : D.has i ↔ s.has i := by unfold DD.has DS.has; rw [h.n]
theorem Match.read {s : DS} {D : DD} (h : Match s D) (i : Int) : D.readL i = s.readL i ∧ D.readE i = s.readE i := by
  unfold DD.readL DD.readE DS.readL DS.readE
  by_cases hi : s.has i
  · rw [if_pos ((h.has i).2 hi), if_pos ((h.has i).2 hi), if_pos hi, if_pos hi]
    refine ⟨?_, rfl⟩
    unfold DS.has at hi
    rw [h.c i.toNat (by omega), show ((i.toNat : Nat) : Int) = i by omega]
  · rw [if_neg (fun e => hi ((h.has i).1 e)), if_neg (fun e => hi ((h.has i).1 e)), if_neg hi, if_neg hi]
    exact ⟨rfl, rfl⟩
theorem Match.put {s : DS} {D : DD} (h : Match s D) (hf : -1 ≤ s.fuse) (i : Int) (hi : s.has i) (l : List Int) (h0 : s.fuse ≠ 0) : Match (s.put i l) (D.put i l) where
  n := h.n
  lit := h.lit
  fuse := by
    show (if 0 < D.fuse then D.fuse - 1 else D.fuse) = (if s.fuse = -1 then -1 else s.fuse - 1)
    rw [h.fuse]
    by_cases e : s.fuse = -1
    · rw [if_pos e, if_neg (by omega)]; exact e
    · rw [if_neg e, if_pos (by omega)]
  writes := by
    show s.writes + 1 = ((D.did ++ [(i, l)]).length : Int)
    rw [h.writes]; simp
  c := fun k hk => by
    have hi' := hi
    unfold DS.has at hi'
    show (if k = i.toNat then l else s.c k) = lastW (D.did ++ [(i, l)]) k
    rw [lastW_snoc]
    by_cases e : k = i.toNat
    · rw [if_pos e, if_pos (by show i = _; omega)]
    · rw [if_neg e, if_neg (by show ¬ i = _; omega)]
      exact h.c k hk
theorem Match.write {s : DS} {D : DD} (h : Match s D) (hf : -1 ≤ s.fuse) (i : Int) (l : List Int) : D.writeE i l = s.writeE i l ∧ Match (s.writeS i l) (D.writeS i l) := by
  unfold DD.writeE DD.writeS DS.writeE DS.writeS
  by_cases hi : s.has i
  · have hi' := (h.has i).2 hi
    by_cases hl : l.length ≠ 64
    · simp only [hi, hi', hl, not_true_eq_false, if_false, ite_true, ne_eq, not_false_eq_true]
      exact ⟨trivial, h⟩
    · cases ho : s.off
      · have hlit : D.lit = true := by rw [h.lit, ho]; rfl
        by_cases h0 : s.fuse = 0
        · have h0' : D.fuse = 0 := by rw [h.fuse]; exact h0
          simp only [hi, hi', hl, hlit, h0, h0', not_true_eq_false, if_false, if_true, Bool.false_eq_true]
          exact ⟨trivial, h.n, rfl, rfl, h.writes, h.c⟩
        · have h0' : ¬ D.fuse = 0 := by rw [h.fuse]; exact h0
          simp only [hi, hi', hl, hlit, h0, h0', not_true_eq_false, if_false, Bool.false_eq_true]
          exact ⟨trivial, h.put hf i hi l h0⟩
      · have hlit : D.lit = false := by rw [h.lit, ho]; rfl
        simp only [hi, hi', hl, hlit, not_true_eq_false, not_false_eq_true, if_false, if_true, Bool.false_eq_true]
        exact ⟨trivial, h⟩
  · have hi' : ¬ D.has i := fun e => hi ((h.has i).1 e)
    simp only [hi, hi', not_false_eq_true, if_true]
    exact ⟨trivial, h⟩
theorem Match.fuse_ {s : DS} {D : DD} (h : Match s D) (n : Int) : D.fuseE n = s.fuseE n ∧ Match (s.fuseS n) (D.fuseS n) := by
  unfold DD.fuseE DD.fuseS DS.fuseE DS.fuseS
  by_cases hn : n < 0
  · simp only [hn, if_true]; exact ⟨trivial, h⟩
  · cases ho : s.off
    · have hlit : D.lit = true := by rw [h.lit, ho]; rfl
      simp only [hn, hlit, if_true, if_false, Bool.false_eq_true]
      exact ⟨trivial, h.n, rfl, rfl, h.writes, h.c⟩
    · have hlit : D.lit = false := by rw [h.lit, ho]; rfl
      simp only [hn, hlit, if_true, if_false, Bool.false_eq_true]
      exact ⟨trivial, h⟩
theorem Match.cut {s : DS} {D : DD} (h : Match s D) : Match { s with off := true, fuse := -1 } { D with lit := false, fuse := -1 } := ⟨h.n, rfl, rfl, h.writes, h.c⟩
theorem Match.power {s : DS} {D : DD} (h : Match s D) : Match { s with off := false, fuse := -1 } { D with lit := true, fuse := -1 } := ⟨h.n, rfl, rfl, h.writes, h.c⟩
theorem Match.new (n : Int) (hn : 0 ≤ n) : Match (DS.new n.toNat) (DD.new n) :=
  ⟨by show n = ((n.toNat : Nat) : Int); omega, rfl, rfl, rfl, fun k hk => rfl⟩

/-- Whatever is read of a disk. -/
theorem read_any (w : World) (d g : Nat) (s : DS) (h : DiskAt w d g s) (i : Int) :
    Calls Try.prog 14 #[.pointer (some ⟨d, 0, none⟩), .int .i64 i] w (DocRead w (s.readL i) (s.readE i)) := by
  by_cases hi : s.has i
  · have e1 : s.readL i = s.c i.toNat := by unfold DS.readL; rw [if_pos hi]
    have e2 : s.readE i = 0 := by unfold DS.readE; rw [if_pos hi]
    rw [e1, e2]
    unfold DS.has at hi
    refine (read_yes w d g s h i hi.1 hi.2).mono ?_
    rintro e w' ⟨rfl, hb, hk⟩
    have hl := h.len i.toNat (by omega)
    exact ⟨_, 64, by rw [hl], hb, hk.rdl⟩
  · have e1 : s.readL i = [] := by unfold DS.readL; rw [if_neg hi]
    have e2 : s.readE i = 20 := by unfold DS.readE; rw [if_neg hi]
    rw [e1, e2]
    refine (read_bad w d g s h i hi).mono ?_
    rintro e w' ⟨rfl, rfl⟩
    exact ⟨none, 0, rfl, Below.refl _ _, Rd.nil _ _ _⟩
theorem readL_le {w : World} {d g : Nat} {s : DS} (h : DiskAt w d g s) (i : Int) : (s.readL i).length ≤ 64 := by
  unfold DS.readL
  split
  · rename_i hi
    unfold DS.has at hi
    rw [h.len i.toNat (by omega)]
    exact Nat.le_refl _
  · simp

/-- A disk and the document's, side by side in memory. -/
structure Both (w0 w : World) (d g p : Nat) (r : Option Nat) (s : DS) (D : DD) : Prop where
  disk : DiskAt w d g s
  doc : DocAt w w0.heap.size p r D
  mat : Match s D
theorem Both.below {w0 w w' : World} {d g p : Nat} {r : Option Nat} {s : DS} {D : DD} (h : Both w0 w d g p r s D) (hb : Below w.heap.size w w') : Both w0 w' d g p r s D := ⟨h.disk.below hb, h.doc.below hb, h.mat⟩

set_option maxHeartbeats 2000000 in
theorem like_any (w0 w : World) (d g p : Nat) (r : Option Nat) (s : DS) (D : DD) (h : Both w0 w d g p r s D) :
    Calls Try.prog 32 #[.pointer (some ⟨d, 0, none⟩), .pointer (some ⟨p, 0, none⟩)] w fun e w' => e = .returned (.bool true) ∧ Below w.heap.size w w' := by
  obtain ⟨A, c, vs, c0, c1, c2, c3, hf, _⟩ := h.doc.cells
  have HD : Hid (∀ n, DiskAt (w.drewN n) d g s) := fun n => h.disk.below ((Drawn.refl w).drewN n |>.below _)
  have hm := h.mat
  rw [hm.n] at c0
  rw [hm.lit] at c2
  have hsw : Hid (s.writes = D.did.length) := hm.writes
  have hhigh := h.disk.high
  have hwr1 := h.disk.wr1
  have hdl : D.did.length ≤ 4611686018427387904 := by have := hm.writes; omega
  have HH := Lib.hid h
  clear h hm
  obtain ⟨n, hn⟩ : ∃ n, Hid (n = s.n) := ⟨_, rfl⟩
  rw [← hn.out] at c0 hhigh
  go_enter Try.func32, Try.ntmps32
  go_wp2_with fail
  go_quiet (first | (go_at_call 24; exact quiet_left (hn.out ▸ size_any _ d g s (HD.out _))) | (go_at_call 19; exact quiet_left (on_any _ d g s (HD.out _))) | (go_at_call 20; exact quiet_left (hsw.out ▸ writes_any _ d g s (HD.out _))))
  go_wp2_with fail
  have HB : Hid (Both w0 (w.drewN nq) d g p r s D) := HH.out.below ((Drawn.refl w).drewN nq |>.below _)
  have HL : Hid (Below w.heap.size w (w.drewN nq)) := (Drawn.refl w).drewN nq |>.below _
  generalize w.drewN nq = w1 at *
  clear c0 c1 c2 c3 hf HH HD hsw
  go_loopw [5] (fun v wr => ∃ k : Nat, k ≤ n + 2 ∧ v = .int .i64 ((k : Int) - 1) ∧ Below w.heap.size w wr ∧ Both w0 wr d g p r s D) (fun v _ => (n + 1 - intOf v).toNat)
  case atStart => exact ⟨0, by omega, rfl, HL.out, HB.out⟩
  case round =>
    obtain ⟨k, hk, rfl, hb, hboth⟩ := hrel
    obtain ⟨A, c, vs, c0, c1, c2, c3, hf, _⟩ := hboth.doc.cells
    rw [hboth.mat.n, ← hn.out] at c0
    obtain ⟨i, hi⟩ : ∃ i : Int, Hid (i = (k : Int) - 1) := ⟨_, rfl⟩
    rw [← hi.out]
    have hi1 : -1 ≤ i := by have := hi.out; omega
    have hi2 : i ≤ (n : Int) + 1 := by have := hi.out; omega
    obtain ⟨hm1, hm2⟩ := hboth.mat.read i
    obtain ⟨l, hl⟩ : ∃ l, Hid (l = s.readL i) := ⟨_, rfl⟩
    obtain ⟨E, hE⟩ : ∃ E, Hid (E = s.readE i) := ⟨_, rfl⟩
    have hll : l.length ≤ 64 := by rw [hl.out]; exact readL_le hboth.disk i
    have R1 := read_any wr d g s hboth.disk i
    rw [← hl.out, ← hE.out] at R1
    have R2 : Hid (∀ w2, Below wr.heap.size wr w2 → Calls Try.prog 27 #[.pointer (some ⟨p, 0, none⟩), .int .i64 i] w2 (DocRead w2 l E)) := fun w2 hb2 => by
      have := docread_any w2 _ p r D (hboth.doc.below hb2) hdl i
      rwa [hm1, hm2, ← hl.out, ← hE.out] at this
    have H1 := Lib.hid R1
    have HBo := Lib.hid hboth
    clear R1 hm1 hm2 hboth
    by_cases hlt : i ≤ (n : Int)
    · go_wp2_with fail
      refine (H1.out).mono ?_
      rintro e w2 ⟨A1, k1, rfl, b2, r2⟩
      go_wp2_with fail
      refine (R2.out w2 b2).mono ?_
      rintro e w3 ⟨A2, k2, rfl, b3, r3⟩
      go_wp2_with fail
      refine (same_any A1 A2 k1 k2 l l w3 (r2.below b3) r3 (by omega) (by omega)).mono ?_
      rintro e w4 ⟨rfl, e4⟩
      rw [decide_eq_true (rfl : l = l)]
      have B4 := bel_next (bel_next b2 b3) (e4.below _)
      go_wp2_with fail
      go_roundw
      case rel => exact ⟨k + 1, by have := hi.out; omega, by rw [hi.out]; go_num, bel_next hb B4, HBo.out.below B4⟩
      case measure => simp [intOf]; omega
    · go_wp2_with fail
      go_ret
      exact ⟨rfl, hb⟩

end Go.Proofs.Ytdmkphalihdmlaa
