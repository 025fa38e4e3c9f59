/- Pack: a note's bytes. -/
import Derived.Test.YtmhcjkiaogimgaaWirD
import Derived.Test.YtmhcjkiaogimgaaWirH
namespace Go.Proofs.Ytmhcjkiaogimgaa
open Go.RowKit

/-- Bytes in new memory, and an error's number. -/
def OwnRes (l : List Int) (err : Int) (w : World) (e : Ending) (w' : World) : Prop :=
  ∃ A c, e = .returned (.tuple #[.slice A l.length c, .int .i64 err]) ∧ w'.ownsRow w.heap.size 5 1 (.slice A l.length c) l.length (bvals l) ∧ Below w.heap.size w w'
def NoteD.packL (n : NoteD) : List Int := if n.ok then n.enc else []
def NoteD.packE (n : NoteD) : Int := if n.ok then 0 else 50

theorem okN_fit {z : Int} (h : okN z = true) : 0 ≤ z ∧ z ≤ 9223372036854775807 := by simp [okN] at h; omega
theorem okN_le {z : Int} (h : okN z = true) : 0 ≤ z ∧ z ≤ 1099511627776 := by simp [okN] at h; omega
theorem KeyD.ok_fit {k : KeyD} (h : k.ok = true) : k.fit := by
  simp [KeyD.ok, okT] at h
  exact ⟨okN_fit h.1, by omega⟩
theorem EntryD.ok_fit {x : EntryD} (h : x.ok = true) : x.fit := by
  obtain ⟨key, neg, ⟨id, kind, mode, target⟩⟩ := x
  simp only [EntryD.ok, Bool.and_eq_true] at h
  obtain ⟨h1, h2⟩ := h
  cases neg with
  | true =>
    simp only [if_true, decide_eq_true_eq] at h2
    rw [h2]
    exact ⟨KeyD.ok_fit h1, by simp [NodeD.zero], by simp [NodeD.zero], by show ByteArray.size ⟨#[]⟩ ≤ 1000; decide⟩
  | false =>
    simp [okT] at h2
    exact ⟨KeyD.ok_fit h1, okN_fit h2.1.1.1, okN_fit h2.1.1.2, by show target.size ≤ 1000; omega⟩
theorem OpD.ok_fit {o : OpD} (h : o.ok = true) : o.fit := by
  obtain ⟨k, d, s, t, n, m, g⟩ := o
  simp [OpD.ok, okT] at h
  obtain ⟨⟨_, ⟨h1, h2⟩, h3⟩, ⟨h4, h5⟩, h6⟩ := h
  exact ⟨okN_fit h1, okN_fit h2, okN_fit h3, by show s.size ≤ 1000; omega, by show n.size ≤ 1000; omega, by show g.size ≤ 1000; omega⟩
/-- What a plain note is. -/
theorem NoteD.ok_parts {n : NoteD} (h : n.ok = true) : (1 ≤ n.kind ∧ n.kind ≤ 5) ∧ n = n.named ∧ (okN n.epoch = true ∧ okN n.version = true ∧ okN n.next = true ∧ okN n.client = true ∧ okN n.seen.life = true ∧ okN n.seen.seq = true ∧ okN n.seen.err = true) ∧
    (n.kind = 3 → n.entry.neg = false ∧ n.entry.ok = true) ∧ (n.kind = 5 → n.op.ok = true) := by
  simp only [NoteD.ok, Bool.and_eq_true, decide_eq_true_eq, NoteD.nums, List.all_cons, List.all_nil, and_true] at h
  obtain ⟨⟨⟨h1, h2⟩, h3⟩, h4⟩ := h
  refine ⟨by simpa [okIn] using h1, h2, h3, fun hk => ?_, fun hk => ?_⟩
  · rw [if_pos hk] at h4
    simpa using h4
  · rw [if_neg (by omega), if_pos hk] at h4
    exact h4

theorem wpList_load_note {ops : Array Oper} {rest : List Oper} {op : Oper} {a : Act} {w : World} {Q : Exit → Act → World → Prop} (hgd : op.guard = none) (x : Operand) (ho : op.op = .load 51 x) (g : Nat) (n : NoteD)
    (hx : a.eval x = .pointer (some ⟨g, 0, none⟩)) (hN : NoteAt w g n) (h : wpList Try.prog ops Q rest (a.put op.dst (.agg n.cells.toArray)) w) : wpList Try.prog ops Q (op :: rest) a w :=
  wpList_load_mid hgd _ x ho g 0 hx _ _ hN.all Try.underlying51 rfl size_note h

theorem InBox.nums {q : Nat} {r : Option Nat} {w0 w : World} {g base : Nat} {n : NoteD} {r1 : Option Nat} {l : List Int} (h : InBox q r w0 g n.cells.toArray 51 base w r1 l) : NoteAt w g n := ⟨h.blk⟩

theorem pack_end {q base : Nat} {r r1 : Option Nat} {w w0 w1 : World} {g : Nat} {cs : Array Value} {t : TypeId} {l : List Int} (h : InBox q r w0 g cs t base w1 r1 l) (hb : Below w.heap.size w w0) (hq : w.heap.size ≤ q) (hr : ∀ k, r = some k → w.heap.size ≤ k) (hbase : base = w.heap.size) :
    ∃ A c, w1.cell? ⟨q, 0, none⟩ = some (.slice A l.length c) ∧ Hid (w1.ownsRow w.heap.size 5 1 (.slice A l.length c) l.length (bvals l) ∧ Below w.heap.size w w1) := by
  obtain ⟨A, c, hblk, ho, _⟩ := h.at_.ex
  subst hbase
  exact ⟨A, c, by rw [hblk.cell]; rfl, ho, h.to.below_of hb hb.size hq hr⟩

set_option maxRecDepth 100000 in
set_option maxHeartbeats 8000000 in
theorem pack_any (n : NoteD) (xs : Array Value) (hx : IsNote xs n) (w : World) : Calls Try.prog 19 #[.agg xs] w (OwnRes n.packL n.packE w) := by
  have hA : ∀ W, W = w.alloc (.cells xs 51) → NoteAt W w.heap.size n ∧ Below w.heap.size w W := by rw [hx.eq]; exact nat_add n w
  clear hx
  have hgt : ∀ W, W = w.alloc (.cells xs 51) → w.heap.size < W.heap.size := by rintro W rfl; simp
  obtain ⟨W, hW⟩ : ∃ W, W = w.alloc (.cells xs 51) := ⟨_, rfl⟩
  obtain ⟨hN, hB⟩ := hA W hW
  have hlt := hgt W hW
  have HW := Lib.hid hW
  clear hA hgt hW
  cases hok : n.ok with
  | false =>
    have hL : Hid (n.packL = []) := by show _ = _; rw [NoteD.packL, hok]; rfl
    have hE : Hid (n.packE = 50) := by show _ = _; rw [NoteD.packE, hok]; rfl
    rw [hL.out, hE.out]
    go_enter Try.func19, Try.ntmps19
    go_upto_region 1 with fail
    rw [← HW.out]
    go_wp2_with (first | ((with_reducible refine wpList_load_note (op := ⟨_, Op.load 51 _, _, _, _, _⟩) rfl _ rfl _ _ ?_ hN ?_); rfl))
    refine (plainNote_any n _ ⟨rfl⟩ _).mono ?_
    rintro e w1 ⟨rfl, b1⟩
    rw [hok]
    go_wp2_with fail
    go_ret2
    exact ⟨none, 0, rfl, own_none _ _ _ _, bel_next hB b1⟩
  | true =>
    obtain ⟨hkind, hnm, ⟨o1, o2, o3, o4, o5, o6, o7⟩, h3, h5⟩ := NoteD.ok_parts hok
    clear hnm
    have hL : Hid (n.packL = n.enc) := by show _ = _; rw [NoteD.packL, hok]; rfl
    have hE : Hid (n.packE = 0) := by show _ = _; rw [NoteD.packE, hok]; rfl
    rw [hL.out, hE.out]
    have HO := Lib.hid hok
    have f1 := Lib.hid (okN_fit o1)
    have f2 := Lib.hid (okN_fit o2)
    have f3 := Lib.hid (okN_fit o3)
    have f4 := Lib.hid (okN_fit o4)
    have f5 := Lib.hid (okN_fit o5)
    have f6 := Lib.hid (okN_fit o6)
    have f7 := Lib.hid (okN_fit o7)
    have H3 := Lib.hid h3
    have H5 := Lib.hid h5
    clear o1 o2 o3 o4 o5 o6 o7 h3 h5 hL hE hok
    go_enter Try.func19, Try.ntmps19
    go_upto_region 1 with fail
    rw [← HW.out]
    go_wp2_with (first | ((with_reducible refine wpList_load_note (op := ⟨_, Op.load 51 _, _, _, _, _⟩) rfl _ rfl _ _ ?_ hN ?_); rfl))
    refine (plainNote_any n _ ⟨rfl⟩ _).mono ?_
    rintro e w1 ⟨rfl, b1⟩
    rw [HO.out]
    have hN1 := hN.below b1
    have B1 := bel_next hB b1
    have hz1 := b1.size
    have hI : InBox w1.heap.size none (w1.alloc (.cells #[.slice none 0 0] 77)) w.heap.size n.cells.toArray 51 w.heap.size (w1.alloc (.cells #[.slice none 0 0] 77)) none [] :=
      ⟨WTo.refl _ _ _, (hN1.below (bel_al (Below.refl _ _) _)).blk, ⟨none, 0, Blk.new _ _ _, own_none _ _ _ _, rfl⟩, Nat.le_refl _, by omega, fun e => by cases e⟩
    have B2 := bel_al B1 (.cells #[.slice none 0 0] 77)
    obtain ⟨c0, c1, c2, c3, c4, c12, c13, c14⟩ := hI.nums.nums
    have HI := Lib.hid hI
    have HB2 := Lib.hid B2
    clear hI B2 hN hN1 b1
    go_wp2_with fail
    refine (wbyte_any _ _ _ none [] HI.out.at_ (Nat.le_trans HB2.out.size (Nat.le_refl _)) (by simp) n.kind).mono ?_
    rintro e w2 ⟨rfl, r1, t1, a1⟩
    have hI1 := HI.out.step t1 a1
    have hz2 := HI.out.sz
    have hs2 : w.heap.size ≤ w2.heap.size := Nat.le_trans HB2.out.size hI1.sz
    have hlt2 := hI1.at_.lt
    clear c0 c1 c2 c3 c4 c12 c13 c14 t1 a1
    obtain ⟨c0, c1, c2, c3, c4, c12, c13, c14⟩ := hI1.nums.nums
    have I1 := Lib.hid hI1
    clear hI1
    rcases (show n.kind = 1 ∨ n.kind = 2 ∨ n.kind = 3 ∨ n.kind = 4 ∨ n.kind = 5 by omega) with hk | hk | hk | hk | hk
    · have hl : Hid ([] ++ [n.kind % 256] ++ vb n.epoch = n.enc) := by show _ = _; rw [NoteD.enc, if_pos hk]; rfl
      have HK := Lib.hid hk
      rw [hk] at c0
      clear hk
      go_wp2_with fail
      refine (wnumber_lit w2 _ _ r1 _ I1.out.at_ hs2 _ n.epoch rfl f1.out (by simp)).mono ?_
      rintro e w3 ⟨rfl, r2, t2, a2⟩
      have I2 := I1.out.step t2 a2
      rw [hl.out] at I2
      clear t2 a2
      obtain ⟨A, c, hc, HF⟩ := pack_end I2 HB2.out (by omega) (fun k hk => by cases hk) rfl
      clear I2
      go_wp2_with fail
      go_ret2
      exact ⟨A, c, rfl, HF.out.1, HF.out.2⟩
    · have hl : Hid ([] ++ [n.kind % 256] ++ vbs [n.epoch, n.version, n.next] = n.enc) := by show _ = _; rw [NoteD.enc, if_neg (by omega), if_pos hk]; simp [vbs]
      have HK := Lib.hid hk
      rw [hk] at c0
      clear hk
      go_wp2_with fail
      refine (wnumbers_lit w2 _ _ r1 _ I1.out.at_ hs2 _ 3 [n.epoch, n.version, n.next] _ rfl rfl rfl (by omega) (by
        intro z hz
        simp only [List.mem_cons, List.not_mem_nil, or_false] at hz
        rcases hz with rfl | rfl | rfl
        · exact f1.out
        · exact f2.out
        · exact f3.out) (by simp)).mono ?_
      rintro e w3 ⟨rfl, r2, t2, a2⟩
      have I2 := I1.out.step t2 a2
      rw [hl.out] at I2
      clear t2 a2
      obtain ⟨A, c, hc, HF⟩ := pack_end I2 HB2.out (by omega) (fun k hk => by cases hk) rfl
      clear I2
      go_wp2_with fail
      go_ret2
      exact ⟨A, c, rfl, HF.out.1, HF.out.2⟩
    · have hl : Hid ([] ++ [n.kind % 256] ++ n.entry.enc = n.enc) := by show _ = _; rw [NoteD.enc, if_neg (by omega), if_neg (by omega), if_pos hk]; simp
      have hfit := Lib.hid (EntryD.ok_fit (H3.out hk).2)
      have hN := I1.out.nums
      have HK := Lib.hid hk
      rw [hk] at c0
      clear hk
      go_wp2_with (first | ((with_reducible refine wpList_load_entry (op := ⟨_, Op.load 47 _, _, _, _, _⟩) rfl _ rfl _ _ ?_ hN ?_); rfl))
      refine (wentry_any w2 _ _ r1 _ I1.out.at_ hs2 n.entry hfit.out (by simp)).mono ?_
      rintro e w3 ⟨rfl, r2, t2, a2⟩
      have I2 := I1.out.step t2 a2
      rw [hl.out] at I2
      clear t2 a2
      obtain ⟨A, c, hc, HF⟩ := pack_end I2 HB2.out (by omega) (fun k hk => by cases hk) rfl
      clear I2
      go_wp2_with fail
      go_ret2
      exact ⟨A, c, rfl, HF.out.1, HF.out.2⟩
    · have hl : Hid ([] ++ [n.kind % 256] ++ vbs [n.client, n.seen.life, n.seen.seq, n.seen.err] = n.enc) := by show _ = _; rw [NoteD.enc, if_neg (by omega), if_neg (by omega), if_neg (by omega), if_neg (by omega)]; simp [vbs]
      have HK := Lib.hid hk
      rw [hk] at c0
      clear hk
      go_wp2_with fail
      refine (wnumbers_lit w2 _ _ r1 _ I1.out.at_ hs2 _ 4 [n.client, n.seen.life, n.seen.seq, n.seen.err] _ rfl rfl rfl (by omega) (by
        intro z hz
        simp only [List.mem_cons, List.not_mem_nil, or_false] at hz
        rcases hz with rfl | rfl | rfl | rfl
        · exact f4.out
        · exact f5.out
        · exact f6.out
        · exact f7.out) (by simp)).mono ?_
      rintro e w3 ⟨rfl, r2, t2, a2⟩
      have I2 := I1.out.step t2 a2
      rw [hl.out] at I2
      have k0 := I2.nums.nums.1
      rw [HK.out] at k0
      clear t2 a2
      obtain ⟨A, c, hc, HF⟩ := pack_end I2 HB2.out (by omega) (fun k hk => by cases hk) rfl
      clear I2
      go_wp2_with fail
      go_ret2
      exact ⟨A, c, rfl, HF.out.1, HF.out.2⟩
    · have hl : Hid ([] ++ [n.kind % 256] ++ vbs [n.client, n.seen.life, n.seen.seq, n.seen.err] ++ n.op.enc = n.enc) := by show _ = _; rw [NoteD.enc, if_neg (by omega), if_neg (by omega), if_neg (by omega), if_pos hk]; simp [vbs]
      have hfit := Lib.hid (OpD.ok_fit (H5.out hk))
      have HK := Lib.hid hk
      rw [hk] at c0
      clear hk
      go_wp2_with fail
      refine (wnumbers_lit w2 _ _ r1 _ I1.out.at_ hs2 _ 4 [n.client, n.seen.life, n.seen.seq, n.seen.err] _ rfl rfl rfl (by omega) (by
        intro z hz
        simp only [List.mem_cons, List.not_mem_nil, or_false] at hz
        rcases hz with rfl | rfl | rfl | rfl
        · exact f4.out
        · exact f5.out
        · exact f6.out
        · exact f7.out) (by simp)).mono ?_
      rintro e w3 ⟨rfl, r2, t2, a2⟩
      have I2 := I1.out.step t2 a2
      have k0 := I2.nums.nums.1
      rw [HK.out] at k0
      have hN := I2.nums
      have hll : ([] ++ [n.kind % 256] ++ vbs [n.client, n.seen.life, n.seen.seq, n.seen.err]).length ≤ 800000000 := by
        have := vbs_length [n.client, n.seen.life, n.seen.seq, n.seen.err] (by
          intro z hz
          simp only [List.mem_cons, List.not_mem_nil, or_false] at hz
          rcases hz with rfl | rfl | rfl | rfl
          · exact f4.out.2
          · exact f5.out.2
          · exact f6.out.2
          · exact f7.out.2)
        simp only [List.length_append, List.length_cons, List.length_nil] at this ⊢
        omega
      have hs3 : w.heap.size ≤ w3.heap.size := Nat.le_trans hs2 t2.kp.size
      have J2 := Lib.hid I2
      clear t2 a2 I2
      go_wp2_with (first | ((with_reducible refine wpList_load_op (op := ⟨_, Op.load 23 _, _, _, _, _⟩) rfl _ rfl _ _ ?_ hN ?_); rfl))
      refine (wop_any w3 _ _ r2 _ J2.out.at_ hs3 n.op hfit.out hll).mono ?_
      rintro e w4 ⟨rfl, r3, t3, a3⟩
      have I3 := J2.out.step t3 a3
      rw [hl.out] at I3
      clear t3 a3 hll
      obtain ⟨A, c, hc, HF⟩ := pack_end I3 HB2.out (by omega) (fun k hk => by cases hk) rfl
      clear I3
      go_wp2_with fail
      go_ret2
      exact ⟨A, c, rfl, HF.out.1, HF.out.2⟩

end Go.Proofs.Ytmhcjkiaogimgaa
