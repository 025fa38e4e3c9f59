/- The document's disk of chapter 3: Read and Copy. -/
import Derived.Test.YtdmkphalihdmlaaBlkG
namespace Go.Proofs.Ytdmkphalihdmlaa
open Go.RowKit

def DD.readL (D : DD) (i : Int) : List Int := if D.has i then lastW D.did i else []
def DD.readE (D : DD) (i : Int) : Int := if D.has i then 0 else 20
def DocRead (w : World) (l : List Int) (E : Int) (e : Ending) (w' : World) : Prop :=
  ∃ A c, e = .returned (.tuple #[.slice A l.length c, .int .i64 E]) ∧ Below w.heap.size w w' ∧ Rd .u8 w' A l

theorem take_snoc_getD (did : List (Int × List Int)) (m : Nat) (h : m < did.length) : did.take (m + 1) = did.take m ++ [did.getD m (0, [])] := by
  rw [List.take_succ_eq_append_getElem h]
  simp [List.getD_eq_getElem?_getD, List.getElem?_eq_getElem h]

theorem own_rd {w : World} {base n c : Nat} {l : List Int} {A : Option Addr} (h : w.ownsRow base 5 1 (.slice A n c) n (bvals l)) : Rd .u8 w A l :=
  ⟨fun j hj => by
    obtain ⟨x, hx, hlt, hc⟩ := (RdV.of_own h).at_ j _ (ints_get .u8 l j hj)
    exact ⟨x, hx, hlt, hc⟩⟩

theorem made64h : madeCells #[.int .u8 0] 64 = (ints .u8 (List.replicate 64 0)).toArray := by kernel_rfl
set_option maxHeartbeats 1000000 in
theorem docread_any (w : World) (base p : Nat) (r : Option Nat) (D : DD) (h : DocAt w base p r D) (hn : D.did.length ≤ 4611686018427387904) (i : Int) :
    Calls Try.prog 27 #[.pointer (some ⟨p, 0, none⟩), .int .i64 i] w (DocRead w (D.readL i) (D.readE i)) := by
  obtain ⟨A, c, vs, c0, c1, c2, c3, hf, ho⟩ := h.cells
  by_cases hi : D.has i
  · have e1 : D.readL i = lastW D.did i := by unfold DD.readL; rw [if_pos hi]
    have e2 : D.readE i = 0 := by unfold DD.readE; rw [if_pos hi]
    rw [e1, e2]
    obtain ⟨hi0, hi1⟩ := hi
    have hmk := make64
    clear h e1 e2
    obtain ⟨n, hn'⟩ : ∃ n, Hid (n = D.did.length) := ⟨_, rfl⟩
    rw [← hn'.out] at c1 hn
    go_enter Try.func27, Try.ntmps27
    go_wp2_with fail
    go_loop [6] (fun v => ∃ k : Nat, k ≤ n ∧ v = .int .i64 ((k : Int) - 1) ∧ Hid (lastW D.did i = lastW (D.did.take k) i)) (fun v => (intOf v + 1).toNat)
    case atStart => exact ⟨n, Nat.le_refl _, rfl, by show _ = _; rw [hn'.out, List.take_length]⟩
    case round =>
      obtain ⟨k, hk, rfl, hlast⟩ := hrel
      cases k with
      | zero =>
        have hz : Hid (lastW D.did i = List.replicate 64 0) := hlast
        rw [show (((0 : Nat) : Int) - 1) = -1 from rfl]
        go_wp2_with fail
        go_ret2
        have : lastW D.did i = List.replicate 64 0 := hz
        rw [this]
        refine ⟨some ⟨w.heap.size, 0, none⟩, 64, rfl, (Below.refl _ _).alloc (Nat.le_refl _) _, ?_⟩
        have hb := Blk.new w (madeCells #[.int .u8 0] 64) 5
        rw [made64h] at hb ⊢
        exact hb.rdl
      | succ m =>
        have hml : m < D.did.length := by have := hn'.out; omega
        obtain ⟨hown, hcells, _⟩ := ho.out
        rw [← hn'.out] at hown
        obtain ⟨g, rfl, hcap⟩ := own_some hown (by omega)
        have k1 := hown.cellAt (m * 2) (by omega)
        have k2 := hown.cellAt (m * 2 + 1) (by omega)
        rw [hcells.at_ m hml] at k1
        obtain ⟨hl64, b, cb, cur, hv, hblk, hcur⟩ := hcells.bs m hml
        rw [hv] at k2
        have hsn := lastW_snoc (D.did.take m) (D.did.getD m (0, [])) i
        rw [← take_snoc_getD _ _ hml, ← hlast.out] at hsn
        rcases hx : D.did.getD m (0, []) with ⟨at', la⟩
        rw [hx] at k1 hsn hl64 hcur
        have HS := Lib.hid hsn
        have HC := Lib.hid hcur
        have HL := Lib.hid hl64
        clear hown hcells hv hsn hcur hl64 hml hx hlast
        rw [show (((m + 1 : Nat) : Int) - 1) = (m : Int) by omega]
        have hm0 : (0 : Int) ≤ (m : Int) := by omega
        have hm1 : (m : Int) < (n : Int) := by omega
        by_cases he : at' = i
        · have heq : (at' == i) = true := by simp [he]
          have hfin : Hid (lastW D.did i = la) := by show _ = _; rw [HS.out]; simp [he]
          obtain ⟨v1, w1, hr1, ho1, hg1, _⟩ := append_run2 (P := Try.prog) (w := w) (base := w.heap.size) 29 Try.underlying29 binfo (by omega) (own_none w w.heap.size 5 1) (news := bvals la) (a := ⟨b, 0, none⟩) (m := 64) (c := cb) (by rw [bvals_length, HL.out])
            (fun j u hu => by
              have hj : j < la.length := by have := (List.getElem?_eq_some_iff.1 hu).1; rwa [bvals_length] at this
              rw [Addr.add_mid, Nat.zero_add, hblk.cell, HC.out j (by rw [← HL.out]; exact hj), ← hu]
              exact (ints_get .u8 la j hj).symm)
            (fun u hu => by simp [bvals] at hu; obtain ⟨y, _, rfl⟩ := hu; rfl) (by omega) (by omega) (Nat.le_refl _)
          rw [Nat.zero_add, List.nil_append] at ho1
          obtain ⟨A2, c2', rfl⟩ := own_form ho1
          have HO := Lib.hid ho1
          have HB : Below w.heap.size w w1 := (Below.refl _ _).grown hg1 (Nat.le_refl _) (fun k hk => by cases hk)
          clear ho1 hg1 he HS HC hblk
          go_wp2_with (at_builtin; refine wpList_append_run rfl _ _ _ _ rfl _ _ _ rfl rfl hr1 ?_)
          go_ret2
          have := hfin.out
          rw [this]
          exact ⟨A2, c2', by rw [HL.out]; rfl, HB, own_rd HO.out⟩
        · have heq : (at' == i) = false := by simp [he]
          have hfin : Hid (lastW D.did i = lastW (D.did.take m) i) := by show _ = _; rw [HS.out]; simp [he]
          clear he HS HC hblk
          go_wp2_with fail
          go_round
          case rel => exact ⟨m, by omega, rfl, hfin⟩
          case measure => simp [intOf]
  · have e1 : D.readL i = [] := by unfold DD.readL; rw [if_neg hi]
    have e2 : D.readE i = 20 := by unfold DD.readE; rw [if_neg hi]
    rw [e1, e2]
    have hor : i < 0 ∨ (0 ≤ i ∧ D.n ≤ i) := by unfold DD.has at hi; omega
    clear h e1 e2 hi
    rcases hor with h0 | ⟨h0, h1⟩
    all_goals
      go_enter Try.func27, Try.ntmps27
      go_wp2_with fail
      go_ret2
      exact ⟨none, 0, rfl, Below.refl _ _, Rd.nil _ _ _⟩

theorem run_append_of_nil {P : Program} (w : World) (base : Nat) (t ty e : TypeId) (i : TypeInfo) (size : Nat) (ht : P.underlying t = some (.slice e)) (hi : P.info? e = some i)
    (v : Value) (n : Nat) (xs : List Value) (hown : w.ownsRow base e size v n xs) (c : Nat) : (Builtin.append_ #[t, t] ty #[v, .slice none 0 c]).run P w = .ok v w := by
  rcases hown.2 with ⟨rfl, rfl⟩ | ⟨g, cap, cur, rfl, _, _, hnc, _⟩
  · simp [Builtin.append_, run_underlying ht, sizeOf, typeInfo, hi, Builtin.lenOf, Builtin.firstCells]
  · simp [Builtin.append_, run_underlying ht, sizeOf, typeInfo, hi, Builtin.lenOf, Builtin.firstCells, hnc, storeCells]

/-- The row of writes, copied. -/
theorem docclone_run (w : World) (base p : Nat) (r : Option Nat) (D : DD) (h : DocAt w base p r D) (hbase : base ≤ w.heap.size) (hlen : D.did.length * 32 ≤ 140737488355328) (A : Option Addr) (c : Nat) (hc1 : w.cell? ⟨p, 1, none⟩ = some (.slice A D.did.length c)) (ty : TypeId) :
    ∃ A2 c2 w2, (Builtin.append_ #[58, 58] ty #[.slice none 0 0, .slice A D.did.length c]).run Try.prog w.drew = .ok (.slice A2 D.did.length c2) w2 ∧ Below w.heap.size w w2 ∧
      (∃ vs, w2.ownsRow w.heap.size 71 2 (.slice A2 D.did.length c2) D.did.length vs ∧ WCells w2 vs D.did) := by
  obtain ⟨A', c', vs, hb, ho, hw, hrr⟩ := h.ex
  have e : w.cell? ⟨p, 1, none⟩ = some (.slice A' D.did.length c') := by rw [hb.cell]; rfl
  rw [hc1] at e
  injection e with e
  injection e with e1 _ e2
  subst e1; subst e2
  have hown0 := own_none w.drew w.heap.size 71 2
  by_cases hn : D.did.length = 0
  · obtain ⟨hvl, hv⟩ := ho
    have hv0 : vs = [] := List.eq_nil_of_length_eq_zero (by omega)
    have hd0 : D.did = [] := List.eq_nil_of_length_eq_zero hn
    have hi : ∃ i, Try.prog.info? 71 = some i := by
      obtain ⟨i, hi, _⟩ := Option.map_eq_some_iff.1 winfo
      exact ⟨i, hi⟩
    obtain ⟨i, hi⟩ := hi
    rcases A with _ | x
    · refine ⟨none, 0, w.drew, ?_, (Drawn.refl w).drew.below _, [], by rw [hn]; exact hown0, by rw [hd0]; exact WCells.nil _ _⟩
      rw [hn]
      exact run_append_of_nil w.drew w.heap.size _ ty _ i 2 Try.underlying58 hi _ 0 [] hown0 c
    · obtain ⟨v1, w1, hr1, ho1, hg1, _⟩ := append_run2 (P := Try.prog) (w := w.drew) (base := w.heap.size) ty Try.underlying58 winfo (by omega) hown0 (news := []) (a := x) (m := 0) (c := c) (by simp) (fun j u hu => by simp at hu) (fun u hu => by simp at hu) (by omega) (by omega) (Nat.le_refl _)
      obtain ⟨A2, c2, rfl⟩ := own_form ho1
      rw [hn]
      exact ⟨A2, c2, w1, hr1, ((Drawn.refl w).drew.below _).grown hg1 (Nat.le_refl _) (fun k hk => by cases hk), _, ho1, by rw [hd0]; exact WCells.nil _ _⟩
  · obtain ⟨g, rfl, hcap⟩ := own_some ho (by omega)
    obtain ⟨v1, w1, hr1, ho1, hg1, _⟩ := append_run2 (P := Try.prog) (w := w.drew) (base := w.heap.size) ty Try.underlying58 winfo (by omega) hown0 (news := vs) (a := ⟨g, 0, none⟩) (m := D.did.length) (c := c) ho.1
      (fun j u hu => by
        have := ho.cellAt j (by have := (List.getElem?_eq_some_iff.1 hu).1; rw [ho.1] at this; exact this)
        rw [Addr.add_mid, Nat.zero_add]
        exact this.trans hu)
      (fun u hu => by
        obtain ⟨j, hj⟩ := List.getElem?_of_mem hu
        have hjl : j < D.did.length * 2 := by have := (List.getElem?_eq_some_iff.1 hj).1; rw [ho.1] at this; exact this
        rcases Nat.mod_two_eq_zero_or_one j with hm | hm
        · have := hw.at_ (j / 2) (by omega)
          rw [show j / 2 * 2 = j by omega, hj] at this
          injection this with this
          subst this; rfl
        · obtain ⟨_, b, cb, cur, hv, _⟩ := hw.bs (j / 2) (by omega)
          rw [show j / 2 * 2 + 1 = j by omega, hj] at hv
          injection hv with hv
          subst hv; rfl) (by omega) (by omega) (Nat.le_refl _)
    rw [Nat.zero_add, List.nil_append] at ho1
    obtain ⟨A2, c2, rfl⟩ := own_form ho1
    have hB : Below w.heap.size w w1 := ((Drawn.refl w).drew.below _).grown hg1 (Nat.le_refl _) (fun k hk => by cases hk)
    exact ⟨A2, c2, w1, hr1, hB, vs, ho1, hw.kp (S := fun _ => False) (Kp.of_below hB) (fun _ h => h.elim)⟩

def DocCopied (w : World) (base : Nat) (D : DD) (e : Ending) (w' : World) : Prop :=
  ∃ p' r', e = .returned (.pointer (some ⟨p', 0, none⟩)) ∧ w.heap.size ≤ p' ∧ (∀ k, r' = some k → w.heap.size ≤ k) ∧ Below w.heap.size w w' ∧ DocAt w' base p' r' D

set_option maxHeartbeats 2000000 in
theorem doccopy_any (w : World) (base p : Nat) (r : Option Nat) (D : DD) (h : DocAt w base p r D) (hbase : base ≤ w.heap.size) (hlen : D.did.length * 32 ≤ 140737488355328) :
    Calls Try.prog 31 #[.pointer (some ⟨p, 0, none⟩)] w (DocCopied w base D) := by
  obtain ⟨A, c, vs, c0, c1, c2, c3, hf, ho⟩ := h.cells
  obtain ⟨A2, k2, w2, hr, hB, vs2, hown, hcells⟩ := docclone_run w base p r D h hbase hlen A c c1 58
  have hp := h.lt.1
  have s0 : w.drew.cell? ⟨p, 0, none⟩ = some (.int .i64 D.n) ∧ w.drew.cell? ⟨p, 1, none⟩ = some (.slice A D.did.length c) ∧ w.drew.cell? ⟨p, 2, none⟩ = some (.bool D.lit) ∧ w.drew.cell? ⟨p, 3, none⟩ = some (.int .i64 D.fuse) := ⟨c0, c1, c2, c3⟩
  have s1 : w2.cell? ⟨p, 0, none⟩ = some (.int .i64 D.n) ∧ w2.cell? ⟨p, 1, none⟩ = some (.slice A D.did.length c) ∧ w2.cell? ⟨p, 2, none⟩ = some (.bool D.lit) ∧ w2.cell? ⟨p, 3, none⟩ = some (.int .i64 D.fuse) :=
    ⟨(hB.cell hp).trans c0, (hB.cell hp).trans c1, (hB.cell hp).trans c2, (hB.cell hp).trans c3⟩
  have hz := hB.size
  have HF : Hid (∀ w3, w3 = w2.alloc (.cells #[.int .i64 D.n, .slice A2 D.did.length k2, .bool D.lit, .int .i64 D.fuse] 60) → ∃ r', w.heap.size ≤ w2.heap.size ∧ (∀ k, r' = some k → w.heap.size ≤ k) ∧ Below w.heap.size w w3 ∧ DocAt w3 base w2.heap.size r' D) := by
    rintro w3 rfl
    have hK : Kp (fun _ => False) w2 (w2.alloc (.cells #[.int .i64 D.n, .slice A2 D.did.length k2, .bool D.lit, .int .i64 D.fuse] 60)) := (Kp.refl _ _).alloc _
    refine ⟨_, hz, own_ge hown, hB.alloc hz _, ⟨A2, k2, vs2, Blk.new _ _ _, ?_, hcells.kp hK (fun _ h => h.elim), rfl⟩, h.fuse0, h.fuse1⟩
    obtain ⟨hl, hv⟩ := own_kp hown hK (fun _ _ h => h)
    refine ⟨hl, ?_⟩
    rcases hv with hv | ⟨g, cap, cur, e1, e2, e3⟩
    · exact .inl hv
    · exact .inr ⟨g, cap, cur, e1, by omega, e3⟩
  clear h ho hown hcells hB c0 c1 c2 c3
  go_enter Try.func31, Try.ntmps31
  go_wp2_with fail
  go_region_held3 (fun w' => w'.cell? ⟨p, 0, none⟩ = some (.int .i64 D.n) ∧ w'.cell? ⟨p, 1, none⟩ = some (.slice A D.did.length c) ∧ w'.cell? ⟨p, 2, none⟩ = some (.bool D.lit) ∧ w'.cell? ⟨p, 3, none⟩ = some (.int .i64 D.fuse))
    (first | exact s0 | exact s1 | go_keep)
    (first | (refine step_append_run (by rfl) _ _ _ _ (by rfl) _ _ _ (by rfl) (by rfl) hr ?_) | fail)
  go_wp2_with fail
  go_ret
  obtain ⟨r', h1, h2, h3, h4⟩ := HF.out _ rfl
  exact ⟨_, r', rfl, h1, h2, h3, h4⟩

end Go.Proofs.Ytdmkphalihdmlaa
