/- Bytes that are copied, and read again: CopyBytes; what is written is read; no program in the second part. -/
import Derived.Test.YtmhcjkiaogimgaaRdG
import Derived.Test.YtmhcjkiaogimgaaWirO
namespace Go.Proofs.Ytmhcjkiaogimgaa
open Go.RowKit

def CopyB (l : List Int) (w : World) (e : Ending) (w' : World) : Prop :=
  ∃ A c, e = .returned (.slice A l.length c) ∧ w'.ownsRow w.heap.size 5 1 (.slice A l.length c) l.length (bvals l) ∧ Below w.heap.size w w'
theorem copyB_any (A : Option Addr) (cap : Nat) (l : List Int) (w : World) (h : Rd .u8 w A l) (hl : l.length ≤ 140737488351232) :
    Calls Try.prog 23 #[.slice A l.length cap] w (CopyB l w) := by
  have hrun : ∃ A2 c2 w2, (Builtin.append_ #[28, 28] 28 #[.slice none 0 0, .slice A l.length cap]).run Try.prog w = .ok (.slice A2 l.length c2) w2 ∧ w2.ownsRow w.heap.size 5 1 (.slice A2 l.length c2) l.length (bvals l) ∧ Below w.heap.size w w2 := by
    cases A with
    | some a =>
      obtain ⟨v2, w2, hr, ho, hg⟩ := append_run (P := Try.prog) (w := w) 28 Try.underlying28 binfo (by omega) (own_none w w.heap.size 5 1)
        (news := bvals l) (a := a) (m := l.length) (c := cap) (by rw [bvals_length, Nat.mul_one]) (fun j u hu => by
          have hj : j < l.length := by have := (List.getElem?_eq_some_iff.1 hu).1; rwa [bvals_length] at this
          obtain ⟨x, hx, _, hc⟩ := h.at_ j hj
          injection hx with hx
          subst hx
          rw [bvals_get l j hj] at hu
          injection hu with hu
          rw [hc, hu]) (fun u hu => bvals_one l u hu) (by omega) (by omega) (Nat.le_refl _)
      rw [Nat.zero_add, List.nil_append] at ho
      obtain ⟨A2, c2, rfl⟩ := own_form ho
      exact ⟨A2, c2, w2, hr, ho, (Below.refl _ _).grown hg (Nat.le_refl _) (fun k hk => by cases hk)⟩
    | none =>
      have h0 : l = [] := by
        cases l with
        | nil => rfl
        | cons r rs =>
          obtain ⟨x, hx, _⟩ := h.at_ 0 (by simp)
          cases hx
      subst h0
      obtain ⟨i, hi, _⟩ := Option.map_eq_some_iff.1 binfo
      refine ⟨none, 0, w, ?_, own_none _ _ _ _, Below.refl _ _⟩
      simp [Builtin.append_, run_underlying (P := Try.prog) Try.underlying28, sizeOf, typeInfo, hi, Builtin.lenOf, Builtin.firstCells]
  obtain ⟨A2, c2, w2, hr, ho, hB⟩ := hrun
  have HO := Lib.hid ho
  clear ho h
  obtain ⟨n, hn⟩ : ∃ n, Hid (n = l.length) := ⟨_, rfl⟩
  rw [← hn.out] at hr HO hl
  rw [← hn.out]
  go_enter Try.func23, Try.ntmps23
  go_wp2_with (at_builtin; refine wpList_append_run rfl _ _ _ _ rfl _ _ _ rfl rfl hr ?_)
  go_ret
  exact ⟨A2, c2, by rw [hn.out]; rfl, by have := HO.out; rwa [hn.out] at this, hB⟩

theorem barg_own {w : World} {base c : Nat} {A : Option Addr} {l : List Int} (h : w.ownsRow base 5 1 (.slice A l.length c) l.length (bvals l)) (hb : isB l) (hl : l.length ≤ 140737488355328) : BArg w A c l := by
  refine ⟨rd_of_own h, hb, hl, ?_, ?_, ?_⟩
  all_goals obtain ⟨_, ⟨he, h0⟩ | ⟨g, cap, cur, he, _, hbk, h1, h2, _⟩⟩ := h
  · omega
  · injection he with _ _ he; omega
  · injection he with _ _ he; omega
  · injection he with _ _ he; simp only [maxLen] at h2; omega
  · intro x hx
    injection he with he
    rw [he] at hx; cases hx
  · intro x hx
    injection he with he
    rw [he] at hx
    injection hx with hx
    subst hx
    exact (Array.getElem?_eq_some_iff.1 hbk).1

theorem isB_app {s t : List Int} (h : isB s) (k : isB t) : isB (s ++ t) := fun z hz => by
  rcases List.mem_append.1 hz with hz | hz
  · exact h z hz
  · exact k z hz
theorem isB_one (z : Int) : isB [z % 256] := fun x hx => by simp at hx; omega
theorem isB_vb : ∀ (k : Nat) (z : Int), z.toNat < k → isB (vb z)
  | 0, _, h => by omega
  | k + 1, z, h => by
    by_cases h1 : 127 < z
    · rw [vb_big h1]
      intro x hx
      rcases List.mem_cons.1 hx with rfl | hx
      · omega
      · exact isB_vb k (z / 128) (by omega) x hx
    · rw [vb_small (by omega)]
      exact isB_one z
theorem isB_v (z : Int) : isB (vb z) := isB_vb (z.toNat + 1) z (by omega)
theorem isB_str (s : ByteArray) : isB (strB s) := fun x hx => by
  simp only [strB, List.mem_map] at hx
  obtain ⟨b, _, rfl⟩ := hx
  have := b.toNat_lt
  omega
theorem isB_t (s : ByteArray) : isB (tb s) := isB_app (isB_v _) (isB_str _)
theorem isB_key (k : KeyD) : isB k.enc := isB_app (isB_v _) (isB_t _)
theorem isB_nil : isB [] := fun x hx => by cases hx
theorem isB_entry (x : EntryD) : isB x.enc := by
  refine isB_app (isB_key _) ?_
  split
  · exact isB_one 1
  · exact isB_app (isB_app (isB_app (isB_app (isB_one 0) (isB_v _)) (isB_one _)) (isB_v _)) (isB_t _)
theorem isB_op (o : OpD) : isB o.enc := isB_app (isB_app (isB_app (isB_app (isB_app (isB_app (isB_one _) (isB_v _)) (isB_t _)) (isB_v _)) (isB_t _)) (isB_v _)) (isB_t _)
theorem isB_note (n : NoteD) : isB n.enc := by
  refine isB_app (isB_one _) ?_
  split
  · exact isB_v _
  · split
    · exact isB_app (isB_app (isB_v _) (isB_v _)) (isB_v _)
    · split
      · exact isB_entry _
      · refine isB_app (isB_app (isB_app (isB_app (isB_v _) (isB_v _)) (isB_v _)) (isB_v _)) ?_
        split
        · exact isB_op _
        · exact isB_nil
theorem isB_wf {l : List Int} (h : ∀ x ∈ l, (Lit.int .u8 x).wf = true) : isB l := fun z hz => by
  have h2 := h z hz
  rw [Lit.wf, Bool.and_eq_true, decide_eq_true_eq, decide_eq_true_eq] at h2
  have e1 : IntKind.u8.min = 0 := by decide
  have e2 : IntKind.u8.max = 255 := by decide
  omega

theorem vb6 {z : Int} (h : okN z = true) : (vb z).length ≤ 6 := by
  have := okN_le h
  exact vb_length_le 5 z (by omega)
theorem tb97 {s : ByteArray} (h : okT s = true) : (tb s).length ≤ 97 := by
  simp [okT] at h
  rw [tb, List.length_append, strB_length, vb_small (by omega), List.length_singleton]
  omega
theorem key103 {k : KeyD} (h : k.ok = true) : k.enc.length ≤ 103 := by
  simp only [KeyD.ok, Bool.and_eq_true] at h
  have h1 := vb6 h.1
  have h2 := tb97 h.2
  rw [KeyD.enc, List.length_append]; omega
theorem entry214 {x : EntryD} (h : x.ok = true) : x.enc.length ≤ 214 := by
  simp only [EntryD.ok, Bool.and_eq_true] at h
  have h1 := key103 h.1
  have h2 := h.2
  rw [EntryD.enc, List.length_append]
  split
  · simp only [List.length_singleton]; omega
  · rename_i hn
    rw [if_neg hn] at h2
    simp only [Bool.and_eq_true] at h2
    have g1 := vb6 h2.1.1.1
    have g2 := vb6 h2.1.1.2
    have g3 := tb97 h2.2
    simp only [List.length_append, List.length_singleton]; omega
theorem op310 {o : OpD} (h : o.ok = true) : o.enc.length ≤ 310 := by
  simp only [OpD.ok, Bool.and_eq_true] at h
  obtain ⟨⟨_, ⟨h2, h3⟩, h4⟩, ⟨h5, h6⟩, h7⟩ := h
  have g2 := vb6 h2
  have g3 := vb6 h3
  have g4 := vb6 h4
  have g5 := tb97 h5
  have g6 := tb97 h6
  have g7 := tb97 h7
  rw [OpD.enc]
  simp only [List.length_append, List.length_singleton]; omega
theorem note424 {n : NoteD} (h : n.ok = true) : n.enc.length ≤ 424 := by
  obtain ⟨_, _, ⟨o1, o2, o3, o4, o5, o6, o7⟩, p3, p5⟩ := NoteD.ok_parts h
  have f1 := vb6 o1
  have f2 := vb6 o2
  have f3 := vb6 o3
  have f4 := vb6 o4
  have f5 := vb6 o5
  have f6 := vb6 o6
  have f7 := vb6 o7
  rw [NoteD.enc, List.length_append, List.length_singleton]
  split
  · omega
  · split
    · simp only [List.length_append]; omega
    · split
      · next hk => have := entry214 (p3 hk).2; omega
      · split
        · next hk => have := op310 (p5 hk); simp only [List.length_append]; omega
        · simp only [List.length_append, List.length_nil]; omega
/-- What is written is read. -/
theorem unp_enc {n : NoteD} (h : n.ok = true) : unp n.enc = some n := by
  have := reads_p.note n [] h
  rw [List.append_nil] at this
  rw [unp, this]
  show (if n.ok then some n else none) = some n
  rw [h]; rfl
/-- What is read was written. -/
theorem unp_back {l : List Int} {n : NoteD} (hb : isB l) (h : unp l = some n) : n.ok = true ∧ n.enc = l := by
  unfold unp at h
  split at h
  · rename_i x hg
    split at h
    · rename_i hok
      injection h with h
      subst h
      obtain ⟨⟨k1, k2⟩, _⟩ := NoteD.ok_parts hok
      have := writes_note hb hg k1 k2
      rw [List.append_nil] at this
      exact ⟨hok, this.symm⟩
    · cases h
  · cases h

end Go.Proofs.Ytmhcjkiaogimgaa
