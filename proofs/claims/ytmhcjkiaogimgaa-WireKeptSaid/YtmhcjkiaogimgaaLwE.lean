/- Messages: what is written is read, and cut or longer it is not. Plain laws. -/
import Derived.Test.YtmhcjkiaogimgaaLwD
namespace Go.Proofs.Ytmhcjkiaogimgaa
open Go.RowKit

def MsgD.md (m : MsgD) (e n : Nat) : MD := ⟨m.kind, m.client, m.life, m.seq, e, n, m.version, m.err, m.op, m.entries, m.keys⟩
theorem md_enc' (m : MsgD) (e n : Nat) : (m.md e n).enc = m.enc e n := rfl
theorem md_ok (m : MsgD) (e n : Nat) : (m.md e n).msg.ok = m.ok := rfl
theorem okN_nat {e : Nat} (h : e ≤ 1099511627776) : okN (e : Int) = true := by simp [okN]; omega
theorem ord_eq' {x y : Nat} {a : Int} (hx : Val x a) (hy : Val y a) : feq x y = true := by
  have h : FloatKind.f64.format.order x y = some (compare a a) := val_order hx hy
  rw [feq, h]
  simp [compare, compareOfLessAndEq]
theorem isB_flat {α : Type} (f : α → List Int) (h : ∀ x, isB (f x)) : ∀ l : List α, isB (l.map f).flatten
  | [] => isB_nil
  | x :: l => by rw [List.map_cons, List.flatten_cons]; exact isB_app (h x) (isB_flat f h l)
theorem isB_rest (m : MD) : isB m.rest := by
  unfold MD.rest
  split
  · exact isB_op _
  · split
    · exact isB_app (isB_v _) (isB_flat _ isB_entry _)
    · split
      · exact isB_app (isB_v _) (isB_flat _ isB_key _)
      · exact isB_nil
theorem isB_md (m : MD) : isB m.enc := by
  have := okN_vbs m []
  rw [List.append_nil] at this
  rw [this]
  refine isB_app (s := [m.kind % 256]) (isB_one _) (isB_app (isB_v _) (isB_app (isB_v _) (isB_app (isB_v _) (isB_app (isB_v _) (isB_app (isB_v _) (isB_app (isB_v _) (isB_app (isB_v _) ?_)))))))
  rw [List.append_nil]
  exact isB_rest m
theorem md_pos (m : MD) : 0 < m.enc.length := by
  have := okN_vbs m []
  rw [List.append_nil] at this
  rw [this, List.length_cons]
  omega
theorem flat_len {α : Type} (f : α → List Int) (B : Nat) (l : List α) (h : ∀ x ∈ l, (f x).length ≤ B) (hl : l.length ≤ 48) : ((l.map f).flatten).length ≤ B * 48 :=
  Nat.le_trans (flat_le f B l h) (Nat.mul_le_mul_left _ hl)
theorem md_len {m : MD} (h : m.msg.ok = true) (he : okN m.epoch = true) (hn : okN m.number = true) : m.enc.length ≤ 20000 := by
  obtain ⟨⟨k1, k2⟩, ⟨h1, h2, h3, h4, h5⟩, p1, p2, p3, p4, p5, p6, p7, p8⟩ := MsgD.ok_parts h
  have := okN_vbs m []
  rw [List.append_nil] at this
  rw [this]
  have g1 := vb6 h1
  have g2 := vb6 h2
  have g3 := vb6 h3
  have g4 := vb6 he
  have g5 := vb6 hn
  have g6 := vb6 h4
  have g7 := vb6 h5
  simp only [MD.msg] at g1 g2 g3 g4 g5 g6 g7
  have hr : m.rest.length ≤ 10300 := by
    unfold MD.rest
    have q1 : (vb (m.entries.length : Int)).length ≤ 9 := vb_length_i64 (by simp only [MD.msg] at p4; omega)
    have q2 : (vb (m.keys.length : Int)).length ≤ 9 := vb_length_i64 (by simp only [MD.msg] at p6; omega)
    split
    · rename_i hk
      have := op310 (p1 hk)
      simp only [MD.msg] at this
      omega
    · split
      · have := flat_len EntryD.enc 214 m.entries (fun x hx => entry214 (p7 x hx)) p4
        rw [List.length_append]; omega
      · split
        · have := flat_len KeyD.enc 103 m.keys (fun x hx => key103 (p8 x hx)) p6
          rw [List.length_append]; omega
        · simp
  simp only [List.length_cons, List.length_append, List.length_nil]
  omega
/-- What is written is read. -/
theorem dec_enc {m : MD} (h : m.msg.ok = true) (he : okN m.epoch = true) (hn : okN m.number = true) : dec m.enc = some m := by
  have := reads_p.msg pcnt_ok m [] h he hn
  rw [List.append_nil] at this
  rw [dec, this]
  show (if m.msg.ok then some m else none) = some m
  rw [h]; rfl
/-- What is read was written. -/
theorem dec_back {l : List Int} {m : MD} (hb : isB l) (h : dec l = some m) : m.msg.ok = true ∧ m.enc = l ∧ okN m.epoch = true ∧ okN m.number = true := by
  unfold dec at h
  split at h
  · rename_i x hg
    split at h
    · rename_i hok
      injection h with h
      subst h
      obtain ⟨h1, h2, h3⟩ := writes_msg hb hg
      rw [List.append_nil] at h1
      exact ⟨hok, h1.symm, h2, h3⟩
    · cases h
  · cases h
theorem isB_take {l : List Int} (h : isB l) (k : Nat) : isB (l.take k) := fun z hz => h z (List.mem_of_mem_take hz)
/-- Cut anywhere it is refused. -/
theorem dec_cut {m : MD} (h : m.msg.ok = true) (he : okN m.epoch = true) (hn : okN m.number = true) {k : Nat} (hk : k < m.enc.length) : dec (m.enc.take k) = none := by
  cases hd : dec (m.enc.take k) with
  | none => rfl
  | some x =>
    obtain ⟨h1, h2, h3, h4⟩ := dec_back (isB_take (isB_md m) k) hd
    have e1 := reads_p.msg pcnt_ok x (m.enc.drop k) h1 h3 h4
    rw [h2, List.take_append_drop] at e1
    have e2 := reads_p.msg pcnt_ok m [] h he hn
    rw [List.append_nil, e1] at e2
    injection e2 with e2
    have := congrArg List.length (congrArg Prod.snd e2)
    simp only [List.length_drop, List.length_nil] at this
    omega
/-- With a byte behind it it is refused. -/
theorem dec_more {m : MD} (h : m.msg.ok = true) (he : okN m.epoch = true) (hn : okN m.number = true) (z : Int) : dec (m.enc ++ [z]) = none := by
  rw [dec, reads_p.msg pcnt_ok m [z] h he hn]
theorem unp_cut {n : NoteD} (h : n.ok = true) {k : Nat} (hk : k < n.enc.length) : unp (n.enc.take k) = none := by
  cases hd : unp (n.enc.take k) with
  | none => rfl
  | some x =>
    obtain ⟨h1, h2⟩ := unp_back (isB_take (isB_note n) k) hd
    have e1 := reads_p.note x (n.enc.drop k) h1
    rw [h2, List.take_append_drop] at e1
    have e2 := reads_p.note n [] h
    rw [List.append_nil, e1] at e2
    injection e2 with e2
    have := congrArg List.length (congrArg Prod.snd e2)
    simp only [List.length_drop, List.length_nil] at this
    omega
theorem unp_more {n : NoteD} (h : n.ok = true) (z : Int) : unp (n.enc ++ [z]) = none := by
  rw [unp, reads_p.note n [z] h]
/-- One mark, told by its parts. -/
theorem mv_same {a b c d e n : Nat} (h : MV a b e n) (k : MV c d e n) : (feq a c && feq b d) = true := by
  rw [ord_eq' h.re k.re, ord_eq' h.im k.im]; rfl
theorem same_md {m : MsgD} {e n : Nat} (h : MV m.ma m.mb e n) : (m.md e n).msg.same m = true := by
  have hk : MV (m.md e n).msg.ma (m.md e n).msg.mb e n := mv_near h.he h.hn
  have := mv_same hk h
  simp only [MsgD.same]
  rw [this]
  simp [MsgD.md, MD.msg]
/-- Two marks that are equal have the same parts. -/
theorem feq_val {x y : Nat} {a b : Int} (hx : Val x a) (hy : Val y b) (h : feq x y = true) : a = b := by
  have h2 : FloatKind.f64.format.order x y = some (compare a b) := val_order hx hy
  rw [feq, h2] at h
  rcases Int.lt_trichotomy a b with h3 | h3 | h3
  · simp [compare, compareOfLessAndEq, h3] at h
  · exact h3
  · have h4 : ¬ a < b := by omega
    have h5 : ¬ a = b := by omega
    simp [compare, compareOfLessAndEq, h4, h5] at h
end Go.Proofs.Ytmhcjkiaogimgaa
