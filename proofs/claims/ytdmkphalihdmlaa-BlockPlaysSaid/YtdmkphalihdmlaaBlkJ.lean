/- BlockPlays: what stands between two calls of the script. -/
import Derived.Test.YtdmkphalihdmlaaBlkI
import Derived.Test.YtdmkphalihdmlaaArg3
namespace Go.Proofs.Ytdmkphalihdmlaa
open Go.RowKit

theorem blk_ty {w : World} {k : Nat} {cs cs' : Array Value} {t t' : TypeId} (h : Blk w k cs t) (h' : Blk w k cs' t') : t = t' := by
  unfold Blk at h h'
  rw [h] at h'
  injection h' with h'
  injection h' with _ h'
/-- The blocks of S are of these types. -/
def TyAt (w : World) (S : Nat → Prop) (T : TypeId → Prop) : Prop := ∀ k, S k → k < w.heap.size → ∃ cs t, Blk w k cs t ∧ T t
theorem TyAt.no {w : World} {S : Nat → Prop} {T : TypeId → Prop} (h : TyAt w S T) {k : Nat} {cs : Array Value} {t : TypeId} (hb : Blk w k cs t) (ht : ¬ T t) : ¬ S k := fun hS => by
  obtain ⟨cs', t', hb', hT⟩ := h k hS hb.lt
  rw [blk_ty hb hb'] at ht
  exact ht hT
theorem own_blk {w : World} {base n : Nat} {e : TypeId} {size : Nat} {v : Value} {vs : List Value} (h : w.ownsRow base e size v n vs) : ∀ k, v.ownBlock = some k → ∃ cs, Blk w k cs e := by
  intro k hk
  obtain ⟨_, ⟨rfl, _⟩ | ⟨g, cap, cur, rfl, _, hb, _⟩⟩ := h
  · cases hk
  · injection hk with hk
    have hk : g = k := hk
    subst hk
    exact ⟨cur, hb⟩
theorem own_ty {w : World} {base n : Nat} {e : TypeId} {size : Nat} {v : Value} {vs : List Value} (h : w.ownsRow base e size v n vs) : TyAt w (fun k => v.ownBlock = some k) (fun t => t = e) := fun k hk _ => by
  obtain ⟨cs, hb⟩ := own_blk h k hk
  exact ⟨cs, e, hb, rfl⟩
theorem own_tkp {w w' : World} {S : Nat → Prop} {T : TypeId → Prop} {base n : Nat} {e : TypeId} {size : Nat} {v : Value} {vs : List Value} (h : w.ownsRow base e size v n vs) (hk : Kp S w w') (hT : TyAt w S T) (he : ¬ T e) : w'.ownsRow base e size v n vs :=
  own_kp h hk (fun k hk' => by
    obtain ⟨cs, hb⟩ := own_blk h k hk'
    exact hT.no hb he)

theorem DiskAt.blks {w : World} {d g : Nat} {s : DS} (h : DiskAt w d g s) : (∃ cs, Blk w d cs 65) ∧ ∃ cs, Blk w g cs 67 := by
  obtain ⟨cap, _, hb⟩ := h.box
  obtain ⟨cs, hc, _⟩ := h.row
  exact ⟨⟨_, hb⟩, _, hc⟩
theorem DocAt.blk {w : World} {base p : Nat} {r : Option Nat} {D : DD} (h : DocAt w base p r D) : ∃ cs, Blk w p cs 60 := by
  obtain ⟨A, c, vs, hb, _⟩ := h.ex
  exact ⟨_, hb⟩
theorem DocAt.ge {w : World} {base p : Nat} {r : Option Nat} {D : DD} (h : DocAt w base p r D) : ∀ k, r = some k → base ≤ k := by
  obtain ⟨A, c, vs, _, ho, _, hr⟩ := h.ex
  exact fun k hk => own_ge ho k (hr.trans hk)
theorem Both.tkp {S : Nat → Prop} {T : TypeId → Prop} {w0 w w' : World} {d g p : Nat} {r : Option Nat} {s : DS} {D : DD} (h : Both w0 w d g p r s D) (hk : Kp S w w') (hT : TyAt w S T)
    (h1 : ¬ T 65) (h2 : ¬ T 67) (h3 : ¬ T 60) (h4 : ¬ T 71) (h5 : ¬ T 5) : Both w0 w' d g p r s D := by
  obtain ⟨⟨_, b1⟩, _, b2⟩ := h.disk.blks
  obtain ⟨_, b3⟩ := h.doc.blk
  exact ⟨h.disk.kp hk (hT.no b1 h1) (hT.no b2 h2), h.doc.kp hk (hT.no b3 h3) (fun k hk' => by
    obtain ⟨_, cs, b4⟩ := h.doc.ne k hk'
    exact hT.no b4 h4) (fun k hS cs hb => hT.no hb h5 hS), h.mat⟩
/-- The blocks of a pair. -/
def Foot (d g p : Nat) (r : Option Nat) : Nat → Prop := fun k => k = d ∨ k = g ∨ k = p ∨ r = some k
theorem Both.ty {w0 w : World} {d g p : Nat} {r : Option Nat} {s : DS} {D : DD} (h : Both w0 w d g p r s D) {S : Nat → Prop} (hS : ∀ k, S k → Foot d g p r k) :
    TyAt w S (fun t => t = 65 ∨ t = 67 ∨ t = 60 ∨ t = 71) := by
  intro k hk _
  obtain ⟨⟨_, b1⟩, _, b2⟩ := h.disk.blks
  obtain ⟨_, b3⟩ := h.doc.blk
  rcases hS k hk with rfl | rfl | rfl | h4
  · exact ⟨_, _, b1, .inl rfl⟩
  · exact ⟨_, _, b2, .inr (.inl rfl)⟩
  · exact ⟨_, _, b3, .inr (.inr (.inl rfl))⟩
  · obtain ⟨_, cs, b4⟩ := h.doc.ne k h4
    exact ⟨_, _, b4, .inr (.inr (.inr rfl))⟩
theorem Both.other {S : Nat → Prop} {w0 w w' : World} {d g p : Nat} {r : Option Nat} {s : DS} {D : DD} {d' g' p' : Nat} {r' : Option Nat} {s' : DS} {D' : DD} (h : Both w0 w d g p r s D) (h' : Both w0 w d' g' p' r' s' D')
    (hk : Kp S w w') (hS : ∀ k, S k → Foot d g p r k) (n1 : d' ≠ d) (n2 : g' ≠ g) (n3 : p' ≠ p) (n4 : ∀ k, r = some k → r' ≠ some k) : Both w0 w' d' g' p' r' s' D' := by
  obtain ⟨⟨_, b1⟩, _, b2⟩ := h.disk.blks
  obtain ⟨_, b3⟩ := h.doc.blk
  obtain ⟨⟨_, e1⟩, _, e2⟩ := h'.disk.blks
  obtain ⟨_, e3⟩ := h'.doc.blk
  have key : ∀ k cs t, Blk w k cs t → (k = d → False) → (k = g → False) → (k = p → False) → (r = some k → False) → ¬ S k := fun k cs t hb f1 f2 f3 f4 hS' => by
    rcases hS k hS' with e | e | e | e
    · exact f1 e
    · exact f2 e
    · exact f3 e
    · exact f4 e
  have ne : ∀ {k k' : Nat} {cs cs' : Array Value} {t t' : TypeId}, Blk w k cs t → Blk w k' cs' t' → t ≠ t' → k = k' → False := fun h1 h2 ht e => by
    subst e
    exact ht (blk_ty h1 h2)
  have rw4 : ∀ {k : Nat} {cs : Array Value} {t : TypeId}, Blk w k cs t → t ≠ 71 → r = some k → False := fun hb ht e => by
    obtain ⟨_, cs, b4⟩ := h.doc.ne _ e
    exact ht (blk_ty hb b4)
  refine ⟨h'.disk.kp hk (key d' _ _ e1 n1 (ne e1 b2 (by decide)) (ne e1 b3 (by decide)) (rw4 e1 (by decide))) (key g' _ _ e2 (ne e2 b1 (by decide)) n2 (ne e2 b3 (by decide)) (rw4 e2 (by decide))),
    h'.doc.kp hk (key p' _ _ e3 (ne e3 b1 (by decide)) (ne e3 b2 (by decide)) n3 (rw4 e3 (by decide))) (fun k hk' => ?_) (fun k hS' cs hb => ?_), h'.mat⟩
  · obtain ⟨_, cs, e4⟩ := h'.doc.ne k hk'
    exact key k _ _ e4 (ne e4 b1 (by decide)) (ne e4 b2 (by decide)) (ne e4 b3 (by decide)) (fun e => n4 k e hk')
  · exact key k _ _ hb (ne hb b1 (by decide)) (ne hb b2 (by decide)) (ne hb b3 (by decide)) (rw4 hb (by decide)) hS'

/-- A copy that stands apart from the pair that goes on. -/
structure Cop (w0 w : World) (d g p : Nat) (r : Option Nat) (x y : Value) : Prop where
  ex : ∃ d' g' p' r' s' D', x = .pointer (some ⟨d', 0, none⟩) ∧ y = .pointer (some ⟨p', 0, none⟩) ∧ Both w0 w d' g' p' r' s' D' ∧ d' ≠ d ∧ g' ≠ g ∧ p' ≠ p ∧ ∀ k, r = some k → r' ≠ some k

theorem Both.lt {w0 w : World} {d g p : Nat} {r : Option Nat} {s : DS} {D : DD} (h : Both w0 w d g p r s D) : d < w.heap.size ∧ g < w.heap.size ∧ p < w.heap.size ∧ ∀ k, r = some k → k < w.heap.size :=
  ⟨h.disk.lt.1, h.disk.lt.2, h.doc.lt.1, h.doc.lt.2⟩

structure PInv (w0 w : World) (i : Nat) (d g p : Nat) (r : Option Nat) (s : DS) (D : DD) (A : Option Addr) (c : Nat) (B : Option Addr) (e : Nat) (m : Nat) : Prop where
  bel : Below w0.heap.size w0 w
  both : Both w0 w d g p r s D
  ge : w0.heap.size ≤ d ∧ w0.heap.size ≤ g ∧ w0.heap.size ≤ p
  rows : ∃ xs ys, w.ownsRow w0.heap.size 23 1 (.slice A m c) m xs ∧ w.ownsRow w0.heap.size 46 1 (.slice B m e) m ys ∧ ∀ (j : Nat) (x y : Value), xs[j]? = some x → ys[j]? = some y → Cop w0 w d g p r x y
  cnt : m ≤ i ∧ D.did.length ≤ i

theorem PInv.turn {S : Nat → Prop} {w0 w w' : World} {i i' d g p : Nat} {r r' : Option Nat} {s s' : DS} {D D' : DD} {A B : Option Addr} {c e m : Nat} (h : PInv w0 w i d g p r s D A c B e m) (hk : Kp S w w') (hS : ∀ k, S k → Foot d g p r k)
    (hb : Both w0 w' d g p r' s' D') (hr : r' = r ∨ ∃ k, r' = some k ∧ w.heap.size ≤ k) (hi : i ≤ i') (hl : D'.did.length ≤ i') : PInv w0 w' i' d g p r' s' D' A c B e m := by
  have hT := h.both.ty hS
  obtain ⟨g1, g2, g3⟩ := h.ge
  have hz := h.bel.size
  obtain ⟨xs, ys, o1, o2, hc⟩ := h.rows
  refine ⟨below_kp h.bel hk hz (fun k hk' => ?_), hb, h.ge, ⟨xs, ys, own_tkp o1 hk hT (by decide), own_tkp o2 hk hT (by decide), fun j x y hx hy => ?_⟩, by have := h.cnt; omega, hl⟩
  · rcases hS k hk' with rfl | rfl | rfl | e
    · exact g1
    · exact g2
    · exact g3
    · exact h.both.doc.ge k e
  · obtain ⟨d', g', p', r2, s2, D2, e1, e2, hB, n1, n2, n3, n4⟩ := (hc j x y hx hy).ex
    refine ⟨d', g', p', r2, s2, D2, e1, e2, h.both.other hB hk hS n1 n2 n3 n4, n1, n2, n3, fun k hk' => ?_⟩
    rcases hr with rfl | ⟨k', e', hge⟩
    · exact n4 k hk'
    · rw [e'] at hk'
      injection hk' with hk'
      subst hk'
      intro e3
      have := hB.lt.2.2.2 _ e3
      omega
theorem PInv.below {w0 w w' : World} {i d g p : Nat} {r : Option Nat} {s : DS} {D : DD} {A B : Option Addr} {c e m : Nat} (h : PInv w0 w i d g p r s D A c B e m) (hb : Below w.heap.size w w') : PInv w0 w' i d g p r s D A c B e m :=
  h.turn (S := fun _ => False) (Kp.of_below hb) (fun _ h => h.elim) (h.both.below hb) (.inl rfl) (Nat.le_refl _) h.cnt.2

theorem pinfo1 : (Try.prog.info? 23).map (fun i => (i.zero.map (fun z => z.cells.size), i.size, i.bytes)) = some (some 1, 1, 8) := by kernel_rfl
theorem pinfo2 : (Try.prog.info? 46).map (fun i => (i.zero.map (fun z => z.cells.size), i.size, i.bytes)) = some (some 1, 1, 8) := by kernel_rfl

/-- A pair is laid beside the others, another goes on. -/
structure Push (w0 w : World) (i d g p : Nat) (r : Option Nat) (s : DS) (D : DD) (A : Option Addr) (c : Nat) (B : Option Addr) (e m : Nat) (x y : Value) (A2 : Option Addr) (c2 : Nat) (w2 : World) (B2 : Option Addr) (e2 : Nat) (w4 : World) : Prop where
  fin : PInv w0 w4 (i + 1) d g p r s D A2 c2 B2 e2 (m + 1)
  size : w.heap.size ≤ w4.heap.size
theorem PInv.push {w0 w : World} {i d g p : Nat} {r : Option Nat} {s : DS} {D : DD} {A B : Option Addr} {c e m : Nat} (h : PInv w0 w i d g p r s D A c B e m) (hm : (m + 1) * 8 ≤ 140737488355328) (x y : Value) (hx1 : x.oneCell' = true) (hy1 : y.oneCell' = true) (hxy : Cop w0 w d g p r x y) :
    ∃ A2 c2 w2 B2 e2 w4, (Builtin.append_ #[49, 49] 49 #[.slice A m c, .slice (some ⟨w.heap.size, 0, none⟩) 1 1]).run Try.prog (w.alloc (.cells #[x] 23)) = .ok (.slice A2 (m + 1) c2) w2 ∧
      (Builtin.append_ #[50, 50] 50 #[.slice B m e, .slice (some ⟨w2.heap.size, 0, none⟩) 1 1]).run Try.prog (w2.alloc (.cells #[y] 46)) = .ok (.slice B2 (m + 1) e2) w4 ∧
      Push w0 w i d g p r s D A c B e m x y A2 c2 w2 B2 e2 w4 := by
  have hz := h.bel.size
  have k1 : Below w.heap.size w (w.alloc (.cells #[x] 23)) := (Below.refl _ _).alloc (Nat.le_refl _) _
  have h1 := h.below k1
  obtain ⟨xs, ys, o1, o2, hc⟩ := h1.rows
  obtain ⟨v2, w2, hr2, ho2, hg2, _⟩ := append_run2 (P := Try.prog) (w := w.alloc (.cells #[x] 23)) 49 Try.underlying49 pinfo1 (by omega) o1 (news := [x]) (a := ⟨w.heap.size, 0, none⟩) (m := 1) (c := 1) rfl
    (fun j u hu => by rw [Addr.add_mid, Nat.zero_add, (Blk.new w _ _).cell]; simpa using hu) (fun u hu => by simp at hu; subst hu; exact hx1) (by omega) (by omega) (by simp; omega)
  obtain ⟨A2, c2, rfl⟩ := own_form ho2
  have hk2 := Kp.of_grown hg2
  have hT2 := own_ty o1
  have hB1 := Below.trans k1 (Below.refl _ _)
  have hge2 : ∀ k, (Value.slice A m c).ownBlock = some k → w0.heap.size ≤ k := own_ge o1
  have hz2 := hk2.size
  have k3 : Below w2.heap.size w2 (w2.alloc (.cells #[y] 46)) := (Below.refl _ _).alloc (Nat.le_refl _) _
  have o2' := own_below (own_tkp o2 hk2 hT2 (by decide)) k3
  have hzz : w.heap.size + 1 ≤ w2.heap.size := by simpa using hz2
  obtain ⟨v4, w4, hr4, ho4, hg4, _⟩ := append_run2 (P := Try.prog) (w := w2.alloc (.cells #[y] 46)) 50 Try.underlying50 pinfo2 (by omega) o2' (news := [y]) (a := ⟨w2.heap.size, 0, none⟩) (m := 1) (c := 1) rfl
    (fun j u hu => by rw [Addr.add_mid, Nat.zero_add, (Blk.new w2 _ _).cell]; simpa using hu) (fun u hu => by simp at hu; subst hu; exact hy1) (by omega) (by omega) (by simp; omega)
  obtain ⟨B2, e2, rfl⟩ := own_form ho4
  have hk4 := Kp.of_grown hg4
  have hT4 := own_ty o2'
  have hz4 := hk4.size
  have hz4' : w2.heap.size + 1 ≤ w4.heap.size := by simpa using hz4
  have all : ∀ {d g p : Nat} {r : Option Nat} {s : DS} {D : DD}, Both w0 w d g p r s D → Both w0 w4 d g p r s D := fun hB =>
    (((hB.below k1).tkp hk2 hT2 (by decide) (by decide) (by decide) (by decide) (by decide)).below k3).tkp hk4 hT4 (by decide) (by decide) (by decide) (by decide) (by decide)
  have all1 : ∀ {d g p : Nat} {r : Option Nat} {s : DS} {D : DD}, Both w0 (w.alloc (.cells #[x] 23)) d g p r s D → Both w0 w4 d g p r s D := fun hB =>
    ((hB.tkp hk2 hT2 (by decide) (by decide) (by decide) (by decide) (by decide)).below k3).tkp hk4 hT4 (by decide) (by decide) (by decide) (by decide) (by decide)
  refine ⟨A2, c2, w2, B2, e2, w4, hr2, hr4, ⟨?_, all h.both, h.ge, ⟨xs ++ [x], ys ++ [y], ?_, ho4, fun j u v hu hv => ?_⟩, by have := h.cnt; omega, by have := h.cnt; omega⟩, by omega⟩
  · exact below_kp ((below_kp h1.bel hk2 (by simp; omega) hge2).alloc (by omega) _) hk4 (by simp; omega) (own_ge o2')
  · exact own_tkp (own_below ho2 k3) hk4 hT4 (by decide)
  · have hl1 : xs.length = m * 1 := o1.1
    have hl2 : ys.length = m * 1 := o2.1
    by_cases hj : j < m
    · rw [List.getElem?_append_left (by omega)] at hu hv
      obtain ⟨d', g', p', r2, s2, D2, q1, q2, hB, n⟩ := (hc j u v hu hv).ex
      exact ⟨d', g', p', r2, s2, D2, q1, q2, all1 hB, n⟩
    · rw [List.getElem?_append_right (by omega)] at hu hv
      have e0 : j - xs.length = 0 := by
        have := (List.getElem?_eq_some_iff.1 hu).1
        simp at this; omega
      rw [e0] at hu
      rw [show j - ys.length = 0 by omega] at hv
      simp at hu hv
      subst hu; subst hv
      obtain ⟨d', g', p', r2, s2, D2, q1, q2, hB, n⟩ := hxy.ex
      exact ⟨d', g', p', r2, s2, D2, q1, q2, all hB, n⟩

/-- A new pair goes on in the old one's place. -/
theorem PInv.swap {w0 W w : World} {i d g p d2 g2 p2 : Nat} {r r2 : Option Nat} {s s2 : DS} {D D2 : DD} {A B : Option Addr} {c e m : Nat} (h : PInv w0 W i d g p r s D A c B e m) (hb : Below W.heap.size W w) (hB : Both w0 w d2 g2 p2 r2 s2 D2)
    (f1 : W.heap.size ≤ d2) (f2 : W.heap.size ≤ g2) (f3 : W.heap.size ≤ p2) (f4 : ∀ k, r2 = some k → W.heap.size ≤ k) (hl : D2.did.length ≤ i) : PInv w0 w i d2 g2 p2 r2 s2 D2 A c B e m := by
  have hz := h.bel.size
  obtain ⟨xs, ys, o1, o2, hc⟩ := h.rows
  refine ⟨(h.below hb).bel, hB, by omega, ⟨xs, ys, own_below o1 hb, own_below o2 hb, fun j x y hx hy => ?_⟩, by have := h.cnt; omega⟩
  obtain ⟨d', g', p', r', s', D', q1, q2, hB', n⟩ := (hc j x y hx hy).ex
  obtain ⟨t1, t2, t3, t4⟩ := hB'.lt
  exact ⟨d', g', p', r', s', D', q1, q2, hB'.below hb, by omega, by omega, by omega, fun k hk hk' => by have := f4 k hk; have := t4 k hk'; omega⟩

/-- The disk has gone on, the document's not yet. -/
structure Mid (w0 W w : World) (i d g p : Nat) (r : Option Nat) (s : DS) (D : DD) (A : Option Addr) (c : Nat) (B : Option Addr) (e m : Nat) (s2 : DS) : Prop where
  inv : PInv w0 W i d g p r s D A c B e m
  kp : Kp (Foot d g p r) W w
  disk : DiskAt w d g s2
  doc : DocAt w w0.heap.size p r D
theorem doc_disk_kp {S : Nat → Prop} {w w' : World} {base d g p : Nat} {r : Option Nat} {s : DS} {D : DD} (hd : DiskAt w d g s) (hp : DocAt w base p r D) (hk : Kp S w w') (hS : ∀ k, S k → k = d ∨ k = g) : DocAt w' base p r D := by
  obtain ⟨⟨_, b1⟩, _, b2⟩ := hd.blks
  obtain ⟨_, b3⟩ := hp.blk
  have ne : ∀ {k k' : Nat} {cs cs' : Array Value} {t t' : TypeId}, Blk w k cs t → Blk w k' cs' t' → t ≠ t' → k = k' → False := fun h1 h2 ht e => by
    subst e
    exact ht (blk_ty h1 h2)
  refine hp.kp hk (fun h => ?_) (fun k hk' h => ?_) (fun k h cs hb => ?_)
  · rcases hS _ h with h | h
    · exact ne b3 b1 (by decide) h
    · exact ne b3 b2 (by decide) h
  · obtain ⟨_, cs, b4⟩ := hp.ne k hk'
    rcases hS _ h with h | h
    · exact ne b4 b1 (by decide) h
    · exact ne b4 b2 (by decide) h
  · rcases hS _ h with h | h
    · exact ne hb b1 (by decide) h
    · exact ne hb b2 (by decide) h
theorem disk_doc_kp {S : Nat → Prop} {w w' : World} {base d g p : Nat} {r : Option Nat} {s : DS} {D : DD} (hd : DiskAt w d g s) (hp : DocAt w base p r D) (hk : Kp S w w') (hS : ∀ k, S k → k = p ∨ r = some k) : DiskAt w' d g s := by
  obtain ⟨⟨_, b1⟩, _, b2⟩ := hd.blks
  obtain ⟨_, b3⟩ := hp.blk
  have ne : ∀ {k k' : Nat} {cs cs' : Array Value} {t t' : TypeId}, Blk w k cs t → Blk w k' cs' t' → t ≠ t' → k = k' → False := fun h1 h2 ht e => by
    subst e
    exact ht (blk_ty h1 h2)
  refine hd.kp hk (fun h => ?_) (fun h => ?_)
  · rcases hS _ h with h | h
    · exact ne b1 b3 (by decide) h
    · obtain ⟨_, cs, b4⟩ := hp.ne _ h
      exact ne b1 b4 (by decide) rfl
  · rcases hS _ h with h | h
    · exact ne b2 b3 (by decide) h
    · obtain ⟨_, cs, b4⟩ := hp.ne _ h
      exact ne b2 b4 (by decide) rfl
theorem PInv.mid {S : Nat → Prop} {w0 w w' : World} {i d g p : Nat} {r : Option Nat} {s s2 : DS} {D : DD} {A B : Option Addr} {c e m : Nat} (h : PInv w0 w i d g p r s D A c B e m) (hk : Kp S w w') (hS : ∀ k, S k → k = d ∨ k = g) (hd : DiskAt w' d g s2) : Mid w0 w w' i d g p r s D A c B e m s2 :=
  ⟨h, hk.mono (fun k hk' _ => (hS k hk').elim .inl (fun h => .inr (.inl h))), hd, doc_disk_kp h.both.disk h.both.doc hk hS⟩
theorem Mid.below {w0 W w w' : World} {i d g p : Nat} {r : Option Nat} {s s2 : DS} {D : DD} {A B : Option Addr} {c e m : Nat} (h : Mid w0 W w i d g p r s D A c B e m s2) (hb : Below w.heap.size w w') : Mid w0 W w' i d g p r s D A c B e m s2 :=
  ⟨h.inv, h.kp.trans (Kp.of_below hb), h.disk.below hb, h.doc.below hb⟩
theorem Mid.fin {S : Nat → Prop} {w0 W w w' : World} {i d g p : Nat} {r r' : Option Nat} {s s2 : DS} {D D2 : DD} {A B : Option Addr} {c e m : Nat} (h : Mid w0 W w i d g p r s D A c B e m s2) (hk : Kp S w w') (hS : ∀ k, S k → k = p ∨ r = some k)
    (hd : DocAt w' w0.heap.size p r' D2) (hm : Match s2 D2) (hr : r' = r ∨ ∃ k, r' = some k ∧ w.heap.size ≤ k) (hl : D2.did.length ≤ i + 1) : PInv w0 w' (i + 1) d g p r' s2 D2 A c B e m := by
  have hz := h.kp.size
  refine h.inv.turn (S := Foot d g p r) (h.kp.trans (hk.mono (fun k hk' _ => (hS k hk').elim (fun h => .inr (.inr (.inl h))) (fun h => .inr (.inr (.inr h)))))) (fun _ h => h) ⟨disk_doc_kp h.disk h.doc hk hS, hd, hm⟩ ?_ (by omega) hl
  rcases hr with hr | ⟨k, h1, h2⟩
  · exact .inl hr
  · exact .inr ⟨k, h1, by omega⟩

theorem PInv.on {w0 w : World} {i d g p : Nat} {r : Option Nat} {s : DS} {D : DD} {A B : Option Addr} {c e m : Nat} (h : PInv w0 w i d g p r s D A c B e m) (q : Nat) :
    Calls Try.prog 19 #[.pointer (some ⟨d, 0, none⟩)] (w.drewN q) fun e w'' => e = .returned (.bool (!s.off)) ∧ ∃ m, w'' = w.drewN m :=
  quiet_left (on_any _ d g s (h.both.disk.below ((Drawn.refl w).drewN q |>.below _)))
theorem PInv.wr {w0 w : World} {i d g p : Nat} {r : Option Nat} {s : DS} {D : DD} {A B : Option Addr} {c e m : Nat} (h : PInv w0 w i d g p r s D A c B e m) (q : Nat) :
    Calls Try.prog 20 #[.pointer (some ⟨d, 0, none⟩)] (w.drewN q) fun e w'' => e = .returned (.int .i64 D.did.length) ∧ ∃ m, w'' = w.drewN m := by
  have := writes_any _ d g s (h.both.disk.below ((Drawn.refl w).drewN q |>.below _))
  rw [h.both.mat.writes] at this
  exact quiet_left this
theorem PInv.cells {w0 w : World} {i d g p : Nat} {r : Option Nat} {s : DS} {D : DD} {A B : Option Addr} {c e m : Nat} (h : PInv w0 w i d g p r s D A c B e m) : ∃ A0 cc, w.cell? ⟨p, 1, none⟩ = some (.slice A0 D.did.length cc) ∧ w.cell? ⟨p, 2, none⟩ = some (.bool (!s.off)) := by
  obtain ⟨A0, cc, vs, _, c1, c2, _⟩ := h.both.doc.cells
  rw [h.both.mat.lit] at c2
  exact ⟨A0, cc, c1, c2⟩
theorem DD.writeS_len (D : DD) (i : Int) (l : List Int) : (D.writeS i l).did.length ≤ D.did.length + 1 := by
  unfold DD.writeS
  split
  · exact Nat.le_succ _
  · split
    · exact Nat.le_succ _
    · split
      · exact Nat.le_succ _
      · split
        · exact Nat.le_succ _
        · simp [DD.put]
theorem DD.fuseS_len (D : DD) (n : Int) : (D.fuseS n).did.length = D.did.length := by
  unfold DD.fuseS
  split
  · rfl
  · split <;> rfl

/-- The disk's Write of bytes that were just made. -/
theorem write_bytes {w0 w : World} {i d g p : Nat} {r : Option Nat} {s : DS} {D : DD} {A B : Option Addr} {c e m : Nat} (h : PInv w0 w i d g p r s D A c B e m) (hi : i ≤ 4398046511104) (b : Nat) (hb : b ≠ d) (Ln Fl : Int) (hk : Blk w b (ints .u8 (bytesL Ln Fl)).toArray 5) (At : Int) :
    Calls Try.prog 12 #[.pointer (some ⟨d, 0, none⟩), .int .i64 At, .slice (some ⟨b, 0, none⟩) (bytesN Ln) (bytesN Ln)] w fun e' w' => e' = .returned (.int .i64 (s.writeE At (bytesL Ln Fl))) ∧ Mid w0 w w' i d g p r s D A c B e m (s.writeS At (bytesL Ln Fl)) ∧ ∀ k, k < w.heap.size → k ≠ d → k ≠ g → w'.heap[k]? = w.heap[k]? := by
  have hcnt := h.cnt
  have hw := h.both.mat.writes
  have := write_any w d g s h.both.disk At (some ⟨b, 0, none⟩) (bytesN Ln) (bytesL Ln Fl) hk.rdl (by rw [bytesL_length]; have := bytesN_le Ln; omega) (fun x hx => by cases hx; rfl) (fun x hx => by cases hx; exact hb) (by omega)
  rw [bytesL_length] at this
  refine this.mono ?_
  rintro e' w' ⟨rfl, h1, h2⟩
  exact ⟨rfl, h.mid h1 (fun _ h => h) h2, fun k hk h3 h4 => h1.block k hk (fun hh => by rcases hh with hh | hh <;> omega)⟩
theorem docwrite_bytes {w0 W w : World} {i d g p : Nat} {r : Option Nat} {s : DS} {D : DD} {A B : Option Addr} {c e m : Nat} (At Ln Fl : Int) (h : Mid w0 W w i d g p r s D A c B e m (s.writeS At (bytesL Ln Fl))) (hi : i + 1 ≤ 4398046511104) (b : Nat) (hb : b ≠ p) (hk : Blk w b (ints .u8 (bytesL Ln Fl)).toArray 5) :
    Calls Try.prog 26 #[.pointer (some ⟨p, 0, none⟩), .int .i64 At, .slice (some ⟨b, 0, none⟩) (bytesN Ln) (bytesN Ln)] w fun e' w' => e' = .returned (.int .i64 (s.writeE At (bytesL Ln Fl))) ∧ (∃ r', PInv w0 w' (i + 1) d g p r' (s.writeS At (bytesL Ln Fl)) (D.writeS At (bytesL Ln Fl)) A c B e m) ∧ ∀ k, k < w.heap.size → k ≠ p → r ≠ some k → w'.heap[k]? = w.heap[k]? := by
  have hcnt := h.inv.cnt
  have hz := h.inv.bel.size
  have hz2 := h.kp.size
  obtain ⟨e1, e2⟩ := h.inv.both.mat.write h.inv.both.disk.fuse0 At (bytesL Ln Fl)
  have := docwrite_any w w0.heap.size p r D h.doc At ⟨b, 0, none⟩ (bytesN Ln) (bytesL Ln Fl) hk.rdl hb (by rw [bytesL_length]; have := bytesN_le Ln; omega) (by omega) (by omega)
  rw [bytesL_length] at this
  refine this.mono ?_
  rintro e' w' ⟨rfl, h1, r', h2, h3⟩
  rw [e1]
  exact ⟨rfl, ⟨r', h.fin h1 (fun _ h => h) h2 e2 h3 (Nat.le_trans (DD.writeS_len _ _ _) (by omega))⟩, fun k hk h3 h4 => h1.block k hk (fun hh => hh.elim h3 h4)⟩

end Go.Proofs.Ytdmkphalihdmlaa
