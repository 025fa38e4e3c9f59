/- The scroll as plain data: headers, the next generation, a scroll on its disk. No program. -/
import Derived.Test.YtmliiggieclbeaaSclQ
namespace Go.Proofs.Ytmliiggieclbeaa

/-- The header of a generation and a half. -/
structure IsHd (b : List Int) (g h : Nat) : Prop where
  g1 : 1 ≤ g
  g2 : g ≤ 1073741824
  h1 : h ≤ 1
  eq : b = hdL g h
theorem hd_tells {g h : Nat} (hg : g < 4294967296) (hh : h < 256) : four (hdL g h) 4 = g ∧ (hdL g h).getD 8 0 = h := by
  refine ⟨?_, ?_⟩
  · rw [hdL, four_app _ (by rfl)]; exact four_fourL (by omega) (by omega) _
  · rw [hdL, ← List.append_assoc, show 8 = 8 + 0 from rfl, getD_app_right (by rfl)]
    show (h : Int) % 256 = h
    omega
theorem IsHd.unique {b : List Int} {g h g' h' : Nat} (a : IsHd b g h) (k : IsHd b g' h') : g = g' ∧ h = h' := by
  have a1 := hd_tells (g := g) (h := h) (by have := a.g2; omega) (by have := a.h1; omega)
  have k1 := hd_tells (g := g') (h := h') (by have := k.g2; omega) (by have := k.h1; omega)
  rw [← a.eq] at a1
  rw [← k.eq] at k1
  omega
/-- The greatest generation of the blocks from s on, and g0. -/
def maxG (c : Nat → List Int) (s g0 : Nat) : Nat → Nat
  | 0 => g0
  | k + 1 => max (maxG c s g0 k) (four (c (s + k)) 0).toNat
theorem maxG_base (c : Nat → List Int) (s g0 : Nat) : ∀ k, g0 ≤ maxG c s g0 k
  | 0 => Nat.le_refl _
  | k + 1 => Nat.le_trans (maxG_base c s g0 k) (Nat.le_max_left _ _)
theorem maxG_at (c : Nat → List Int) (s g0 : Nat) : ∀ k i, i < k → (four (c (s + i)) 0).toNat ≤ maxG c s g0 k
  | k + 1, i, h => by
    rcases Nat.lt_succ_iff_lt_or_eq.1 h with h | rfl
    · exact Nat.le_trans (maxG_at c s g0 k i h) (Nat.le_max_left _ _)
    · exact Nat.le_max_right _ _
theorem maxG_le {c : Nat → List Int} {s g0 G : Nat} (h0 : g0 ≤ G) : ∀ k, (∀ i, i < k → (four (c (s + i)) 0).toNat ≤ G) → maxG c s g0 k ≤ G
  | 0, _ => h0
  | k + 1, h => Nat.max_le.2 ⟨maxG_le h0 k (fun i hi => h i (by omega)), h k (by omega)⟩
theorem maxG_congr {c c' : Nat → List Int} {s g0 : Nat} : ∀ k, (∀ i, i < k → c (s + i) = c' (s + i)) → maxG c s g0 k = maxG c' s g0 k
  | 0, _ => rfl
  | k + 1, h => by rw [maxG, maxG, maxG_congr k (fun i hi => h i (by omega)), h k (by omega)]
/-- How many blocks a half has; a half's first block. -/
def halfN (n : Nat) : Nat := (n - 1) / 2
def startN (n h : Nat) : Nat := 1 + h * halfN n
theorem half_in {n h i : Nat} (hh : h ≤ 1) (hi : i < halfN n) : startN n h + i < n ∧ 0 < startN n h + i := by
  unfold startN halfN at *
  rcases (show h = 0 ∨ h = 1 by omega) with rfl | rfl <;> omega
theorem half_apart {n h i j : Nat} (hh : h ≤ 1) (hi : i < halfN n) (hj : j < halfN n) : startN n h + i ≠ startN n (1 - h) + j := by
  unfold startN
  rcases (show h = 0 ∨ h = 1 by omega) with rfl | rfl <;> simp <;> omega
/-- The next generation and half: behind a header, and where there is none. -/
inductive NextOf (c : Nat → List Int) (n : Nat) : Nat → Nat → Prop where
  | yes {g h : Nat} (hd : IsHd (c 0) g h) : NextOf c n (maxG c (startN n (1 - h)) g (halfN n) + 1) (1 - h)
  | no (hd : ∀ g h, ¬ IsHd (c 0) g h) : NextOf c n (maxG c (startN n 0) 0 (halfN n) + 1) 0
theorem HalfAt.congr {c c' : Nat → List Int} {H st g : Nat} {rs : List (List Int)} (h : HalfAt c H st g rs) (e : ∀ j, j < H → c' (st + j) = c (st + j)) : HalfAt c' H st g rs := by
  refine ⟨h.good, h.fits, fun a r b er k hk => ?_, fun j h1 h2 => by rw [e j h2]; exact h.free j h1 h2⟩
  have ht : total a + blks r ≤ total rs := by rw [er, total_app]; simp only [total, List.map_cons, List.sum_cons]; omega
  have hf := h.fits
  rw [Nat.add_assoc, e _ (by omega), ← Nat.add_assoc]
  exact h.laid a r b er k hk
/-- A scroll on its disk: generation g, half h, and these records. -/
structure ScrollAt (c : Nat → List Int) (n g h : Nat) (rs : List (List Int)) : Prop where
  hd : IsHd (c 0) g h
  rows : HalfAt c (halfN n) (startN n h) g rs
/-- No block of the halves is of a later generation than G. -/
def GensTo (c : Nat → List Int) (n G : Nat) : Prop := ∀ h i, h ≤ 1 → i < halfN n → four (c (startN n h + i)) 0 ≤ G
/-- The other half is free for the next generation. -/
theorem ScrollAt.next {c : Nat → List Int} {n g h : Nat} {rs : List (List Int)} (s : ScrollAt c n g h rs) (hb : ∀ k, isBy (c k)) {g' h' : Nat} (hn : NextOf c n g' h') : h' = 1 - h ∧ g < g' ∧ HalfAt c (halfN n) (startN n h') g' [] ∧ ∀ G, g ≤ G → GensTo c n G → g' ≤ G + 1 := by
  cases hn with
  | no hd => exact absurd s.hd (hd _ _)
  | yes hd =>
    obtain ⟨rfl, rfl⟩ := s.hd.unique hd
    refine ⟨rfl, by have := maxG_base c (startN n (1 - h)) g (halfN n); omega, HalfAt.new (fun j hj => ?_), fun G h1 h2 => ?_⟩
    · have := maxG_at c (startN n (1 - h)) g _ j hj
      have := (four_nat (hb (startN n (1 - h) + j)) 0).1
      omega
    · have := maxG_le (c := c) (s := startN n (1 - h)) h1 (halfN n) (fun i hi => by have := h2 (1 - h) i (by omega) hi; omega)
      omega
/-- What is written into the other half does not touch the scroll. -/
theorem ScrollAt.other {c c' : Nat → List Int} {n g h : Nat} {rs : List (List Int)} (s : ScrollAt c n g h rs) (e : ∀ k, c' k ≠ c k → ∃ j, j < halfN n ∧ k = startN n (1 - h) + j) : ScrollAt c' n g h rs := by
  have hh := s.hd.h1
  refine ⟨?_, s.rows.congr (fun j hj => ?_)⟩
  · have : c' 0 = c 0 := Classical.byContradiction fun hne => by
      obtain ⟨j, hj, hk⟩ := e 0 hne
      have := (half_in (n := n) (h := 1 - h) (by omega) hj).2
      omega
    rw [this]; exact s.hd
  · exact Classical.byContradiction fun hne => by
      obtain ⟨i, hi, hk⟩ := e _ hne
      exact half_apart hh hj hi hk
theorem laying_other {c : Nat → List Int} {n h' g num at' m : Nat} {r : List Int} (hm : at' + m ≤ halfN n) : ∀ k, laying c (startN n h') g num at' r m k ≠ c k → ∃ j, j < halfN n ∧ k = startN n h' + j := fun k hk => by
  unfold laying at hk
  split at hk
  · rename_i h; exact ⟨k - startN n h', by omega, by omega⟩
  · exact absurd rfl hk
theorem laying_by {c : Nat → List Int} {st g num at' m : Nat} {r : List Int} (hr : isBy r) (hb : ∀ k, isBy (c k)) (k : Nat) : isBy (laying c st g num at' r m k) := by
  unfold laying
  split
  · exact piece_by hr _ _ _
  · exact hb k
theorem laying_len {c : Nat → List Int} {st g num at' m : Nat} {r : List Int} (hb : ∀ k, (c k).length = 64) (k : Nat) : (laying c st g num at' r m k).length = 64 := by
  unfold laying
  split
  · exact piece_len _ _ _ _
  · exact hb k
/-- How a header is told: by its own parts. -/
theorem named_yes {b : List Int} (hb : isBy b) (h1 : 1 ≤ four b 4) (h2 : four b 4 ≤ 1073741824) (h3 : b.getD 8 0 ≤ 1) (h4 : b = hdL (four b 4) (b.getD 8 0)) : IsHd b (four b 4).toNat (b.getD 8 0).toNat := by
  have k1 := (hb.get 8).1
  refine ⟨by omega, by omega, by omega, ?_⟩
  rw [Int.toNat_of_nonneg (by omega), Int.toNat_of_nonneg k1]
  exact h4
theorem named_no {b : List Int} (h : ¬ (1 ≤ four b 4 ∧ four b 4 ≤ 1073741824 ∧ b.getD 8 0 ≤ 1 ∧ b = hdL (four b 4) (b.getD 8 0))) (g k : Nat) : ¬ IsHd b g k := fun d => by
  have t := hd_tells (g := g) (h := k) (by have := d.g2; omega) (by have := d.h1; omega)
  rw [← d.eq] at t
  have h1 := d.g1
  have h2 := d.g2
  have h3 := d.h1
  refine h ⟨by omega, by omega, by omega, ?_⟩
  rw [t.1, t.2]
  exact d.eq

end Go.Proofs.Ytmliiggieclbeaa
