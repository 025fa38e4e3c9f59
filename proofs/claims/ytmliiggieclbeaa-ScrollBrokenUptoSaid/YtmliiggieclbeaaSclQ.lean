/- The scroll as plain data: what is laid is read; what is broken off is not. No program. -/
import Derived.Test.YtmliiggieclbeaaSclP
namespace Go.Proofs.Ytmliiggieclbeaa

theorem getD_app_left {a b : List Int} {i : Nat} (h : i < a.length) : (a ++ b).getD i 0 = a.getD i 0 := by
  simp [List.getD_eq_getElem?_getD, List.getElem?_append_left h]
theorem getD_app_right {a b : List Int} {i n : Nat} (h : a.length = n) : (a ++ b).getD (n + i) 0 = b.getD i 0 := by
  subst h
  simp [List.getD_eq_getElem?_getD, List.getElem?_append_right]
/-- What a piece tells. -/
theorem piece_tells {g num k : Nat} {r : List Int} (hg : g < 4294967296) (hnum : num < 4294967296) (hr : goodR r) (hk : k < blks r) :
    four (pieceL g num k r) 0 = g ∧ four (pieceL g num k r) 4 = num ∧ (pieceL g num k r).getD 8 0 = k ∧ (pieceL g num k r).getD 9 0 = blks r ∧ (pieceL g num k r).getD 10 0 = (heldL r k).length ∧
      ((pieceL g num k r).drop 11).take (heldL r k).length = heldL r k := by
  have hb := good_blks hr
  have hl := held_le r k
  have l1 : (fourL g).length = 4 := rfl
  have l2 : (fourL g ++ fourL num).length = 8 := rfl
  refine ⟨four_fourL (by omega) (by omega) _, ?_, ?_, ?_, ?_, ?_⟩
  · rw [pieceL, four_app _ l1]; exact four_fourL (by omega) (by omega) _
  · rw [pieceL, ← List.append_assoc, show 8 = 8 + 0 from rfl, getD_app_right l2]
    show (k : Int) % 256 = k
    omega
  · rw [pieceL, ← List.append_assoc, show 9 = 8 + 1 from rfl, getD_app_right l2]
    show (blks r : Int) % 256 = blks r
    omega
  · rw [pieceL, ← List.append_assoc, show 10 = 8 + 2 from rfl, getD_app_right l2]
    show ((heldL r k).length : Int) % 256 = (heldL r k).length
    omega
  · rw [pieceL, ← List.append_assoc, show 11 = (fourL g ++ fourL num).length + 3 from rfl, List.drop_append]
    show (heldL r k ++ _).take _ = _
    rw [List.take_append_of_le_length (Nat.le_refl _), List.take_length]
theorem held_full {r : List Int} {k : Nat} (hk : k + 1 < blks r) : (heldL r k).length = 53 := by
  rw [held_len]
  unfold blks at hk
  omega
theorem held_pos {r : List Int} {k : Nat} (hk : k < blks r) : 1 ≤ (heldL r k).length := by
  rw [held_len]
  unfold blks at hk
  omega
/-- A record that was laid is read. -/
theorem rec_laid {c : Nat → List Int} {H st g at' num : Nat} {r : List Int} (hg : g < 4294967296) (hnum : num < 4294967296) (hr : goodR r) (hH : at' + blks r ≤ H) (h : ∀ k, k < blks r → c (st + at' + k) = pieceL g num k r) :
    RecAt c H st g at' num (blks r) ∧ recL c st at' (blks r) = r := by
  have hb := good_blks hr
  refine ⟨⟨hb.1, hb.2, fun k hk => ?_⟩, ?_⟩
  · obtain ⟨t1, t2, t3, t4, t5, _⟩ := piece_tells hg hnum hr hk
    have hp := held_pos hk
    have hl := held_le r k
    rw [← h k hk] at t1 t2 t3 t4 t5
    exact ⟨by omega, t1, t2, t3, t4, by omega, by omega, fun hf => by have := held_full hf; omega⟩
  · rw [recL]
    have e : (List.range (blks r)).map (dataAt c st at') = (List.range (blks r)).map (heldL r) := by
      apply List.map_congr_left
      intro k hk
      have hk := List.mem_range.1 hk
      obtain ⟨_, _, _, _, t5, t6⟩ := piece_tells hg hnum hr hk
      rw [dataAt, h k hk, t5]
      exact t6
    rw [e, held_all _ _ rfl]
/-- A record that is read has just so many pieces. -/
theorem rec_blks {c : Nat → List Int} {H st g at' num count : Nat} (h : RecAt c H st g at' num count) (hc : ∀ k, (c k).length = 64) : blks (recL c st at' count) = count ∧ goodR (recL c st at' count) := by
  have hd : ∀ k, k < count → (dataAt c st at' k).length = ((c (st + at' + k)).getD 10 0).toNat := fun k hk => by
    have p := h.2.2 k hk
    have := p.n1
    have := p.n2
    rw [dataAt, List.length_take, List.length_drop, hc]
    omega
  have key : ∀ n, n ≤ count → 53 * (n - 1) + (if n = 0 then 0 else 1) ≤ (((List.range n).map (dataAt c st at')).flatten).length ∧ (((List.range n).map (dataAt c st at')).flatten).length ≤ 53 * n ∧ (n < count → (((List.range n).map (dataAt c st at')).flatten).length = 53 * n) := by
    intro n
    induction n with
    | zero => intro _; simp
    | succ n ih =>
      intro hn
      obtain ⟨i1, i2, i3⟩ := ih (by omega)
      have i3 := i3 (by omega)
      have p := h.2.2 n (by omega)
      have q1 := p.n1
      have q2 := p.n2
      have hdn := hd n (by omega)
      rw [List.range_succ, List.map_append, List.flatten_append, List.length_append, i3]
      simp only [List.map_cons, List.map_nil, List.flatten_cons, List.flatten_nil, List.append_nil, hdn]
      refine ⟨by rw [if_neg (by omega)]; omega, by omega, fun hlt => ?_⟩
      have := p.full hlt
      omega
  obtain ⟨k1, k2, _⟩ := key count (Nat.le_refl _)
  have h1 := h.1
  have h2 := h.2.1
  rw [if_neg (by omega)] at k1
  unfold blks goodR recL
  omega
/-- All records from a place on. -/
inductive RdAll (c : Nat → List Int) (H st g : Nat) : Nat → Nat → List (List Int) → Prop where
  | stop {at' num : Nat} (h : ∀ count, ¬ RecAt c H st g at' num count) : RdAll c H st g at' num []
  | more {at' num : Nat} {l : List (List Int)} (count : Nat) (h : RecAt c H st g at' num count) (t : RdAll c H st g (at' + count) (num + 1) l) : RdAll c H st g at' num (recL c st at' count :: l)
theorem RdAll.unique {c : Nat → List Int} {H st g at' num : Nat} {a : List (List Int)} (h : RdAll c H st g at' num a) : ∀ {b : List (List Int)}, RdAll c H st g at' num b → a = b := by
  induction h with
  | stop h =>
    intro b k
    cases k with
    | stop _ => rfl
    | more n k _ => exact absurd k (h _)
  | more n h t ih =>
    intro b k
    cases k with
    | stop k => exact absurd h (k _)
    | more m k u =>
      obtain rfl := rec_count h k
      rw [ih u]
/-- How many blocks records take together. -/
def total (rs : List (List Int)) : Nat := (rs.map blks).sum
theorem total_nil : total [] = 0 := rfl
theorem total_app (a b : List (List Int)) : total (a ++ b) = total a + total b := by simp [total]
theorem total_one (r : List Int) : total [r] = blks r := by simp [total]
/-- A half on which just these records stand, of generation g. -/
structure HalfAt (c : Nat → List Int) (H st g : Nat) (rs : List (List Int)) : Prop where
  good : ∀ r ∈ rs, goodR r
  fits : total rs ≤ H
  laid : ∀ a r b, rs = a ++ r :: b → ∀ k, k < blks r → c (st + total a + k) = pieceL g a.length k r
  free : ∀ j, total rs ≤ j → j < H → four (c (st + j)) 0 < g ∨ (four (c (st + j)) 4 < rs.length ∨ (four (c (st + j)) 4 = rs.length ∧ ¬ ((c (st + j)).getD 8 0 = ((j - total rs : Nat) : Int) ∧ (c (st + j)).getD 9 0 = ((j - total rs : Nat) : Int) + 1)))
theorem HalfAt.stops {c : Nat → List Int} {H st g : Nat} {rs : List (List Int)} (h : HalfAt c H st g rs) (count : Nat) : ¬ RecAt c H st g (total rs) rs.length count := by
  rintro ⟨h1, h2, h3⟩
  have p := h3 (count - 1) (by omega)
  have hr := p.room
  rcases h.free (total rs + (count - 1)) (by omega) hr with f | f | ⟨_, f⟩
  · have := p.gen; rw [Nat.add_assoc] at this; omega
  · have := p.nums; rw [Nat.add_assoc] at this; omega
  · refine f ⟨?_, ?_⟩
    · have := p.part; rw [Nat.add_assoc] at this; omega
    · have := p.cnt; rw [Nat.add_assoc] at this; omega
theorem HalfAt.reads {c : Nat → List Int} {H st g : Nat} {rs : List (List Int)} (hg : g < 4294967296) (hn : rs.length < 4294967296) (h : HalfAt c H st g rs) : ∀ (b a : List (List Int)), rs = a ++ b → RdAll c H st g (total a) a.length b := by
  intro b
  induction b with
  | nil =>
    intro a ha
    rw [List.append_nil] at ha
    subst ha
    exact .stop h.stops
  | cons r b ih =>
    intro a ha
    have hgr : goodR r := h.good r (by rw [ha]; simp)
    have hf := h.fits
    have hlen : a.length < rs.length := by rw [ha]; simp
    have ht : total rs = total a + (blks r + total b) := by rw [ha, total_app]; simp [total]
    obtain ⟨h1, h2⟩ := rec_laid (c := c) (H := H) (st := st) (at' := total a) hg (by omega) hgr (by omega) (h.laid a r b ha)
    have := ih (a ++ [r]) (by rw [ha]; simp)
    rw [total_app, total_one, List.length_append, List.length_singleton] at this
    have := RdAll.more (blks r) h1 this
    rwa [h2] at this
/-- Nothing is laid yet. -/
theorem HalfAt.new {c : Nat → List Int} {H st g : Nat} (h : ∀ j, j < H → four (c (st + j)) 0 < g) : HalfAt c H st g [] :=
  ⟨fun r hr => absurd hr (by simp), Nat.zero_le _, fun a r b e => absurd e (by simp), fun j _ hj => .inl (h j hj)⟩
/-- The first m pieces of one more record are laid. -/
def laying (c : Nat → List Int) (st g num at' : Nat) (r : List Int) (m : Nat) : Nat → List Int := fun j => if st + at' ≤ j ∧ j < st + at' + m then pieceL g num (j - (st + at')) r else c j
theorem HalfAt.broken {c : Nat → List Int} {H st g : Nat} {rs : List (List Int)} (hg : g < 4294967296) (hn : rs.length < 4294967296) (h : HalfAt c H st g rs) {r : List Int} (hr : goodR r) {m : Nat} (hm : m < blks r) : HalfAt (laying c st g rs.length (total rs) r m) H st g rs := by
  refine ⟨h.good, h.fits, fun a r' b e k hk => ?_, fun j h1 h2 => ?_⟩
  · have ht : total a + blks r' ≤ total rs := by rw [e, total_app]; simp only [total, List.map_cons, List.sum_cons]; omega
    rw [laying, if_neg (by omega)]
    exact h.laid a r' b e k hk
  · by_cases hj : j < total rs + m
    · have e : laying c st g rs.length (total rs) r m (st + j) = pieceL g rs.length (j - total rs) r := by
        rw [laying, if_pos (by omega), show st + j - (st + total rs) = j - total rs by omega]
      obtain ⟨_, t2, t3, t4, _⟩ := piece_tells (g := g) (num := rs.length) (k := j - total rs) hg hn hr (by omega)
      rw [e]
      exact .inr (.inr ⟨t2, fun hh => by omega⟩)
    · rw [laying, if_neg (by omega)]
      exact h.free j h1 h2
theorem HalfAt.push {c : Nat → List Int} {H st g : Nat} {rs : List (List Int)} (h : HalfAt c H st g rs) {r : List Int} (hr : goodR r) (hH : total rs + blks r ≤ H) : HalfAt (laying c st g rs.length (total rs) r (blks r)) H st g (rs ++ [r]) := by
  have hT : total (rs ++ [r]) = total rs + blks r := by rw [total_app, total_one]
  refine ⟨fun x hx => ?_, by omega, fun a r' b e k hk => ?_, fun j h1 h2 => ?_⟩
  · rcases List.mem_append.1 hx with hx | hx
    · exact h.good x hx
    · rw [List.mem_singleton.1 hx]; exact hr
  · rcases List.eq_nil_or_concat b with rfl | ⟨b', x, rfl⟩
    · have e' : rs = a ∧ [r] = [r'] := List.append_inj' e rfl
      obtain ⟨e1, e2⟩ := e'
      subst e1
      injection e2 with e2 _
      subst e2
      rw [laying, if_pos (by omega), show st + total rs + k - (st + total rs) = k by omega]
    · have e' : rs = a ++ r' :: b' := by
        have : rs ++ [r] = (a ++ r' :: b') ++ [x] := by rw [e]; simp [List.concat_eq_append]
        exact (List.append_inj' this rfl).1
      have ht : total a + blks r' ≤ total rs := by rw [e', total_app]; simp only [total, List.map_cons, List.sum_cons]; omega
      rw [laying, if_neg (by omega)]
      exact h.laid a r' b' e' k hk
  · rw [laying, if_neg (by omega)]
    rw [hT] at h1
    rcases h.free j (by omega) h2 with f | f | ⟨f, _⟩
    · exact .inl f
    · exact .inr (.inl (by rw [List.length_append, List.length_singleton]; omega))
    · exact .inr (.inl (by rw [List.length_append, List.length_singleton]; omega))

end Go.Proofs.Ytmliiggieclbeaa
