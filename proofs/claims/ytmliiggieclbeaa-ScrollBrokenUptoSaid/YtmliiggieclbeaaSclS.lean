/- The scroll as plain data: calls, block by block. No program. -/
import Derived.Test.YtmliiggieclbeaaSclR
namespace Go.Proofs.Ytmliiggieclbeaa

theorem laying_zero (c : Nat → List Int) (st g num at' : Nat) (r : List Int) : laying c st g num at' r 0 = c := by
  funext j
  unfold laying
  rw [if_neg (by omega)]
theorem laying_succ (c : Nat → List Int) (st g num at' : Nat) (r : List Int) (k : Nat) : laying c st g num at' r (k + 1) = fun j => if j = st + at' + k then pieceL g num k r else laying c st g num at' r k j := by
  funext j
  unfold laying
  by_cases h1 : j = st + at' + k
  · subst h1
    rw [if_pos rfl, if_pos (by omega), show st + at' + k - (st + at') = k by omega]
  · rw [if_neg h1]
    by_cases h2 : st + at' ≤ j ∧ j < st + at' + k
    · rw [if_pos h2, if_pos (by omega)]
    · rw [if_neg h2, if_neg (by omega)]
/-- A block 0 that is laid anew. -/
def headed (c : Nat → List Int) (g h : Nat) : Nat → List Int := fun j => if j = 0 then hdL g h else c j
theorem headed_by {c : Nat → List Int} (hb : ∀ k, isBy (c k)) (g h k : Nat) : isBy (headed c g h k) := by
  unfold headed
  split
  · exact hd_by _ _
  · exact hb k
theorem headed_len {c : Nat → List Int} (hb : ∀ k, (c k).length = 64) (g h k : Nat) : (headed c g h k).length = 64 := by
  unfold headed
  split
  · exact hd_len _ _
  · exact hb k
theorem ScrollAt.turned {c : Nat → List Int} {n g h : Nat} {rs : List (List Int)} (h1 : 1 ≤ g) (h2 : g ≤ 1073741824) (h3 : h ≤ 1) (hr : HalfAt c (halfN n) (startN n h) g rs) : ScrollAt (headed c g h) n g h rs :=
  ⟨⟨h1, h2, h3, by rw [headed, if_pos rfl]⟩, hr.congr (fun j hj => by rw [headed, if_neg (by have := (half_in (n := n) h3 hj).2; omega)])⟩
theorem ScrollAt.push {c : Nat → List Int} {n g h : Nat} {rs : List (List Int)} (s : ScrollAt c n g h rs) {r : List Int} (hr : goodR r) (hH : total rs + blks r ≤ halfN n) : ScrollAt (laying c (startN n h) g rs.length (total rs) r (blks r)) n g h (rs ++ [r]) := by
  have hh := s.hd.h1
  refine ⟨?_, s.rows.push hr hH⟩
  have : laying c (startN n h) g rs.length (total rs) r (blks r) 0 = c 0 := by
    unfold laying startN
    rw [if_neg (by omega)]
  rw [this]; exact s.hd
theorem ScrollAt.broken {c : Nat → List Int} {n g h : Nat} {rs : List (List Int)} (s : ScrollAt c n g h rs) (hn : rs.length < 4294967296) {r : List Int} (hr : goodR r) {m : Nat} (hm : m < blks r) : ScrollAt (laying c (startN n h) g rs.length (total rs) r m) n g h rs := by
  refine ⟨?_, s.rows.broken (by have := s.hd.g2; omega) hn hr hm⟩
  have : laying c (startN n h) g rs.length (total rs) r m 0 = c 0 := by
    unfold laying startN
    rw [if_neg (by omega)]
  rw [this]; exact s.hd
/-- What is told of a scroll. -/
theorem ScrollAt.reads {c : Nat → List Int} {n g h : Nat} {rs : List (List Int)} (s : ScrollAt c n g h rs) (hn : rs.length < 4294967296) : RdAll c (halfN n) (startN n h) g 0 0 rs := by
  have := s.rows.reads (by have := s.hd.g2; omega) hn rs [] rfl
  simpa [total_nil] using this
theorem total_ge (rs : List (List Int)) (h : ∀ r ∈ rs, goodR r) : rs.length ≤ total rs := by
  induction rs with
  | nil => simp [total]
  | cons r rs ih =>
    have h1 := good_blks (h r (by simp))
    have h2 := ih (fun x hx => h x (by simp [hx]))
    simp only [total, List.map_cons, List.sum_cons, List.length_cons] at *
    omega
theorem gens_laying {c : Nat → List Int} {n G h g num at' m : Nat} {r : List Int} (hG : GensTo c n G) (hg : g ≤ G) (hG2 : G < 4294967296) : GensTo (laying c (startN n h) g num at' r m) n G := fun h' i hh hi => by
  unfold laying
  split
  · rw [pieceL, four_fourL (by omega) (by omega)]
    omega
  · exact hG h' i hh hi
theorem gens_headed {c : Nat → List Int} {n G g h : Nat} (hG : GensTo c n G) : GensTo (headed c g h) n G := fun h' i hh hi => by
  unfold headed
  rw [if_neg (by have := (half_in (n := n) hh hi).2; omega)]
  exact hG h' i hh hi
/-- A disk of zeros. -/
theorem zeros_four (i : Nat) : four (List.replicate 64 (0 : Int)) i = 0 := by
  have h : ∀ j, (List.replicate 64 (0 : Int)).getD j 0 = 0 := fun j => by
    rw [List.getD_eq_getElem?_getD, List.getElem?_replicate]
    split <;> rfl
  unfold four
  rw [h, h, h, h]
  rfl
theorem zeros_no (g h : Nat) : ¬ IsHd (List.replicate 64 (0 : Int)) g h := fun k => by
  have := congrArg (fun l => l.getD 0 0) k.eq
  simp [hdL] at this
theorem maxG_zeros (s : Nat) : ∀ k, maxG (fun _ => List.replicate 64 (0 : Int)) s 0 k = 0
  | 0 => rfl
  | k + 1 => by rw [maxG, maxG_zeros s k, zeros_four]; rfl
/-- A disk that was laid first. -/
theorem fresh_at (n : Nat) : ScrollAt (headed (fun _ => List.replicate 64 (0 : Int)) 1 0) n 1 0 [] :=
  ScrollAt.turned (by omega) (by omega) (by omega) (HalfAt.new (fun j _ => by show four (List.replicate 64 0) 0 < _; rw [zeros_four]; omega))
theorem fresh_gens (n : Nat) : GensTo (headed (fun _ => List.replicate 64 (0 : Int)) 1 0) n 1 := gens_headed (fun h i _ _ => by show four (List.replicate 64 0) 0 ≤ _; rw [zeros_four]; omega)

end Go.Proofs.Ytmliiggieclbeaa
