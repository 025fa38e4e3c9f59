/- The scroll as plain data: headers, pieces, and what is read of them. No program. -/
import Derived.Test.YtmliiggieclbeaaMem
namespace Go.Proofs.Ytmliiggieclbeaa

def fourL (x : Int) : List Int := [x % 256, x / 256 % 256, x / 65536 % 256, x / 16777216 % 256]
def four (b : List Int) (i : Nat) : Int := b.getD i 0 + 256 * b.getD (i + 1) 0 + 65536 * b.getD (i + 2) 0 + 16777216 * b.getD (i + 3) 0
def isBy (l : List Int) : Prop := ∀ z ∈ l, 0 ≤ z ∧ z < 256
theorem isBy.get {l : List Int} (h : isBy l) (i : Nat) : 0 ≤ l.getD i 0 ∧ l.getD i 0 < 256 := by
  rw [List.getD_eq_getElem?_getD]
  cases hi : l[i]? with
  | none => simp
  | some z => exact h z (List.mem_of_getElem? hi)
theorem fourL_by (x : Int) : isBy (fourL x) := by
  intro z hz
  simp [fourL] at hz
  omega
theorem four_fourL {x : Int} (h0 : 0 ≤ x) (h1 : x < 4294967296) (l : List Int) : four (fourL x ++ l) 0 = x := by
  simp [four, fourL]
  omega
theorem four_app {a : List Int} (l : List Int) {i : Nat} (h : a.length = i) : four (a ++ l) i = four l 0 := by
  subst h
  simp [four, List.getD_eq_getElem?_getD, List.getElem?_append_right]
theorem four_nat {b : List Int} (h : isBy b) (i : Nat) : 0 ≤ four b i ∧ four b i < 4294967296 := by
  have h0 := h.get i
  have h1 := h.get (i + 1)
  have h2 := h.get (i + 2)
  have h3 := h.get (i + 3)
  unfold four
  omega
/-- Block 0 of a generation and a half. -/
def hdL (g h : Int) : List Int := [83, 67, 82, 49] ++ (fourL g ++ (h % 256 :: List.replicate 55 0))
/-- How many blocks a record takes. -/
def blks (r : List Int) : Nat := (r.length + 52) / 53
/-- What a piece holds. -/
def heldL (r : List Int) (k : Nat) : List Int := (r.drop (53 * k)).take 53
def pieceL (g num k : Nat) (r : List Int) : List Int :=
  fourL g ++ (fourL num ++ ((k : Int) % 256 :: (blks r : Int) % 256 :: ((heldL r k).length : Int) % 256 :: (heldL r k ++ List.replicate (53 - (heldL r k).length) 0)))
theorem held_le (r : List Int) (k : Nat) : (heldL r k).length ≤ 53 := by simp [heldL]; omega
theorem held_len (r : List Int) (k : Nat) : (heldL r k).length = min 53 (r.length - 53 * k) := by simp [heldL]
theorem piece_len (g num k : Nat) (r : List Int) : (pieceL g num k r).length = 64 := by
  have := held_le r k
  simp [pieceL, fourL]
  omega
theorem hd_len (g h : Int) : (hdL g h).length = 64 := by simp [hdL, fourL]
theorem piece_by {r : List Int} (hr : isBy r) (g num k : Nat) : isBy (pieceL g num k r) := by
  intro z hz
  simp only [pieceL, List.mem_append, List.mem_cons] at hz
  rcases hz with hz | hz | rfl | rfl | rfl | hz | hz
  · exact fourL_by _ z hz
  · exact fourL_by _ z hz
  · omega
  · omega
  · omega
  · exact hr z (List.mem_of_mem_drop (List.mem_of_mem_take hz))
  · have := (List.mem_replicate.1 hz).2; omega
theorem hd_by (g h : Int) : isBy (hdL g h) := by
  intro z hz
  simp only [hdL, List.mem_append, List.mem_cons] at hz
  rcases hz with hz | hz | rfl | hz
  · simp at hz; omega
  · exact fourL_by _ z hz
  · omega
  · have := (List.mem_replicate.1 hz).2; omega
/-- The pieces together. -/
theorem held_all : ∀ (n : Nat) (r : List Int), blks r = n → ((List.range n).map (heldL r)).flatten = r
  | 0, r, h => by
    have : r = [] := List.length_eq_zero_iff.1 (by unfold blks at h; omega)
    subst this; rfl
  | n + 1, r, h => by
    have hd : blks (r.drop 53) = n := by unfold blks at *; rw [List.length_drop]; omega
    have ih := held_all n (r.drop 53) hd
    rw [List.range_succ_eq_map, List.map_cons, List.flatten_cons, List.map_map]
    have e : (List.range n).map (heldL r ∘ Nat.succ) = (List.range n).map (heldL (r.drop 53)) := by
      apply List.map_congr_left
      intro k _
      simp only [Function.comp, heldL, List.drop_drop]
      rw [show 53 * Nat.succ k = 53 + 53 * k by omega]
    rw [e, ih]
    simp [heldL]
/-- A record is good: not empty, not too long. -/
def goodR (r : List Int) : Prop := 0 < r.length ∧ r.length ≤ 424
theorem good_blks {r : List Int} (h : goodR r) : 1 ≤ blks r ∧ blks r ≤ 8 := by
  obtain ⟨h1, h2⟩ := h
  unfold blks
  omega

/-- A disk's blocks: c, of H blocks a half; the half begins at block st. -/
structure PartOk (c : Nat → List Int) (H st g at' num count k : Nat) : Prop where
  room : at' + k < H
  gen : four (c (st + at' + k)) 0 = g
  nums : four (c (st + at' + k)) 4 = num
  part : (c (st + at' + k)).getD 8 0 = k
  cnt : (c (st + at' + k)).getD 9 0 = count
  n1 : 1 ≤ (c (st + at' + k)).getD 10 0
  n2 : (c (st + at' + k)).getD 10 0 ≤ 53
  full : k + 1 < count → (c (st + at' + k)).getD 10 0 = 53
/-- A record of just so many pieces stands there. -/
def RecAt (c : Nat → List Int) (H st g at' num count : Nat) : Prop := 1 ≤ count ∧ count ≤ 8 ∧ ∀ k, k < count → PartOk c H st g at' num count k
def dataAt (c : Nat → List Int) (st at' k : Nat) : List Int := ((c (st + at' + k)).drop 11).take ((c (st + at' + k)).getD 10 0).toNat
def recL (c : Nat → List Int) (st at' count : Nat) : List Int := ((List.range count).map (dataAt c st at')).flatten
/-- What is read of a record: r, or there is none. -/
inductive Rds (c : Nat → List Int) (H st g at' num : Nat) : Option (List Int) → Prop where
  | yes (count : Nat) (h : RecAt c H st g at' num count) : Rds c H st g at' num (some (recL c st at' count))
  | no (h : ∀ count, ¬ RecAt c H st g at' num count) : Rds c H st g at' num none
theorem rec_count {c : Nat → List Int} {H st g at' num a b : Nat} (h : RecAt c H st g at' num a) (k : RecAt c H st g at' num b) : a = b := by
  have h0 := (h.2.2 0 (by have := h.1; omega)).cnt
  have k0 := (k.2.2 0 (by have := k.1; omega)).cnt
  omega
theorem Rds.unique {c : Nat → List Int} {H st g at' num : Nat} {a b : Option (List Int)} (h : Rds c H st g at' num a) (k : Rds c H st g at' num b) : a = b := by
  cases h with
  | yes n h => cases k with
    | yes m k => rw [rec_count h k]
    | no k => exact absurd h (k _)
  | no h => cases k with
    | yes m k => exact absurd k (h _)
    | no k => rfl

end Go.Proofs.Ytmliiggieclbeaa
