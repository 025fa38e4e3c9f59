/- The disk's calls as a law meets them. -/
import Derived.Test.YtmliiggieclbeaaDskC
namespace Go.Proofs.Ytmliiggieclbeaa
open Go.RowKit

theorem Blk.rdl {k : IntKind} {w : World} {g : Nat} {t : TypeId} {l : List Int} (h : Blk w g (ints k l).toArray t) : Rd k w (some ⟨g, 0, none⟩) l :=
  h.rd 0 (fun j hj => by rw [Nat.zero_add, List.getElem?_toArray, ints_get _ _ _ hj])
theorem Blk.below {w w' : World} {g : Nat} {cs : Array Value} {t : TypeId} (h : Blk w g cs t) (hb : Below w.heap.size w w') : Blk w' g cs t := h.kp (S := fun _ => False) (Kp.of_below hb) (fun h => h)

theorem new_yes (n : Int) (w : World) (h0 : 1 ≤ n) (hn : n ≤ 1024) :
    Calls Try.prog 32 #[.int .i64 n] w fun e w' => e = .returned (.tuple #[.pointer (some ⟨w.heap.size + 1, 0, none⟩), .int .i64 0]) ∧ Below w.heap.size w w' ∧ DiskAt w' (w.heap.size + 1) w.heap.size (DS.new n.toNat) := by
  obtain ⟨m, rfl⟩ := Int.eq_ofNat_of_zero_le (show 0 ≤ n by omega)
  exact new_ok m w (by omega) (by omega)

/-- A write that is done. -/
theorem write_yes (w : World) (d g : Nat) (s : DS) (h : DiskAt w d g s) (i : Int) (hi : 0 ≤ i) (hi' : i < s.n) (b : Nat) (l : List Int) (t : TypeId) (hl : l.length = 64) (hb : Blk w b (ints .u8 l).toArray t) (hne : b ≠ d) (ho : s.off = false) (hf0 : s.fuse ≠ 0) (hw : s.writes + 1 ≤ 4611686018427387904) :
    Calls Try.prog 37 #[.pointer (some ⟨d, 0, none⟩), .int .i64 i, .slice (some ⟨b, 0, none⟩) 64 64] w fun e w' => e = .returned (.int .i64 0) ∧ Kp (fun k => k = d ∨ k = g) w w' ∧ DiskAt w' d g (s.put i l) := by
  obtain ⟨k, rfl⟩ := Int.eq_ofNat_of_zero_le hi
  exact write_good w d g s h k (by omega) b 0 64 l hl hb.rdl hne ho hf0 hw

/-- Whatever a block of 64 bytes is written to. -/
theorem write_at (w : World) (d g : Nat) (s : DS) (h : DiskAt w d g s) (i : Int) (b : Nat) (l : List Int) (t : TypeId) (hl : l.length = 64) (hb : Blk w b (ints .u8 l).toArray t) (hne : b ≠ d) (hw : s.writes + 1 ≤ 4611686018427387904) :
    Calls Try.prog 37 #[.pointer (some ⟨d, 0, none⟩), .int .i64 i, .slice (some ⟨b, 0, none⟩) 64 64] w fun e w' => e = .returned (.int .i64 (s.writeE i l)) ∧ Kp (fun k => k = d ∨ k = g) w w' ∧ DiskAt w' d g (s.writeS i l) := by
  have := write_any w d g s h i (some ⟨b, 0, none⟩) 64 l hb.rdl (by omega) (fun x hx => by cases hx; rfl) (fun x hx => by cases hx; exact hne) hw
  rwa [hl] at this

theorem read_yes (w : World) (d g : Nat) (s : DS) (h : DiskAt w d g s) (i : Int) (hi : 0 ≤ i) (hi' : i < s.n) :
    Calls Try.prog 34 #[.pointer (some ⟨d, 0, none⟩), .int .i64 i] w fun e w' => e = .returned (.tuple #[.slice (some ⟨w.heap.size, 0, none⟩) 64 64, .int .i64 0]) ∧ Below w.heap.size w w' ∧ Blk w' w.heap.size (ints .u8 (s.c i.toNat)).toArray 5 := by
  obtain ⟨k, rfl⟩ := Int.eq_ofNat_of_zero_le hi
  exact read_ok w d g s h k (by omega)

theorem same_64 (a b : Nat) (la lb : List Int) (ta tb : TypeId) (w : World) (ha : Blk w a (ints .u8 la).toArray ta) (hb : Blk w b (ints .u8 lb).toArray tb) (hla : la.length = 64) (hlb : lb.length = 64) :
    Calls Try.prog 25 #[.slice (some ⟨a, 0, none⟩) 64 64, .slice (some ⟨b, 0, none⟩) 64 64] w fun e w' => e = .returned (.bool (decide (la = lb))) ∧ Drawn w w' :=
  same_walk 64 _ _ 64 64 la lb w ha.rdl hb.rdl hla hlb (by omega)
theorem same_yes (a b : Nat) (l : List Int) (ta tb : TypeId) (w : World) (ha : Blk w a (ints .u8 l).toArray ta) (hb : Blk w b (ints .u8 l).toArray tb) (hl : l.length = 64) :
    Calls Try.prog 25 #[.slice (some ⟨a, 0, none⟩) 64 64, .slice (some ⟨b, 0, none⟩) 64 64] w fun e w' => e = .returned (.bool true) ∧ Drawn w w' :=
  (same_64 a b l l ta tb w ha hb hl hl).mono fun e w' ⟨he, hd⟩ => ⟨by rw [he]; exact bb (by simp), hd⟩

end Go.Proofs.Ytmliiggieclbeaa
