/- The disk's calls as a law meets them; awake. -/
import Derived.Test.YtdmkphalihdmlaaBlkC
namespace Go.Proofs.Ytdmkphalihdmlaa
open Go.RowKit

theorem Blk.rdl {k : IntKind} {w : World} {g : Nat} {t : TypeId} {l : List Int} (h : Blk w g (ints k l).toArray t) : Rd k w (some ⟨g, 0, none⟩) l :=
  h.rd 0 (fun j hj => by rw [Nat.zero_add, List.getElem?_toArray, ints_get _ _ _ hj])
theorem Blk.below {w w' : World} {g : Nat} {cs : Array Value} {t : TypeId} (h : Blk w g cs t) (hb : Below w.heap.size w w') : Blk w' g cs t := h.kp (S := fun _ => False) (Kp.of_below hb) (fun h => h)

theorem new_yes (n : Int) (w : World) (h0 : 1 ≤ n) (hn : n ≤ 1024) :
    Calls Try.prog 9 #[.int .i64 n] w fun e w' => e = .returned (.tuple #[.pointer (some ⟨w.heap.size + 1, 0, none⟩), .int .i64 0]) ∧ Below w.heap.size w w' ∧ DiskAt w' (w.heap.size + 1) w.heap.size (DS.new n.toNat) := by
  obtain ⟨m, rfl⟩ := Int.eq_ofNat_of_zero_le (show 0 ≤ n by omega)
  exact new_ok m w (by omega) (by omega)

/-- A write that is done. -/
theorem write_yes (w : World) (d g : Nat) (s : DS) (h : DiskAt w d g s) (i : Int) (hi : 0 ≤ i) (hi' : i < s.n) (b : Nat) (l : List Int) (t : TypeId) (hl : l.length = 64) (hb : Blk w b (ints .u8 l).toArray t) (hne : b ≠ d) (ho : s.off = false) (hf0 : s.fuse ≠ 0) (hw : s.writes + 1 ≤ 4611686018427387904) :
    Calls Try.prog 12 #[.pointer (some ⟨d, 0, none⟩), .int .i64 i, .slice (some ⟨b, 0, none⟩) 64 64] w fun e w' => e = .returned (.int .i64 0) ∧ Kp (fun k => k = d ∨ k = g) w w' ∧ DiskAt w' d g (s.put i l) := by
  obtain ⟨k, rfl⟩ := Int.eq_ofNat_of_zero_le hi
  exact write_good w d g s h k (by omega) b 0 64 l hl hb.rdl hne ho hf0 hw

/-- Whatever a block of 64 bytes is written to. -/
theorem write_at (w : World) (d g : Nat) (s : DS) (h : DiskAt w d g s) (i : Int) (b : Nat) (l : List Int) (t : TypeId) (hl : l.length = 64) (hb : Blk w b (ints .u8 l).toArray t) (hne : b ≠ d) (hw : s.writes + 1 ≤ 4611686018427387904) :
    Calls Try.prog 12 #[.pointer (some ⟨d, 0, none⟩), .int .i64 i, .slice (some ⟨b, 0, none⟩) 64 64] w fun e w' => e = .returned (.int .i64 (s.writeE i l)) ∧ Kp (fun k => k = d ∨ k = g) w w' ∧ DiskAt w' d g (s.writeS i l) := by
  have := write_any w d g s h i (some ⟨b, 0, none⟩) 64 l hb.rdl (by omega) (fun x hx => by cases hx; rfl) (fun x hx => by cases hx; exact hne) hw
  rwa [hl] at this

theorem read_yes (w : World) (d g : Nat) (s : DS) (h : DiskAt w d g s) (i : Int) (hi : 0 ≤ i) (hi' : i < s.n) :
    Calls Try.prog 14 #[.pointer (some ⟨d, 0, none⟩), .int .i64 i] w fun e w' => e = .returned (.tuple #[.slice (some ⟨w.heap.size, 0, none⟩) 64 64, .int .i64 0]) ∧ Below w.heap.size w w' ∧ Blk w' w.heap.size (ints .u8 (s.c i.toNat)).toArray 5 := by
  obtain ⟨k, rfl⟩ := Int.eq_ofNat_of_zero_le hi
  exact read_ok w d g s h k (by omega)

theorem bytes64 (fill : Int) (w : World) :
    Calls Try.prog 13 #[.int .i64 64, .int .i64 fill] w fun e w' => e = .returned (.slice (some ⟨w.heap.size, 0, none⟩) 64 64) ∧ Below w.heap.size w w' ∧ Blk w' w.heap.size (ints .u8 (bytesL 64 fill)).toArray 5 :=
  bytes_any 64 fill w
theorem bytes64_length (fill : Int) : (bytesL 64 fill).length = 64 := by rw [bytesL_length]; rfl

theorem same_64 (a b : Nat) (la lb : List Int) (ta tb : TypeId) (w : World) (ha : Blk w a (ints .u8 la).toArray ta) (hb : Blk w b (ints .u8 lb).toArray tb) (hla : la.length = 64) (hlb : lb.length = 64) :
    Calls Try.prog 15 #[.slice (some ⟨a, 0, none⟩) 64 64, .slice (some ⟨b, 0, none⟩) 64 64] w fun e w' => e = .returned (.bool (decide (la = lb))) ∧ Drawn w w' :=
  same_walk 64 _ _ 64 64 la lb w ha.rdl hb.rdl hla hlb (by omega)
theorem same_yes (a b : Nat) (l : List Int) (ta tb : TypeId) (w : World) (ha : Blk w a (ints .u8 l).toArray ta) (hb : Blk w b (ints .u8 l).toArray tb) (hl : l.length = 64) :
    Calls Try.prog 15 #[.slice (some ⟨a, 0, none⟩) 64 64, .slice (some ⟨b, 0, none⟩) 64 64] w fun e w' => e = .returned (.bool true) ∧ Drawn w w' :=
  (same_64 a b l l ta tb w ha hb hl hl).mono fun e w' ⟨he, hd⟩ => ⟨by rw [he]; exact bb (by simp), hd⟩

set_option maxHeartbeats 1000000 in
theorem awake_any (w : World) : Calls Try.prog 10 #[] w fun e w' => e = .returned (.bool true) ∧ Below w.heap.size w w' := by
  go_enter Try.func10, Try.ntmps10
  go_wp2_with fail
  refine (new_yes 2 w (by omega) (by omega)).mono ?_
  rintro e w1 ⟨rfl, b1, d1⟩
  go_wp2_with fail
  refine (bytes64 7 w1).mono ?_
  rintro e w2 ⟨rfl, b2, k2⟩
  go_wp2_with fail
  have d2 := d1.below b2
  have hlt := d1.lt
  refine (write_yes w2 _ _ _ d2 0 (by omega) (by simp [DS.new]) w1.heap.size _ _ (bytes64_length 7) k2 (by omega) rfl (by simp [DS.new]) (by simp [DS.new])).mono ?_
  rintro e w3 ⟨rfl, b3, d3⟩
  go_wp2_with fail
  refine (read_yes w3 _ _ _ d3 0 (by omega) (by simp [DS.new, DS.put])).mono ?_
  rintro e w4 ⟨rfl, b4, k4⟩
  go_wp2_with fail
  refine (bytes64 7 w4).mono ?_
  rintro e w5 ⟨rfl, b5, k5⟩
  go_wp2_with fail
  refine (same_yes _ _ (bytesL 64 7) _ _ w5 (k4.below b5) k5 (bytes64_length 7)).mono ?_
  rintro e w6 ⟨rfl, b6⟩
  go_wp2_with fail
  have d6 := ((d3.below b4).below b5).below (b6.below _)
  refine (writes_any w6 _ _ _ d6).mono ?_
  rintro e w7 ⟨rfl, rfl⟩
  go_wp2_with fail
  refine (on_any w6 _ _ _ d6).mono ?_
  rintro e w7 ⟨rfl, rfl⟩
  go_wp2_with fail
  go_ret
  refine ⟨bb (by simp [DS.put, DS.new]), ?_⟩
  have z1 := b1.size
  have z2 := b2.size
  have z3 := b3.size
  have z4 := b4.size
  have z5 := b5.size
  have h3 := below_kp (b1.trans (b2.mono z1)) b3 (by omega) (fun k hk => by omega)
  exact ((h3.trans (b4.mono (by omega))).trans (b5.mono (by omega))).trans (b6.below _)

end Go.Proofs.Ytdmkphalihdmlaa
