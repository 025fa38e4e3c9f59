/- Place, bytes and SameBytes: what each answers. -/
import Derived.Test.YtdmkphalihdmlaaRows
import Derived.Test.YtdmkphalihdmlaaMem
import Derived.StillTailTactics
import Derived.Deep.QuietTactic
import Derived.BigQuiet
import Derived.Deep.OwnRows
namespace Go.Proofs.Ytdmkphalihdmlaa
open Go.RowKit

theorem tmod_wrap {v n : Int} (h0 : 0 < n) (hn : n ≤ 4294967296) (h : v.tmod n < 0) : wrap64 (v.tmod n + n) = v % n := by
  have h1 := Int.tmod_lt_of_pos v h0
  have h3 : v.tmod n + n = v % n := by
    rw [Int.tmod_eq_emod] at h ⊢
    have := Int.emod_nonneg v (show n ≠ 0 by omega)
    split at h
    · omega
    · rename_i hc
      rw [if_neg hc]; omega
  rw [h3]
  have := Int.emod_nonneg v (show n ≠ 0 by omega)
  have := Int.emod_lt_of_pos v h0
  unfold wrap64; omega
theorem tmod_pos {v n : Int} (h0 : 0 < n) (h : 0 ≤ v.tmod n) : v.tmod n = v % n := by
  rw [Int.tmod_eq_emod] at h ⊢
  have := Int.emod_nonneg v (show n ≠ 0 by omega)
  have := Int.emod_lt_of_pos v h0
  have e : (n.natAbs : Int) = n := by omega
  split <;> simp_all <;> omega

set_option maxHeartbeats 400000 in
theorem place_any (v n : Int) (w : World) (h0 : 0 < n) (hn : n ≤ 4294967296) :
    Calls Try.prog 11 #[.int .i64 v, .int .i64 n] w fun e w' => e = .returned (.int .i64 (v % n)) ∧ w = w' := by
  go_enter Try.func11, Try.ntmps11
  go_wp2
  · go_ret
    rename_i h
    exact ⟨bv (tmod_wrap h0 hn h), rfl⟩
  · go_ret
    rename_i h
    exact ⟨bv (tmod_pos h0 h), rfl⟩

/-- How many bytes 'bytes' makes. -/
def bytesN (n : Int) : Nat := if n < 0 ∨ 130 < n then 64 else n.toNat
def byteAt (fill : Int) (i : Nat) : Int := (fill + i * (fill.tmod 7 + 1)) % 256
def bytesL (n fill : Int) : List Int := (List.range (bytesN n)).map (byteAt fill)
theorem bytesL_length (n fill : Int) : (bytesL n fill).length = bytesN n := by simp [bytesL]
theorem bytesN_le (n : Int) : bytesN n ≤ 130 := by unfold bytesN; split <;> omega

theorem byteAt_range (fill : Int) (i : Nat) : 0 ≤ byteAt fill i ∧ byteAt fill i ≤ 255 := by unfold byteAt; omega
theorem wrap64_mod (x : Int) : wrap64 x % 256 = x % 256 := by unfold wrap64; omega
/-- The round's number, as the walk writes it. -/
theorem byte_wrap (fill : Int) (i : Nat) : wrap64 (fill + wrap64 (↑i * wrap64 (fill.tmod 7 + 1))) % 256 = byteAt fill i := by
  unfold byteAt
  have h1 := Int.tmod_lt_of_pos fill (show (0 : Int) < 7 by omega)
  have h2 : -7 < fill.tmod 7 := by rw [Int.tmod_eq_emod]; split <;> omega
  have h3 : wrap64 (fill.tmod 7 + 1) = fill.tmod 7 + 1 := by unfold wrap64; omega
  rw [h3, wrap64_mod, Int.add_emod, wrap64_mod, ← Int.add_emod]
/-- What a row of bytes holds behind k rounds. -/
structure RowTo (w : World) (g m k : Nat) (f : Nat → Int) (t : TypeId) : Prop where
  ex : ∃ cs, Blk w g cs t ∧ cs.size = m ∧ ∀ j, j < k → cs[j]? = some (.int .u8 (f j))
theorem RowTo.cell {w : World} {g m k : Nat} {f : Nat → Int} {t : TypeId} (h : RowTo w g m k f t) {i : Nat} (hi : i < m) : (∃ x, w.cell? ⟨g, i, none⟩ = some x) ∧ w.frozen? ⟨g, i, none⟩ = false := by
  obtain ⟨cs, hb, hs, _⟩ := h.ex
  exact ⟨⟨cs[i], by rw [hb.cell, Array.getElem?_eq_getElem (by omega)]⟩, hb.frozen i⟩
theorem RowTo.step {w : World} {g m k : Nat} {f : Nat → Int} {t : TypeId} (h : RowTo w g m k f t) (hi : k < m) {x : Int} (hx : x = f k) : RowTo (w.setCell ⟨g, k, none⟩ (.int .u8 x)) g m (k + 1) f t := by
  obtain ⟨cs, hb, hs, hf⟩ := h.ex
  refine ⟨_, hb.set k _, by simp [hs], fun j hj => ?_⟩
  rw [Array.getElem?_setIfInBounds]
  by_cases e : k = j
  · subst e; rw [if_pos rfl, if_pos (by omega), hx]
  · rw [if_neg e]; exact hf j (by omega)
theorem RowTo.full {w : World} {g m : Nat} {f : Nat → Int} {t : TypeId} (h : RowTo w g m m f t) : Blk w g (ints .u8 ((List.range m).map f)).toArray t := by
  obtain ⟨cs, hb, hs, hf⟩ := h.ex
  have e : cs = (ints .u8 ((List.range m).map f)).toArray := by
    apply Array.ext_getElem?
    intro j
    by_cases hj : j < m
    · rw [hf j hj]; simp [ints, hj]
    · rw [Array.getElem?_eq_none (by omega), Array.getElem?_eq_none (by simp [ints]; omega)]
  rwa [e] at hb

set_option maxHeartbeats 400000 in
theorem bytes_walk (m : Nat) (hm : m ≤ 130) (fill : Int) (w : World) :
    Calls Try.prog 13 #[.int .i64 m, .int .i64 fill] w fun e w' => e = .returned (.slice (some ⟨w.heap.size, 0, none⟩) m m) ∧ Below w.heap.size w w' ∧ Blk w' w.heap.size (ints .u8 ((List.range m).map (byteAt fill))).toArray 5 := by
  have hmk := run_make_row' (P := Try.prog) 29 5 (.int .u8 0) 1 Try.underlying29 (by kernel_rfl) rfl .i64 .i64 m (by omega) (by omega)
  go_enter Try.func13, Try.ntmps13
  go_wp2
  go_loopw [6] (fun v wr => ∃ k : Nat, k ≤ m ∧ v = .int .i64 k ∧ Below w.heap.size w wr ∧ RowTo wr w.heap.size m k (byteAt fill) 5) (fun v _ => m - (intOf v).toNat)
  case atStart =>
    exact ⟨0, Nat.zero_le _, rfl, (Below.refl _ _).alloc (Nat.le_refl _) _, ⟨_, Blk.new _ _ _, size_madeCells _ _, fun j hj => absurd hj (by omega)⟩⟩
  case round =>
    obtain ⟨k, hk, rfl, hb, hr⟩ := hrel
    by_cases hlt : k < m
    · obtain ⟨⟨x, hx⟩, hf⟩ := hr.cell hlt
      go_wp2
      go_roundw
      case rel => exact ⟨k + 1, by omega, by go_num, hb.setCell (Nat.le_refl _) _, hr.step hlt (byte_wrap fill k)⟩
      case measure => simp [intOf]; omega
    · go_wp2
      obtain rfl : k = m := by omega
      go_ret
      exact ⟨rfl, hb, hr.full⟩

set_option maxHeartbeats 400000 in
/-- A size that is none: 64. -/
theorem bytes_odd (n : Int) (hn : n < 0 ∨ 130 < n) (fill : Int) (w : World) :
    Calls Try.prog 13 #[.int .i64 n, .int .i64 fill] w fun e w' => e = .returned (.slice (some ⟨w.heap.size, 0, none⟩) 64 64) ∧ Below w.heap.size w w' ∧ Blk w' w.heap.size (ints .u8 ((List.range 64).map (byteAt fill))).toArray 5 := by
  have hmk : ∀ W : World, (Instr.makeSlice 29 (.int .i64 64) (.int .i64 64)).run Try.prog W = .ok (.slice (some ⟨W.heap.size, 0, none⟩) 64 64) (W.alloc (.cells (madeCells #[.int .u8 0] 64) 5)) :=
    run_make_row' (P := Try.prog) 29 5 (.int .u8 0) 1 Try.underlying29 (by kernel_rfl) rfl .i64 .i64 64 (by omega) (by omega)
  rcases hn with hn | hn
  all_goals
    go_enter Try.func13, Try.ntmps13
    go_wp2
    go_loopw [6] (fun v wr => ∃ k : Nat, k ≤ 64 ∧ v = .int .i64 k ∧ Below w.heap.size w wr ∧ RowTo wr w.heap.size 64 k (byteAt fill) 5) (fun v _ => 64 - (intOf v).toNat)
    case atStart =>
      exact ⟨0, Nat.zero_le _, rfl, (Below.refl _ _).alloc (Nat.le_refl _) _, ⟨_, Blk.new _ _ _, size_madeCells _ _, fun j hj => absurd hj (by omega)⟩⟩
    case round =>
      obtain ⟨k, hk, rfl, hb, hr⟩ := hrel
      by_cases hlt : k < 64
      · obtain ⟨⟨x, hx⟩, hf⟩ := hr.cell hlt
        go_wp2
        go_roundw
        case rel => exact ⟨k + 1, by omega, by go_num, hb.setCell (Nat.le_refl _) _, hr.step hlt (byte_wrap fill k)⟩
        case measure => simp [intOf]; omega
      · go_wp2
        obtain rfl : k = 64 := by omega
        go_ret
        exact ⟨rfl, hb, hr.full⟩

theorem bytes_any (n fill : Int) (w : World) :
    Calls Try.prog 13 #[.int .i64 n, .int .i64 fill] w fun e w' => e = .returned (.slice (some ⟨w.heap.size, 0, none⟩) (bytesN n) (bytesN n)) ∧ Below w.heap.size w w' ∧ Blk w' w.heap.size (ints .u8 (bytesL n fill)).toArray 5 := by
  by_cases h : n < 0 ∨ 130 < n
  · have e : bytesN n = 64 := by unfold bytesN; rw [if_pos h]
    unfold bytesL
    rw [e]
    exact bytes_odd n (by rcases h with h | h <;> omega) fill w
  · obtain ⟨m, rfl⟩ := Int.eq_ofNat_of_zero_le (show 0 ≤ n by omega)
    have e : bytesN m = m := by unfold bytesN; rw [if_neg h]; omega
    unfold bytesL
    rw [e]
    exact bytes_walk m (by omega) fill w

theorem same_more {la lb : List Int} {n k : Nat} (h1 : la.length = n) (h2 : lb.length = n) (hk : n ≤ k) (h : ∀ j, j < k → la.getD j 0 = lb.getD j 0) : la = lb := by
  apply List.ext_getElem (by omega)
  intro i hi hi'
  have := h i (by omega)
  rwa [List.getD_eq_getElem?_getD, List.getD_eq_getElem?_getD, List.getElem?_eq_getElem hi, List.getElem?_eq_getElem hi'] at this
set_option maxHeartbeats 400000 in
theorem same_walk (n : Nat) (A B : Option Addr) (ca cb : Nat) (la lb : List Int) (w : World) (ha : Rd .u8 w A la) (hb : Rd .u8 w B lb) (hla : Hid (la.length = n)) (hlb : Hid (lb.length = n)) (hn : n ≤ 9223372036854775807) :
    Calls Try.prog 15 #[.slice A n ca, .slice B n cb] w fun e w' => e = .returned (.bool (decide (la = lb))) ∧ Drawn w w' := by
  go_enter Try.func15, Try.ntmps15
  go_wp2
  go_loopw [5] (fun v wr => ∃ k : Nat, k ≤ n ∧ v = .int .i64 k ∧ Drawn w wr ∧ ∀ j, j < k → la.getD j 0 = lb.getD j 0) (fun v _ => n - (intOf v).toNat)
  case atStart => exact ⟨0, Nat.zero_le _, rfl, Drawn.refl _, fun j hj => absurd hj (by omega)⟩
  case round =>
    obtain ⟨k, hk, rfl, hd, hr⟩ := hrel
    have HR := Lib.hid hr
    clear hr
    by_cases hlt : k < n
    · obtain ⟨x, rfl, _, hx⟩ := (ha.drawn hd).at_ k (by rw [hla.out]; exact hlt)
      obtain ⟨y, rfl, _, hy⟩ := (hb.drawn hd).at_ k (by rw [hlb.out]; exact hlt)
      by_cases e : la.getD k 0 = lb.getD k 0
      · have he : (la.getD k 0 != lb.getD k 0) = false := by simpa using e
        have HN : Hid (∀ j, j < k + 1 → la.getD j 0 = lb.getD j 0) := fun j hj => by
          rcases Nat.lt_or_ge j k with h | h
          · exact HR.out j h
          · obtain rfl : j = k := by omega
            exact e
        generalize la.getD k 0 = p at *
        generalize lb.getD k 0 = q at *
        clear e
        go_wp2
        go_quiet (fail)
        go_wp2
        go_roundw
        case rel => exact ⟨k + 1, by omega, by go_num, hd.drewN _, HN⟩
        case measure => simp [intOf]; omega
      · have he : (la.getD k 0 != lb.getD k 0) = true := by simpa using e
        have HN : Hid (la ≠ lb) := fun h => e (by rw [h])
        generalize la.getD k 0 = p at *
        generalize lb.getD k 0 = q at *
        clear e
        go_wp2
        go_quiet (fail)
        go_wp2
        go_ret
        exact ⟨bb (decide_eq_false HN.out).symm, hd.drewN _⟩
    · go_wp2
      go_ret
      exact ⟨bb (decide_eq_true (same_more hla.out hlb.out (by omega) HR.out)).symm, hd⟩
theorem same_any (A B : Option Addr) (ca cb : Nat) (la lb : List Int) (w : World) (ha : Rd .u8 w A la) (hb : Rd .u8 w B lb) (hla : la.length ≤ 9223372036854775807) (hlb : lb.length ≤ 9223372036854775807) :
    Calls Try.prog 15 #[.slice A la.length ca, .slice B lb.length cb] w fun e w' => e = .returned (.bool (decide (la = lb))) ∧ Drawn w w' := by
  by_cases hl : la.length = lb.length
  · rw [← hl]
    exact same_walk la.length A B ca cb la lb w ha hb (Lib.hid rfl) (Lib.hid hl.symm) hla
  · have hl' : ((la.length : Int) != (lb.length : Int)) = true := by rw [bne_iff_ne]; omega
    go_enter Try.func15, Try.ntmps15
    go_wp2
    go_ret
    exact ⟨bb (decide_eq_false (fun e => hl (by rw [e]))).symm, Drawn.refl _⟩

end Go.Proofs.Ytdmkphalihdmlaa
