/- Place and SameBytes: what each answers; rows of bytes that fill up. -/
import Derived.Test.YtmliiggieclbeaaRows
import Derived.Test.YtmliiggieclbeaaMem
import Derived.StillTailTactics
import Derived.Deep.QuietTactic
import Derived.BigQuiet
import Derived.Deep.OwnRows
namespace Go.Proofs.Ytmliiggieclbeaa
open Go.RowKit

theorem tmod_wrap {v n : Int} (h0 : 0 < n) (hn : n ≤ 4294967296) (h : v.tmod n < 0) : wrap64 (v.tmod n + n) = v % n := by
  have h1 := Int.tmod_lt_of_pos v h0
  have h3 : v.tmod n + n = v % n := by
    rw [Int.tmod_eq_emod] at h ⊢
    have := Int.emod_nonneg v (show n ≠ 0 by omega)
    split at h
    · omega
    · rename_i hc
      rw [if_neg hc]; omega
  rw [h3]
  have := Int.emod_nonneg v (show n ≠ 0 by omega)
  have := Int.emod_lt_of_pos v h0
  unfold wrap64; omega
theorem tmod_pos {v n : Int} (h0 : 0 < n) (h : 0 ≤ v.tmod n) : v.tmod n = v % n := by
  rw [Int.tmod_eq_emod] at h ⊢
  have := Int.emod_nonneg v (show n ≠ 0 by omega)
  have := Int.emod_lt_of_pos v h0
  have e : (n.natAbs : Int) = n := by omega
  split <;> simp_all <;> omega

set_option maxHeartbeats 400000 in
theorem place_any (v n : Int) (w : World) (h0 : 0 < n) (hn : n ≤ 4294967296) :
    Calls Try.prog 21 #[.int .i64 v, .int .i64 n] w fun e w' => e = .returned (.int .i64 (v % n)) ∧ w = w' := by
  go_enter Try.func21, Try.ntmps21
  go_wp2
  · go_ret
    rename_i h
    exact ⟨bv (tmod_wrap h0 hn h), rfl⟩
  · go_ret
    rename_i h
    exact ⟨bv (tmod_pos h0 h), rfl⟩

theorem wrap64_mod (x : Int) : wrap64 x % 256 = x % 256 := by unfold wrap64; omega
/-- What a row of bytes holds behind k rounds. -/
structure RowTo (w : World) (g m k : Nat) (f : Nat → Int) (t : TypeId) : Prop where
  ex : ∃ cs, Blk w g cs t ∧ cs.size = m ∧ ∀ j, j < k → cs[j]? = some (.int .u8 (f j))
theorem RowTo.cell {w : World} {g m k : Nat} {f : Nat → Int} {t : TypeId} (h : RowTo w g m k f t) {i : Nat} (hi : i < m) : (∃ x, w.cell? ⟨g, i, none⟩ = some x) ∧ w.frozen? ⟨g, i, none⟩ = false := by
  obtain ⟨cs, hb, hs, _⟩ := h.ex
  exact ⟨⟨cs[i], by rw [hb.cell, Array.getElem?_eq_getElem (by omega)]⟩, hb.frozen i⟩
theorem RowTo.step {w : World} {g m k : Nat} {f : Nat → Int} {t : TypeId} (h : RowTo w g m k f t) (hi : k < m) {x : Int} (hx : x = f k) : RowTo (w.setCell ⟨g, k, none⟩ (.int .u8 x)) g m (k + 1) f t := by
  obtain ⟨cs, hb, hs, hf⟩ := h.ex
  refine ⟨_, hb.set k _, by simp [hs], fun j hj => ?_⟩
  rw [Array.getElem?_setIfInBounds]
  by_cases e : k = j
  · subst e; rw [if_pos rfl, if_pos (by omega), hx]
  · rw [if_neg e]; exact hf j (by omega)
theorem RowTo.full {w : World} {g m : Nat} {f : Nat → Int} {t : TypeId} (h : RowTo w g m m f t) : Blk w g (ints .u8 ((List.range m).map f)).toArray t := by
  obtain ⟨cs, hb, hs, hf⟩ := h.ex
  have e : cs = (ints .u8 ((List.range m).map f)).toArray := by
    apply Array.ext_getElem?
    intro j
    by_cases hj : j < m
    · rw [hf j hj]; simp [ints, hj]
    · rw [Array.getElem?_eq_none (by omega), Array.getElem?_eq_none (by simp [ints]; omega)]
  rwa [e] at hb

theorem same_more {la lb : List Int} {n k : Nat} (h1 : la.length = n) (h2 : lb.length = n) (hk : n ≤ k) (h : ∀ j, j < k → la.getD j 0 = lb.getD j 0) : la = lb := by
  apply List.ext_getElem (by omega)
  intro i hi hi'
  have := h i (by omega)
  rwa [List.getD_eq_getElem?_getD, List.getD_eq_getElem?_getD, List.getElem?_eq_getElem hi, List.getElem?_eq_getElem hi'] at this
set_option maxHeartbeats 400000 in
theorem same_walk (n : Nat) (A B : Option Addr) (ca cb : Nat) (la lb : List Int) (w : World) (ha : Rd .u8 w A la) (hb : Rd .u8 w B lb) (hla : Hid (la.length = n)) (hlb : Hid (lb.length = n)) (hn : n ≤ 9223372036854775807) :
    Calls Try.prog 25 #[.slice A n ca, .slice B n cb] w fun e w' => e = .returned (.bool (decide (la = lb))) ∧ Drawn w w' := by
  go_enter Try.func25, Try.ntmps25
  go_wp2
  go_loopw [5] (fun v wr => ∃ k : Nat, k ≤ n ∧ v = .int .i64 k ∧ Drawn w wr ∧ ∀ j, j < k → la.getD j 0 = lb.getD j 0) (fun v _ => n - (intOf v).toNat)
  case atStart => exact ⟨0, Nat.zero_le _, rfl, Drawn.refl _, fun j hj => absurd hj (by omega)⟩
  case round =>
    obtain ⟨k, hk, rfl, hd, hr⟩ := hrel
    have HR := Lib.hid hr
    clear hr
    by_cases hlt : k < n
    · obtain ⟨x, rfl, _, hx⟩ := (ha.drawn hd).at_ k (by rw [hla.out]; exact hlt)
      obtain ⟨y, rfl, _, hy⟩ := (hb.drawn hd).at_ k (by rw [hlb.out]; exact hlt)
      by_cases e : la.getD k 0 = lb.getD k 0
      · have he : (la.getD k 0 != lb.getD k 0) = false := by simpa using e
        have HN : Hid (∀ j, j < k + 1 → la.getD j 0 = lb.getD j 0) := fun j hj => by
          rcases Nat.lt_or_ge j k with h | h
          · exact HR.out j h
          · obtain rfl : j = k := by omega
            exact e
        generalize la.getD k 0 = p at *
        generalize lb.getD k 0 = q at *
        clear e
        go_wp2
        go_quiet (fail)
        go_wp2
        go_roundw
        case rel => exact ⟨k + 1, by omega, by go_num, hd.drewN _, HN⟩
        case measure => simp [intOf]; omega
      · have he : (la.getD k 0 != lb.getD k 0) = true := by simpa using e
        have HN : Hid (la ≠ lb) := fun h => e (by rw [h])
        generalize la.getD k 0 = p at *
        generalize lb.getD k 0 = q at *
        clear e
        go_wp2
        go_quiet (fail)
        go_wp2
        go_ret
        exact ⟨bb (decide_eq_false HN.out).symm, hd.drewN _⟩
    · go_wp2
      go_ret
      exact ⟨bb (decide_eq_true (same_more hla.out hlb.out (by omega) HR.out)).symm, hd⟩
theorem same_any (A B : Option Addr) (ca cb : Nat) (la lb : List Int) (w : World) (ha : Rd .u8 w A la) (hb : Rd .u8 w B lb) (hla : la.length ≤ 9223372036854775807) (hlb : lb.length ≤ 9223372036854775807) :
    Calls Try.prog 25 #[.slice A la.length ca, .slice B lb.length cb] w fun e w' => e = .returned (.bool (decide (la = lb))) ∧ Drawn w w' := by
  by_cases hl : la.length = lb.length
  · rw [← hl]
    exact same_walk la.length A B ca cb la lb w ha hb (Lib.hid rfl) (Lib.hid hl.symm) hla
  · have hl' : ((la.length : Int) != (lb.length : Int)) = true := by rw [bne_iff_ne]; omega
    go_enter Try.func25, Try.ntmps25
    go_wp2
    go_ret
    exact ⟨bb (decide_eq_false (fun e => hl (by rw [e]))).symm, Drawn.refl _⟩

end Go.Proofs.Ytmliiggieclbeaa
