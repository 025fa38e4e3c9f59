/- SameBytes; awake. -/
import Derived.Test.YtmhcjkiaogimgaaWirN
import Derived.Test.YtmhcjkiaogimgaaIee
import Derived.BigQuiet
namespace Go.Proofs.Ytmhcjkiaogimgaa
open Go.RowKit

theorem same_more {la lb : List Int} {n k : Nat} (h1 : la.length = n) (h2 : lb.length = n) (hk : n ≤ k) (h : ∀ j, j < k → la.getD j 0 = lb.getD j 0) : la = lb := by
  apply List.ext_getElem (by omega)
  intro i hi hi'
  have := h i (by omega)
  rwa [List.getD_eq_getElem?_getD, List.getD_eq_getElem?_getD, List.getElem?_eq_getElem hi, List.getElem?_eq_getElem hi'] at this
set_option maxHeartbeats 400000 in
theorem same_walk (n : Nat) (A B : Option Addr) (ca cb : Nat) (la lb : List Int) (w : World) (ha : Rd .u8 w A la) (hb : Rd .u8 w B lb) (hla : Hid (la.length = n)) (hlb : Hid (lb.length = n)) (hn : n ≤ 9223372036854775807) :
    Calls Try.prog 17 #[.slice A n ca, .slice B n cb] w fun e w' => e = .returned (.bool (decide (la = lb))) ∧ Drawn w w' := by
  go_enter Try.func17, Try.ntmps17
  go_wp2
  go_loopw [5] (fun v wr => ∃ k : Nat, k ≤ n ∧ v = .int .i64 k ∧ Drawn w wr ∧ ∀ j, j < k → la.getD j 0 = lb.getD j 0) (fun v _ => n - (intOf v).toNat)
  case atStart => exact ⟨0, Nat.zero_le _, rfl, Drawn.refl _, fun j hj => absurd hj (by omega)⟩
  case round =>
    obtain ⟨k, hk, rfl, hd, hr⟩ := hrel
    have HR := Lib.hid hr
    clear hr
    by_cases hlt : k < n
    · obtain ⟨x, rfl, _, hx⟩ := (ha.drawn hd).at_ k (by rw [hla.out]; exact hlt)
      obtain ⟨y, rfl, _, hy⟩ := (hb.drawn hd).at_ k (by rw [hlb.out]; exact hlt)
      by_cases e : la.getD k 0 = lb.getD k 0
      · have he : (la.getD k 0 != lb.getD k 0) = false := by simpa using e
        have HN : Hid (∀ j, j < k + 1 → la.getD j 0 = lb.getD j 0) := fun j hj => by
          rcases Nat.lt_or_ge j k with h | h
          · exact HR.out j h
          · obtain rfl : j = k := by omega
            exact e
        generalize la.getD k 0 = p at *
        generalize lb.getD k 0 = q at *
        clear e
        go_wp2
        go_quiet (fail)
        go_wp2
        go_roundw
        case rel => exact ⟨k + 1, by omega, by go_num, hd.drewN _, HN⟩
        case measure => simp [intOf]; omega
      · have he : (la.getD k 0 != lb.getD k 0) = true := by simpa using e
        have HN : Hid (la ≠ lb) := fun h => e (by rw [h])
        generalize la.getD k 0 = p at *
        generalize lb.getD k 0 = q at *
        clear e
        go_wp2
        go_quiet (fail)
        go_wp2
        go_ret
        exact ⟨bb (decide_eq_false HN.out).symm, hd.drewN _⟩
    · go_wp2
      go_ret
      exact ⟨bb (decide_eq_true (same_more hla.out hlb.out (by omega) HR.out)).symm, hd⟩
theorem same_any (A B : Option Addr) (ca cb : Nat) (la lb : List Int) (w : World) (ha : Rd .u8 w A la) (hb : Rd .u8 w B lb) (hla : la.length ≤ 9223372036854775807) (hlb : lb.length ≤ 9223372036854775807) :
    Calls Try.prog 17 #[.slice A la.length ca, .slice B lb.length cb] w fun e w' => e = .returned (.bool (decide (la = lb))) ∧ Drawn w w' := by
  by_cases hl : la.length = lb.length
  · rw [← hl]
    exact same_walk la.length A B ca cb la lb w ha hb (Lib.hid rfl) (Lib.hid hl.symm) hla
  · have hl' : ((la.length : Int) != (lb.length : Int)) = true := by rw [bne_iff_ne]; omega
    go_enter Try.func17, Try.ntmps17
    go_wp2
    go_ret
    exact ⟨bb (decide_eq_false (fun e => hl (by rw [e]))).symm, Drawn.refl _⟩

theorem rd_of_own {w : World} {base c : Nat} {A : Option Addr} {l : List Int} (h : w.ownsRow base 5 1 (.slice A l.length c) l.length (bvals l)) : Rd .u8 w A l :=
  ⟨fun j hj => (RdV.of_own h).at_ j _ (bvals_get l j hj)⟩
def flush : MsgD := ⟨4, 1, 2, 0, 4613937818241073152, 4616189618054758400, 5, 0, OpD.zero, [], []⟩
theorem flush_mark : MV flush.ma flush.mb 3 4 :=
  ⟨by rw [show flush.ma = FloatKind.f64.nearest 3 by decide]; exact val_nearest 3 (by omega), by rw [show flush.mb = FloatKind.f64.nearest 4 by decide]; exact val_nearest 4 (by omega), by omega, by omega⟩
theorem flush_ok : flush.ok = true := by simp [flush, MsgD.ok, MsgD.nums, okIn, okN]
theorem flush_enc : flush.encL 3 4 = [4, 1, 2, 0, 3, 4, 5, 0] := by
  rw [MsgD.encL, flush_ok]
  simp [flush, MsgD.enc, MsgD.rest, vbs, vb_small]
theorem flush_err : flush.encE = 0 := by rw [MsgD.encE, flush_ok]; rfl

set_option maxHeartbeats 1000000 in
theorem awake_any (w : World) : Calls Try.prog 18 #[] w fun e w' => e = .returned (.bool true) ∧ Below w.heap.size w w' := by
  go_enter Try.func18, Try.ntmps18
  go_wp2_with fail
  refine (encode_yes flush ⟨none, 0, none, 0⟩ _ _ ⟨⟨rfl⟩, RowsAt.nil _ _ _, RowsAt.nil _ _ _⟩ 3 4 flush_mark).mono ?_
  rw [flush_enc, flush_err]
  rintro e w1 ⟨A, c, rfl, o1, b1⟩
  have r1 := rd_of_own o1
  have HB := Lib.hid b1
  clear o1 b1
  go_wp2_with fail
  refine (same_any A (some ⟨w1.heap.size, 0, none⟩) c 8 [4, 1, 2, 0, 3, 4, 5, 0] [4, 1, 2, 0, 3, 4, 5, 0] _ (r1.below (bel_al (Below.refl _ _) _)) ((Blk.new w1 _ _).rd 0 (fun j hj => by
    rw [Nat.zero_add]
    exact (List.getElem?_toArray).trans (ints_get .u8 [4, 1, 2, 0, 3, 4, 5, 0] j hj))) (by simp) (by simp)).mono ?_
  rintro e w2 ⟨rfl, d2⟩
  have hB2 := bel_next (bel_al HB.out (.cells #[.int .u8 4, .int .u8 1, .int .u8 2, .int .u8 0, .int .u8 3, .int .u8 4, .int .u8 5, .int .u8 0] 5)) (d2.below _)
  go_wp2_with fail
  go_ret
  exact ⟨rfl, hB2⟩

end Go.Proofs.Ytmhcjkiaogimgaa
