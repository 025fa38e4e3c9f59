/- The document's same. -/
import Derived.Test.YtmhcjkiaogimgaaDrF
import Derived.Test.YtmhcjkiaogimgaaLwA
import Derived.BigQuiet
namespace Go.Proofs.Ytmhcjkiaogimgaa
open Go.RowKit

set_option maxHeartbeats 400000 in
theorem dsame_walk (n : Nat) (A B : Option Addr) (ca cb : Nat) (la lb : List Int) (w : World) (ha : Rd .u8 w A la) (hb : Rd .u8 w B lb) (hla : Hid (la.length = n)) (hlb : Hid (lb.length = n)) (hn : n ≤ 9223372036854775807) :
    Calls Try.prog 53 #[.slice A n ca, .slice B n cb] w fun e w' => e = .returned (.bool (decide (la = lb))) ∧ Drawn w w' := by
  go_enter Try.func53, Try.ntmps53
  go_wp2
  go_loopw [5] (fun v wr => ∃ k : Nat, k ≤ n ∧ v = .int .i64 k ∧ Drawn w wr ∧ ∀ j, j < k → la.getD j 0 = lb.getD j 0) (fun v _ => n - (intOf v).toNat)
  case atStart => exact ⟨0, Nat.zero_le _, rfl, Drawn.refl _, fun j hj => absurd hj (by omega)⟩
  case round =>
    obtain ⟨k, hk, rfl, hd, hr⟩ := hrel
    have HR := Lib.hid hr
    clear hr
    by_cases hlt : k < n
    · obtain ⟨x, rfl, _, hx⟩ := (ha.drawn hd).at_ k (by rw [hla.out]; exact hlt)
      obtain ⟨y, rfl, _, hy⟩ := (hb.drawn hd).at_ k (by rw [hlb.out]; exact hlt)
      by_cases e : la.getD k 0 = lb.getD k 0
      · have he : (la.getD k 0 != lb.getD k 0) = false := by simpa using e
        have HN : Hid (∀ j, j < k + 1 → la.getD j 0 = lb.getD j 0) := fun j hj => by
          rcases Nat.lt_or_ge j k with h | h
          · exact HR.out j h
          · obtain rfl : j = k := by omega
            exact e
        generalize la.getD k 0 = p at *
        generalize lb.getD k 0 = q at *
        clear e
        go_wp2
        go_quiet (fail)
        go_wp2
        go_roundw
        case rel => exact ⟨k + 1, by omega, by go_num, hd.drewN _, HN⟩
        case measure => simp [intOf]; omega
      · have he : (la.getD k 0 != lb.getD k 0) = true := by simpa using e
        have HN : Hid (la ≠ lb) := fun h => e (by rw [h])
        generalize la.getD k 0 = p at *
        generalize lb.getD k 0 = q at *
        clear e
        go_wp2
        go_quiet (fail)
        go_wp2
        go_ret
        exact ⟨bb (decide_eq_false HN.out).symm, hd.drewN _⟩
    · go_wp2
      go_ret
      exact ⟨bb (decide_eq_true (same_more hla.out hlb.out (by omega) HR.out)).symm, hd⟩
theorem dsame_any (A B : Option Addr) (ca cb : Nat) (la lb : List Int) (w : World) (ha : Rd .u8 w A la) (hb : Rd .u8 w B lb) (hla : la.length ≤ 9223372036854775807) (hlb : lb.length ≤ 9223372036854775807) :
    Calls Try.prog 53 #[.slice A la.length ca, .slice B lb.length cb] w fun e w' => e = .returned (.bool (decide (la = lb))) ∧ Drawn w w' := by
  by_cases hl : la.length = lb.length
  · rw [← hl]
    exact dsame_walk la.length A B ca cb la lb w ha hb (Lib.hid rfl) (Lib.hid hl.symm) hla
  · have hl' : ((la.length : Int) != (lb.length : Int)) = true := by rw [bne_iff_ne]; omega
    go_enter Try.func53, Try.ntmps53
    go_wp2
    go_ret
    exact ⟨bb (decide_eq_false (fun e => hl (by rw [e]))).symm, Drawn.refl _⟩


theorem unp_doc {l : List Int} {n : NoteD} {st : Option (List Int)} (hl : isB l) (h : Read (gnote dnum dtxt) (some l) n st) : unp l = if st = some [] ∧ n.ok = true ∧ l = n.enc then some n else none := by
  cases hu : unp l with
  | some y =>
    obtain ⟨hy, he⟩ := unp_back hl hu
    have hr := reads_d.note y [] hy
    rw [List.append_nil, he] at hr
    rw [Read, hr] at h
    obtain ⟨rfl, h2⟩ := h
    rw [if_pos ⟨h2, hy, he.symm⟩]
  | none =>
    split
    · rename_i hc
      rw [hc.2.2, unp_enc hc.2.1] at hu
      cases hu
    · rfl

end Go.Proofs.Ytmhcjkiaogimgaa
