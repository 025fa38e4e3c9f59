/- Bytes looked at again: the walk of Back. -/
import Derived.Test.YtdmkphalihdmlaaBlkE
import Derived.Deep.QuietTactic
import Derived.BigQuiet
namespace Go.Proofs.Ytdmkphalihdmlaa
open Go.RowKit

set_option maxHeartbeats 1000000 in
theorem back_any (g o c g2 o2 c2 n : Nat) (l : List Int) (w : World) (hl : l.length = n) (hn : n ≤ 1000000)
    (h1 : ∀ j, j < n → w.cell? ⟨g, o + j, none⟩ = some (.int .u8 (l.getD j 0))) (h2 : ∀ j, j < n → w.cell? ⟨g2, o2 + j, none⟩ = some (.int .u8 (l.getD j 0)))
    (h3 : ∀ j, j < 70 → w.cell? ⟨g2, o2 + (n + j), none⟩ = some (.int .u8 (101 + (j : Int)))) :
    Calls Try.prog 17 #[.slice (some ⟨g, o, none⟩) n c, .slice (some ⟨g2, o2, none⟩) (n + 70) c2] w fun r w' => r = .returned (.bool true) ∧ Drawn w w' := by
  have H1 := Lib.hid h1
  have H2 := Lib.hid h2
  have H3 := Lib.hid h3
  clear h1 h2 h3
  go_enter Try.func17, Try.ntmps17
  go_wp2_with fail
  go_loopw [5] (fun v wr => ∃ i : Nat, i ≤ n + 70 ∧ v = .int .i64 i ∧ Drawn w wr) (fun v _ => n + 70 - (intOf v).toNat)
  case atStart => exact ⟨0, by omega, rfl, Drawn.refl _⟩
  case round =>
    obtain ⟨i, hi, rfl, hd⟩ := hrel
    by_cases hlt : i < n + 70
    · by_cases hin : i < n
      · have k1 := H1.out i hin
        have k2 := H2.out i hin
        have d2 : decide (n ≤ i) = false := decide_eq_false (by omega)
        have k3 : wr.cell? ⟨g, o + i, none⟩ = some (.int .u8 (l.getD i 0)) := by obtain ⟨m, rfl⟩ := hd.ex; exact k1
        have k4 : wr.cell? ⟨g2, o2 + i, none⟩ = some (.int .u8 (l.getD i 0)) := by obtain ⟨m, rfl⟩ := hd.ex; exact k2
        clear k1 k2
        generalize l.getD i 0 = v at *
        go_wp2_with fail
        go_quiet (fail)
        go_wp2_with fail
        go_roundw
        case rel => exact ⟨i + 1, by omega, by go_num, hd.drewN _⟩
        case measure => simp [intOf]; omega
      · have k2 := H3.out (i - n) (by omega)
        have k4 : wr.cell? ⟨g2, o2 + i, none⟩ = some (.int .u8 (101 + (i : Int) - (n : Int))) := by
          rw [show n + (i - n) = i by omega, show (101 : Int) + ((i - n : Nat) : Int) = 101 + (i : Int) - (n : Int) by omega] at k2
          obtain ⟨m, rfl⟩ := hd.ex; exact k2
        clear k2
        have d1 : decide (i < n) = false := decide_eq_false (by omega)
        have d2 : decide (n ≤ i) = true := decide_eq_true (by omega)
        have hwr : IntKind.u8.wrap (101 + (i : Int) - (n : Int)) = 101 + (i : Int) - (n : Int) := by
          unfold IntKind.wrap
          simp [IntKind.signed, IntKind.bits]
          omega
        go_wp2_with fail
        go_quiet (fail)
        go_wp2_with fail
        go_roundw
        case rel => exact ⟨i + 1, by omega, by go_num, hd.drewN _⟩
        case measure => simp [intOf]; omega
    · go_wp2_with fail
      go_ret
      exact ⟨rfl, hd⟩

end Go.Proofs.Ytdmkphalihdmlaa
