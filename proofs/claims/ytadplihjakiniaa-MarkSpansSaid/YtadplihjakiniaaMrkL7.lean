/- MarkLasts: the walk. -/
import Derived.Test.YtadplihjakiniaaMrkI
namespace Go.Proofs.Ytadplihjakiniaa
open Go.RowKit

theorem quarts_length (ps : List (Int × Int)) : (quarts ps).length = ps.length := by simp [quarts]
/-- nums, as a law meets it. -/
def Nums (w : World) (len : Nat) (zs : List (Nat × Nat)) (r : Ending) (w' : World) : Prop :=
  ∃ A c, r = .returned (.slice A len c) ∧ Cs w' A zs ∧ Below w.heap.size w w'
theorem nums_cs (A : Option Addr) (len cap : Nat) (ps : List (Int × Int)) (w : World) (h : ArgPairs w A len ps) (hlen : len * 16 ≤ 140737488351232) :
    Calls Try.prog 32 #[.slice A len cap] w (Nums w len (quarts ps)) :=
  (nums_any A len cap ps w h hlen).mono fun r w' ⟨A', c, hr, ho, hb⟩ => ⟨A', c, hr, Cs.of (RdV.of_own ho), hb⟩

theorem lasts_any (A : Option Addr) (len cap : Nat) (ps : List (Int × Int)) {W : World} (h : ArgPairs W A len ps) (hlen : len * 16 ≤ 140737488351232) :
    Calls Try.prog 11 #[.slice A len cap] W fun r w' => r = .returned (.bool true) ∧ Below W.heap.size W w' := by
  have hz : (quarts ps).length ≤ 8796093022207 := by rw [quarts_length, h.length]; omega
  obtain ⟨zs, hzs⟩ : ∃ zs, zs = quarts ps := ⟨_, rfl⟩
  have hl : zs.length = len := by rw [hzs, quarts_length, h.length]
  rw [← hzs] at hz
  have N : ∀ w, Below W.heap.size W w → Calls Try.prog 32 #[.slice A zs.length cap] w (Nums w zs.length zs) := fun w hb => by
    rw [hl, hzs]; exact nums_cs A len cap ps w (h.below hb) hlen
  have HN := Lib.hid N
  subst hl
  clear N hzs
  go_enter Try.func11, Try.ntmps11
  go_wp2_with fail
  refine (HN.out _ (Below.refl _ _)).mono ?_
  rintro r w1 ⟨A1, c1, rfl, C1, b1⟩
  go_wp2_with fail
  refine (last_any A1 c1 zs hz w1 C1).mono ?_
  rintro r w' ⟨o1, x1, y1, rfl, l1, s1, rfl⟩
  go_wp2_with fail
  refine (HN.out _ b1).mono ?_
  rintro r w2 ⟨A2, c2, rfl, C2, b2⟩
  have B2 := bel_next b1 b2
  go_wp2_with fail
  refine (rlast_any A2 c2 zs hz w2 C2).mono ?_
  rintro r w3 ⟨o2, x2, y2, rfl, l2, s2, d3⟩
  obtain rfl := isLast_same l1 l2 (fun _ => Iff.rfl)
  obtain ⟨q1, q2⟩ := st_same s1 s2
  have B3 := bel_next B2 (d3.below _)
  have hoo : (o1.isSome == o1.isSome) = true := by simp
  clear l1 l2 s1 s2 b1 b2 B2 d3
  generalize o1.isSome = ok at *
  go_wp2_with fail
  refine (HN.out _ B3).mono ?_
  rintro r w4 ⟨A4, c4, rfl, C4, b4⟩
  have B4 := bel_next B3 b4
  go_wp2_with fail
  refine (span_any A4 c4 zs hz w4 C4).mono ?_
  rintro r w' ⟨x3, y3, e, n, rfl, v1, v2, p1, p2, rfl⟩
  go_wp2_with fail
  refine (HN.out _ B4).mono ?_
  rintro r w5 ⟨A5, c5, rfl, C5, b5⟩
  have B5 := bel_next B4 b5
  go_wp2_with fail
  refine (rspan_any A5 c5 zs hz w5 C5).mono ?_
  rintro r w' ⟨x4, y4, e', n', rfl, v3, v4, p3, p4, rfl⟩
  obtain rfl := span_same p1 p3 (fun _ => Iff.rfl)
  obtain rfl := span_same p2 p4 (fun _ => Iff.rfl)
  have q3 := ord_eq v1 v3
  have q4 := ord_eq v2 v4
  clear p1 p2 p3 p4 v1 v2 v3 v4
  go_wp2_with fail
  refine (awake_any _).mono ?_
  rintro r w' ⟨rfl, rfl⟩
  go_wp2_with fail
  go_ret
  exact ⟨rfl, B5⟩

end Go.Proofs.Ytadplihjakiniaa
