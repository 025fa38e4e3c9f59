/- Bytes lent and looked at again: the walks of CopyBytes and Lend. -/
import Derived.Test.YtdmkphalihdmlaaBlkD
import Derived.Test.YtdmkphalihdmlaaMem2
namespace Go.Proofs.Ytdmkphalihdmlaa
open Go.RowKit

def bvals (l : List Int) : List Value := l.map (Value.int .u8)
theorem bvals_append (a b : List Int) : bvals (a ++ b) = bvals a ++ bvals b := by simp [bvals]
theorem bvals_length (l : List Int) : (bvals l).length = l.length := by simp [bvals]
theorem binfo : (Try.prog.info? 5).map (fun i => (i.zero.map (fun z => z.cells.size), i.size, i.bytes)) = some (some 1, 1, 1) := by kernel_rfl

def CopyPost (w : World) (l : List Int) (r : Ending) (w' : World) : Prop :=
  ∃ A c, r = .returned (.slice A l.length c) ∧ w'.ownsRow w.heap.size 5 1 (.slice A l.length c) l.length (bvals l) ∧ Below w.heap.size w w'
theorem copybytes_any (a : Addr) (cap : Nat) (l : List Int) (w : World) (h : ∀ j u, (bvals l)[j]? = some u → w.cell? (a.add j) = some u) (hl : l.length ≤ 140737488351232) :
    Calls Try.prog 34 #[.slice (some a) l.length cap] w (CopyPost w l) := by
  obtain ⟨v', w2, hr, ho, hg⟩ := append_run (P := Try.prog) (w := w) 29 Try.underlying29 binfo (by omega) (own_none w w.heap.size 5 1)
    (news := bvals l) (a := a) (m := l.length) (c := cap) (by rw [bvals_length, Nat.mul_one]) h
    (fun u hu => by simp [bvals] at hu; obtain ⟨x, _, rfl⟩ := hu; rfl) (by omega) (by omega) (Nat.le_refl _)
  rw [Nat.zero_add, List.nil_append] at ho
  obtain ⟨A2, c2, rfl⟩ := own_form ho
  have hB : Below w.heap.size w w2 := (Below.refl _ _).grown hg (Nat.le_refl _) (fun k hk => by cases hk)
  have HO := Lib.hid ho
  clear ho hg
  go_enter Try.func34, Try.ntmps34
  go_wp2_with (at_builtin; refine wpList_append_run rfl _ _ _ _ rfl _ _ _ rfl rfl hr ?_)
  go_ret
  exact ⟨A2, c2, rfl, HO.out, hB⟩

theorem own_some {w : World} {base n c : Nat} {e : TypeId} {size : Nat} {A : Option Addr} {vs : List Value} (h : w.ownsRow base e size (.slice A n c) n vs) (hn : 0 < n) : ∃ g, A = some ⟨g, 0, none⟩ ∧ n ≤ c := by
  obtain ⟨hl, hv⟩ := h
  rcases hv with ⟨he, h0⟩ | ⟨g, cap, cur, he, _, _, h2, _⟩
  · injection he with h1 h2 h3; omega
  · injection he with h1 h3 h4
    subst h1; subst h4
    exact ⟨g, rfl, by omega⟩
/-- The marks behind lent bytes. -/
def marks70 (i : Nat) : List Int := (List.range i).map fun (j : Nat) => (101 : Int) + (j : Int)
theorem marks70_length (i : Nat) : (marks70 i).length = i := by simp [marks70]
theorem marks70_snoc (i : Nat) : marks70 (i + 1) = marks70 i ++ [101 + (i : Int)] := by simp [marks70, List.range_succ]

def LendPost (w : World) (l : List Int) (r : Ending) (w' : World) : Prop :=
  ∃ A c, r = .returned (.tuple #[.slice A l.length c, .slice A (l.length + 70) c]) ∧ w'.ownsRow w.heap.size 5 1 (.slice A (l.length + 70) c) (l.length + 70) (bvals (l ++ marks70 70)) ∧ Below w.heap.size w w'

set_option maxHeartbeats 1000000 in
theorem lend_any (a : Addr) (cap : Nat) (l : List Int) (w : World) (h : ∀ j u, (bvals l)[j]? = some u → w.cell? (a.add j) = some u) (hl : l.length ≤ 1000000) :
    Calls Try.prog 16 #[.slice (some a) l.length cap] w (LendPost w l) := by
  go_enter Try.func16, Try.ntmps16
  go_wp2_with fail
  refine (copybytes_any a cap l w h (by omega)).mono ?_
  rintro r w1 ⟨A1, c1, rfl, o1, b1⟩
  obtain ⟨L, hL⟩ : ∃ L, L = l.length := ⟨_, rfl⟩
  rw [← hL] at o1 hl
  rw [← hL]
  have HL := Lib.hid hL
  clear hL h
  go_wp2_with fail
  go_loopw [4, 5] (fun v4 v5 wr => ∃ i n : Nat, i ≤ 70 ∧ Hid (n = L + i) ∧ v5 = .int .i64 i ∧ ∃ A' c', v4 = .slice A' n c' ∧ wr.ownsRow w.heap.size 5 1 (.slice A' n c') n (bvals (l ++ marks70 i)) ∧ Below w.heap.size w wr) (fun _ v _ => 70 - (intOf v).toNat)
  case atStart => exact ⟨0, L, by omega, Lib.hid rfl, rfl, A1, c1, rfl, by rw [show marks70 0 = [] from rfl, List.append_nil]; exact o1, b1⟩
  case round =>
    obtain ⟨i, n, hi, hn, rfl, A', c', rfl, hown, hb⟩ := hrel
    by_cases hlt : i < 70
    · have hzz := hb.size
      have hnn : n ≤ 1000070 := by have := hn.out; omega
      have hwr : IntKind.u8.wrap (101 + (i : Int)) = 101 + (i : Int) := by
        unfold IntKind.wrap
        simp [IntKind.signed, IntKind.bits]
        omega
      obtain ⟨v', w2, hr, ho, hgr⟩ := append_run (P := Try.prog) (w := wr.alloc (.cells #[.int .u8 (101 + (i : Int))] 5)) 29 Try.underlying29 binfo (by omega) (own_below hown ((Below.refl _ _).alloc (Nat.le_refl _) _))
        (news := [.int .u8 (101 + (i : Int))]) (a := ⟨wr.heap.size, 0, none⟩) (m := 1) (c := 1) rfl
        (fun j u hu => by
          rw [Addr.add_mid, Nat.zero_add, (Blk.new wr _ _).cell]
          simpa using hu)
        (fun u hu => by simp at hu; subst hu; rfl) (by omega) (by omega) (by simp; omega)
      obtain ⟨A2, c2, rfl⟩ := own_form ho
      have hB2 : Below w.heap.size w w2 := (hb.alloc (by omega) _).grown hgr (by simp; omega) (own_ge hown)
      have hO2 : w2.ownsRow w.heap.size 5 1 (.slice A2 (n + 1) c2) (n + 1) (bvals (l ++ marks70 (i + 1))) := by
        rw [marks70_snoc, ← List.append_assoc, bvals_append]; exact ho
      have HO := Lib.hid hO2
      clear ho hO2 hown hgr hzz hb
      go_wp2_with (at_builtin; refine wpList_append_run rfl _ _ _ _ rfl _ _ _ rfl rfl hr ?_)
      go_roundw
      case rel => exact ⟨i + 1, n + 1, by omega, Lib.hid (by rw [hn.out, Nat.add_assoc]), by go_num, A2, c2, rfl, HO.out, hB2⟩
      case measure => simp [intOf]; omega
    · obtain rfl : i = 70 := by omega
      obtain ⟨g, rfl, hcap⟩ := own_some hown (by have := hn.out; omega)
      have hLc : L ≤ c' := by have := hn.out; omega
      have HO := Lib.hid hown
      clear hown hcap
      go_wp2_with fail
      go_ret2
      have e0 := HL.out
      subst e0
      have e1 := hn.out
      subst e1
      exact ⟨_, c', rfl, HO.out, hb⟩

end Go.Proofs.Ytdmkphalihdmlaa
