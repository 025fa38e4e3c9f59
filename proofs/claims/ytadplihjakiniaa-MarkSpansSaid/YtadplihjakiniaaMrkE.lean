/- The numbers of a list of pairs. -/
import Derived.Test.YtadplihjakiniaaMrkD
import Derived.Test.YtadplihjakiniaaMem2
namespace Go.Proofs.Ytadplihjakiniaa
open Go.RowKit

def cvals (zs : List (Nat × Nat)) : List Value := zs.map fun z => .complex .f64 z.1 z.2
theorem cvals_length (zs : List (Nat × Nat)) : (cvals zs).length = zs.length := by simp [cvals]
theorem cvals_append (a b : List (Nat × Nat)) : cvals (a ++ b) = cvals a ++ cvals b := by simp [cvals]
theorem cvals_get (zs : List (Nat × Nat)) (j : Nat) (h : j < zs.length) : (cvals zs)[j]? = some (.complex .f64 (zs.getD j (0, 0)).1 (zs.getD j (0, 0)).2) := by
  simp [cvals, List.getD_eq_getElem?_getD, List.getElem?_eq_getElem h]
theorem rdv_cvals {w : World} {a : Option Addr} {zs : List (Nat × Nat)} (h : RdV w a (cvals zs)) (j : Nat) (hj : j < zs.length) : ∃ x, a = some x ∧ w.cell? (x.add j) = some (.complex .f64 (zs.getD j (0, 0)).1 (zs.getD j (0, 0)).2) := by
  obtain ⟨x, hx, _, hc⟩ := h.at_ j _ (cvals_get zs j hj)
  exact ⟨x, hx, hc⟩

/-- An argument that is a slice of pairs. -/
structure ArgPairs (w : World) (a : Option Addr) (len : Nat) (ps : List (Int × Int)) : Prop where
  length : ps.length = len
  at_ : ∀ j, j < len → ∃ b o, a = some ⟨b, o, none⟩ ∧ b < w.heap.size ∧ w.cell? ⟨b, o + j * 2, none⟩ = some (.int .i64 (ps.getD j (0, 0)).1) ∧ w.cell? ⟨b, o + j * 2 + 1, none⟩ = some (.int .i64 (ps.getD j (0, 0)).2)
  wf : ∀ j, j < len → Fits (ps.getD j (0, 0)).1 (ps.getD j (0, 0)).2
theorem ArgPairs.below {w w' : World} {a : Option Addr} {len : Nat} {ps : List (Int × Int)} (h : ArgPairs w a len ps) (hb : Below w.heap.size w w') : ArgPairs w' a len ps :=
  ⟨h.length, fun j hj => by
    obtain ⟨b, o, hx, hlt, h1, h2⟩ := h.at_ j hj
    exact ⟨b, o, hx, Nat.lt_of_lt_of_le hlt hb.size, cell_keep hb h1, cell_keep hb h2⟩, h.wf⟩

def quarts (ps : List (Int × Int)) : List (Nat × Nat) := ps.map fun p => (quart p.1, quart p.2)
theorem quarts_snoc (ps : List (Int × Int)) (i : Nat) (h : i < ps.length) : quarts (ps.take (i + 1)) = quarts (ps.take i) ++ [(quart (ps.getD i (0, 0)).1, quart (ps.getD i (0, 0)).2)] := by
  rw [List.take_succ_eq_append_getElem h]
  unfold quarts
  rw [List.map_append]
  simp only [List.map_cons, List.map_nil, List.getD_eq_getElem?_getD, List.getElem?_eq_getElem h, Option.getD_some]
theorem quarts_take_length (ps : List (Int × Int)) (i : Nat) (h : i ≤ ps.length) : (quarts (ps.take i)).length = i := by simp [quarts]; omega

theorem cinfo : (Try.prog.info? 22).map (fun i => (i.zero.map (fun z => z.cells.size), i.size, i.bytes)) = some (some 1, 1, 16) := by kernel_rfl

/-- What nums hands back: a row of its own. -/
def NumsPost (w : World) (ps : List (Int × Int)) (len : Nat) (r : Ending) (w' : World) : Prop :=
  ∃ A c, r = .returned (.slice A len c) ∧ w'.ownsRow w.heap.size 22 1 (.slice A len c) len (cvals (quarts ps)) ∧ Below w.heap.size w w'

set_option maxHeartbeats 1000000 in
theorem nums_any (A : Option Addr) (len cap : Nat) (ps : List (Int × Int)) (w : World) (h : ArgPairs w A len ps) (hlen : len * 16 ≤ 140737488351232) :
    Calls Try.prog 32 #[.slice A len cap] w (NumsPost w ps len) := by
  go_enter Try.func32, Try.ntmps32
  go_wp2_with fail
  go_loopw [3, 4] (fun v3 v4 wr => ∃ i : Nat, i ≤ len ∧ v4 = .int .i64 i ∧ ∃ A' c', v3 = .slice A' i c' ∧ wr.ownsRow w.heap.size 22 1 (.slice A' i c') i (cvals (quarts (ps.take i))) ∧ Below w.heap.size w wr) (fun _ v _ => len - (intOf v).toNat)
  case atStart => exact ⟨0, Nat.zero_le _, rfl, none, 0, rfl, own_none _ _ _ _, Below.refl _ _⟩
  case round =>
    obtain ⟨i, hi, rfl, A', c', rfl, hown, hb⟩ := hrel
    by_cases hlt : i < len
    · obtain ⟨g, o, rfl, _, h1, h2⟩ := (h.below hb).at_ i hlt
      have hw := h.wf i hlt
      have hsn := quarts_snoc ps i (by rw [h.length]; exact hlt)
      generalize ps.getD i (0, 0) = p at *
      have HS := Lib.hid hsn
      clear hsn
      go_wp2_with fail
      refine (num_any _ _ _ hw).mono ?_
      rintro r w1 ⟨rfl, b1⟩
      have hz := hb.size
      have hz1 := b1.size
      have HB := bel_next hb b1
      obtain ⟨v', w2, hr, ho, hg⟩ := append_run (P := Try.prog) (w := w1.alloc (.cells #[.complex .f64 (quart p.1) (quart p.2)] 22)) 51 Try.underlying51 cinfo (by omega) (own_below (own_below hown b1) ((Below.refl _ _).alloc (Nat.le_refl _) _))
        (news := [.complex .f64 (quart p.1) (quart p.2)]) (a := ⟨w1.heap.size, 0, none⟩) (m := 1) (c := 1) rfl
        (fun j u hu => by
          rw [Addr.add_mid, Nat.zero_add, (Blk.new w1 _ _).cell]
          simpa using hu)
        (fun u hu => by simp at hu; subst hu; rfl) (by omega) (by omega) (by simp; omega)
      obtain ⟨A2, c2, rfl⟩ := own_form ho
      have hB2 : Below w.heap.size w w2 := (HB.alloc (by omega) _).grown hg (by simp; omega) (own_ge hown)
      have hO2 : w2.ownsRow w.heap.size 22 1 (.slice A2 (i + 1) c2) (i + 1) (cvals (quarts (ps.take (i + 1)))) := by
        rw [HS.out, cvals_append]; exact ho
      have HO := Lib.hid hO2
      clear ho hO2 hown hg HS hz hz1 HB hb b1
      go_wp2_with (at_builtin; refine wpList_append_run rfl _ _ _ _ rfl _ _ _ rfl rfl hr ?_)
      go_roundw
      case rel => exact ⟨i + 1, by omega, by go_num, A2, c2, rfl, HO.out, hB2⟩
      case measure => simp [intOf]; omega
    · obtain rfl : i = len := by omega
      have HO := Lib.hid hown
      clear hown
      go_wp2_with fail
      go_ret
      refine ⟨A', c', rfl, ?_, hb⟩
      have := HO.out
      rwa [List.take_of_length_le (by rw [h.length]; exact Nat.le_refl _)] at this

end Go.Proofs.Ytadplihjakiniaa
