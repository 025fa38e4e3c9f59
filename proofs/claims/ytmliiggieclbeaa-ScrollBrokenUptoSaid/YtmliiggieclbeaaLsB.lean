/- Rows that were just laid out in a literal. -/
import Derived.Test.YtmliiggieclbeaaLsA
namespace Go.Proofs.Ytmliiggieclbeaa
open Go.RowKit

theorem Blk.rdv {w : World} {g : Nat} {vs : List Value} {cs : Array Value} {t : TypeId} (h : Blk w g cs t) (hc : ∀ (j : Nat) (v : Value), vs[j]? = some v → cs[j]? = some v) : RdV w (some ⟨g, 0, none⟩) vs :=
  ⟨fun j v hj => ⟨_, rfl, h.lt, by rw [Addr.add_mid, Nat.zero_add, h.cell]; exact hc j v hj⟩⟩
/-- A literal's rows are handed in. -/
theorem handed_lit {w : World} {d g g0 n : Nat} {s : DS} {vs : List Value} {rs : List (List Int)} {cs : Array Value} {S : Nat → Prop} (hb : Blk w g0 cs 22) (hc : ∀ (j : Nat) (v : Value), vs[j]? = some v → cs[j]? = some v) (hr : Rws S w vs rs) (hD : DiskAt w d g s) (hn : rs.length = n)
    (hby : ∀ r ∈ rs, isBy r) (hsh : ∀ r ∈ rs, r.length ≤ 1000000) (hfew : n ≤ 1000000) : Handed w d g (some ⟨g0, 0, none⟩) n rs := by
  refine ⟨hn, fun k hk => ?_, hby, hsh, hfew⟩
  obtain ⟨cap, _, hbx⟩ := hD.box
  obtain ⟨cr, hrow, _⟩ := hD.row
  obtain ⟨r, hri⟩ : ∃ r, rs[k]? = some r := ⟨_, List.getElem?_eq_getElem (by omega)⟩
  obtain ⟨b, c2, h1, h2, _, h4⟩ := hr.at_ k r hri
  exact ⟨⟨g0, 0, none⟩, b, c2, r, rfl, hb.lt, fun e => absurd (blk_ty ((show g0 = d from e) ▸ hb) hbx) (by decide), fun e => absurd (blk_ty ((show g0 = g from e) ▸ hb) hrow) (by decide), hri, by rw [Addr.add_mid, Nat.zero_add, hb.cell]; exact hc k _ h1, h2, h4⟩
theorem rws_1 {S : Nat → Prop} {w : World} {g c : Nat} {r : List Int} (h : RowB w g r) (hc : r.length ≤ c) (hS : S g) : Rws S w [.slice (some ⟨g, 0, none⟩) r.length c] [r] := by
  have := (Rws.nil S w).push h hc hS
  exact this
theorem rws_2 {S : Nat → Prop} {w : World} {g c g' c' : Nat} {r r' : List Int} (h : RowB w g r) (hc : r.length ≤ c) (hS : S g) (h' : RowB w g' r') (hc' : r'.length ≤ c') (hS' : S g') :
    Rws S w [.slice (some ⟨g, 0, none⟩) r.length c, .slice (some ⟨g', 0, none⟩) r'.length c'] [r, r'] := by
  have := (rws_1 h hc hS).push h' hc' hS'
  exact this
/-- What is told against a literal of one, of two. -/
theorem same_lit1 (w : World) (A : Option Addr) (ca g c : Nat) (vs : List Value) (r : List Int) (T : Nat → Prop) (base' : Nat) (ho : w.ownsRow base' 22 1 (.slice A 1 ca) 1 vs) (hr : Rws T w vs [r]) (hrow : RowB w g r) (hc : r.length ≤ c) (hl : r.length ≤ 1000000) :
    Calls Try.prog 18 #[.slice A 1 ca, .slice (some ⟨w.heap.size, 0, none⟩) 1 1] (w.alloc (.cells #[.slice (some ⟨g, 0, none⟩) r.length c] 22)) fun e w' => e = .returned (.bool true) ∧ Below w.heap.size w w' := by
  have hA : Below w.heap.size w (w.alloc (.cells #[.slice (some ⟨g, 0, none⟩) r.length c] 22)) := (Below.refl _ _).alloc (Nat.le_refl _) _
  refine (samerows_yes _ A (some ⟨w.heap.size, 0, none⟩) ca 1 1 vs _ [r] _ (fun _ => True) (RdV.of_own (own_below ho hA)) (hr.below hA) (Blk.rdv (Blk.new w _ _) (fun j v hj => by rw [List.getElem?_toArray]; exact hj)) (rws_1 (hrow.below hA) hc trivial) rfl (by omega) (fun x hx => by rw [List.mem_singleton.1 hx]; exact hl)).mono ?_
  rintro e w' ⟨rfl, hd⟩
  exact ⟨rfl, bel_next hA (hd.below _)⟩
theorem same_lit2 (w : World) (A : Option Addr) (ca g c g' c' : Nat) (vs : List Value) (r r' : List Int) (T : Nat → Prop) (base' : Nat) (ho : w.ownsRow base' 22 1 (.slice A 2 ca) 2 vs) (hr : Rws T w vs [r, r']) (hrow : RowB w g r) (hc : r.length ≤ c) (hl : r.length ≤ 1000000) (hrow' : RowB w g' r') (hc' : r'.length ≤ c') (hl' : r'.length ≤ 1000000) :
    Calls Try.prog 18 #[.slice A 2 ca, .slice (some ⟨w.heap.size, 0, none⟩) 2 2] (w.alloc (.cells #[.slice (some ⟨g, 0, none⟩) r.length c, .slice (some ⟨g', 0, none⟩) r'.length c'] 22)) fun e w' => e = .returned (.bool true) ∧ Below w.heap.size w w' := by
  have hA : Below w.heap.size w (w.alloc (.cells #[.slice (some ⟨g, 0, none⟩) r.length c, .slice (some ⟨g', 0, none⟩) r'.length c'] 22)) := (Below.refl _ _).alloc (Nat.le_refl _) _
  refine (samerows_yes _ A (some ⟨w.heap.size, 0, none⟩) ca 2 2 vs _ [r, r'] _ (fun _ => True) (RdV.of_own (own_below ho hA)) (hr.below hA) (Blk.rdv (Blk.new w _ _) (fun j v hj => by rw [List.getElem?_toArray]; exact hj)) (rws_2 (hrow.below hA) hc trivial (hrow'.below hA) hc' trivial) rfl (by omega) (fun x hx => by
    rcases List.mem_cons.1 hx with rfl | hx
    · exact hl
    · rw [List.mem_singleton.1 hx]; exact hl')).mono ?_
  rintro e w' ⟨rfl, hd⟩
  exact ⟨rfl, bel_next hA (hd.below _)⟩

end Go.Proofs.Ytmliiggieclbeaa
