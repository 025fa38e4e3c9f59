/- The laws' SameRows, of rows that are the same; records. -/
import Derived.Test.YtmliiggieclbeaaSclM
import Derived.Test.YtmliiggieclbeaaSclA
namespace Go.Proofs.Ytmliiggieclbeaa
open Go.RowKit

set_option maxRecDepth 100000 in
set_option maxHeartbeats 1000000 in
theorem samerows_yes (w : World) (A B : Option Addr) (ca cb n : Nat) (vs us : List Value) (rs : List (List Int)) (S T : Nat → Prop) (ha : RdV w A vs) (ra : Rws S w vs rs) (hb : RdV w B us) (rb : Rws T w us rs) (hn : rs.length = n) (hl : n ≤ 1000000000000) (hr : ∀ r ∈ rs, r.length ≤ 1000000) :
    Calls Try.prog 18 #[.slice A n ca, .slice B n cb] w fun e w' => e = .returned (.bool true) ∧ Drawn w w' := by
  have HA : Hid (∀ i, i < n → ∃ x g c r, A = some x ∧ w.cell? (x.add i) = some (.slice (some ⟨g, 0, none⟩) r c) ∧ ∃ y g' c', B = some y ∧ w.cell? (y.add i) = some (.slice (some ⟨g', 0, none⟩) r c') ∧
      ∀ m, Calls Try.prog 25 #[.slice (some ⟨g, 0, none⟩) r c, .slice (some ⟨g', 0, none⟩) r c'] (w.drewN m) fun e w' => e = .returned (.bool true) ∧ Drawn (w.drewN m) w') := fun i hi => by
    obtain ⟨r, hri⟩ : ∃ r, rs[i]? = some r := ⟨_, List.getElem?_eq_getElem (by omega)⟩
    have hrl := hr r (List.mem_of_getElem? hri)
    obtain ⟨g, c, h1, _, _, h2⟩ := ra.at_ i r hri
    obtain ⟨g', c', k1, _, _, k2⟩ := rb.at_ i r hri
    obtain ⟨x, hx, _, hxc⟩ := ha.at_ i _ h1
    obtain ⟨y, hy, _, hyc⟩ := hb.at_ i _ k1
    refine ⟨x, g, c, r.length, hx, hxc, y, g', c', hy, hyc, fun m => ?_⟩
    exact (same_any (some ⟨g, 0, none⟩) (some ⟨g', 0, none⟩) c c' r r (w.drewN m) (h2.rd.drawn ((Drawn.refl _).drewN m)) (k2.rd.drawn ((Drawn.refl _).drewN m)) (by omega) (by omega)).mono (fun e w' ⟨he, hd⟩ => ⟨by rw [he]; exact bb (by simp), hd⟩)
  clear ha ra hb rb hr hn
  go_enter Try.func18, Try.ntmps18
  go_wp2_with fail
  go_loopw [5] (fun v wr => ∃ k : Nat, k ≤ n ∧ v = .int .i64 k ∧ Drawn w wr) (fun v _ => n - (intOf v).toNat)
  case atStart => exact ⟨0, Nat.zero_le _, rfl, Drawn.refl _⟩
  case round =>
    obtain ⟨k, hk, rfl, hd⟩ := hrel
    by_cases hlt : k < n
    · obtain ⟨x, g, c, r, rfl, hx, y, g', c', rfl, hy, hs⟩ := HA.out k hlt
      have hx' : wr.cell? (x.add k) = some (.slice (some ⟨g, 0, none⟩) r c) := by obtain ⟨m, rfl⟩ := hd.ex; exact hx
      have hy' : wr.cell? (y.add k) = some (.slice (some ⟨g', 0, none⟩) r c') := by obtain ⟨m, rfl⟩ := hd.ex; exact hy
      have HSM : Hid (∀ n, Calls Try.prog 25 #[.slice (some ⟨g, 0, none⟩) r c, .slice (some ⟨g', 0, none⟩) r c'] (wr.drewN n) fun e w' => e = .returned (.bool true) ∧ Drawn (wr.drewN n) w') := fun n => by
        obtain ⟨m, rfl⟩ := hd.ex
        rw [World.drewN_drewN]
        exact hs _
      clear hs hx hy
      go_wp2_with fail
      go_quiet (first | (go_at_call 25; exact quiet_drawn (HSM.out _)))
      go_wp2_with fail
      go_roundw
      case rel => exact ⟨k + 1, by omega, by go_num, hd.drewN _⟩
      case measure => simp [intOf]; omega
    · go_wp2_with fail
      go_ret
      exact ⟨rfl, hd⟩

/-- A world in which rows of slices alone may have turned. -/
structure KpR (w w' : World) : Prop where
  ex : ∃ T, Kp T w w' ∧ ∀ k cs t, T k → Blk w k cs t → t = 22
theorem KpR.of_below {w w' : World} (h : Below w.heap.size w w') : KpR w w' := ⟨fun _ => False, Kp.of_below h, fun _ _ _ h _ => h.elim⟩
theorem KpR.blk {w w' : World} (h : KpR w w') {g : Nat} {cs : Array Value} {t : TypeId} (hb : Blk w g cs t) (ht : t ≠ 22) : Blk w' g cs t := by
  obtain ⟨T, hk, hT⟩ := h.ex
  exact hb.kp hk (fun hg => ht (hT g cs t hg hb))
theorem KpR.size {w w' : World} (h : KpR w w') : w.heap.size ≤ w'.heap.size := by
  obtain ⟨T, hk, hT⟩ := h.ex
  exact hk.size
theorem KpR.disk {w w' : World} {d g : Nat} {s : DS} (h : KpR w w') (hD : DiskAt w d g s) : DiskAt w' d g s := by
  obtain ⟨cap, hc, hb⟩ := hD.box
  obtain ⟨cs, hr, hs⟩ := hD.row
  exact ⟨⟨cap, hc, h.blk hb (by decide)⟩, ⟨cs, h.blk hr (by decide), hs⟩, hD.ne, hD.low, hD.high, hD.fuse0, hD.fuse1, hD.wr0, hD.wr1, hD.len⟩
theorem KpR.live {w w' : World} {d g p : Nat} {s : DS} {gen h : Nat} {rs : List (List Int)} (k : KpR w w') (l : Live w d g p s gen h rs) : Live w' d g p s gen h rs := ⟨k.disk l.disk, l.byd, k.blk l.scr (by decide), l.on⟩
theorem KpR.row {w w' : World} {g : Nat} {r : List Int} (k : KpR w w') (l : RowB w g r) : RowB w' g r := by
  obtain ⟨cs, hb, hc⟩ := l.ex
  exact ⟨cs, k.blk hb (by decide), hc⟩
theorem KpR.rws {S : Nat → Prop} {w w' : World} {vs : List Value} {rs : List (List Int)} (k : KpR w w') (l : Rws S w vs rs) : Rws S w' vs rs :=
  ⟨l.len, fun j r hj => by
    obtain ⟨g, c, h1, h2, h3, h4⟩ := l.at_ j r hj
    exact ⟨g, c, h1, h2, h3, k.row h4⟩⟩
theorem KpR.trans {a b c : World} (h : KpR a b) (k : Below b.heap.size b c) : KpR a c := by
  obtain ⟨T, hk, hT⟩ := h.ex
  exact ⟨T, hk.trans (Kp.of_below k), hT⟩
/-- A list of rows, of one's own. -/
structure RowList (base : Nat) (S : Nat → Prop) (w : World) (A : Option Addr) (c : Nat) (rs : List (List Int)) : Prop where
  ex : ∃ vs, w.ownsRow base 22 1 (.slice A rs.length c) rs.length vs ∧ Rws S w vs rs
theorem RowList.nil (base : Nat) (S : Nat → Prop) (w : World) : RowList base S w none 0 [] := ⟨[], own_none _ _ _ _, Rws.nil _ _⟩
theorem RowList.kp {base : Nat} {S T : Nat → Prop} {w w' : World} {A : Option Addr} {c : Nat} {rs : List (List Int)} (h : RowList base S w A c rs) (hk : Kp T w w') (h1 : ∀ k cs, T k → ¬ Blk w k cs 5) (h2 : ∀ k cs, T k → ¬ Blk w k cs 22) : RowList base S w' A c rs := by
  obtain ⟨vs, ho, hr⟩ := h.ex
  refine ⟨vs, own_kp ho hk (fun k hk' hT => ?_), hr.kp hk h1 (fun _ h => h)⟩
  obtain ⟨_, ⟨hv, _⟩ | ⟨g, cap, cur, hv, _, hb, _⟩⟩ := ho
  · rw [hv] at hk'; cases hk'
  · rw [hv] at hk'
    injection hk' with hk'
    have e : g = k := hk'
    subst e
    exact h2 g cur hT hb
theorem RowList.below {base : Nat} {S : Nat → Prop} {w w' : World} {A : Option Addr} {c : Nat} {rs : List (List Int)} (h : RowList base S w A c rs) (hb : Below w.heap.size w w') : RowList base S w' A c rs := h.kp (T := fun _ => False) (Kp.of_below hb) (fun _ _ h => h.elim) (fun _ _ h => h.elim)
theorem dgp_no2 {w : World} {d g p : Nat} {s : DS} {q : Scr} (hD : DiskAt w d g s) (hS : ScrAt w p d q) : ∀ k cs, DGP d g p k → ¬ Blk w k cs 22 := by
  intro k cs hk hb
  obtain ⟨cap, _, hbx⟩ := hD.box
  obtain ⟨cr, hrow, _⟩ := hD.row
  rcases hk with rfl | rfl | rfl
  · exact absurd (blk_ty hb hbx) (by decide)
  · exact absurd (blk_ty hb hrow) (by decide)
  · exact absurd (blk_ty hb hS) (by decide)
theorem RowList.live {base : Nat} {S : Nat → Prop} {w w' : World} {A : Option Addr} {c : Nat} {ts : List (List Int)} (h : RowList base S w A c ts) {d g p : Nat} {s : DS} {gen h' : Nat} {rs : List (List Int)} (l : Live w d g p s gen h' rs) (hk : Kp (DGP d g p) w w') : RowList base S w' A c ts :=
  h.kp hk (dgp_no l.disk l.scr) (dgp_no2 l.disk l.scr)
/-- One row more, put behind: the run of the append. -/
theorem push_row (W : World) (base : Nat) (A : Option Addr) (c : Nat) (rs : List (List Int)) (S : Nat → Prop) (hl : RowList base S W A c rs) (g2 c2 : Nat) (r : List Int) (hrow : RowB W g2 r) (hc : r.length ≤ c2) (hS : S g2) (hlen : rs.length ≤ 1000000000000) (hbase : base ≤ W.heap.size) :
    ∃ A3 c3 W3, (Builtin.append_ #[32, 32] 32 #[.slice A rs.length c, .slice (some ⟨W.heap.size, 0, none⟩) 1 1]).run Try.prog (W.alloc (.cells #[.slice (some ⟨g2, 0, none⟩) r.length c2] 22)) = .ok (.slice A3 (rs.length + 1) c3) W3 ∧
      RowList base S W3 A3 c3 (rs ++ [r]) ∧ KpR W W3 ∧ ∀ w0, Below base w0 W → Below base w0 W3 := by
  obtain ⟨vs, hown, hrows⟩ := hl.ex
  have hA : Below W.heap.size W (W.alloc (.cells #[.slice (some ⟨g2, 0, none⟩) r.length c2] 22)) := (Below.refl _ _).alloc (Nat.le_refl _) _
  have hoA := own_below hown hA
  obtain ⟨v3, w3, hr, ho3, hg3⟩ := append_run (P := Try.prog) (w := W.alloc (.cells #[.slice (some ⟨g2, 0, none⟩) r.length c2] 22)) 32 Try.underlying32 sinfo (by omega) hoA
    (news := [.slice (some ⟨g2, 0, none⟩) r.length c2]) (a := ⟨W.heap.size, 0, none⟩) (m := 1) (c := 1) rfl
    (fun j u hu => by
      rw [Addr.add_mid, Nat.zero_add, (Blk.new W _ _).cell, List.getElem?_toArray]
      exact hu)
    (fun u hu => by simp at hu; subst hu; rfl) (by omega) (by omega) (by simp; omega)
  obtain ⟨A3, c3, rfl⟩ := own_form ho3
  have hkA := Kp.of_grown hg3
  have hkR : KpR (W.alloc (.cells #[.slice (some ⟨g2, 0, none⟩) r.length c2] 22)) w3 := ⟨_, hkA, fun k cs t hk hb => own_ty hoA hk hb⟩
  have hkW : KpR W w3 := ⟨fun k => k < W.heap.size ∧ (Value.slice A rs.length c).ownBlock = some k, ⟨hkA.os.trans hA.os, hkA.tape.trans hA.tape, hkA.output.trans hA.output, Nat.le_trans hA.size hkA.size, fun k hk hn => (hkA.block k (by have := hA.size; omega) (fun e => hn ⟨hk, e⟩)).trans (hA.block k hk)⟩, fun k cs t hk hb => own_ty hown hk.2 hb⟩
  refine ⟨A3, c3, w3, hr, ⟨_, by rw [List.length_append, List.length_singleton]; exact ho3, hkR.rws ((hrows.push hrow hc hS).below hA)⟩, hkW, fun w0 hb => grown_below (hb.alloc hbase _) hg3 (by simp; omega) (own_ge hoA)⟩

end Go.Proofs.Ytmliiggieclbeaa
