/- What the scroll's laws share: a disk whose fuse or power is turned; rows that are handed in. -/
import Derived.Test.YtmliiggieclbeaaSclV
import Derived.Test.YtmliiggieclbeaaArg3
import Derived.Deep.RegionHeld3
namespace Go.Proofs.Ytmliiggieclbeaa
open Go.RowKit

theorem RowList.low {base base' : Nat} {S T : Nat → Prop} {w : World} {A : Option Addr} {c : Nat} {rs : List (List Int)} (h : RowList base' S w A c rs) (hb : base ≤ base') (hS : ∀ k, S k → T k) : RowList base T w A c rs := by
  obtain ⟨vs, ⟨hl, hv⟩, hr⟩ := h.ex
  refine ⟨vs, ⟨hl, ?_⟩, ⟨hr.len, fun j r hj => ?_⟩⟩
  · rcases hv with hv | ⟨g, cap, cur, e1, e2, e3⟩
    · exact .inl hv
    · exact .inr ⟨g, cap, cur, e1, Nat.le_trans hb e2, e3⟩
  · obtain ⟨g, c', h1, h2, h3, h4⟩ := hr.at_ j r hj
    exact ⟨g, c', h1, h2, hS g h3, h4⟩
theorem RowList.handed {base : Nat} {S : Nat → Prop} {w : World} {A : Option Addr} {c n : Nat} {rs : List (List Int)} (h : RowList base S w A c rs) {d g : Nat} {s : DS} (hD : DiskAt w d g s) (hn : rs.length = n) (hby : ∀ r ∈ rs, isBy r) (hsh : ∀ r ∈ rs, r.length ≤ 1000000) (hfew : n ≤ 1000000) : Handed w d g A n rs := by
  obtain ⟨vs, ho, hr⟩ := h.ex
  refine ⟨hn, fun k hk => ?_, hby, hsh, hfew⟩
  obtain ⟨cap, _, hbx⟩ := hD.box
  obtain ⟨cr, hrow, _⟩ := hD.row
  obtain ⟨r, hri⟩ : ∃ r, rs[k]? = some r := ⟨_, List.getElem?_eq_getElem (by omega)⟩
  obtain ⟨ga, rfl, hca, _, hga⟩ := own_some ho (by omega)
  obtain ⟨b, c2, h1, h2, _, h4⟩ := hr.at_ k r hri
  obtain ⟨x, hx, _, hc⟩ := (RdV.of_own ho).at_ k _ h1
  cases hx
  have hne : ∀ cs t, t ≠ 22 → ¬ Blk w ga cs t := fun cs t ht hb => ht (own_ty ho (k := ga) rfl hb)
  exact ⟨⟨ga, 0, none⟩, b, c2, r, rfl, hga, fun e => hne _ _ (by decide) ((show ga = d from e) ▸ hbx), fun e => hne _ _ (by decide) ((show ga = g from e) ▸ hrow), hri, hc, h2, h4⟩
theorem Live.turnS {w w' : World} {d g p : Nat} {s s' : DS} {gen h : Nat} {rs : List (List Int)} (l : Live w d g p s gen h rs) (hD : DiskAt w' d g s') (hk : Kp (fun k => k = d) w w') (hc : s'.c = s.c) (hn : s'.n = s.n) : Live w' d g p s' gen h rs :=
  ⟨hD, fun k => by rw [hc]; exact l.byd k, l.scr.kp hk (fun e => (scr_ne l.disk l.scr).1 e), by rw [hc, hn]; exact l.on⟩
theorem kp_dgp {w w' : World} {d g p : Nat} (hk : Kp (fun k => k = d) w w') : Kp (DGP d g p) w w' := hk.mono (fun _ h _ => .inl h)
/-- The fuse is lit, or not. -/
theorem fuse_live (w : World) (d g p : Nat) (s : DS) (gen h : Nat) (rs : List (List Int)) (l : Live w d g p s gen h rs) (ho : s.off = false) (n : Int) (h0 : 0 ≤ n) (hn : n ≤ 9223372036854775807) :
    Calls Try.prog 29 #[.pointer (some ⟨d, 0, none⟩), .int .i64 n] w fun e w' => e = .returned (.int .i64 0) ∧ Kp (DGP d g p) w w' ∧ Live w' d g p { s with fuse := n } gen h rs := by
  have e1 : s.fuseE n = 0 := by unfold DS.fuseE; rw [if_neg (by omega), ho]; rfl
  have e2 : s.fuseS n = { s with fuse := n } := by unfold DS.fuseS; rw [if_neg (by omega), ho]; rfl
  have := fuse_any w d g s l.disk n hn
  rw [e1, e2] at this
  exact this.mono (fun e w' ⟨h1, h2, h3⟩ => ⟨h1, kp_dgp h2, l.turnS h3 h2 rfl rfl⟩)
theorem power_live (w : World) (d g p : Nat) (s : DS) (gen h : Nat) (rs : List (List Int)) (l : Live w d g p s gen h rs) :
    Calls Try.prog 30 #[.pointer (some ⟨d, 0, none⟩)] w fun e w' => e = .returned (.tuple #[]) ∧ Kp (DGP d g p) w w' ∧ Live w' d g p { s with off := false, fuse := -1 } gen h rs :=
  (power_any w d g s l.disk).mono (fun e w' ⟨h1, h2, h3⟩ => ⟨h1, kp_dgp h2, l.turnS h3 h2 rfl rfl⟩)
/-- A list of one's own against what is told. -/
theorem same_told (w : World) (base : Nat) (S : Nat → Prop) (A B : Option Addr) (ca cb n : Nat) (vs : List Value) (rs : List (List Int)) (T : Nat → Prop) (base' : Nat) (ho : w.ownsRow base' 22 1 (.slice A n ca) n vs) (hr : Rws T w vs rs) (hl : RowList base S w B cb rs) (hn : rs.length = n) (hle : n ≤ 1000) (hg : ∀ r ∈ rs, goodR r) :
    Calls Try.prog 18 #[.slice A n ca, .slice B n cb] w fun e w' => e = .returned (.bool true) ∧ Drawn w w' := by
  obtain ⟨us, hou, hru⟩ := hl.ex
  exact samerows_yes w A B ca cb n vs us rs _ _ (RdV.of_own ho) hr (RdV.of_own (by rw [hn] at hou; exact hou)) hru hn (by omega) (fun r hr => by have := (hg r hr).2; omega)

end Go.Proofs.Ytmliiggieclbeaa
