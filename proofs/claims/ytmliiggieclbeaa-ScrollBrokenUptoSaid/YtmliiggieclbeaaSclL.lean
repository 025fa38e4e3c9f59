/- A scroll that stands: Open, Append, and a fresh disk as a law meets them. -/
import Derived.Test.YtmliiggieclbeaaSclK
namespace Go.Proofs.Ytmliiggieclbeaa
open Go.RowKit

/-- From one disk to the next: blocks stay bytes, generations stay low, m writes at most. -/
structure Goes (s s' : DS) (gen : Nat) (m : Int) : Prop where
  n : s'.n = s.n
  wr : s'.writes ≤ s.writes + m
  gens : ∀ G, gen ≤ G → G < 4294967296 → GensTo s.c s.n G → GensTo s'.c s'.n G
  byd : ByD s'
theorem Goes.refl (s : DS) (gen : Nat) (m : Int) (hm : 0 ≤ m) (hB : ByD s) : Goes s s gen m := ⟨rfl, by omega, fun _ _ _ h => h, hB⟩
theorem lay_goes {s : DS} {h gen num used : Nat} {r : List Int} {m : Nat} (hB : ByD s) (hr : isBy r) (hm : m ≤ 8) : Goes s (s.lay (startN s.n h) gen num used r m) gen 8 :=
  ⟨rfl, by show s.writes + (m : Int) ≤ _; omega, fun G h1 h2 hG => gens_laying hG h1 h2, fun k => ⟨laying_by hr (fun k => (hB k).1) k, laying_len (fun k => (hB k).2) k⟩⟩
theorem AppEnd.goes {s s' : DS} {h gen num used : Nat} {r : List Int} {E : Int} (he : AppEnd s (startN s.n h) gen num used r E s') (hB : ByD s) (hr : isBy r) (hg : goodR r) : Goes s s' gen 8 := by
  have h8 := (good_blks hg).2
  cases he with
  | ok ho hf => exact lay_goes hB hr h8
  | off ho => exact Goes.refl s gen 8 (by omega) hB
  | cut m ho hf hm =>
    obtain ⟨a, b, c, d⟩ := lay_goes (h := h) (gen := gen) (num := num) (used := used) (m := m) hB hr (by omega)
    exact ⟨a, b, c, d⟩
/-- A scroll that stands, in memory and on its disk. -/
structure Live (w : World) (d g p : Nat) (s : DS) (gen h : Nat) (rs : List (List Int)) : Prop where
  disk : DiskAt w d g s
  byd : ByD s
  scr : ScrAt w p d ⟨h, gen, rs.length, total rs⟩
  on : ScrollAt s.c s.n gen h rs
theorem Live.below {w w' : World} {d g p : Nat} {s : DS} {gen h : Nat} {rs : List (List Int)} (l : Live w d g p s gen h rs) (hb : Below w.heap.size w w') : Live w' d g p s gen h rs := ⟨l.disk.below hb, l.byd, l.scr.below hb, l.on⟩
theorem Live.le {w : World} {d g p : Nat} {s : DS} {gen h : Nat} {rs : List (List Int)} (l : Live w d g p s gen h rs) : rs.length ≤ total rs ∧ total rs ≤ halfN s.n ∧ halfN s.n ≤ 512 :=
  ⟨total_ge rs l.on.rows.good, l.on.rows.fits, halfN_le _ l.disk.high⟩
theorem Live.lt {w : World} {d g p : Nat} {s : DS} {gen h : Nat} {rs : List (List Int)} (l : Live w d g p s gen h rs) : d < w.heap.size ∧ g < w.heap.size ∧ p < w.heap.size := ⟨l.disk.lt.1, l.disk.lt.2, Blk.lt l.scr⟩
theorem Live.no {w : World} {d g p : Nat} {s : DS} {gen h : Nat} {rs : List (List Int)} (l : Live w d g p s gen h rs) : ∀ k cs, DGP d g p k → ¬ Blk w k cs 5 := dgp_no l.disk l.scr

/-- What an Append leaves. -/
inductive AppLive (d g p : Nat) (s : DS) (gen h : Nat) (rs : List (List Int)) (r : List Int) (w' : World) : Int → DS → Prop where
  | ok (s' : DS) (l : Live w' d g p s' gen h (rs ++ [r])) (ho : s.off = false) (ho' : s'.off = false) (hf : s.fuse = -1 → s'.fuse = -1) (hgo : Goes s s' gen 8) : AppLive d g p s gen h rs r w' 0 s'
  | cut (s' : DS) (l : Live w' d g p s' gen h rs) (hp : ¬ (s.off = false ∧ s.fuse = -1)) (ho' : s'.off = true) (hgo : Goes s s' gen 8) : AppLive d g p s gen h rs r w' 21 s'
theorem append_live (w : World) (p d g b0 c : Nat) (s : DS) (gen h : Nat) (rs : List (List Int)) (r : List Int) (l : Live w d g p s gen h rs) (hR : RowB w b0 r) (hc : r.length ≤ c) (hr : isBy r) (hg : goodR r) (hu : total rs + blks r ≤ halfN s.n) (hw : s.writes + 8 ≤ 4611686018427387904) :
    Calls Try.prog 16 #[.pointer (some ⟨p, 0, none⟩), .slice (some ⟨b0, 0, none⟩) r.length c] w fun e w' => ∃ E s', e = .returned (.int .i64 E) ∧ AppLive d g p s gen h rs r w' E s' ∧ Kp (DGP d g p) w w' := by
  obtain ⟨q1, q2, q3⟩ := l.le
  refine (append_any w p d g b0 c s ⟨h, gen, rs.length, total rs⟩ r l.disk l.byd l.scr hR hc hg hu l.on.hd.h1 hw (by show rs.length ≤ _; omega)).mono ?_
  rintro e w' ⟨E, s', rfl, hE, hD, hS, hk⟩
  refine ⟨E, s', rfl, ?_, hk⟩
  have hgo := AppEnd.goes (h := h) hE l.byd hr hg
  cases hE with
  | ok ho hf =>
    refine .ok _ ⟨hD, hgo.byd, ?_, l.on.push hg hu⟩ ho ho (fun hf1 => ?_) hgo
    · rw [if_pos rfl] at hS
      have : ScrAt w' p d ⟨h, gen, rs.length + 1, total rs + blks r⟩ := hS
      rwa [← total_one r, ← total_app, show rs.length + 1 = (rs ++ [r]).length by simp] at this
    · show (if s.fuse = -1 then (-1 : Int) else _) = -1
      rw [if_pos hf1]
  | off ho => exact .cut _ ⟨hD, l.byd, by rw [if_neg (by decide)] at hS; exact hS, l.on⟩ (fun t => by rw [ho] at t; exact absurd t.1 (by decide)) ho hgo
  | cut m ho hf hm =>
    refine .cut _ ⟨hD, hgo.byd, by rw [if_neg (by decide)] at hS; exact hS, l.on.broken (by omega) hg hm⟩ (fun t => by have := t.2; omega) rfl hgo
/-- What Open tells of a scroll that stands. -/
theorem open_live (w : World) (d g : Nat) (s : DS) (gen h : Nat) (rs : List (List Int)) (hD : DiskAt w d g s) (hB : ByD s) (h3 : 3 ≤ s.n) (hs : ScrollAt s.c s.n gen h rs) :
    Calls Try.prog 17 #[.pointer (some ⟨d, 0, none⟩)] w fun e w' => ∃ p A c vs, e = .returned (.tuple #[.pointer (some ⟨p, 0, none⟩), .slice A rs.length c, .int .i64 0]) ∧ Live w' d g p s gen h rs ∧ w.heap.size ≤ p ∧
      w'.ownsRow w.heap.size 22 1 (.slice A rs.length c) rs.length vs ∧ Rws (fun k => w.heap.size ≤ k) w' vs rs ∧ Below w.heap.size w w' := by
  have hle := halfN_le s.n hD.high
  have hlen : rs.length ≤ 512 := by
    have := total_ge rs hs.rows.good
    have := hs.rows.fits
    omega
  refine (open_any w d g s hD hB).mono ?_
  rintro e w' (⟨gen', h', p, rs', A, c, vs, rfl, _, ho⟩ | ⟨_, hno, _⟩)
  · obtain ⟨e1, e2⟩ := hs.hd.unique ho.hd
    subst e1; subst e2
    have e3 := (hs.reads (by omega)).unique ho.rd
    subst e3
    exact ⟨p, A, c, vs, rfl, ⟨hD.below ho.bel, hB, ho.scr, hs⟩, ho.new, ho.own, ho.rows, ho.bel⟩
  · rcases hno with h | h
    · omega
    · exact absurd hs.hd (h _ _)

theorem new_byd (n : Nat) : ByD (DS.new n) := fun k => ⟨fun z hz => by have := (List.mem_replicate.1 hz).2; omega, by show (List.replicate 64 (0 : Int)).length = 64; simp⟩
theorem new_next {n G k : Nat} (h : NextOf (DS.new n).c n G k) : G = 1 ∧ k = 0 := by
  cases h with
  | yes hd => exact absurd hd (zeros_no _ _)
  | no hd => exact ⟨by show maxG (fun _ => List.replicate 64 (0 : Int)) _ 0 _ + 1 = 1; rw [maxG_zeros], rfl⟩
/-- A disk that was just laid. -/
def DS.fresh (n : Nat) : DS := (DS.new n).put 0 (hdL 1 0)
theorem fresh_c (n : Nat) : (DS.fresh n).c = headed (fun _ => List.replicate 64 (0 : Int)) 1 0 := by
  funext k
  show (if k = (0 : Int).toNat then hdL 1 0 else List.replicate 64 (0 : Int)) = _
  unfold headed
  rfl
theorem fresh_byd (n : Nat) : ByD (DS.fresh n) := fun k => by
  rw [fresh_c]
  exact ⟨headed_by (fun k => (new_byd n k).1) _ _ _, headed_len (fun k => (new_byd n k).2) _ _ _⟩
theorem fresh_scroll (n : Nat) : ScrollAt (DS.fresh n).c (DS.fresh n).n 1 0 [] := by rw [fresh_c]; exact fresh_at n
theorem fresh_gensTo (n : Nat) : GensTo (DS.fresh n).c (DS.fresh n).n 1 := by rw [fresh_c]; exact fresh_gens n
theorem format_new (w : World) (d g n : Nat) (hD : DiskAt w d g (DS.new n)) (hn : 3 ≤ n) :
    Calls Try.prog 33 #[.pointer (some ⟨d, 0, none⟩)] w fun e w' => e = .returned (.int .i64 0) ∧ Kp (fun k => k = d ∨ k = g) w w' ∧ DiskAt w' d g (DS.fresh n) := by
  refine (format_ok w d g (DS.new n) hD (new_byd n) hn (fun G k h => by have := (new_next h).1; omega) rfl (by show (-1 : Int) ≠ 0; decide) (by show (0 : Int) + 1 ≤ _; decide)).mono ?_
  rintro e w' ⟨G, k, rfl, hN, hk, hd⟩
  obtain ⟨rfl, rfl⟩ := new_next hN
  exact ⟨rfl, hk, hd⟩

end Go.Proofs.Ytmliiggieclbeaa
