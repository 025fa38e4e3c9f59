/- The scroll's Append. -/
import Derived.Test.YtmliiggieclbeaaSclJ
namespace Go.Proofs.Ytmliiggieclbeaa
open Go.RowKit

/-- m pieces of one more record laid. -/
def DS.lay (s : DS) (st g num at' : Nat) (r : List Int) (m : Nat) : DS := { s with c := laying s.c st g num at' r m, fuse := if s.fuse = -1 then -1 else s.fuse - m, writes := s.writes + m }
def DS.cut (s : DS) : DS := { s with off := true, fuse := -1 }
theorem DS.lay_zero (s : DS) (st g num at' : Nat) (r : List Int) : s.lay st g num at' r 0 = s := by
  unfold DS.lay
  rw [laying_zero]
  have e : (if s.fuse = -1 then -1 else s.fuse - ((0 : Nat) : Int)) = s.fuse := by split <;> omega
  rw [e]
  simp
theorem DS.lay_put (s : DS) (st g num at' : Nat) (r : List Int) (k : Nat) (hf : s.fuse = -1 ∨ (k : Int) < s.fuse) : (s.lay st g num at' r k).put ((st + at' + k : Nat) : Int) (pieceL g num k r) = s.lay st g num at' r (k + 1) := by
  unfold DS.put DS.lay
  simp only [Int.toNat_natCast]
  rw [laying_succ]
  have e : (if (if s.fuse = -1 then (-1 : Int) else s.fuse - (k : Int)) = -1 then (-1 : Int) else (if s.fuse = -1 then (-1 : Int) else s.fuse - (k : Int)) - 1) = if s.fuse = -1 then -1 else s.fuse - ((k + 1 : Nat) : Int) := by
    split <;> split <;> omega
  rw [e]
  congr 1
  omega
/-- How an Append ends. -/
inductive AppEnd (s : DS) (st gen num used : Nat) (r : List Int) : Int → DS → Prop where
  | ok (ho : s.off = false) (hf : s.fuse = -1 ∨ (blks r : Int) ≤ s.fuse) : AppEnd s st gen num used r 0 (s.lay st gen num used r (blks r))
  | off (ho : s.off = true) : AppEnd s st gen num used r 21 s
  | cut (m : Nat) (ho : s.off = false) (hf : s.fuse = m) (hm : m < blks r) : AppEnd s st gen num used r 21 (s.lay st gen num used r m).cut
def Scr.push (q : Scr) (n : Nat) : Scr := ⟨q.h, q.gen, q.num + 1, q.used + n⟩
/-- The blocks that a scroll's calls may turn. -/
def DGP (d g p : Nat) : Nat → Prop := fun k => k = d ∨ k = g ∨ k = p
theorem dgp_no {w : World} {d g p : Nat} {s : DS} {q : Scr} (hD : DiskAt w d g s) (hS : ScrAt w p d q) : ∀ k cs, DGP d g p k → ¬ Blk w k cs 5 := by
  intro k cs hk hb
  obtain ⟨cap, _, hbx⟩ := hD.box
  obtain ⟨cr, hrow, _⟩ := hD.row
  rcases hk with rfl | rfl | rfl
  · exact absurd (blk_ty hb hbx) (by decide)
  · exact absurd (blk_ty hb hrow) (by decide)
  · exact absurd (blk_ty hb hS) (by decide)
theorem scr_ne {w : World} {d g p : Nat} {s : DS} {q : Scr} (hD : DiskAt w d g s) (hS : ScrAt w p d q) : p ≠ d ∧ p ≠ g := by
  obtain ⟨cap, _, hbx⟩ := hD.box
  obtain ⟨cr, hrow, _⟩ := hD.row
  refine ⟨fun e => ?_, fun e => ?_⟩
  · subst e; exact absurd (blk_ty hbx hS) (by decide)
  · subst e; exact absurd (blk_ty hrow hS) (by decide)
def AppPost (s : DS) (q : Scr) (p d g : Nat) (r : List Int) (w : World) (e : Ending) (w' : World) : Prop :=
  ∃ E s', e = .returned (.int .i64 E) ∧ AppEnd s (startN s.n q.h) q.gen q.num q.used r E s' ∧ DiskAt w' d g s' ∧ ScrAt w' p d (if E = 0 then q.push (blks r) else q) ∧ Kp (DGP d g p) w w'

set_option maxHeartbeats 1000000 in
theorem append_bad (w : World) (p b0 c : Nat) (r : List Int) (hg : ¬ goodR r) (hl : r.length ≤ 1000000) :
    Calls Try.prog 16 #[.pointer (some ⟨p, 0, none⟩), .slice (some ⟨b0, 0, none⟩) r.length c] w fun e w' => e = .returned (.int .i64 61) ∧ w = w' := by
  have h1 := blocks_any w (some ⟨b0, 0, none⟩) c r (by omega)
  have h2 := good_any w (some ⟨b0, 0, none⟩) c r (by omega)
  rw [decide_eq_false hg] at h2
  have H1 := Lib.hid h1
  have H2 := Lib.hid h2
  clear h1 h2
  go_enter Try.func16, Try.ntmps16
  go_wp2_with fail
  refine H1.out.mono ?_
  rintro e w1 ⟨rfl, rfl⟩
  go_wp2_with fail
  refine H2.out.mono ?_
  rintro e w1 ⟨rfl, rfl⟩
  go_wp2_with fail
  go_ret
  exact ⟨rfl, rfl⟩
set_option maxHeartbeats 1000000 in
theorem append_full (w : World) (p d g b0 c : Nat) (s : DS) (q : Scr) (r : List Int) (hD : DiskAt w d g s) (hS : ScrAt w p d q) (hu : q.used ≤ halfN s.n) (hg : goodR r) (hfull : halfN s.n - q.used < blks r) :
    Calls Try.prog 16 #[.pointer (some ⟨p, 0, none⟩), .slice (some ⟨b0, 0, none⟩) r.length c] w fun e w' => e = .returned (.int .i64 2) ∧ Drawn w w' := by
  have hl := hg.2
  have h1 := blocks_any w (some ⟨b0, 0, none⟩) c r (by omega)
  have h2 := good_any w (some ⟨b0, 0, none⟩) c r (by omega)
  have h3 := room_any w p d g s q hD hS hu
  rw [decide_eq_true hg] at h2
  have H1 := Lib.hid h1
  have H2 := Lib.hid h2
  have H3 := Lib.hid h3
  clear h1 h2 h3 hD hS
  go_enter Try.func16, Try.ntmps16
  go_wp2_with fail
  refine H1.out.mono ?_
  rintro e w1 ⟨rfl, rfl⟩
  go_wp2_with fail
  refine H2.out.mono ?_
  rintro e w1 ⟨rfl, rfl⟩
  go_wp2_with fail
  refine H3.out.mono ?_
  rintro e w1 ⟨rfl, hd⟩
  go_wp2_with fail
  go_ret
  exact ⟨rfl, hd⟩

set_option maxRecDepth 100000 in
set_option maxHeartbeats 4000000 in
theorem append_any (w : World) (p d g b0 c : Nat) (s : DS) (q : Scr) (r : List Int) (hD : DiskAt w d g s) (hB : ByD s) (hS : ScrAt w p d q) (hR : RowB w b0 r) (hc : r.length ≤ c) (hg : goodR r) (hu : q.used + blks r ≤ halfN s.n) (hh : q.h ≤ 1) (hw : s.writes + 8 ≤ 4611686018427387904) (hnum : q.num ≤ 1000) :
    Calls Try.prog 16 #[.pointer (some ⟨p, 0, none⟩), .slice (some ⟨b0, 0, none⟩) r.length c] w (AppPost s q p d g r w) := by
  have hl := hg.2
  obtain ⟨hb1, hb8⟩ := good_blks hg
  have hhi := hD.high
  have hle := halfN_le s.n hhi
  have hst := startN_le s.n q.h hhi hh
  have h1 := blocks_any w (some ⟨b0, 0, none⟩) c r (by omega)
  have h2 := good_any w (some ⟨b0, 0, none⟩) c r (by omega)
  have h3 := room_any w p d g s q hD hS (by omega)
  rw [decide_eq_true hg] at h2
  have H1 := Lib.hid h1
  have H2 := Lib.hid h2
  have H3 := Lib.hid h3
  have HD := Lib.hid hD
  have HS := Lib.hid hS
  have HR := Lib.hid hR
  have HB := Lib.hid hB
  have HNO := Lib.hid (dgp_no hD hS)
  have HNE := Lib.hid (scr_ne hD hS)
  clear h1 h2 h3 hD hS hR hB
  go_enter Try.func16, Try.ntmps16
  go_wp2_with fail
  refine H1.out.mono ?_
  rintro e w1 ⟨rfl, rfl⟩
  go_wp2_with fail
  refine H2.out.mono ?_
  rintro e w1 ⟨rfl, rfl⟩
  go_wp2_with fail
  refine H3.out.mono ?_
  rintro e w1 ⟨rfl, hd1⟩
  have HD1 := Lib.hid (HD.out.drawn hd1)
  have HS1 := Lib.hid (HS.out.drawn hd1)
  have hk1 : Kp (DGP d g p) w w1 := hd1.kp _
  clear H1 H2 H3 hd1
  go_wp2_with fail
  go_loopw [20] (fun v wr => ∃ k : Nat, k ≤ blks r ∧ v = .int .i64 k ∧ Kp (DGP d g p) w wr ∧ Hid (DiskAt wr d g (s.lay (startN s.n q.h) q.gen q.num q.used r k)) ∧ Hid (ScrAt wr p d q) ∧ Hid (k = 0 ∨ (s.off = false ∧ (s.fuse = -1 ∨ (k : Int) ≤ s.fuse)))) (fun v _ => 9 - (intOf v).toNat)
  case atStart => exact ⟨0, by omega, rfl, hk1, by rw [DS.lay_zero]; exact HD1, HS1, .inl rfl⟩
  case round =>
    obtain ⟨k, hk, rfl, hkp, hdk, hsk, hfk⟩ := hrel
    by_cases hlt : k < blks r
    · have hrow : RowB wr b0 r := HR.out.kp hkp HNO.out
      have hin : Hid (startN s.n q.h + q.used + k < s.n) := by
        show _ < _
        have := (half_in (n := s.n) (h := q.h) (i := q.used + k) hh (by omega)).1
        omega
      have HFREE : Hid (∀ W, Below wr.heap.size wr W → Calls Try.prog 38 #[.pointer (some ⟨p, 0, none⟩)] W fun e w' => e = .returned (.int .i64 ((startN s.n q.h : Int) + (q.used : Int))) ∧ Drawn W w') := fun W hb => by
        have := free_any W p d g _ q (hdk.out.below hb) (hsk.out.below hb) (by show q.used ≤ halfN s.n; omega) hh
        rwa [Int.natCast_add] at this
      have HPIECE : Hid (∀ W, Below wr.heap.size wr W → Calls Try.prog 39 #[.int .i64 q.gen, .int .i64 q.num, .int .i64 k, .slice (some ⟨b0, 0, none⟩) r.length c] W fun e w' => e = .returned (.slice (some ⟨W.heap.size, 0, none⟩) 64 64) ∧ Below W.heap.size W w' ∧ Blk w' W.heap.size (ints .u8 (pieceL q.gen q.num k r)).toArray 5) := fun W hb =>
        piece_any W q.gen q.num k b0 c r (hrow.below hb) hc hlt hg
      obtain ⟨E, S', hES, hWE, hWS⟩ : ∃ E S', ((E = 0 ∧ S' = s.lay (startN s.n q.h) q.gen q.num q.used r (k + 1) ∧ s.off = false ∧ (s.fuse = -1 ∨ (k : Int) + 1 ≤ s.fuse)) ∨ (E = 21 ∧ AppEnd s (startN s.n q.h) q.gen q.num q.used r 21 S')) ∧
          (s.lay (startN s.n q.h) q.gen q.num q.used r k).writeE ((startN s.n q.h : Int) + (q.used : Int) + (k : Int)) (pieceL q.gen q.num k r) = E ∧ (s.lay (startN s.n q.h) q.gen q.num q.used r k).writeS ((startN s.n q.h : Int) + (q.used : Int) + (k : Int)) (pieceL q.gen q.num k r) = S' := by
        have hhas : (s.lay (startN s.n q.h) q.gen q.num q.used r k).has ((startN s.n q.h : Int) + (q.used : Int) + (k : Int)) := by
          have := hin.out
          exact ⟨by omega, by show _ < ((s.n : Nat) : Int); omega⟩
        have hpl := piece_len q.gen q.num k r
        have hcast : ((startN s.n q.h : Int) + (q.used : Int) + (k : Int)) = ((startN s.n q.h + q.used + k : Nat) : Int) := by omega
        cases ho : s.off with
        | true =>
          have hk0 : k = 0 := by
            rcases hfk.out with h | ⟨h, _⟩
            · exact h
            · rw [ho] at h; cases h
          refine ⟨21, s, .inr ⟨rfl, .off ho⟩, ?_, ?_⟩
          · unfold DS.writeE
            have : (s.lay (startN s.n q.h) q.gen q.num q.used r k).off = true := ho
            simp [hhas, hpl, this]
          · unfold DS.writeS
            have : (s.lay (startN s.n q.h) q.gen q.num q.used r k).off = true := ho
            simp only [hhas, hpl, this, not_true, not_false_iff, if_true, if_false, ne_eq]
            subst hk0
            exact DS.lay_zero _ _ _ _ _ _
        | false =>
          have hoff : (s.lay (startN s.n q.h) q.gen q.num q.used r k).off = false := ho
          have hf0 : s.fuse = -1 ∨ (k : Int) ≤ s.fuse := by
            rcases hfk.out with h | ⟨_, h⟩
            · have := HD.out.fuse0; omega
            · exact h
          by_cases hcut : s.fuse = k
          · have hz : (s.lay (startN s.n q.h) q.gen q.num q.used r k).fuse = 0 := by
              show (if s.fuse = -1 then (-1 : Int) else s.fuse - (k : Int)) = 0
              rw [if_neg (by omega)]; omega
            refine ⟨21, (s.lay (startN s.n q.h) q.gen q.num q.used r k).cut, .inr ⟨rfl, .cut k ho hcut hlt⟩, ?_, ?_⟩
            · unfold DS.writeE
              simp [hhas, hpl, hoff, hz]
            · unfold DS.writeS DS.cut
              simp [hhas, hpl, hoff, hz]
          · have hz : (s.lay (startN s.n q.h) q.gen q.num q.used r k).fuse ≠ 0 := by
              show (if s.fuse = -1 then (-1 : Int) else s.fuse - (k : Int)) ≠ 0
              split <;> omega
            obtain ⟨e1, e2⟩ := DS.writeS_put hhas hpl hoff hz
            refine ⟨0, s.lay (startN s.n q.h) q.gen q.num q.used r (k + 1), .inl ⟨rfl, rfl, rfl, by omega⟩, e2, ?_⟩
            rw [e1, hcast]
            exact DS.lay_put s _ _ _ _ r k (by omega)
      have HWRITE : Hid (∀ W b, Below wr.heap.size wr W → Blk W b (ints .u8 (pieceL q.gen q.num k r)).toArray 5 → Calls Try.prog 37 #[.pointer (some ⟨d, 0, none⟩), .int .i64 ((startN s.n q.h : Int) + (q.used : Int) + (k : Int)), .slice (some ⟨b, 0, none⟩) 64 64] W fun e w' => e = .returned (.int .i64 E) ∧ Kp (fun k => k = d ∨ k = g) W w' ∧ DiskAt w' d g S') := fun W b hb hblk => by
        have hd := hdk.out.below hb
        obtain ⟨cap, _, hbx⟩ := hd.box
        have := write_at W d g _ hd ((startN s.n q.h : Int) + (q.used : Int) + (k : Int)) b _ _ (piece_len _ _ _ _) hblk (fun e => by subst e; exact absurd (blk_ty hbx hblk) (by decide)) (by show s.writes + (k : Int) + 1 ≤ _; omega)
        rwa [hWE, hWS] at this
      have HC : Hid (∀ W, Below wr.heap.size wr W → W.cell? ⟨p, 0, none⟩ = some (.pointer (some ⟨d, 0, none⟩)) ∧ W.cell? ⟨p, 2, none⟩ = some (.int .i64 q.gen) ∧ W.cell? ⟨p, 3, none⟩ = some (.int .i64 q.num)) := fun W hb => by
        obtain ⟨z0, _, z2, z3, _, _⟩ := (hsk.out.below hb).cells
        exact ⟨z0, z2, z3⟩
      have HC5 : Hid (∀ W W5, Below wr.heap.size wr W → Kp (fun k => k = d ∨ k = g) W W5 → W5.cell? ⟨p, 0, none⟩ = some (.pointer (some ⟨d, 0, none⟩)) ∧ W5.cell? ⟨p, 2, none⟩ = some (.int .i64 q.gen) ∧ W5.cell? ⟨p, 3, none⟩ = some (.int .i64 q.num)) := fun W W5 hb h5 => by
        obtain ⟨z0, _, z2, z3, _, _⟩ := ((hsk.out.below hb).kp h5 (fun e => by rcases e with e | e; exact HNE.out.1 e; exact HNE.out.2 e)).cells
        exact ⟨z0, z2, z3⟩
      have HSW : Hid (∀ W W5, Below wr.heap.size wr W → Kp (fun k => k = d ∨ k = g) W W5 → ScrAt W5 p d q ∧ Kp (DGP d g p) w W5) := fun W W5 hb h5 =>
        ⟨(hsk.out.below hb).kp h5 (fun e => by rcases e with e | e; exact HNE.out.1 e; exact HNE.out.2 e), (hkp.trans (Kp.of_below hb)).trans (h5.mono (fun k hk _ => by rcases hk with e | e; exact .inl e; exact .inr (.inl e)))⟩
      have HES := Lib.hid hES
      have bD : Below wr.heap.size wr wr.drew := (Drawn.refl wr).drew.below _
      have hwI : IntKind.i64.wrap ((startN s.n q.h : Int) + (q.used : Int)) = (startN s.n q.h : Int) + (q.used : Int) := by rw [IntKind.wrap_i64]; omega
      have hwK : IntKind.i64.wrap ((startN s.n q.h : Int) + (q.used : Int) + (k : Int)) = (startN s.n q.h : Int) + (q.used : Int) + (k : Int) := by rw [IntKind.wrap_i64]; omega
      clear hES hWE hWS
      go_upto_region 9 with fail
      go_region_held3 (fun w' => w'.cell? ⟨p, 0, none⟩ = some (.pointer (some ⟨d, 0, none⟩)) ∧ w'.cell? ⟨p, 2, none⟩ = some (.int .i64 q.gen) ∧ w'.cell? ⟨p, 3, none⟩ = some (.int .i64 q.num)) ((first | assumption | exact HC.out _ (by assumption) | exact HC.out _ (Below.refl _ _))) (first | (go_at_call 38; refine (HFREE.out _ (by assumption)).mono ?_; rintro e wf ⟨rfl, dF⟩; have bF : Below wr.heap.size wr wf := bel_next (by assumption) (dF.below _)) | (go_at_call 39; refine (HPIECE.out _ (by assumption)).mono ?_; rintro e wp ⟨rfl, bP', kP⟩; have bP : Below wr.heap.size wr wp := bel_next (by assumption) bP') | (go_at_call 37; refine (HWRITE.out _ _ (by assumption) (by first | assumption | exact kP.below (dF.below _))).mono ?_; rintro e w5 ⟨rfl, k5, d5⟩; have c5 := HC5.out _ _ (by assumption) k5))
      all_goals
        obtain ⟨s5, kw5⟩ := HSW.out _ _ (by assumption) k5
        have D5 := Lib.hid d5
        have S5 := Lib.hid s5
        have K5 := Lib.hid kw5
        rcases HES.out with ⟨rfl, rfl, ho, hf⟩ | ⟨rfl, hE⟩
        · have HF : Hid (k + 1 = 0 ∨ (s.off = false ∧ (s.fuse = -1 ∨ ((k + 1 : Nat) : Int) ≤ s.fuse))) := .inr ⟨ho, by rcases hf with h | h; exact .inl h; exact .inr (by omega)⟩
          have HALL := Lib.hid (And.intro K5 (And.intro D5 (And.intro S5 HF)))
          clear d5 s5 kw5 hf ho K5 D5 S5 HF
          go_wp2_with fail
          go_roundw
          case rel => first | exact ⟨k + 1, by omega, by go_num, HALL.out.1.out, HALL.out.2.1, HALL.out.2.2.1, HALL.out.2.2.2⟩ | exact ⟨_, _, _, _, ⟨k + 1, by omega, by go_num, HALL.out.1.out, HALL.out.2.1, HALL.out.2.2.1, HALL.out.2.2.2⟩, rfl, rfl, rfl, rfl⟩
          case measure => simp [intOf]; omega
        · have HEE := Lib.hid hE
          clear d5 s5 kw5 hE
          go_wp2_with fail
          go_ret
          exact ⟨21, S', rfl, HEE.out, D5.out, by rw [if_neg (by decide)]; exact S5.out, K5.out⟩
    · obtain rfl : k = blks r := by omega
      obtain ⟨_, _, _, z3, z4, zf⟩ := hsk.out.cells
      have zf3 := zf 3
      have zf4 := zf 4
      have hn1 : (q.num : Int) + 1 ≤ 1001 := by omega
      have HEND : Hid (∀ W, W = (wr.setCell ⟨p, 3, none⟩ (.int .i64 ((q.num : Int) + 1))).setCell ⟨p, 4, none⟩ (.int .i64 ((q.used : Int) + (blks r : Int))) → AppPost s q p d g r w (.returned (.int .i64 0)) W) := fun W hW => by
        have hof : s.off = false ∧ (s.fuse = -1 ∨ (blks r : Int) ≤ s.fuse) := by
          rcases hfk.out with h | h
          · omega
          · exact h
        have k1 : Kp (fun k => k = p) wr W := by
          rw [hW]
          exact ((Kp.refl (fun k => k = p) wr).setCell (p := ⟨p, 3, none⟩) rfl _).setCell (p := ⟨p, 4, none⟩) rfl _
        refine ⟨0, _, rfl, .ok hof.1 hof.2, hdk.out.kp k1 (fun e => HNE.out.1 e.symm) (fun e => HNE.out.2 e.symm), ?_, hkp.trans (k1.mono (fun k hk _ => .inr (.inr hk)))⟩
        rw [if_pos rfl]
        have := (Blk.set hsk.out 3 (.int .i64 ((q.num : Int) + 1))).set 4 (.int .i64 ((q.used : Int) + (blks r : Int)))
        rw [hW]
        exact this
      have hwT : IntKind.i64.wrap ((q.used : Int) + (blks r : Int)) = (q.used : Int) + (blks r : Int) := by rw [IntKind.wrap_i64]; omega
      go_wp2_with fail
      go_ret
      exact HEND.out _ rfl

end Go.Proofs.Ytmliiggieclbeaa
