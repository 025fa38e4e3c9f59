/- ScrollAtomic: whatever write the power is lost at: the walk. -/
import Derived.Test.YtmliiggieclbeaaLsA
import Derived.Deep.CutRange
namespace Go.Proofs.Ytmliiggieclbeaa
open Go.RowKit

/-- The state ahead of round i (off: the power was lost in it). -/
structure AtomInv (w wr : World) (i d g p : Nat) (s : DS) (gen h : Nat) (rs : List (List Int)) (A : Option Addr) (c : Nat) : Prop where
  live : Live wr d g p s gen h rs
  wts : s.writes ≤ 1 + 6000 * (i : Int)
  rows : RowList w.heap.size (fun _ => True) wr A c rs
  bel : Below w.heap.size w wr
  d0 : w.heap.size ≤ d
  g0 : w.heap.size ≤ g
  p0 : w.heap.size ≤ p
  n3 : 3 ≤ s.n
theorem AtomInv.kp {w wr wr' : World} {i d g p : Nat} {s : DS} {gen h : Nat} {rs : List (List Int)} {A : Option Addr} {c : Nat} (v : AtomInv w wr i d g p s gen h rs A c) (hb : Below wr.heap.size wr wr') : AtomInv w wr' i d g p s gen h rs A c :=
  ⟨v.live.below hb, v.wts, v.rows.below hb, bel_next v.bel hb, v.d0, v.g0, v.p0, v.n3⟩
theorem AtomInv.more {w wr : World} {i d g p : Nat} {s : DS} {gen h : Nat} {rs : List (List Int)} {A : Option Addr} {c : Nat} (v : AtomInv w wr i d g p s gen h rs A c) : AtomInv w wr (i + 1) d g p s gen h rs A c :=
  ⟨v.live, by have := v.wts; omega, v.rows, v.bel, v.d0, v.g0, v.p0, v.n3⟩
/-- The disk is turned, the records stay. -/
theorem AtomInv.turn {w wr wr' : World} {i d g p : Nat} {s s' : DS} {gen h gen' h' : Nat} {rs : List (List Int)} {A : Option Addr} {c : Nat} (v : AtomInv w wr i d g p s gen h rs A c) (hk : Kp (DGP d g p) wr wr') (l : Live wr' d g p s' gen' h' rs) (hw : s'.writes ≤ s.writes) (hn : s'.n = s.n) : AtomInv w wr' i d g p s' gen' h' rs A c :=
  ⟨l, by have := v.wts; omega, v.rows.live v.live hk, bel_nextK v.bel hk (fun k hk => by have := v.d0; have := v.g0; have := v.p0; rcases hk with e | e | e <;> omega), v.d0, v.g0, v.p0, by rw [hn]; exact v.n3⟩

theorem AtomInv.step {w wr wr' : World} {i d g p : Nat} {s s' : DS} {gen h gen' h' : Nat} {rs rs' : List (List Int)} {A A' : Option Addr} {c c' : Nat} (v : AtomInv w wr i d g p s gen h rs A c) (hk : Kp (DGP d g p) wr wr') (l : Live wr' d g p s' gen' h' rs') (hw : s'.writes ≤ s.writes + 5000) (hn : s'.n = s.n) (hr : RowList w.heap.size (fun _ => True) wr' A' c' rs') : AtomInv w wr' (i + 1) d g p s' gen' h' rs' A' c' :=
  ⟨l, by have := v.wts; omega, hr, bel_nextK v.bel hk (fun k hk => by have := v.d0; have := v.g0; have := v.p0; rcases hk with e | e | e <;> omega), v.d0, v.g0, v.p0, by rw [hn]; exact v.n3⟩
theorem op_keep {w w' : World} {d g p q : Nat} {s : DS} {gen h : Nat} {rs : List (List Int)} {cs : Array Value} (l : Live w d g p s gen h rs) (hk : Kp (DGP d g p) w w') (hb : Blk w q cs 34) : Blk w' q cs 34 := by
  refine hb.kp hk (fun hk => ?_)
  obtain ⟨cap, _, hbx⟩ := l.disk.box
  obtain ⟨cr, hrow, _⟩ := l.disk.row
  rcases hk with e | e | e
  · exact absurd (blk_ty hb (e ▸ hbx)) (by decide)
  · exact absurd (blk_ty hb (e ▸ hrow)) (by decide)
  · exact absurd (blk_ty hb (e ▸ l.scr)) (by decide)

set_option maxRecDepth 100000 in
set_option maxHeartbeats 8000000 in
theorem atomic_law (n : Int) (_ : (Lit.int .i64 n).wf = true) (A : Option Addr) (len cap : Nat) (f : Nat → Nat → Int) {W : World} (hl : ArgRows 5 W A len f) (hlen : len * 40 ≤ 140737488351232) :
    Calls Try.prog 9 #[.int .i64 n, .slice A len cap] W fun e w' => e = .returned (.bool true) ∧ Below W.heap.size W w' := by
  have HFR := Lib.hid (fresh_any W n _ (Lib.hid rfl))
  obtain ⟨N, hN⟩ : ∃ N, Hid ((3 + n % 97).toNat = N) := ⟨_, rfl⟩
  rw [hN.out] at HFR
  go_enter Try.func9, Try.ntmps9
  go_wp2_with fail
  refine HFR.out.mono ?_
  rintro e w1 ⟨d, g, p, rfl, hlive, b1, hd0, hg0, hp0⟩
  have HI : Hid (AtomInv W w1 0 d g p (DS.fresh N) 1 0 [] none 0 ∧ (DS.fresh N).off = false) := ⟨⟨hlive, by show (0 : Int) + 1 ≤ 1 + 6000 * ((0 : Nat) : Int); decide, RowList.nil _ _ _, b1, hd0, hg0, hp0, by show 3 ≤ N; have := hN.out; have := Int.emod_nonneg n (show (97 : Int) ≠ 0 by decide); omega⟩, rfl⟩
  clear hlive b1 HFR hd0 hg0 hp0
  go_wp2_with fail
  go_loopw [6, 8, 9] (fun v6 v8 v9 wr => ∃ i : Nat, i ≤ len ∧ v9 = .int .i64 i ∧ ∃ p s gen h rs A2 c2 m, Hid (m = List.length rs) ∧ v6 = .pointer (some ⟨p, 0, none⟩) ∧ v8 = .slice A2 m c2 ∧ Hid (AtomInv W wr i d g p s gen h rs A2 c2 ∧ s.off = false)) (fun _ _ v _ => len - (intOf v).toNat)
  case atStart => exact ⟨0, Nat.zero_le _, rfl, p, _, _, _, [], none, 0, 0, Lib.hid rfl, rfl, rfl, HI⟩
  case round =>
    obtain ⟨i, hi, rfl, p, s, gen, h, rs, A2, c2, m, HM, rfl, rfl, hinv⟩ := hrel
    obtain ⟨q1, q2, q3⟩ := hinv.out.1.live.le
    have hbel := hinv.out.1.bel
    have hsz := hbel.size
    by_cases hlt : i < len
    · obtain ⟨xb, xo, rfl, hxb, hxc⟩ := (hl.below hbel).at_ i hlt
      have e0 := hxc 0 (by omega)
      have e1 := hxc 1 (by omega)
      have e2 := hxc 2 (by omega)
      have e3 := hxc 3 (by omega)
      have e4 := hxc 4 (by omega)
      have hwf1 := wf_i64 (hl.wf i 1 hlt (by omega))
      have HL := Lib.hid hl
      clear hxc hl
      rw [← Nat.add_assoc] at e0 e1 e2 e3 e4
      obtain ⟨x0, hx0⟩ : ∃ x, Hid (f i 0 = x) := ⟨_, rfl⟩
      obtain ⟨x1, hx1⟩ : ∃ x, Hid (f i 1 = x) := ⟨_, rfl⟩
      obtain ⟨x2, hx2⟩ : ∃ x, Hid (f i 2 = x) := ⟨_, rfl⟩
      obtain ⟨x3, hx3⟩ : ∃ x, Hid (f i 3 = x) := ⟨_, rfl⟩
      obtain ⟨x4, hx4⟩ : ∃ x, Hid (f i 4 = x) := ⟨_, rfl⟩
      rw [hx0.out] at e0
      rw [hx1.out] at e1 hwf1
      rw [hx2.out] at e2
      rw [hx3.out] at e3
      rw [hx4.out] at e4
      simp only [Nat.add_zero] at e0
      go_upto_region 9 with fail
      have hA : Below wr.heap.size wr (wr.alloc (.cells #[.int .i64 x0, .int .i64 x1, .int .i64 x2, .int .i64 x3, .int .i64 x4] 34)) := (Below.refl _ _).alloc (Nat.le_refl _) _
      have HX : Hid (AtomInv W (wr.alloc (.cells #[.int .i64 x0, .int .i64 x1, .int .i64 x2, .int .i64 x3, .int .i64 x4] 34)) i d g p s gen h rs A2 c2 ∧ s.off = false ∧ Blk (wr.alloc (.cells #[.int .i64 x0, .int .i64 x1, .int .i64 x2, .int .i64 x3, .int .i64 x4] 34)) wr.heap.size #[.int .i64 x0, .int .i64 x1, .int .i64 x2, .int .i64 x3, .int .i64 x4] 34) := ⟨hinv.out.1.kp hA, hinv.out.2, Blk.new wr _ _⟩
      obtain ⟨W0, hW0⟩ : ∃ W0, W0 = wr.alloc (.cells #[.int .i64 x0, .int .i64 x1, .int .i64 x2, .int .i64 x3, .int .i64 x4] 34) := ⟨_, rfl⟩
      rw [← hW0] at HX ⊢
      obtain ⟨q, hq⟩ : ∃ q, Hid (wr.heap.size = q) := ⟨_, rfl⟩
      simp only [hq.out] at HX ⊢
      clear hW0 hA e0 e1 e2 e3 e4 hbel hsz
      obtain ⟨y1⟩ : Nonempty (W0.cell? ⟨q, 1, none⟩ = some (.int .i64 x1)) := ⟨by rw [HX.out.2.2.cell]; rfl⟩
      go_upto_if 39 with fail
      go_cut [10] from 27 to 106 (fun v10 wx => v10 = .pointer (some ⟨q, 0, none⟩) ∧ ∃ s', Hid (AtomInv W wx i d g p s' gen h rs A2 c2 ∧ s'.off = false ∧ Blk wx q #[.int .i64 x0, .int .i64 x1, .int .i64 x2, .int .i64 x3, .int .i64 x4] 34))
      case first =>
        by_cases h1 : 0 ≤ x1
        · have HF := Lib.hid (fuse_live W0 d g p s gen h rs HX.out.1.live HX.out.2.1 x1 h1 hwf1.2)
          go_wp2_with fail
          refine HF.out.mono ?_
          rintro e w2 ⟨rfl, k2, l2⟩
          have HM2 : Hid (AtomInv W w2 i d g p { s with fuse := x1 } gen h rs A2 c2 ∧ ({ s with fuse := x1 } : DS).off = false ∧ Blk w2 q #[.int .i64 x0, .int .i64 x1, .int .i64 x2, .int .i64 x3, .int .i64 x4] 34) := by
            exact ⟨HX.out.1.turn k2 l2 (Int.le_refl _) rfl, HX.out.2.1, op_keep HX.out.1.live k2 HX.out.2.2⟩
          clear k2 l2 HF
          go_wp2_with fail
          go_meet
          case rel => exact ⟨rfl, _, HM2⟩
        · go_wp2_with fail
          go_meet
          case rel => exact ⟨rfl, s, HX⟩
      case rest =>
        obtain ⟨rfl, s1, HX1⟩ := hcut
        clear HX y1
        have yc : ∀ j v, (#[.int .i64 x0, .int .i64 x1, .int .i64 x2, .int .i64 x3, .int .i64 x4] : Array Value)[j]? = some v → wc.cell? ⟨q, j, none⟩ = some v := fun j v hv => by rw [HX1.out.2.2.cell]; exact hv
        have y0 := yc 0 _ rfl
        have y1 := yc 1 _ rfl
        have y2 := yc 2 _ rfl
        have y3 := yc 3 _ rfl
        have y4 := yc 4 _ rfl
        clear yc
        obtain ⟨kd, hkd⟩ : ∃ x, Hid (x0 % 3 = x) := ⟨_, rfl⟩
        have HPL := Lib.hid (place_any x0 3 wc (by omega) (by omega))
        simp only [hkd.out] at HPL
        go_upto_if 47 with (first | (go_at_call 21; refine HPL.out.mono ?_; rintro e w2 ⟨rfl, rfl⟩))
        go_cut [8, 11] from 27 to 106 (fun v8 v11 wx => ∃ (E : Int) (bo : Bool) (s2 : DS) (gen2 h2 : Nat) (rs2 : List (List Int)) (A3 : Option Addr) (c3 m2 : Nat), v11 = .int .i64 E ∧ v8 = .slice A3 m2 c3 ∧ Hid (m2 = rs2.length) ∧ Hid ((E == 21) = bo) ∧ Hid (AtomInv W wx (i + 1) d g p s2 gen2 h2 rs2 A3 c3 ∧ s2.off = bo ∧ Blk wx q #[.int .i64 x0, .int .i64 x1, .int .i64 x2, .int .i64 x3, .int .i64 x4] 34))
        case first =>
          by_cases h2 : kd < 2
          · have hby := recordL_by x2 x3
            have hrle := recN_le x2
            have hrlen := recordL_length x2 x3
            have HREC := Lib.hid (fun W => record_any x2 x3 W)
            generalize recordL x2 x3 = r at *
            rw [← hrlen] at hrle HREC
            clear hrlen HPL
            go_wp2_with fail
            refine (HREC.out wc).mono ?_
            rintro e w2 ⟨rfl, b2, k2⟩
            have V2 := Lib.hid (HX1.out.1.kp b2)
            have O2 := Lib.hid (HX1.out.2.2.below b2)
            have R2 := Lib.hid (RowB.of_blk k2)
            clear k2 y0 y1 y2 y3 y4
            by_cases hg : goodR r
            · by_cases hfit : total rs + blks r ≤ halfN s1.n
              · have HAP := Lib.hid (append_live w2 p d g wc.heap.size r.length s1 gen h rs r V2.out.live R2.out (Nat.le_refl _) hby hg hfit (by have := V2.out.wts; omega))
                have HG := Lib.hid hg
                clear hg hfit
                go_wp2_with fail
                refine HAP.out.mono ?_
                rintro e w3 ⟨E, s3, rfl, hE, k3⟩
                cases hE with
                | ok _ l ho ho' hf hgo =>
                  have O3 := Lib.hid (op_keep V2.out.live k3 O2.out)
                  have z2 : w3.cell? ⟨q, 2, none⟩ = some (.int .i64 x2) := by rw [O3.out.cell]; rfl
                  have z3 : w3.cell? ⟨q, 3, none⟩ = some (.int .i64 x3) := by rw [O3.out.cell]; rfl
                  have hB3 := Lib.hid (bel_nextK V2.out.bel k3 (fun k hk => by have := V2.out.d0; have := V2.out.g0; have := V2.out.p0; rcases hk with e | e | e <;> omega))
                  have hR3 := Lib.hid (V2.out.rows.live V2.out.live k3)
                  have HL3 := Lib.hid (And.intro l (And.intro ho' hgo))
                  clear l ho ho' hf hgo k3 HAP
                  go_wp2_with fail
                  refine (HREC.out w3).mono ?_
                  rintro e w4 ⟨rfl, b4, k4⟩
                  have hB4 := bel_next hB3.out b4
                  obtain ⟨A5, c5, W5, hrun, hrl5, hkr, hbb⟩ := push_row w4 W.heap.size A2 c2 rs (fun _ => True) (hR3.out.below b4) w3.heap.size r.length r (RowB.of_blk k4) (Nat.le_refl _) trivial (by omega) hB4.size
                  rw [← HM.out] at hrun
                  have HF : Hid (AtomInv W W5 (i + 1) d g p s3 gen h (rs ++ [r]) A5 c5 ∧ s3.off = false ∧ Blk W5 q #[.int .i64 x0, .int .i64 x1, .int .i64 x2, .int .i64 x3, .int .i64 x4] 34) :=
                    ⟨⟨hkr.live (HL3.out.1.below b4), by have := HL3.out.2.2.wr; have := V2.out.wts; omega, hrl5, hbb _ hB4, V2.out.d0, V2.out.g0, V2.out.p0, by rw [HL3.out.2.2.n]; exact V2.out.n3⟩, HL3.out.2.1, hkr.blk (O3.out.below b4) (by decide)⟩
                  clear hrl5 hkr hbb hB4 k4 z2 z3
                  go_wp2_with (first | (at_builtin; (with_reducible refine wpList_append_run rfl _ _ _ _ rfl _ _ _ ?_ ?_ hrun ?_); rfl; rfl))
                  go_meet
                  case rel => exact ⟨0, false, s3, gen, h, rs ++ [r], A5, c5, m + 1, rfl, rfl, Lib.hid (by rw [HM.out]; simp), Lib.hid rfl, HF⟩
                | cut _ l hp ho' hgo =>
                  have HF : Hid (AtomInv W w3 (i + 1) d g p s3 gen h rs A2 c2 ∧ s3.off = true ∧ Blk w3 q #[.int .i64 x0, .int .i64 x1, .int .i64 x2, .int .i64 x3, .int .i64 x4] 34) :=
                    ⟨V2.out.step k3 l (by have := hgo.wr; omega) hgo.n (V2.out.rows.live V2.out.live k3), ho', op_keep V2.out.live k3 O2.out⟩
                  clear l hp ho' hgo k3 HAP
                  go_wp2_with fail
                  go_meet
                  case rel => exact ⟨21, true, s3, gen, h, rs, A2, c2, m, rfl, rfl, HM, Lib.hid rfl, HF⟩
              · have HAP := Lib.hid (append_full w2 p d g wc.heap.size r.length s1 _ r V2.out.live.disk V2.out.live.scr V2.out.live.le.2.1 hg (by simp only; have := V2.out.live.le.2.1; omega))
                clear hg hfit
                go_wp2_with fail
                refine HAP.out.mono ?_
                rintro e w3 ⟨rfl, d3⟩
                have HF : Hid (AtomInv W w3 (i + 1) d g p s1 gen h rs A2 c2 ∧ s1.off = false ∧ Blk w3 q #[.int .i64 x0, .int .i64 x1, .int .i64 x2, .int .i64 x3, .int .i64 x4] 34) :=
                  ⟨(V2.out.kp (d3.below _)).more, HX1.out.2.1, O2.out.below (d3.below _)⟩
                clear d3 HAP
                go_wp2_with fail
                go_meet
                case rel => exact ⟨2, false, s1, gen, h, rs, A2, c2, m, rfl, rfl, HM, Lib.hid rfl, HF⟩
            · have HAP := Lib.hid (append_bad w2 p wc.heap.size r.length r hg (by omega))
              clear hg
              go_wp2_with fail
              refine HAP.out.mono ?_
              rintro e w3 ⟨rfl, rfl⟩
              have HF : Hid (AtomInv W w2 (i + 1) d g p s1 gen h rs A2 c2 ∧ s1.off = false ∧ Blk w2 q #[.int .i64 x0, .int .i64 x1, .int .i64 x2, .int .i64 x3, .int .i64 x4] 34) :=
                ⟨V2.out.more, HX1.out.2.1, O2.out⟩
              clear HAP
              go_wp2_with fail
              go_meet
              case rel => exact ⟨61, false, s1, gen, h, rs, A2, c2, m, rfl, rfl, HM, Lib.hid rfl, HF⟩
          · have HRECS := Lib.hid (records_any wc x0 x1 x2 x3 x4)
            clear HPL
            go_wp2_with fail
            refine HRECS.out.mono ?_
            rintro e w2 ⟨A4, c4, m4, hm4, rfl, hrl4, b2⟩
            have hm300 : m4 ≤ 300 := by rw [hm4]; unfold manyN; omega
            have V2 := Lib.hid (HX1.out.1.kp b2)
            have O2 := Lib.hid (HX1.out.2.2.below b2)
            have HT := Lib.hid (turn_any w2 p d g s1 gen h rs (recsL x2 x3 m4) V2.out.live A4 m4 c4 (hrl4.handed V2.out.live.disk (recsL_length _ _ _) (fun r hr => (recsL_row hr).1) (fun r hr => by rw [(recsL_row hr).2]; have := recN_le x2; omega) (by omega)) (by have := V2.out.wts; omega))
            have HRL := Lib.hid hrl4
            have hwc := HX1.out.1.bel.size
            clear hrl4 hm4 b2 HRECS y0 y1 y2 y3 y4
            go_wp2_with fail
            refine HT.out.mono ?_
            rintro e w3 ⟨E, s3, rfl, hE, k3⟩
            have O3 := Lib.hid (op_keep V2.out.live k3 O2.out)
            have R3 := Lib.hid (V2.out.rows.live V2.out.live k3)
            have L3 : Hid (RowList W.heap.size (fun _ => True) w3 A4 c4 (recsL x2 x3 m4)) := (HRL.out.live V2.out.live k3).low hwc (fun _ _ => trivial)
            cases hE with
            | bad hb l =>
              have HF : Hid (AtomInv W w3 (i + 1) d g p s1 gen h rs A2 c2 ∧ s1.off = false ∧ Blk w3 q #[.int .i64 x0, .int .i64 x1, .int .i64 x2, .int .i64 x3, .int .i64 x4] 34) := ⟨V2.out.step k3 l (by omega) rfl R3.out, HX1.out.2.1, O3.out⟩
              clear hb l k3 HT
              go_wp2_with fail
              go_meet
              case rel => exact ⟨61, false, s1, gen, h, rs, A2, c2, m, rfl, rfl, HM, Lib.hid rfl, HF⟩
            | full hg hf l =>
              have HF : Hid (AtomInv W w3 (i + 1) d g p s1 gen h rs A2 c2 ∧ s1.off = false ∧ Blk w3 q #[.int .i64 x0, .int .i64 x1, .int .i64 x2, .int .i64 x3, .int .i64 x4] 34) := ⟨V2.out.step k3 l (by omega) rfl R3.out, HX1.out.2.1, O3.out⟩
              clear hg hf l k3 HT
              go_wp2_with fail
              go_meet
              case rel => exact ⟨2, false, s1, gen, h, rs, A2, c2, m, rfl, rfl, HM, Lib.hid rfl, HF⟩
            | high hg hf hh l =>
              have HF : Hid (AtomInv W w3 (i + 1) d g p s1 gen h rs A2 c2 ∧ s1.off = false ∧ Blk w3 q #[.int .i64 x0, .int .i64 x1, .int .i64 x2, .int .i64 x3, .int .i64 x4] 34) := ⟨V2.out.step k3 l (by omega) rfl R3.out, HX1.out.2.1, O3.out⟩
              clear hg hf hh l k3 HT
              go_wp2_with fail
              go_meet
              case rel => exact ⟨60, false, s1, gen, h, rs, A2, c2, m, rfl, rfl, HM, Lib.hid rfl, HF⟩
            | ok _ G hg hf l hG ho ho' hfu hfu' hn hw hgens =>
              have HF : Hid (AtomInv W w3 (i + 1) d g p s3 G (1 - h) (recsL x2 x3 m4) A4 c4 ∧ s3.off = false ∧ Blk w3 q #[.int .i64 x0, .int .i64 x1, .int .i64 x2, .int .i64 x3, .int .i64 x4] 34) := ⟨V2.out.step k3 l hw hn L3.out, ho', O3.out⟩
              clear hg hf l hG ho ho' hfu hfu' hn hw hgens k3 HT
              go_wp2_with fail
              go_meet
              case rel => exact ⟨0, false, s3, G, 1 - h, recsL x2 x3 m4, A4, c4, m4, rfl, rfl, Lib.hid (recsL_length _ _ _).symm, Lib.hid rfl, HF⟩
            | cut _ hg hf l ho' hp hn hw hgens =>
              have HF : Hid (AtomInv W w3 (i + 1) d g p s3 gen h rs A2 c2 ∧ s3.off = true ∧ Blk w3 q #[.int .i64 x0, .int .i64 x1, .int .i64 x2, .int .i64 x3, .int .i64 x4] 34) := ⟨V2.out.step k3 l hw hn R3.out, ho', O3.out⟩
              clear hg hf l ho' hp hn hw hgens k3 HT
              go_wp2_with fail
              go_meet
              case rel => exact ⟨21, true, s3, gen, h, rs, A2, c2, m, rfl, rfl, HM, Lib.hid rfl, HF⟩
        case rest =>
          obtain ⟨E, bo, s2, gen2, h2, rs2, A3, c3, m2, rfl, rfl, HM2, HE, HX2⟩ := hcut
          clear y0 y1 y2 y3 y4 HPL
          have z3 : wc.cell? ⟨q, 3, none⟩ = some (.int .i64 x3) := by rw [HX2.out.2.2.cell]; rfl
          have hE21 : (E == 21) = bo := HE.out
          have HON := Lib.hid (fun W hD => on_any W d g s2 hD)
          simp only [HX2.out.2.1] at HON
          go_wp2_with fail
          refine (HON.out wc HX2.out.1.live.disk).mono ?_
          rintro e w4 ⟨rfl, rfl⟩
          cases bo with
          | true =>
            go_wp2_with fail
            refine (HON.out wc HX2.out.1.live.disk).mono ?_
            rintro e w4 ⟨rfl, rfl⟩
            have HPW := Lib.hid (power_live wc d g p s2 gen2 h2 rs2 HX2.out.1.live)
            go_wp2_with fail
            refine HPW.out.mono ?_
            rintro e w5 ⟨rfl, k5, l5⟩
            have V5 := Lib.hid (HX2.out.1.turn k5 l5 (Int.le_refl _) rfl)
            have HOP := Lib.hid (open_live w5 d g _ gen2 h2 rs2 V5.out.live.disk V5.out.live.byd V5.out.n3 V5.out.live.on)
            simp only [← HM2.out] at HOP
            clear HPW k5 l5
            go_wp2_with fail
            refine HOP.out.mono ?_
            rintro e w6 ⟨p6, A6, c6, vs6, rfl, l6, hp6, ho6, hr6, b6⟩
            have V6 := Lib.hid (V5.out.kp b6)
            have l6le := l6.le
            have HSR := Lib.hid (same_told w6 W.heap.size (fun _ => True) A6 A3 c6 c3 m2 vs6 rs2 _ _ ho6 hr6 V6.out.rows HM2.out.symm (by have := HM2.out; omega) l6.on.rows.good)
            have hp6' : W.heap.size ≤ p6 := by have := V5.out.bel.size; omega
            have L6 := Lib.hid l6
            clear l6 ho6 hr6 b6 HOP l6le
            go_wp2_with fail
            refine HSR.out.mono ?_
            rintro e w7 ⟨rfl, d7⟩
            have HF : Hid (AtomInv W w7 (i + 1) d g p6 { s2 with off := false, fuse := -1 } gen2 h2 rs2 A3 c3 ∧ ({ s2 with off := false, fuse := -1 } : DS).off = false) :=
              ⟨⟨L6.out.below (d7.below _), V6.out.wts, V6.out.rows.below (d7.below _), bel_next V6.out.bel (d7.below _), V6.out.d0, V6.out.g0, hp6', V6.out.n3⟩, rfl⟩
            clear HSR d7
            go_wp2_with fail
            go_roundw
            case rel => exact ⟨i + 1, by omega, by go_num, p6, { s2 with off := false, fuse := -1 }, gen2, h2, rs2, A3, c3, m2, HM2, rfl, rfl, Lib.hid (And.intro HF.out.1 rfl)⟩
            case measure => simp [intOf]; omega
          | false =>
            go_wp2_with fail
            refine (HON.out wc HX2.out.1.live.disk).mono ?_
            rintro e w4 ⟨rfl, rfl⟩
            cases hq3 : (x3.tmod 3 != 0) with
            | true =>
              have HF : Hid (AtomInv W wc (i + 1) d g p s2 gen2 h2 rs2 A3 c3 ∧ s2.off = false) := ⟨HX2.out.1, HX2.out.2.1⟩
              go_wp2_with fail
              go_roundw
              case rel => exact ⟨i + 1, by omega, by go_num, p, s2, gen2, h2, rs2, A3, c3, m2, HM2, rfl, rfl, HF⟩
              case measure => simp [intOf]; omega
            | false =>
              have HPW := Lib.hid (power_live wc d g p s2 gen2 h2 rs2 HX2.out.1.live)
              go_wp2_with fail
              refine HPW.out.mono ?_
              rintro e w5 ⟨rfl, k5, l5⟩
              have V5 := Lib.hid (HX2.out.1.turn k5 l5 (Int.le_refl _) rfl)
              have HOP := Lib.hid (open_live w5 d g _ gen2 h2 rs2 V5.out.live.disk V5.out.live.byd V5.out.n3 V5.out.live.on)
              simp only [← HM2.out] at HOP
              clear HPW k5 l5
              go_wp2_with fail
              refine HOP.out.mono ?_
              rintro e w6 ⟨p6, A6, c6, vs6, rfl, l6, hp6, ho6, hr6, b6⟩
              have V6 := Lib.hid (V5.out.kp b6)
              have l6le := l6.le
              have HSR := Lib.hid (same_told w6 W.heap.size (fun _ => True) A6 A3 c6 c3 m2 vs6 rs2 _ _ ho6 hr6 V6.out.rows HM2.out.symm (by have := HM2.out; omega) l6.on.rows.good)
              have hp6' : W.heap.size ≤ p6 := by have := V5.out.bel.size; omega
              have L6 := Lib.hid l6
              clear l6 ho6 hr6 b6 HOP l6le
              go_wp2_with fail
              refine HSR.out.mono ?_
              rintro e w7 ⟨rfl, d7⟩
              have HF : Hid (AtomInv W w7 (i + 1) d g p6 { s2 with off := false, fuse := -1 } gen2 h2 rs2 A3 c3 ∧ ({ s2 with off := false, fuse := -1 } : DS).off = false) :=
                ⟨⟨L6.out.below (d7.below _), V6.out.wts, V6.out.rows.below (d7.below _), bel_next V6.out.bel (d7.below _), V6.out.d0, V6.out.g0, hp6', V6.out.n3⟩, rfl⟩
              clear HSR d7
              go_wp2_with fail
              go_roundw
              case rel => exact ⟨i + 1, by omega, by go_num, p6, { s2 with off := false, fuse := -1 }, gen2, h2, rs2, A3, c3, m2, HM2, rfl, rfl, Lib.hid (And.intro HF.out.1 rfl)⟩
              case measure => simp [intOf]; omega
    · have HPW := Lib.hid (power_live wr d g p s gen h rs hinv.out.1.live)
      go_wp2_with fail
      refine HPW.out.mono ?_
      rintro e w5 ⟨rfl, k5, l5⟩
      have V5 := Lib.hid (hinv.out.1.turn k5 l5 (Int.le_refl _) rfl)
      have HOP := Lib.hid (open_live w5 d g _ gen h rs V5.out.live.disk V5.out.live.byd V5.out.n3 V5.out.live.on)
      simp only [← HM.out] at HOP
      clear HPW k5 l5
      go_wp2_with fail
      refine HOP.out.mono ?_
      rintro e w6 ⟨p6, A6, c6, vs6, rfl, l6, hp6, ho6, hr6, b6⟩
      have V6 := Lib.hid (V5.out.kp b6)
      have HSR := Lib.hid (same_told w6 W.heap.size (fun _ => True) A6 A2 c6 c2 m vs6 rs _ _ ho6 hr6 V6.out.rows HM.out.symm (by have := HM.out; omega) l6.on.rows.good)
      clear l6 ho6 hr6 b6 HOP
      go_wp2_with fail
      refine HSR.out.mono ?_
      rintro e w7 ⟨rfl, d7⟩
      have hB7 := bel_next V6.out.bel (d7.below _)
      have HAW := Lib.hid (awake_any w7)
      clear HSR d7
      go_wp2_with fail
      refine HAW.out.mono ?_
      rintro e w8 ⟨rfl, b8⟩
      go_wp2_with fail
      go_ret
      exact ⟨rfl, bel_next hB7 b8⟩

end Go.Proofs.Ytmliiggieclbeaa
