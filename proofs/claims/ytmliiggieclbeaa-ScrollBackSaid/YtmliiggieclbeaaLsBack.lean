/- ScrollBack: what is appended is told, in order: the walk. -/
import Derived.Test.YtmliiggieclbeaaSclO
import Derived.Test.YtmliiggieclbeaaArg3
import Derived.Deep.RegionHeld3
namespace Go.Proofs.Ytmliiggieclbeaa
open Go.RowKit

theorem recordL_by (n fill : Int) : isBy (recordL n fill) := by
  intro z hz
  obtain ⟨i, _, rfl⟩ := List.mem_map.1 hz
  have := recByte_range fill i
  omega
/-- The state ahead of round i. -/
structure BackInv (w wr : World) (i d g p : Nat) (s : DS) (rs : List (List Int)) (A : Option Addr) (c : Nat) : Prop where
  live : Live wr d g p s 1 0 rs
  off : s.off = false
  fuse : s.fuse = -1
  wts : s.writes ≤ 1 + 8 * (i : Int)
  rows : RowList w.heap.size (fun _ => True) wr A c rs
  bel : Below w.heap.size w wr
  d0 : w.heap.size ≤ d
  g0 : w.heap.size ≤ g
  p0 : w.heap.size ≤ p
  n3 : 3 ≤ s.n
theorem BackInv.kp {w wr wr' : World} {i d g p : Nat} {s : DS} {rs : List (List Int)} {A : Option Addr} {c : Nat} (h : BackInv w wr i d g p s rs A c) (hb : Below wr.heap.size wr wr') : BackInv w wr' i d g p s rs A c :=
  ⟨h.live.below hb, h.off, h.fuse, h.wts, h.rows.below hb, bel_next h.bel hb, h.d0, h.g0, h.p0, h.n3⟩
theorem BackInv.more {w wr : World} {i d g p : Nat} {s : DS} {rs : List (List Int)} {A : Option Addr} {c : Nat} (h : BackInv w wr i d g p s rs A c) : BackInv w wr (i + 1) d g p s rs A c :=
  ⟨h.live, h.off, h.fuse, by have := h.wts; omega, h.rows, h.bel, h.d0, h.g0, h.p0, h.n3⟩

set_option maxRecDepth 100000 in
set_option maxHeartbeats 8000000 in
theorem back_law (n : Int) (_ : (Lit.int .i64 n).wf = true) (A : Option Addr) (len cap : Nat) (f : Nat → Nat → Int) {W : World} (hl : ArgRows 5 W A len f) (hlen : len * 40 ≤ 140737488351232) :
    Calls Try.prog 4 #[.int .i64 n, .slice A len cap] W fun e w' => e = .returned (.bool true) ∧ Below W.heap.size W w' := by
  have HFR := Lib.hid (fresh_any W n _ (Lib.hid rfl))
  obtain ⟨N, hN⟩ : ∃ N, Hid ((3 + n % 97).toNat = N) := ⟨_, rfl⟩
  rw [hN.out] at HFR
  go_enter Try.func4, Try.ntmps4
  go_wp2_with fail
  refine HFR.out.mono ?_
  rintro e w1 ⟨d, g, p, rfl, hlive, b1, hd0, hg0, hp0⟩
  have HI : Hid (BackInv W w1 0 d g p (DS.fresh N) [] none 0) := ⟨hlive, rfl, rfl, by show (0 : Int) + 1 ≤ 1 + 8 * ((0 : Nat) : Int); decide, RowList.nil _ _ _, b1, hd0, hg0, hp0, by show 3 ≤ N; have := hN.out; have := Int.emod_nonneg n (show (97 : Int) ≠ 0 by decide); omega⟩
  clear hlive b1 HFR hd0 hg0 hp0
  go_wp2_with fail
  go_loopw [8, 9] (fun v8 v9 wr => ∃ i : Nat, i ≤ len ∧ v9 = .int .i64 i ∧ ∃ s rs A2 c2 m, m = rs.length ∧ v8 = .slice A2 m c2 ∧ Hid (BackInv W wr i d g p s rs A2 c2)) (fun _ v _ => len - (intOf v).toNat)
  case atStart => exact ⟨0, Nat.zero_le _, rfl, _, [], none, 0, 0, rfl, rfl, HI⟩
  case round =>
    obtain ⟨i, hi, rfl, s, rs, A2, c2, m, hm, rfl, hinv⟩ := hrel
    have HM := Lib.hid hm
    obtain ⟨q1, q2, q3⟩ := hinv.out.live.le
    have hbel := hinv.out.bel
    have hsz := hbel.size
    clear hm
    by_cases hlt : i < len
    · obtain ⟨xb, xo, rfl, hxb, hxc⟩ := (hl.below hbel).at_ i hlt
      have c2' := hxc 2 (by omega)
      rw [← Nat.add_assoc] at c2'
      have c3' := hxc 3 (by omega)
      rw [← Nat.add_assoc] at c3'
      have HL := Lib.hid hl
      clear hxc hl
      obtain ⟨x2, hx2⟩ : ∃ x, Hid (f i 2 = x) := ⟨_, rfl⟩
      obtain ⟨x3, hx3⟩ : ∃ x, Hid (f i 3 = x) := ⟨_, rfl⟩
      rw [hx2.out] at c2'
      rw [hx3.out] at c3'
      have hby := recordL_by x2 x3
      have hrle := recN_le x2
      have hrlen := recordL_length x2 x3
      have HREC := Lib.hid (fun W => record_any x2 x3 W)
      generalize recordL x2 x3 = r at *
      rw [← hrlen] at hrle HREC
      clear hrlen
      have bD : Below wr.heap.size wr wr.drew := (Drawn.refl wr).drew.below _
      have HC : Hid (∀ W', Below wr.heap.size wr W' → W'.cell? ⟨xb, xo + i * 5 + 2, none⟩ = some (.int .i64 x2) ∧ W'.cell? ⟨xb, xo + i * 5 + 3, none⟩ = some (.int .i64 x3)) := fun W' hb => ⟨cell_keep hb c2', cell_keep hb c3'⟩
      go_wp2_with fail
      go_region_held3 (fun w' => w'.cell? ⟨xb, xo + i * 5 + 2, none⟩ = some (.int .i64 x2) ∧ w'.cell? ⟨xb, xo + i * 5 + 3, none⟩ = some (.int .i64 x3)) ((first | assumption | exact HC.out _ (Below.refl _ _) | exact HC.out _ (by assumption))) (first | (go_at_call 10; refine (HREC.out _).mono ?_; rintro e w3 ⟨rfl, b3', k3⟩; have b3 : Below wr.heap.size wr w3 := bel_next bD b3'))
      have hrow := RowB.of_blk k3
      have hinv3 := hinv.out.kp b3
      clear c2' c3' HC k3 b3'
      have HROOM := Lib.hid (room_any w3 p d g s _ hinv3.live.disk hinv3.live.scr hinv3.live.le.2.1)
      obtain ⟨R, hR⟩ : ∃ R, Hid (halfN s.n - total rs = R) := ⟨_, rfl⟩
      simp only [hR.out] at HROOM
      have hRle : R ≤ 512 := by have := hR.out; omega
      have HI3 := Lib.hid hinv3
      have HROW := Lib.hid hrow
      clear hinv3 hrow
      go_wp2_with fail
      refine HROOM.out.mono ?_
      rintro e w4 ⟨rfl, d4⟩
      have HI4 := Lib.hid (HI3.out.kp (d4.below _))
      have HROW4 := Lib.hid (HROW.out.below (d4.below _))
      clear HROOM HI3 HROW d4
      by_cases hg : goodR r
      · by_cases hfit : blks r ≤ R
        · have hRR := hR.out
          have HAP := Lib.hid (append_live w4 p d g wr.heap.size r.length s 1 0 rs r HI4.out.live HROW4.out (Nat.le_refl _) hby hg (by omega) (by have := HI4.out.wts; omega))
          have hr4 : r.length ≤ 424 := hg.2
          have z0 : ((r.length : Int) == 0) = false := by have := hg.1; rw [beq_eq_false_iff_ne]; omega
          have z1 : ¬ r.length = 0 := by have := hg.1; omega
          have z4 : decide ((424 : Int) < r.length) = false := by rw [decide_eq_false_iff_not]; omega
          have hb500 : blks r ≤ 500 := by have := (good_blks hg).2; omega
          clear hRR
          go_wp2_with fail
          refine HAP.out.mono ?_
          rintro e w5 ⟨E, s', rfl, hE, k5⟩
          obtain ⟨rfl, hl5, ho5, hf5, hgo⟩ : E = 0 ∧ Live w5 d g p s' 1 0 (rs ++ [r]) ∧ s'.off = false ∧ s'.fuse = -1 ∧ Goes s s' 1 8 := by
            cases hE with
            | ok _ l ho ho' hf hgo => exact ⟨rfl, l, ho', hf HI4.out.fuse, hgo⟩
            | cut _ l hp ho' hgo => exact absurd ⟨HI4.out.off, HI4.out.fuse⟩ hp
          have hd0 := HI4.out.d0
          have hg0 := HI4.out.g0
          have hp0 := HI4.out.p0
          have hinv5 : BackInv W w5 (i + 1) d g p s' (rs ++ [r]) none 0 → True := fun _ => trivial
          have HB5 := Lib.hid (bel_nextK HI4.out.bel k5 (fun k hk => by rcases hk with h | h | h <;> omega))
          have HRL5 := Lib.hid (HI4.out.rows.live HI4.out.live k5)
          have HROW5 := Lib.hid (HROW4.out.kp k5 HI4.out.live.no)
          have HW5 : Hid (s'.writes ≤ 1 + 8 * ((i + 1 : Nat) : Int)) := by
            show _ ≤ _
            have := hgo.wr
            have := HI4.out.wts
            omega
          have HN3 : Hid (3 ≤ s'.n) := by show _ ≤ _; rw [hgo.n]; exact HI4.out.n3
          have HROOM := Lib.hid (room_any w5 p d g s' _ hl5.disk hl5.scr hl5.le.2.1)
          have hq : (((halfN s'.n - total (rs ++ [r]) : Nat) : Nat) : Int) = (R : Int) - (blks r : Int) := by
            rw [hgo.n, total_app, total_one]
            have := hR.out
            omega
          simp only [hq] at HROOM
          have HBL := Lib.hid (fun W' => blocks_any W' (some ⟨wr.heap.size, 0, none⟩) r.length r (by omega))
          have HF5 := Lib.hid (And.intro hl5 (And.intro ho5 hf5))
          clear hl5 ho5 hf5 hgo hinv5 hq HAP hE k5
          generalize hbk : blks r = K at *
          go_wp2_with fail
          refine (HBL.out _).mono ?_
          rintro e w6 ⟨rfl, rfl⟩
          go_wp2_with fail
          refine HROOM.out.mono ?_
          rintro e w6 ⟨rfl, d6⟩
          have hB6 := d6.below w5.heap.size
          obtain ⟨A3, c3, W3, hr, hrl3, hkr, hbb⟩ := push_row w6 W.heap.size A2 c2 rs (fun _ => True) (HRL5.out.below hB6) wr.heap.size r.length r (HROW5.out.below hB6) (Nat.le_refl _) trivial (by omega) (by have := HB5.out.size; have := d6.heap; rw [this]; omega)
          rw [← HM.out] at hr
          have HI3 : Hid (BackInv W W3 (i + 1) d g p s' (rs ++ [r]) A3 c3) := ⟨hkr.live (HF5.out.1.below hB6), HF5.out.2.1, HF5.out.2.2, HW5.out, hrl3, hbb _ (bel_next HB5.out hB6), hd0, hg0, hp0, HN3.out⟩
          clear hrl3 hkr hbb hB6 HROOM HRL5 HROW5
          go_wp2_with fail
          refine (HBL.out _).mono ?_
          rintro e w7 ⟨rfl, rfl⟩
          go_wp2_with (first | (at_builtin; (with_reducible refine wpList_append_run rfl _ _ _ _ rfl _ _ _ ?_ ?_ hr ?_); rfl; rfl))
          go_roundw
          case rel => exact ⟨i + 1, by omega, by go_num, s', rs ++ [r], A3, c3, m + 1, by rw [HM.out]; simp, rfl, HI3⟩
          case measure => simp [intOf]; omega
        · have HAP := Lib.hid (append_full w4 p d g wr.heap.size r.length s _ r HI4.out.live.disk HI4.out.live.scr HI4.out.live.le.2.1 hg (by simp only; have := hR.out; omega))
          have hr4 : r.length ≤ 424 := hg.2
          have z0 : ((r.length : Int) == 0) = false := by have := hg.1; rw [beq_eq_false_iff_ne]; omega
          have z1 : ¬ r.length = 0 := by have := hg.1; omega
          have z4 : decide ((424 : Int) < r.length) = false := by rw [decide_eq_false_iff_not]; omega
          have hfit' : R < blks r := by omega
          clear hfit
          go_wp2_with fail
          refine HAP.out.mono ?_
          rintro e w5 ⟨rfl, d5⟩
          have HI5 := Lib.hid (HI4.out.kp (d5.below _))
          have HROOM := Lib.hid (room_any w5 p d g s _ HI5.out.live.disk HI5.out.live.scr HI5.out.live.le.2.1)
          simp only [hR.out] at HROOM
          have HBL := Lib.hid (blocks_any w5 (some ⟨wr.heap.size, 0, none⟩) r.length r (by omega))
          clear HAP d5
          generalize hbk : blks r = K at *
          go_wp2_with fail
          refine HBL.out.mono ?_
          rintro e w6 ⟨rfl, rfl⟩
          go_wp2_with fail
          refine HROOM.out.mono ?_
          rintro e w6 ⟨rfl, d6⟩
          have HI6 := Lib.hid (HI5.out.kp (d6.below _)).more
          clear HROOM HI5 d6
          go_wp2_with fail
          go_roundw
          case rel => exact ⟨i + 1, by omega, by go_num, s, rs, A2, c2, m, HM.out, rfl, HI6⟩
          case measure => simp [intOf]; omega
      · have HAP := Lib.hid (append_bad w4 p wr.heap.size r.length r hg (by omega))
        have HROOM := Lib.hid (room_any w4 p d g s _ HI4.out.live.disk HI4.out.live.scr HI4.out.live.le.2.1)
        simp only [hR.out] at HROOM
        have hbad : r.length = 0 ∨ 424 < r.length := by unfold goodR at hg; omega
        clear hg
        rcases (show (((r.length : Int) == 0) = true ∧ True) ∨ (((r.length : Int) == 0) = false ∧ decide ((424 : Int) < r.length) = true) by
          rcases hbad with h | h
          · exact .inl ⟨by rw [h]; rfl, trivial⟩
          · exact .inr ⟨by rw [beq_eq_false_iff_ne]; omega, by rw [decide_eq_true_iff]; omega⟩) with ⟨z0, z4⟩ | ⟨z0, z4⟩
        all_goals
          go_wp2_with fail
          refine HAP.out.mono ?_
          rintro e w5 ⟨rfl, rfl⟩
          go_wp2_with fail
          refine HROOM.out.mono ?_
          rintro e w6 ⟨rfl, d6⟩
          have HI6 := Lib.hid (HI4.out.kp (d6.below _)).more
          clear HROOM d6
          go_wp2_with fail
          go_roundw
          case rel => exact ⟨i + 1, by omega, by go_num, s, rs, A2, c2, m, HM.out, rfl, HI6⟩
          case measure => simp [intOf]; omega
    · have hl := hinv.out.live
      have HOP := Lib.hid (open_live wr d g s 1 0 rs hl.disk hl.byd hinv.out.n3 hl.on)
      rw [← HM.out] at HOP
      clear hl
      go_wp2_with fail
      refine HOP.out.mono ?_
      rintro e w2 ⟨p2, A3, c3, vs, rfl, hl2, _, ho2, hr2, b2⟩
      obtain ⟨us, hou, hru⟩ := (hinv.out.rows.below b2).ex
      have hm1000 : m ≤ 1000 := by rw [HM.out]; omega
      have HSR := Lib.hid (samerows_yes w2 A3 A2 c3 c2 m vs us rs _ _ (RdV.of_own ho2) hr2 (RdV.of_own (by rw [← HM.out] at hou; exact hou)) hru HM.out.symm (by omega) (fun r hr => by have := (hl2.on.rows.good r hr).2; omega))
      have hB2 := bel_next hbel b2
      clear hl2 ho2 hr2 hou hru HOP
      go_wp2_with fail
      refine HSR.out.mono ?_
      rintro e w3 ⟨rfl, d3⟩
      have hB3 := bel_next hB2 (d3.below _)
      have HAW := Lib.hid (awake_any w3)
      clear d3 HSR
      go_wp2_with fail
      refine HAW.out.mono ?_
      rintro e w4 ⟨rfl, b4⟩
      go_wp2_with fail
      go_ret
      exact ⟨rfl, bel_next hB3 b4⟩

end Go.Proofs.Ytmliiggieclbeaa
