/- ScrollTurns: behind a Turn there are just its records, and those appended since: the walk. -/
import Derived.Test.YtmliiggieclbeaaLsA
namespace Go.Proofs.Ytmliiggieclbeaa
open Go.RowKit

/-- The state: k calls so far, of at most m. -/
structure TInv (w wr : World) (k : Nat) (d g p : Nat) (s : DS) (gen h : Nat) (rs : List (List Int)) (A : Option Addr) (c : Nat) : Prop where
  live : Live wr d g p s gen h rs
  off : s.off = false
  fuse : s.fuse = -1
  wts : s.writes ≤ 1 + 5000 * (k : Int)
  gens : GensTo s.c s.n (1 + k)
  gen_ : gen ≤ 1 + k
  rows : RowList w.heap.size (fun _ => True) wr A c rs
  bel : Below w.heap.size w wr
  d0 : w.heap.size ≤ d
  g0 : w.heap.size ≤ g
  p0 : w.heap.size ≤ p
  n3 : 3 ≤ s.n
theorem TInv.kp {w wr wr' : World} {k d g p : Nat} {s : DS} {gen h : Nat} {rs : List (List Int)} {A : Option Addr} {c : Nat} (v : TInv w wr k d g p s gen h rs A c) (hb : Below wr.heap.size wr wr') : TInv w wr' k d g p s gen h rs A c :=
  ⟨v.live.below hb, v.off, v.fuse, v.wts, v.gens, v.gen_, v.rows.below hb, bel_next v.bel hb, v.d0, v.g0, v.p0, v.n3⟩
theorem TInv.more {w wr : World} {k d g p : Nat} {s : DS} {gen h : Nat} {rs : List (List Int)} {A : Option Addr} {c : Nat} (v : TInv w wr k d g p s gen h rs A c) : TInv w wr (k + 1) d g p s gen h rs A c :=
  ⟨v.live, v.off, v.fuse, by have := v.wts; omega, v.gens.mono (by omega), by have := v.gen_; omega, v.rows, v.bel, v.d0, v.g0, v.p0, v.n3⟩
theorem TInv.step {w wr wr' : World} {k d g p : Nat} {s s' : DS} {gen h gen' h' : Nat} {rs rs' : List (List Int)} {A A' : Option Addr} {c c' : Nat} (v : TInv w wr k d g p s gen h rs A c) (hk : Kp (DGP d g p) wr wr') (l : Live wr' d g p s' gen' h' rs') (ho : s'.off = false) (hf : s'.fuse = -1)
    (hw : s'.writes ≤ s.writes + 5000) (hg : GensTo s'.c s'.n (1 + (k + 1))) (hge : gen' ≤ 1 + (k + 1)) (hn : s'.n = s.n) (hr : RowList w.heap.size (fun _ => True) wr' A' c' rs') : TInv w wr' (k + 1) d g p s' gen' h' rs' A' c' :=
  ⟨l, ho, hf, by have := v.wts; omega, hg, hge, hr, bel_nextK v.bel hk (fun k hk => by have := v.d0; have := v.g0; have := v.p0; rcases hk with e | e | e <;> omega), v.d0, v.g0, v.p0, by rw [hn]; exact v.n3⟩

set_option maxRecDepth 100000 in
set_option maxHeartbeats 8000000 in
theorem turns_law (n : Int) (_ : (Lit.int .i64 n).wf = true) (A : Option Addr) (len cap : Nat) (f : Nat → Nat → Int) {W : World} (hl : ArgRows 5 W A len f) (hlen : len ≤ 1048576)
    (B : Option Addr) (len2 cap2 : Nat) (f2 : Nat → Nat → Int) (hl2 : ArgRows 5 W B len2 f2) (hlen2 : len2 ≤ 1048576) :
    Calls Try.prog 7 #[.int .i64 n, .slice A len cap, .slice B len2 cap2] W fun e w' => e = .returned (.bool true) ∧ Below W.heap.size W w' := by
  have HFR := Lib.hid (fresh_any W n _ (Lib.hid rfl))
  obtain ⟨N, hN⟩ : ∃ N, Hid ((3 + n % 97).toNat = N) := ⟨_, rfl⟩
  rw [hN.out] at HFR
  have HL2 := Lib.hid hl2
  clear hl2
  go_enter Try.func7, Try.ntmps7
  go_wp2_with fail
  refine HFR.out.mono ?_
  rintro e w1 ⟨d, g, p, rfl, hlive, b1, hd0, hg0, hp0⟩
  have HI : Hid (TInv W w1 0 d g p (DS.fresh N) 1 0 [] none 0) := ⟨hlive, rfl, rfl, by show (0 : Int) + 1 ≤ 1 + 5000 * ((0 : Nat) : Int); decide, fresh_gensTo N, by omega, RowList.nil _ _ _, b1, hd0, hg0, hp0, by show 3 ≤ N; have := hN.out; have := Int.emod_nonneg n (show (97 : Int) ≠ 0 by decide); omega⟩
  have HGN := Lib.hid (generation_any w1 p d _ hlive.scr)
  clear hlive b1 HFR hd0 hg0 hp0
  go_wp2_with fail
  refine HGN.out.mono ?_
  rintro e w2 ⟨rfl, rfl⟩
  go_wp2_with fail
  go_loopw [10, 11, 12] (fun v10 v11 v12 wr => ∃ i : Nat, i ≤ len ∧ v12 = .int .i64 i ∧ ∃ s gen h rs A2 c2 m, Hid (m = List.length rs) ∧ v11 = .int .i64 (gen : Nat) ∧ v10 = .slice A2 m c2 ∧ Hid (TInv W wr i d g p s gen h rs A2 c2)) (fun _ _ v _ => len - (intOf v).toNat)
  case atStart => exact ⟨0, Nat.zero_le _, rfl, _, 1, 0, [], none, 0, 0, Lib.hid rfl, rfl, rfl, HI⟩
  case round =>
    obtain ⟨i, hi, rfl, s, gen, h, rs, A2, c2, m, HM, rfl, rfl, hinv⟩ := hrel
    obtain ⟨q1, q2, q3⟩ := hinv.out.live.le
    have hbel := hinv.out.bel
    have hsz := hbel.size
    by_cases hlt : i < len
    · obtain ⟨xb, xo, rfl, hxb, hxc⟩ := (hl.below hbel).at_ i hlt
      have e0 := hxc 0 (by omega)
      have e1 := hxc 1 (by omega)
      have e2 := hxc 2 (by omega)
      have e3 := hxc 3 (by omega)
      have e4 := hxc 4 (by omega)
      have HL := Lib.hid hl
      clear hxc hl
      rw [← Nat.add_assoc] at e0 e1 e2 e3 e4
      obtain ⟨x0, hx0⟩ : ∃ x, Hid (f i 0 = x) := ⟨_, rfl⟩
      obtain ⟨x1, hx1⟩ : ∃ x, Hid (f i 1 = x) := ⟨_, rfl⟩
      obtain ⟨x2, hx2⟩ : ∃ x, Hid (f i 2 = x) := ⟨_, rfl⟩
      obtain ⟨x3, hx3⟩ : ∃ x, Hid (f i 3 = x) := ⟨_, rfl⟩
      obtain ⟨x4, hx4⟩ : ∃ x, Hid (f i 4 = x) := ⟨_, rfl⟩
      rw [hx0.out] at e0
      rw [hx1.out] at e1
      rw [hx2.out] at e2
      rw [hx3.out] at e3
      rw [hx4.out] at e4
      simp only [Nat.add_zero] at e0
      have HRECS := Lib.hid (records_any wr x0 x1 x2 x3 x4)
      go_wp2_with fail
      refine HRECS.out.mono ?_
      rintro e w2 ⟨A4, c4, m4, hm4, rfl, hrl4, b2⟩
      have hm300 : m4 ≤ 300 := by rw [hm4]; unfold manyN; omega
      have V2 := Lib.hid (hinv.out.kp b2)
      have HRL := Lib.hid hrl4
      obtain ⟨rl, hrlE⟩ : ∃ rl, Hid (recsL x2 x3 m4 = rl) := ⟨_, rfl⟩
      have hlen4 : rl.length = m4 := by rw [← hrlE.out]; exact recsL_length _ _ _
      have HBY : Hid (∀ r ∈ rl, isBy r ∧ r.length = recN x2) := fun r hr => by rw [← hrlE.out] at hr; exact recsL_row hr
      rw [hrlE.out] at HRL
      have hHD := HRL.out.handed V2.out.live.disk hlen4 (fun r hr => (HBY.out r hr).1) (fun r hr => by rw [(HBY.out r hr).2]; have := recN_le x2; omega) (by omega)
      have HHD := Lib.hid hHD
      obtain ⟨L, hL⟩ : ∃ L, Hid (recN x2 = L) := ⟨_, rfl⟩
      have hL500 : L ≤ 500 := by rw [← hL.out]; exact recN_le x2
      rw [hL.out] at HBY
      obtain ⟨bad, hbad⟩ : ∃ b : Bool, Hid (b = (decide (L = 0) || decide (424 < L))) := ⟨_, rfl⟩
      have hwc := hinv.out.bel.size
      clear hrl4 b2 HRECS hHD e0 e1 e2 e3 e4 hm4
      have HLEN4 := Lib.hid hlen4
      clear hlen4
      go_wp2_with fail
      go_loopw [14, 15, 16] (fun v14 v15 v16 wx => ∃ (k T : Nat) (wb : Bool), k ≤ m4 ∧ v16 = .int .i64 k ∧ v14 = .int .i64 T ∧ v15 = .bool wb ∧ T ≤ 10 * k ∧ Hid (T = total (rl.take k)) ∧ Hid (wb = (bad && decide (0 < k))) ∧ Hid (w2 = wx)) (fun _ _ v _ => m4 - (intOf v).toNat)
      case atStart => exact ⟨0, 0, false, Nat.zero_le _, rfl, rfl, rfl, Nat.zero_le _, Lib.hid rfl, Lib.hid (by simp), by first | exact Lib.hid trivial | exact Lib.hid rfl⟩
      case round =>
        obtain ⟨k, T, wb, hk, rfl, rfl, rfl, hT10, hT, hwb, hww⟩ := hrel
        obtain rfl := hww.out
        clear hww
        by_cases hkl : k < m4
        · obtain ⟨x, b, c5, r, rfl, hx1', _, _, hri, hxc', hrc, hrb⟩ := HHD.out.at_ k hkl
          have hrm := List.mem_of_getElem? hri
          have hrL : r.length = L := (HBY.out r hrm).2
          rw [hrL] at hxc'
          have HBL : Hid (Calls Try.prog 11 #[.slice (some ⟨b, 0, none⟩) L c5] w2 fun e w' => e = .returned (.int .i64 (blks r)) ∧ w2 = w') := by
            have := blocks_any w2 (some ⟨b, 0, none⟩) c5 r (by omega)
            rwa [hrL] at this
          have hb10 : blks r ≤ 10 := by unfold blks; omega
          have HN : Hid (T + blks r = total (rl.take (k + 1))) := by show _ = _; rw [take_snoc _ _ _ hri, total_app, total_one, ← hT.out]
          clear hrb hT hrc
          obtain ⟨K, hK⟩ : ∃ K, Hid (blks r = K) := ⟨_, rfl⟩
          rw [hK.out] at HBL hb10 HN
          cases wb with
          | true =>
            have HWB : Hid (true = (bad && decide (0 < k + 1))) := by
              have := hwb.out
              cases hbb : bad with
              | true => show _ = _; simp
              | false => rw [hbb] at this; cases this
            clear hwb
            go_wp2_with fail
            refine HBL.out.mono ?_
            rintro e w3 ⟨rfl, rfl⟩
            go_wp2_with fail
            go_roundw
            case rel => exact ⟨k + 1, T + K, true, by omega, by go_num, by go_num, rfl, by omega, HN, HWB, by first | exact Lib.hid trivial | exact Lib.hid rfl⟩
            case measure => simp [intOf]; omega
          | false =>
            have z0 : ((L : Int) == 0) = decide (L = 0) := by
              by_cases h : L = 0
              · simp [h]
              · rw [decide_eq_false h, beq_eq_false_iff_ne]; omega
            have z4 : decide ((424 : Int) < L) = decide (424 < L) := by
              by_cases h : 424 < L
              · rw [decide_eq_true h, decide_eq_true_iff]; omega
              · rw [decide_eq_false h, decide_eq_false_iff_not]; omega
            cases h0 : decide (L = 0) with
            | true =>
              have HWB : Hid (true = (bad && decide (0 < k + 1))) := by show _ = _; rw [hbad.out, h0]; simp
              rw [h0] at z0
              clear hwb h0
              go_wp2_with fail
              refine HBL.out.mono ?_
              rintro e w3 ⟨rfl, rfl⟩
              go_wp2_with fail
              go_roundw
              case rel => exact ⟨k + 1, T + K, true, by omega, by go_num, by go_num, rfl, by omega, HN, HWB, by first | exact Lib.hid trivial | exact Lib.hid rfl⟩
              case measure => simp [intOf]; omega
            | false =>
              have HWB : Hid (decide (424 < L) = (bad && decide (0 < k + 1))) := by show _ = _; rw [hbad.out, h0]; simp
              rw [h0] at z0
              clear hwb h0
              generalize decide (424 < L) = b4 at *
              go_wp2_with fail
              refine HBL.out.mono ?_
              rintro e w3 ⟨rfl, rfl⟩
              go_wp2_with fail
              go_roundw
              case rel => exact ⟨k + 1, T + K, b4, by omega, by go_num, by go_num, rfl, by omega, HN, HWB, by first | exact Lib.hid trivial | exact Lib.hid rfl⟩
              case measure => simp [intOf]; omega
        · have hkm : k = m4 := by omega
          have hTr : T = total rl := by rw [hT.out, List.take_of_length_le (by have := HLEN4.out; omega)]
          have HT := Lib.hid (turn_any w2 p d g s gen h rs rl V2.out.live A4 m4 c4 HHD.out (by have := V2.out.wts; omega))
          have hgood : (∀ r ∈ rl, goodR r) ↔ wb = false := by
            rw [hwb.out, hbad.out, hkm]
            constructor
            · intro hg
              by_cases hm0 : m4 = 0
              · simp [hm0]
              · obtain ⟨r, hri⟩ : ∃ r, rl[0]? = some r := ⟨_, List.getElem?_eq_getElem (by have := HLEN4.out; omega)⟩
                have hrm := List.mem_of_getElem? hri
                have h1 := hg r hrm
                have h2 := (HBY.out r hrm).2
                unfold goodR at h1
                rw [h2] at h1
                simp
                omega
            · intro hg r hr
              have h2 := (HBY.out r hr).2
              have hm0 : 0 < m4 := by
                have := HLEN4.out
                have := List.length_pos_of_mem hr
                omega
              simp [hm0] at hg
              unfold goodR
              omega
          have HGOOD := Lib.hid hgood
          have HTR := Lib.hid hTr
          clear hgood hTr hT hwb
          go_wp2_with fail
          refine HT.out.mono ?_
          rintro e w3 ⟨E, s3, rfl, hE, k3⟩
          have R3 := Lib.hid (V2.out.rows.live V2.out.live k3)
          have L3 : Hid (RowList W.heap.size (fun _ => True) w3 A4 c4 rl) := (HRL.out.live V2.out.live k3).low hwc (fun _ _ => trivial)
          cases hE with
          | bad hb l =>
            obtain rfl : wb = true := by
              cases hw : wb with
              | true => rfl
              | false => obtain ⟨r, hr, hn⟩ := hb; exact absurd (HGOOD.out.2 hw r hr) hn
            have V3 : Hid (TInv W w3 (i + 1) d g p s gen h rs A2 c2) := V2.out.step k3 l V2.out.off V2.out.fuse (by omega) (V2.out.gens.mono (by omega)) (by have := V2.out.gen_; omega) rfl R3.out
            have HGN := Lib.hid (generation_any w3 p d _ l.scr)
            clear hb l k3 HT
            go_wp2_with fail
            refine HGN.out.mono ?_
            rintro e w4 ⟨rfl, rfl⟩
            go_wp2_with fail
            go_roundw
            case rel => exact ⟨i + 1, by omega, by go_num, s, gen, h, rs, A2, c2, m, HM, rfl, rfl, V3⟩
            case measure => simp [intOf]; omega
          | full hg hf l =>
            obtain rfl : wb = false := HGOOD.out.1 hg
            rw [← HTR.out] at hf
            have V3 : Hid (TInv W w3 (i + 1) d g p s gen h rs A2 c2) := V2.out.step k3 l V2.out.off V2.out.fuse (by omega) (V2.out.gens.mono (by omega)) (by have := V2.out.gen_; omega) rfl R3.out
            have HGN := Lib.hid (generation_any w3 p d _ l.scr)
            have HHF := Lib.hid (half_any w3 p d g s _ l.disk l.scr)
            clear hg l k3 HT
            go_wp2_with fail
            refine HHF.out.mono ?_
            rintro e w4 ⟨rfl, rfl⟩
            go_wp2_with fail
            refine HGN.out.mono ?_
            rintro e w4 ⟨rfl, rfl⟩
            go_wp2_with fail
            go_roundw
            case rel => exact ⟨i + 1, by omega, by go_num, s, gen, h, rs, A2, c2, m, HM, rfl, rfl, V3⟩
            case measure => simp [intOf]; omega
          | high hg hf hh l => exact absurd (hh _ V2.out.gen_ V2.out.gens) (by omega)
          | ok _ G hg hf l hG ho ho' hfu hfu' hn hw hgens =>
            obtain rfl : wb = false := HGOOD.out.1 hg
            rw [← HTR.out] at hf
            have hgg := hgens _ V2.out.gen_ (by omega) V2.out.gens
            have V3 : Hid (TInv W w3 (i + 1) d g p s3 G (1 - h) rl A4 c4) := V2.out.step k3 l ho' (hfu' V2.out.fuse) hw (by rw [hn]; exact hgg.2) hgg.1 hn L3.out
            have HGN := Lib.hid (generation_any w3 p d _ l.scr)
            have HHF := Lib.hid (half_any w3 p d g s3 _ l.disk l.scr)
            have HRM := Lib.hid (room_any w3 p d g s3 _ l.disk l.scr l.le.2.1)
            have hq : (((halfN s3.n - total rl : Nat) : Nat) : Int) = (halfN s.n : Int) - (T : Int) := by rw [hn, ← HTR.out]; omega
            simp only [hq] at HRM
            rw [hn] at HHF
            have HN3 := Lib.hid hn
            clear hg l k3 HT ho ho' hfu hfu' hn hw hgens hgg hq
            go_wp2_with fail
            refine HHF.out.mono ?_
            rintro e w4 ⟨rfl, rfl⟩
            go_wp2_with fail
            refine HGN.out.mono ?_
            rintro e w4 ⟨rfl, rfl⟩
            go_wp2_with fail
            refine HRM.out.mono ?_
            rintro e w4 ⟨rfl, d4⟩
            have V4 := Lib.hid (V3.out.kp (d4.below _))
            have HHF4 := Lib.hid (half_any w4 p d g s3 _ V4.out.live.disk V4.out.live.scr)
            have HGN4 := Lib.hid (generation_any w4 p d _ V4.out.live.scr)
            have hn3 : s3.n = s.n := HN3.out
            rw [hn3] at HHF4
            clear hn3
            clear d4 HRM HGN HHF
            go_wp2_with fail
            refine HHF4.out.mono ?_
            rintro e w5 ⟨rfl, rfl⟩
            go_wp2_with fail
            refine HGN4.out.mono ?_
            rintro e w5 ⟨rfl, rfl⟩
            go_wp2_with fail
            go_roundw
            case rel => exact ⟨i + 1, by omega, by go_num, s3, G, 1 - h, rl, A4, c4, m4, Lib.hid HLEN4.out.symm, rfl, rfl, V4⟩
            case measure => simp [intOf]; omega
          | cut _ hg hf l ho' hp hn hw hgens =>
            have h1 := V2.out.off
            have h2 := V2.out.fuse
            rcases hp with e | e
            · rw [h1] at e; cases e
            · omega
    · clear hl
      go_wp2_with fail
      go_loopw [10, 18] (fun v10 v18 wx => ∃ j : Nat, j ≤ len2 ∧ v18 = .int .i64 j ∧ ∃ (s2 : DS) (rs2 : List (List Int)) (A5 : Option Addr) (c5 m5 : Nat), Hid (m5 = rs2.length) ∧ v10 = .slice A5 m5 c5 ∧ Hid (TInv W wx (i + j) d g p s2 gen h rs2 A5 c5)) (fun _ v _ => len2 - (intOf v).toNat)
      case atStart => exact ⟨0, Nat.zero_le _, rfl, s, rs, A2, c2, m, HM, rfl, hinv⟩
      case round =>
        obtain ⟨j, hj, rfl, s2, rs2, A5, c5, m5, HM5, rfl, hv⟩ := hrel
        obtain ⟨t1, t2, t3⟩ := hv.out.live.le
        have hbel5 := hv.out.bel
        have hsz5 := hbel5.size
        by_cases hjl : j < len2
        · obtain ⟨xb, xo, rfl, hxb, hxc⟩ := (HL2.out.below hbel5).at_ j hjl
          have c2' := hxc 2 (by omega)
          rw [← Nat.add_assoc] at c2'
          have c3' := hxc 3 (by omega)
          rw [← Nat.add_assoc] at c3'
          clear hxc
          obtain ⟨x2, hx2⟩ : ∃ x, Hid (f2 j 2 = x) := ⟨_, rfl⟩
          obtain ⟨x3, hx3⟩ : ∃ x, Hid (f2 j 3 = x) := ⟨_, rfl⟩
          rw [hx2.out] at c2'
          rw [hx3.out] at c3'
          have hby := recordL_by x2 x3
          have hrle := recN_le x2
          have hrlen := recordL_length x2 x3
          have HREC := Lib.hid (fun W => record_any x2 x3 W)
          generalize recordL x2 x3 = r at *
          rw [← hrlen] at hrle HREC
          clear hrlen
          have bD : Below wr.heap.size wr wr.drew := (Drawn.refl wr).drew.below _
          have HC : Hid (∀ W', Below wr.heap.size wr W' → W'.cell? ⟨xb, xo + j * 5 + 2, none⟩ = some (.int .i64 x2) ∧ W'.cell? ⟨xb, xo + j * 5 + 3, none⟩ = some (.int .i64 x3)) := fun W' hb => ⟨cell_keep hb c2', cell_keep hb c3'⟩
          go_wp2_with fail
          go_region_held3 (fun w' => w'.cell? ⟨xb, xo + j * 5 + 2, none⟩ = some (.int .i64 x2) ∧ w'.cell? ⟨xb, xo + j * 5 + 3, none⟩ = some (.int .i64 x3)) ((first | assumption | exact HC.out _ (Below.refl _ _) | exact HC.out _ (by assumption))) (first | (go_at_call 10; refine (HREC.out _).mono ?_; rintro e w3 ⟨rfl, b3', k3⟩; have b3 : Below wr.heap.size wr w3 := bel_next bD b3'))
          have V3 := Lib.hid (hv.out.kp b3)
          have R3 := Lib.hid (RowB.of_blk k3)
          clear c2' c3' HC k3 b3'
          by_cases hg : goodR r
          · by_cases hfit : total rs2 + blks r ≤ halfN s2.n
            · have HAP := Lib.hid (append_live w3 p d g wr.heap.size r.length s2 gen h rs2 r V3.out.live R3.out (Nat.le_refl _) hby hg hfit (by have := V3.out.wts; omega))
              clear hg hfit
              go_wp2_with fail
              refine HAP.out.mono ?_
              rintro e w4 ⟨E, s4, rfl, hE, k4⟩
              obtain ⟨rfl, hl4, ho4, hf4, hgo⟩ : E = 0 ∧ Live w4 d g p s4 gen h (rs2 ++ [r]) ∧ s4.off = false ∧ s4.fuse = -1 ∧ Goes s2 s4 gen 8 := by
                cases hE with
                | ok _ l ho ho' hf hgo => exact ⟨rfl, l, ho', hf V3.out.fuse, hgo⟩
                | cut _ l hp ho' hgo => exact absurd ⟨V3.out.off, V3.out.fuse⟩ hp
              have hd0 := V3.out.d0
              have hg0 := V3.out.g0
              have hp0 := V3.out.p0
              have hB4 := bel_nextK V3.out.bel k4 (fun k hk => by rcases hk with e | e | e <;> omega)
              obtain ⟨A6, c6, W6, hrun, hrl6, hkr, hbb⟩ := push_row w4 W.heap.size A5 c5 rs2 (fun _ => True) (V3.out.rows.live V3.out.live k4) wr.heap.size r.length r (R3.out.kp k4 V3.out.live.no) (Nat.le_refl _) trivial (by omega) hB4.size
              rw [← HM5.out] at hrun
              have hgn := hgo.gens (1 + (i + j)) V3.out.gen_ (by omega) V3.out.gens
              have V6 : Hid (TInv W W6 (i + (j + 1)) d g p s4 gen h (rs2 ++ [r]) A6 c6) :=
                ⟨hkr.live hl4, ho4, hf4, by have := hgo.wr; have := V3.out.wts; omega, hgn.mono (by omega), by have := V3.out.gen_; omega, hrl6, hbb _ hB4, hd0, hg0, hp0, by rw [hgo.n]; exact V3.out.n3⟩
              clear hrl6 hkr hbb hB4 hl4 ho4 hf4 hgo hE k4 HAP hgn
              go_wp2_with (first | (at_builtin; (with_reducible refine wpList_append_run rfl _ _ _ _ rfl _ _ _ ?_ ?_ hrun ?_); rfl; rfl))
              go_roundw
              case rel => exact ⟨j + 1, by omega, by go_num, s4, rs2 ++ [r], A6, c6, m5 + 1, Lib.hid (by rw [HM5.out]; simp), rfl, V6⟩
              case measure => simp [intOf]; omega
            · have HAP := Lib.hid (append_full w3 p d g wr.heap.size r.length s2 _ r V3.out.live.disk V3.out.live.scr V3.out.live.le.2.1 hg (by simp only; have := V3.out.live.le.2.1; omega))
              clear hg hfit
              go_wp2_with fail
              refine HAP.out.mono ?_
              rintro e w4 ⟨rfl, d4⟩
              have V4 : Hid (TInv W w4 (i + (j + 1)) d g p s2 gen h rs2 A5 c5) := (V3.out.kp (d4.below _)).more
              clear HAP d4
              go_wp2_with fail
              go_roundw
              case rel => exact ⟨j + 1, by omega, by go_num, s2, rs2, A5, c5, m5, HM5, rfl, V4⟩
              case measure => simp [intOf]; omega
          · have HAP := Lib.hid (append_bad w3 p wr.heap.size r.length r hg (by omega))
            have V4 : Hid (TInv W w3 (i + (j + 1)) d g p s2 gen h rs2 A5 c5) := V3.out.more
            clear hg
            go_wp2_with fail
            refine HAP.out.mono ?_
            rintro e w4 ⟨rfl, rfl⟩
            clear HAP
            go_wp2_with fail
            go_roundw
            case rel => exact ⟨j + 1, by omega, by go_num, s2, rs2, A5, c5, m5, HM5, rfl, V4⟩
            case measure => simp [intOf]; omega
        · have HOP := Lib.hid (open_live wr d g s2 gen h rs2 hv.out.live.disk hv.out.live.byd hv.out.n3 hv.out.live.on)
          simp only [← HM5.out] at HOP
          go_wp2_with fail
          refine HOP.out.mono ?_
          rintro e w6 ⟨p6, A6, c6, vs6, rfl, l6, hp6, ho6, hr6, b6⟩
          have V6 := Lib.hid (hv.out.kp b6)
          have L6 := Lib.hid l6
          have HO6 := Lib.hid (And.intro ho6 hr6)
          have HGN := Lib.hid (generation_any w6 p6 d _ l6.scr)
          have HR1 := Lib.hid (room_any w6 p6 d g s2 _ l6.disk l6.scr l6.le.2.1)
          obtain ⟨R, hR⟩ : ∃ R, Hid (halfN s2.n - total rs2 = R) := ⟨_, rfl⟩
          simp only [hR.out] at HR1
          clear l6 ho6 hr6 b6 HOP
          go_wp2_with fail
          refine HGN.out.mono ?_
          rintro e w7 ⟨rfl, rfl⟩
          go_wp2_with fail
          refine HR1.out.mono ?_
          rintro e w7 ⟨rfl, d7⟩
          have V7 := Lib.hid (V6.out.kp (d7.below _))
          have HR2 := Lib.hid (room_any w7 p d g s2 _ V7.out.live.disk V7.out.live.scr V7.out.live.le.2.1)
          simp only [hR.out] at HR2
          have HO7 : Hid (w7.ownsRow wr.heap.size 22 1 (.slice A6 m5 c6) m5 vs6 ∧ Rws (fun k => wr.heap.size ≤ k) w7 vs6 rs2) := ⟨own_below HO6.out.1 (d7.below _), HO6.out.2.below (d7.below _)⟩
          clear HR1 HGN HO6 d7
          go_wp2_with fail
          refine HR2.out.mono ?_
          rintro e w8 ⟨rfl, d8⟩
          have V8 := Lib.hid (V7.out.kp (d8.below _))
          have HSR := Lib.hid (same_told w8 W.heap.size (fun _ => True) A6 A5 c6 c5 m5 vs6 rs2 _ _ (own_below HO7.out.1 (d8.below _)) (HO7.out.2.below (d8.below _)) V8.out.rows HM5.out.symm (by have := HM5.out; omega) L6.out.on.rows.good)
          clear HR2 HO7 d8
          go_wp2_with fail
          refine HSR.out.mono ?_
          rintro e w9 ⟨rfl, d9⟩
          have hB9 := bel_next V8.out.bel (d9.below _)
          have HAW := Lib.hid (awake_any w9)
          clear HSR d9
          go_wp2_with fail
          refine HAW.out.mono ?_
          rintro e w10 ⟨rfl, b10⟩
          go_wp2_with fail
          go_ret
          exact ⟨rfl, bel_next hB9 b10⟩

end Go.Proofs.Ytmliiggieclbeaa
