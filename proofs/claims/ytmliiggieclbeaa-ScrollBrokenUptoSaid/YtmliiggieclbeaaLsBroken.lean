/- ScrollBroken: none of a broken-off Turn's records is ever told: the walk. -/
import Derived.Test.YtmliiggieclbeaaLsB
import Derived.Test.YtmliiggieclbeaaArgO
import Derived.Deep.CutRange
import Derived.Deep.RegionWith
namespace Go.Proofs.Ytmliiggieclbeaa
open Go.RowKit

def opV (a b c e f : Int) : Array Value := #[.int .i64 a, .int .i64 b, .int .i64 c, .int .i64 e, .int .i64 f]
theorem bel_alloc {a b : World} (h : Below a.heap.size a b) (o : Obj) : Below a.heap.size a (b.alloc o) := h.alloc h.size o
theorem opv_cell {w : World} {q : Nat} {a b c e f : Int} (h : Blk w q (opV a b c e f) 34) : w.cell? ⟨q, 0, none⟩ = some (.int .i64 a) ∧ w.cell? ⟨q, 1, none⟩ = some (.int .i64 b) ∧ w.cell? ⟨q, 2, none⟩ = some (.int .i64 c) ∧ w.cell? ⟨q, 3, none⟩ = some (.int .i64 e) ∧ w.cell? ⟨q, 4, none⟩ = some (.int .i64 f) :=
  ⟨by rw [h.cell]; rfl, by rw [h.cell]; rfl, by rw [h.cell]; rfl, by rw [h.cell]; rfl, by rw [h.cell]; rfl⟩
theorem op_keep {w w' : World} {d g p q : Nat} {s : DS} {gen h : Nat} {rs : List (List Int)} {cs : Array Value} (l : Live w d g p s gen h rs) (hk : Kp (DGP d g p) w w') (hb : Blk w q cs 34) : Blk w' q cs 34 := by
  refine hb.kp hk (fun hk => ?_)
  obtain ⟨cap, _, hbx⟩ := l.disk.box
  obtain ⟨cr, hrow, _⟩ := l.disk.row
  rcases hk with e | e | e
  · exact absurd (blk_ty hb (e ▸ hbx)) (by decide)
  · exact absurd (blk_ty hb (e ▸ hrow)) (by decide)
  · exact absurd (blk_ty hb (e ▸ l.scr)) (by decide)
/-- A record of a length from 1 to m. -/
theorem rec_short (m fill : Int) (h0 : 0 ≤ m) (h1 : m ≤ 423) : isBy (recordL (1 + m) fill) ∧ ((recordL (1 + m) fill).length : Int) = 1 + m ∧ goodR (recordL (1 + m) fill) := by
  have hl : (recordL (1 + m) fill).length = (1 + m).toNat := by
    rw [recordL_length]
    unfold recN
    rw [if_neg (by omega)]
  refine ⟨recordL_by _ _, by omega, ?_, ?_⟩
  · omega
  · omega
/-- The state ahead of round i. -/
structure BInv (w wr : World) (i d g p : Nat) (s : DS) (b1 : Nat) (first : List Int) (q2 q3 : Nat) (o2 o3 : Array Value) : Prop where
  live : Live wr d g p s 1 0 [first]
  off : s.off = false
  fuse : s.fuse = -1
  wts : s.writes ≤ 10 + 6000 * (i : Int)
  gens : GensTo s.c s.n (1 + i)
  row : RowB wr b1 first
  o2 : Blk wr q2 o2 34
  o3 : Blk wr q3 o3 34
  bel : Below w.heap.size w wr
  d0 : w.heap.size ≤ d
  g0 : w.heap.size ≤ g
  p0 : w.heap.size ≤ p
  half : 10 ≤ halfN s.n
theorem BInv.kp {w wr wr' : World} {i d g p : Nat} {s : DS} {b1 : Nat} {first : List Int} {q2 q3 : Nat} {o2 o3 : Array Value} (v : BInv w wr i d g p s b1 first q2 q3 o2 o3) (hb : Below wr.heap.size wr wr') : BInv w wr' i d g p s b1 first q2 q3 o2 o3 :=
  ⟨v.live.below hb, v.off, v.fuse, v.wts, v.gens, v.row.below hb, v.o2.below hb, v.o3.below hb, bel_next v.bel hb, v.d0, v.g0, v.p0, v.half⟩
theorem BInv.belK {w wr wr' : World} {i d g p : Nat} {s : DS} {b1 : Nat} {first : List Int} {q2 q3 : Nat} {o2 o3 : Array Value} (v : BInv w wr i d g p s b1 first q2 q3 o2 o3) (hk : Kp (DGP d g p) wr wr') : Below w.heap.size w wr' :=
  bel_nextK v.bel hk (fun k hk => by have := v.d0; have := v.g0; have := v.p0; rcases hk with e | e | e <;> omega)
theorem BInv.n3 {w wr : World} {i d g p : Nat} {s : DS} {b1 : Nat} {first : List Int} {q2 q3 : Nat} {o2 o3 : Array Value} (v : BInv w wr i d g p s b1 first q2 q3 o2 o3) : 3 ≤ s.n := by
  have := v.half
  unfold halfN at this
  omega

set_option maxRecDepth 100000 in
set_option maxHeartbeats 8000000 in
theorem broken_law (n : Int) (_ : (Lit.int .i64 n).wf = true) (ka kb kc ke kf : Int) (A : Option Addr) (len cap : Nat) (f : Nat → Nat → Int) {W : World} (hl : ArgRows 5 W A len f) (hlen : len ≤ 1048576) (ta tb tc te tf ma mb mc me mf : Int) :
    Calls Try.prog 8 #[.int .i64 n, .agg #[.int .i64 ka, .int .i64 kb, .int .i64 kc, .int .i64 ke, .int .i64 kf], .slice A len cap, .agg #[.int .i64 ta, .int .i64 tb, .int .i64 tc, .int .i64 te, .int .i64 tf], .agg #[.int .i64 ma, .int .i64 mb, .int .i64 mc, .int .i64 me, .int .i64 mf]] W fun e w' => e = .returned (.bool true) ∧ Below W.heap.size W w' := by
  have HL := Lib.hid hl
  clear hl
  have hbW : Below W.heap.size W (((W.alloc (.cells (opV ka kb kc ke kf) 34)).alloc (.cells (opV ta tb tc te tf) 34)).alloc (.cells (opV ma mb mc me mf) 34)) := bel_alloc (bel_alloc (bel_alloc (Below.refl _ _) _) _) _
  have o1 : Blk (((W.alloc (.cells (opV ka kb kc ke kf) 34)).alloc (.cells (opV ta tb tc te tf) 34)).alloc (.cells (opV ma mb mc me mf) 34)) W.heap.size (opV ka kb kc ke kf) 34 := ((Blk.new W _ _).alloc _).alloc _
  have o2 : Blk (((W.alloc (.cells (opV ka kb kc ke kf) 34)).alloc (.cells (opV ta tb tc te tf) 34)).alloc (.cells (opV ma mb mc me mf) 34)) (W.heap.size + 1) (opV ta tb tc te tf) 34 := by
    have := (Blk.new (W.alloc (.cells (opV ka kb kc ke kf) 34)) (opV ta tb tc te tf) 34).alloc (.cells (opV ma mb mc me mf) 34)
    simpa using this
  have o3 : Blk (((W.alloc (.cells (opV ka kb kc ke kf) 34)).alloc (.cells (opV ta tb tc te tf) 34)).alloc (.cells (opV ma mb mc me mf) 34)) (W.heap.size + 2) (opV ma mb mc me mf) 34 := by
    have := Blk.new ((W.alloc (.cells (opV ka kb kc ke kf) 34)).alloc (.cells (opV ta tb tc te tf) 34)) (opV ma mb mc me mf) 34
    simpa using this
  have HW0 := Lib.hid (And.intro hbW (And.intro o1 (And.intro o2 o3)))
  clear hbW o1 o2 o3
  go_enter Try.func8, Try.ntmps8
  go_upto_region 1 with fail
  obtain ⟨W0, hW0⟩ : ∃ W0, W0 = (((W.alloc (.cells (opV ka kb kc ke kf) 34)).alloc (.cells (opV ta tb tc te tf) 34)).alloc (.cells (opV ma mb mc me mf) 34)) := ⟨_, rfl⟩
  change Code.wp _ _ _ _ (((W.alloc (.cells (opV ka kb kc ke kf) 34)).alloc (.cells (opV ta tb tc te tf) 34)).alloc (.cells (opV ma mb mc me mf) 34))
  rw [← hW0] at HW0 ⊢
  clear hW0
  obtain ⟨Q, hQ⟩ : ∃ Q, Hid (W.heap.size = Q) := ⟨_, rfl⟩
  simp only [hQ.out] at HW0 ⊢
  have h70 : 0 ≤ n % 70 ∧ n % 70 < 70 := ⟨Int.emod_nonneg _ (by decide), Int.emod_lt_of_pos _ (by decide)⟩
  have HP1 := Lib.hid (fun w => place_any n 70 w (by omega) (by omega))
  obtain ⟨k70, hk70⟩ : ∃ m, Hid (n % 70 = m) := ⟨_, rfl⟩
  rw [hk70.out] at HP1 h70
  obtain ⟨N, hN⟩ : ∃ N : Nat, Hid (N = (3 + (20 + k70) % 97).toNat) := ⟨_, rfl⟩
  have hNlo : 23 ≤ N := by have := hN.out; omega
  have HFR := Lib.hid (fun w => fresh_any w (20 + k70) N hN)
  go_wp2_with fail
  refine (HP1.out W0).mono ?_
  rintro e w1 ⟨rfl, rfl⟩
  go_wp2_with fail
  refine (HFR.out W0).mono ?_
  rintro e w1 ⟨d, g, p, rfl, hlive, b1, hd0, hg0, hp0⟩
  have hQW := hQ.out
  have hB1 : Below W.heap.size W w1 := bel_next (by rw [hQW]; exact HW0.out.1) b1
  have hszQ : W.heap.size ≤ W0.heap.size := HW0.out.1.size
  have O1 := HW0.out.2.1.below b1
  have HOO : Hid (Blk w1 (Q + 1) (opV ta tb tc te tf) 34 ∧ Blk w1 (Q + 2) (opV ma mb mc me mf) 34) := ⟨HW0.out.2.2.1.below b1, HW0.out.2.2.2.below b1⟩
  obtain ⟨_, _, y2, y3, _⟩ := opv_cell O1
  have h50 : 0 ≤ kc % 50 ∧ kc % 50 < 50 := ⟨Int.emod_nonneg _ (by decide), Int.emod_lt_of_pos _ (by decide)⟩
  have HP2 := Lib.hid (fun w => place_any kc 50 w (by omega) (by omega))
  obtain ⟨k50, hk50⟩ : ∃ m, Hid (kc % 50 = m) := ⟨_, rfl⟩
  rw [hk50.out] at HP2 h50
  obtain ⟨fby, flen, fgood⟩ := rec_short k50 ke (by omega) (by omega)
  have HREC := Lib.hid (fun W => record_any (1 + k50) ke W)
  have hfl := recordL_length (1 + k50) ke
  generalize hfirst : recordL (1 + k50) ke = first at *
  rw [← hfl] at HREC
  have hfb : blks first = 1 := by unfold blks; omega
  have hf50 : first.length ≤ 50 := by omega
  have HFI := Lib.hid (And.intro fby (And.intro fgood hfb))
  have HL1 := Lib.hid hlive
  obtain ⟨h50a, h50b⟩ := h50
  have hw50 : IntKind.i64.wrap (1 + k50) = 1 + k50 := by rw [IntKind.wrap_i64]; omega
  have bD : Below w1.heap.size w1 w1.drew := (Drawn.refl w1).drew.below _
  have HC : Hid (∀ W', Below w1.heap.size w1 W' → W'.cell? ⟨Q, 2, none⟩ = some (.int .i64 kc) ∧ W'.cell? ⟨Q, 3, none⟩ = some (.int .i64 ke)) := fun W' hb => ⟨cell_keep hb y2, cell_keep hb y3⟩
  clear hfl hfirst flen fby fgood hfb hlive O1 HFR HP1
  go_wp2_with fail
  go_region_held3 (fun w' => w'.cell? ⟨Q, 2, none⟩ = some (.int .i64 kc) ∧ w'.cell? ⟨Q, 3, none⟩ = some (.int .i64 ke)) ((first | assumption | exact HC.out _ (Below.refl _ _) | exact HC.out _ (by assumption))) (first | (go_at_call 21; refine (HP2.out _).mono ?_; rintro e w' ⟨rfl, rfl⟩) | (go_at_call 10; refine (HREC.out _).mono ?_; rintro e w3 ⟨rfl, b3', k3⟩; have b3 : Below w1.heap.size w1 w3 := bel_next bD b3'))
  have hh10 : 10 ≤ halfN (DS.fresh N).n := by show 10 ≤ halfN N; unfold halfN; omega
  have HR3 := Lib.hid (RowB.of_blk k3)
  have HAP := Lib.hid (append_live w3 p d g w1.heap.size first.length (DS.fresh N) 1 0 [] first (HL1.out.below b3) HR3.out (Nat.le_refl _) HFI.out.1 HFI.out.2.1 (by rw [HFI.out.2.2, total_nil]; omega) (by show (0 : Int) + 1 + 8 ≤ _; decide))
  have HB3 := Lib.hid b3
  clear k3 b3' b3 HC y2 y3 bD
  go_wp2_with fail
  refine HAP.out.mono ?_
  rintro e w4 ⟨E, s4, rfl, hE, k4⟩
  obtain ⟨rfl, hl4, ho4, hf4, hgo⟩ : E = 0 ∧ Live w4 d g p s4 1 0 ([] ++ [first]) ∧ s4.off = false ∧ s4.fuse = -1 ∧ Goes (DS.fresh N) s4 1 8 := by
    cases hE with
    | ok _ l ho ho' hf hgo => exact ⟨rfl, l, ho', hf rfl, hgo⟩
    | cut _ l hp ho' hgo => exact absurd ⟨rfl, rfl⟩ hp
  have HI : Hid (BInv W w4 0 d g p s4 w1.heap.size first (Q + 1) (Q + 2) (opV ta tb tc te tf) (opV ma mb mc me mf)) := by
    have hl3 := HL1.out.below HB3.out
    refine ⟨hl4, ho4, hf4, ?_, hgo.gens 1 (by omega) (by omega) (fresh_gensTo N), HR3.out.kp k4 hl3.no, op_keep hl3 k4 (HOO.out.1.below HB3.out), op_keep hl3 k4 (HOO.out.2.below HB3.out), ?_, by omega, by omega, by omega, by rw [hgo.n]; exact hh10⟩
    · have := hgo.wr
      have e : (DS.fresh N).writes = 0 + 1 := rfl
      rw [e] at this
      omega
    · exact bel_nextK (bel_next hB1 HB3.out) k4 (fun k hk => by rcases hk with e | e | e <;> omega)
  clear hl4 ho4 hf4 hgo hE k4 HAP
  generalize w1.heap.size = bf at *
  go_wp2_with fail
  go_loopw [12, 15] (fun v12 v15 wr => ∃ i : Nat, i ≤ len ∧ v15 = .int .i64 i ∧ ∃ (p : Nat) (s : DS), v12 = .pointer (some ⟨p, 0, none⟩) ∧ Hid (BInv W wr i d g p s bf first (Q + 1) (Q + 2) (opV ta tb tc te tf) (opV ma mb mc me mf))) (fun _ v _ => len - (intOf v).toNat)
  case atStart => exact ⟨0, Nat.zero_le _, rfl, p, s4, rfl, HI⟩
  case round =>
    obtain ⟨i, hi, rfl, p, s, rfl, hinv⟩ := hrel
    have hbel := hinv.out.bel
    have hsz := hbel.size
    by_cases hlt : i < len
    · obtain ⟨xb, xo, rfl, hxb, hxc⟩ := (HL.out.below hbel).at_ i hlt
      have e0 := hxc 0 (by omega)
      have e1 := hxc 1 (by omega)
      have e2 := hxc 2 (by omega)
      have e3 := hxc 3 (by omega)
      have e4 := hxc 4 (by omega)
      clear hxc
      rw [← Nat.add_assoc] at e0 e1 e2 e3 e4
      obtain ⟨x0, hx0⟩ : ∃ x, Hid (f i 0 = x) := ⟨_, rfl⟩
      obtain ⟨x1, hx1⟩ : ∃ x, Hid (f i 1 = x) := ⟨_, rfl⟩
      obtain ⟨x2, hx2⟩ : ∃ x, Hid (f i 2 = x) := ⟨_, rfl⟩
      obtain ⟨x3, hx3⟩ : ∃ x, Hid (f i 3 = x) := ⟨_, rfl⟩
      obtain ⟨x4, hx4⟩ : ∃ x, Hid (f i 4 = x) := ⟨_, rfl⟩
      rw [hx0.out] at e0
      rw [hx1.out] at e1
      rw [hx2.out] at e2
      rw [hx3.out] at e3
      rw [hx4.out] at e4
      simp only [Nat.add_zero] at e0
      go_upto_region 11 with fail
      have hA : Below wr.heap.size wr (wr.alloc (.cells (opV x0 x1 x2 x3 x4) 34)) := bel_alloc (Below.refl _ _) _
      have HX : Hid (BInv W (wr.alloc (.cells (opV x0 x1 x2 x3 x4) 34)) i d g p s bf first (Q + 1) (Q + 2) (opV ta tb tc te tf) (opV ma mb mc me mf) ∧ Blk (wr.alloc (.cells (opV x0 x1 x2 x3 x4) 34)) wr.heap.size (opV x0 x1 x2 x3 x4) 34) := ⟨hinv.out.kp hA, Blk.new wr _ _⟩
      change Code.wp _ _ _ _ (wr.alloc (.cells (opV x0 x1 x2 x3 x4) 34))
      obtain ⟨V0, hV0⟩ : ∃ V0, V0 = wr.alloc (.cells (opV x0 x1 x2 x3 x4) 34) := ⟨_, rfl⟩
      rw [← hV0] at HX ⊢
      obtain ⟨q, hq⟩ : ∃ q, Hid (wr.heap.size = q) := ⟨_, rfl⟩
      simp only [hq.out] at HX ⊢
      clear hV0 hA e0 e1 e2 e3 e4 hbel hsz
      obtain ⟨_, _, y2, y3, _⟩ := opv_cell HX.out.2
      have h120 : 0 ≤ x2 % 120 ∧ x2 % 120 < 120 := ⟨Int.emod_nonneg _ (by decide), Int.emod_lt_of_pos _ (by decide)⟩
      have h121 : 0 ≤ x3 % 120 ∧ x3 % 120 < 120 := ⟨Int.emod_nonneg _ (by decide), Int.emod_lt_of_pos _ (by decide)⟩
      have HPa := Lib.hid (fun w => place_any x2 120 w (by omega) (by omega))
      have HPb := Lib.hid (fun w => place_any x3 120 w (by omega) (by omega))
      obtain ⟨ka2, hka2⟩ : ∃ m, Hid (x2 % 120 = m) := ⟨_, rfl⟩
      obtain ⟨kb2, hkb2⟩ : ∃ m, Hid (x3 % 120 = m) := ⟨_, rfl⟩
      rw [hka2.out] at HPa h120
      rw [hkb2.out] at HPb h121
      obtain ⟨xw, hxw⟩ : ∃ v, IntKind.i64.wrap (x3 + 1) = v := ⟨_, rfl⟩
      obtain ⟨aby, alen, agood⟩ := rec_short ka2 x3 (by omega) (by omega)
      obtain ⟨bby, blen, bgood⟩ := rec_short kb2 xw (by omega) (by omega)
      have HRa := Lib.hid (fun W => record_any (1 + ka2) x3 W)
      have HRb := Lib.hid (fun W => record_any (1 + kb2) xw W)
      have hal := recordL_length (1 + ka2) x3
      have hbl := recordL_length (1 + kb2) xw
      generalize recordL (1 + ka2) x3 = ra at *
      generalize recordL (1 + kb2) xw = rb at *
      rw [← hal] at HRa
      rw [← hbl] at HRb
      have hba : blks ra ≤ 3 := by unfold blks; omega
      have hbb : blks rb ≤ 3 := by unfold blks; omega
      have hra : ra.length ≤ 120 := by omega
      have hrb : rb.length ≤ 120 := by omega
      have HG2 := Lib.hid (And.intro aby (And.intro agood (And.intro bby bgood)))
      obtain ⟨h120a, h120b⟩ := h120
      obtain ⟨h121a, h121b⟩ := h121
      have hwa : IntKind.i64.wrap (1 + ka2) = 1 + ka2 := by rw [IntKind.wrap_i64]; omega
      have hwb : IntKind.i64.wrap (1 + kb2) = 1 + kb2 := by rw [IntKind.wrap_i64]; omega
      have bD : Below V0.heap.size V0 V0.drew := (Drawn.refl V0).drew.below _
      have HC : Hid (∀ W', Below V0.heap.size V0 W' → W'.cell? ⟨q, 2, none⟩ = some (.int .i64 x2) ∧ W'.cell? ⟨q, 3, none⟩ = some (.int .i64 x3)) := fun W' hb => ⟨cell_keep hb y2, cell_keep hb y3⟩
      clear hal hbl alen blen aby bby agood bgood
      go_cut [17] from 48 to 111 (fun v17 wx => ∃ ga b5 b6 : Nat, v17 = .slice (some ⟨ga, 0, none⟩) 2 2 ∧ Hid (Blk wx ga #[.slice (some ⟨b5, 0, none⟩) ra.length ra.length, .slice (some ⟨b6, 0, none⟩) rb.length rb.length] 22 ∧ RowB wx b5 ra ∧ RowB wx b6 rb ∧ BInv W wx i d g p s bf first (Q + 1) (Q + 2) (opV ta tb tc te tf) (opV ma mb mc me mf) ∧ Blk wx q (opV x0 x1 x2 x3 x4) 34))
      case first =>
        go_region_held3 (fun w' => w'.cell? ⟨q, 2, none⟩ = some (.int .i64 x2) ∧ w'.cell? ⟨q, 3, none⟩ = some (.int .i64 x3)) ((first | assumption | exact HC.out _ (Below.refl _ _) | exact HC.out _ (by assumption) | exact HC.out _ (bel_alloc (by assumption) _))) (first | (go_at_call_of 21 (Value.int IntKind.i64 x2); refine (HPa.out _).mono ?_; rintro e w' ⟨rfl, rfl⟩) | (go_at_call_of 21 (Value.int IntKind.i64 x3); refine (HPb.out _).mono ?_; rintro e w' ⟨rfl, rfl⟩) | (go_at_call_of 10 (Value.int IntKind.i64 x3); refine (HRa.out _).mono ?_; rintro e wa ⟨rfl, ba', kA⟩; have bA : Below V0.heap.size V0 wa := bel_next (by assumption) ba') | (go_at_call_of 10 (Value.int IntKind.i64 xw); refine (HRb.out _).mono ?_; rintro e wb ⟨rfl, bb', kB⟩; have bB : Below V0.heap.size V0 wb := bel_next (by assumption) bb'))
        have hF : Below wb.heap.size wb (wb.alloc (.cells #[.slice (some ⟨V0.heap.size, 0, none⟩) ra.length ra.length, .slice (some ⟨wa.heap.size, 0, none⟩) rb.length rb.length] 22)) := bel_alloc (Below.refl _ _) _
        have HREL : Hid (Blk (wb.alloc (.cells #[.slice (some ⟨V0.heap.size, 0, none⟩) ra.length ra.length, .slice (some ⟨wa.heap.size, 0, none⟩) rb.length rb.length] 22)) wb.heap.size #[.slice (some ⟨V0.heap.size, 0, none⟩) ra.length ra.length, .slice (some ⟨wa.heap.size, 0, none⟩) rb.length rb.length] 22 ∧ RowB (wb.alloc (.cells #[.slice (some ⟨V0.heap.size, 0, none⟩) ra.length ra.length, .slice (some ⟨wa.heap.size, 0, none⟩) rb.length rb.length] 22)) V0.heap.size ra ∧ RowB (wb.alloc (.cells #[.slice (some ⟨V0.heap.size, 0, none⟩) ra.length ra.length, .slice (some ⟨wa.heap.size, 0, none⟩) rb.length rb.length] 22)) wa.heap.size rb ∧ BInv W (wb.alloc (.cells #[.slice (some ⟨V0.heap.size, 0, none⟩) ra.length ra.length, .slice (some ⟨wa.heap.size, 0, none⟩) rb.length rb.length] 22)) i d g p s bf first (Q + 1) (Q + 2) (opV ta tb tc te tf) (opV ma mb mc me mf) ∧ Blk (wb.alloc (.cells #[.slice (some ⟨V0.heap.size, 0, none⟩) ra.length ra.length, .slice (some ⟨wa.heap.size, 0, none⟩) rb.length rb.length] 22)) q (opV x0 x1 x2 x3 x4) 34) :=
          ⟨Blk.new wb _ _, ((show RowB wa V0.heap.size ra from RowB.of_blk kA).below bb').below hF, (RowB.of_blk kB).below hF, HX.out.1.kp (bel_alloc bB _), HX.out.2.below (bel_alloc bB _)⟩
        clear kA kB hF
        go_wp2_with fail
        go_meet
        case rel => exact ⟨_, _, _, rfl, HREL⟩
      case rest =>
        obtain ⟨ga, b5, b6, rfl, HX1⟩ := hcut
        clear HC y2 y3 bD HX HRa HRb HPa HPb
        have u0 : wc.cell? ⟨ga, 0, none⟩ = some (.slice (some ⟨b5, 0, none⟩) ra.length ra.length) := by rw [HX1.out.1.cell]; rfl
        have u1 : wc.cell? ⟨ga, 1, none⟩ = some (.slice (some ⟨b6, 0, none⟩) rb.length rb.length) := by rw [HX1.out.1.cell]; rfl
        go_wp2_with fail
        go_quiet (first | (go_at_call 11; exact quiet_left (blocks_any _ _ _ _ (by omega))))
        have hdn : Below wc.heap.size wc (wc.drewN nq) := ((Drawn.refl wc).drewN nq).below _
        have HX2 : Hid (Blk (wc.drewN nq) ga #[.slice (some ⟨b5, 0, none⟩) ra.length ra.length, .slice (some ⟨b6, 0, none⟩) rb.length rb.length] 22 ∧ RowB (wc.drewN nq) b5 ra ∧ RowB (wc.drewN nq) b6 rb ∧ BInv W (wc.drewN nq) i d g p s bf first (Q + 1) (Q + 2) (opV ta tb tc te tf) (opV ma mb mc me mf) ∧ Blk (wc.drewN nq) q (opV x0 x1 x2 x3 x4) 34) :=
          ⟨HX1.out.1.below hdn, HX1.out.2.1.below hdn, HX1.out.2.2.1.below hdn, HX1.out.2.2.2.1.kp hdn, HX1.out.2.2.2.2.below hdn⟩
        obtain ⟨W1, hW1⟩ : ∃ W1, W1 = wc.drewN nq := ⟨_, rfl⟩
        rw [← hW1] at HX2 ⊢
        clear hW1 hdn HX1 u0 u1
        obtain ⟨_, y1, _, _, _⟩ := opv_cell HX2.out.2.2.2.2
        have HPL := Lib.hid (fun w => place_any x1 ((blks ra : Int) + (blks rb : Int) + 1) w (by omega) (by omega))
        have hkn : 0 ≤ x1 % ((blks ra : Int) + (blks rb : Int) + 1) ∧ x1 % ((blks ra : Int) + (blks rb : Int) + 1) < (blks ra : Int) + (blks rb : Int) + 1 := ⟨Int.emod_nonneg _ (by omega), Int.emod_lt_of_pos _ (by omega)⟩
        obtain ⟨kn, hknE⟩ : ∃ m, Hid (x1 % ((blks ra : Int) + (blks rb : Int) + 1) = m) := ⟨_, rfl⟩
        rw [hknE.out] at hkn
        simp only [hknE.out] at HPL
        have HFU := Lib.hid (fuse_live W1 d g p s 1 0 [first] HX2.out.2.2.2.1.live HX2.out.2.2.2.1.off kn hkn.1 (by omega))
        go_wp2_with fail
        refine (HPL.out W1).mono ?_
        rintro e w4 ⟨rfl, rfl⟩
        go_wp2_with fail
        refine HFU.out.mono ?_
        rintro e w5 ⟨rfl, k5, l5⟩
        have hl1 := HX2.out.2.2.2.1.live
        have HY : Hid (Blk w5 ga #[.slice (some ⟨b5, 0, none⟩) ra.length ra.length, .slice (some ⟨b6, 0, none⟩) rb.length rb.length] 22 ∧ RowB w5 b5 ra ∧ RowB w5 b6 rb ∧ RowB w5 bf first ∧ Blk w5 (Q + 1) (opV ta tb tc te tf) 34 ∧ Blk w5 (Q + 2) (opV ma mb mc me mf) 34 ∧ Below W.heap.size W w5) :=
          ⟨HX2.out.1.kp k5 (fun hk => dgp_no2 hl1.disk hl1.scr _ _ hk HX2.out.1), HX2.out.2.1.kp k5 hl1.no, HX2.out.2.2.1.kp k5 hl1.no, HX2.out.2.2.2.1.row.kp k5 hl1.no, op_keep hl1 k5 HX2.out.2.2.2.1.o2, op_keep hl1 k5 HX2.out.2.2.2.1.o3, HX2.out.2.2.2.1.belK k5⟩
        have hgood2 : ∀ r ∈ [ra, rb], isBy r ∧ goodR r ∧ r.length ≤ 120 := fun r hr => by
          rcases List.mem_cons.1 hr with rfl | hr
          · exact ⟨HG2.out.1, HG2.out.2.1, hra⟩
          · rw [List.mem_singleton.1 hr]; exact ⟨HG2.out.2.2.1, HG2.out.2.2.2, hrb⟩
        have htot2 : total [ra, rb] = blks ra + blks rb := by simp [total]
        have HT := Lib.hid (turn_any w5 p d g { s with fuse := kn } 1 0 [first] [ra, rb] l5 (some ⟨ga, 0, none⟩) 2 2
          (handed_lit HY.out.1 (vs := [.slice (some ⟨b5, 0, none⟩) ra.length ra.length, .slice (some ⟨b6, 0, none⟩) rb.length rb.length]) (fun j v hj => by rw [List.getElem?_toArray]; exact hj) (rws_2 (S := fun _ => True) HY.out.2.1 (Nat.le_refl _) trivial HY.out.2.2.1 (Nat.le_refl _) trivial) l5.disk rfl (fun r hr => (hgood2 r hr).1) (fun r hr => by have := (hgood2 r hr).2.2; omega) (by omega)) (by show s.writes + 5000 ≤ _; have := HX2.out.2.2.2.1.wts; omega))
        have HL5 := Lib.hid l5
        clear l5 k5 hl1 HFU HPL y1
        go_wp2_with fail
        refine HT.out.mono ?_
        rintro e w6 ⟨E, s6, rfl, hE, k6⟩
        have v1 := HX2.out.2.2.2.1.off
        have vh := HX2.out.2.2.2.1.half
        have vg := HX2.out.2.2.2.1.gens
        obtain ⟨rfl, hl6, hn6, hw6, hg6⟩ : E = 21 ∧ Live w6 d g p s6 1 0 [first] ∧ s6.n = s.n ∧ s6.writes ≤ s.writes + 5000 ∧ GensTo s6.c s.n (1 + (i + 1)) := by
          cases hE with
          | bad hb l => obtain ⟨r, hr, hn⟩ := hb; exact absurd (hgood2 r hr).2.1 hn
          | full hg hf l =>
            have hf' : halfN s.n < total [ra, rb] := hf
            omega
          | high hg hf hh l => exact absurd (hh (1 + i) (by omega) vg) (by omega)
          | ok _ G hg hf l hG ho ho' hfu hfu' hn hw hgens =>
            have hfu2 : kn = -1 ∨ (total [ra, rb] : Int) + 1 ≤ kn := hfu
            omega
          | cut _ hg hf l ho' hp hn hw hgens => exact ⟨rfl, l, hn, hw, hgens (1 + i) (by omega) (by omega) vg⟩
        have HY6 : Hid (RowB w6 bf first ∧ Blk w6 (Q + 1) (opV ta tb tc te tf) 34 ∧ Blk w6 (Q + 2) (opV ma mb mc me mf) 34 ∧ Below W.heap.size W w6) :=
          ⟨HY.out.2.2.2.1.kp k6 HL5.out.no, op_keep HL5.out k6 HY.out.2.2.2.2.1, op_keep HL5.out k6 HY.out.2.2.2.2.2.1, bel_nextK HY.out.2.2.2.2.2.2 k6 (fun k hk => by have := HX2.out.2.2.2.1.d0; have := HX2.out.2.2.2.1.g0; have := HX2.out.2.2.2.1.p0; rcases hk with e | e | e <;> omega)⟩
        have HPW := Lib.hid (power_live w6 d g p s6 1 0 [first] hl6)
        have HS6 := Lib.hid (And.intro hl6 (And.intro hn6 (And.intro hw6 hg6)))
        clear hE k6 HT hl6 hn6 hw6 hg6 v1 vh vg
        go_wp2_with fail
        refine HPW.out.mono ?_
        rintro e w7 ⟨rfl, k7, l7⟩
        have HY7 : Hid (RowB w7 bf first ∧ Blk w7 (Q + 1) (opV ta tb tc te tf) 34 ∧ Blk w7 (Q + 2) (opV ma mb mc me mf) 34 ∧ Below W.heap.size W w7) :=
          ⟨HY6.out.1.kp k7 HS6.out.1.no, op_keep HS6.out.1 k7 HY6.out.2.1, op_keep HS6.out.1 k7 HY6.out.2.2.1, bel_nextK HY6.out.2.2.2 k7 (fun k hk => by have := HX2.out.2.2.2.1.d0; have := HX2.out.2.2.2.1.g0; have := HX2.out.2.2.2.1.p0; rcases hk with e | e | e <;> omega)⟩
        have HOP := Lib.hid (open_live w7 d g { s6 with off := false, fuse := -1 } 1 0 [first] l7.disk l7.byd (by show 3 ≤ s6.n; rw [HS6.out.2.1]; exact HX2.out.2.2.2.1.n3) l7.on)
        simp only [List.length_cons, List.length_nil, Nat.zero_add] at HOP
        clear l7 k7 HPW
        go_wp2_with fail
        refine HOP.out.mono ?_
        rintro e w8 ⟨p8, A8, c8, vs8, rfl, hl8, hp8, ho8, hr8, b8⟩
        have HSR := Lib.hid (same_lit1 w8 A8 c8 bf first.length vs8 first _ _ ho8 hr8 (HY7.out.1.below b8) (Nat.le_refl _) (by omega))
        have hp8' : W.heap.size ≤ p8 := by have := HY7.out.2.2.2.size; omega
        have HL8 := Lib.hid hl8
        have HB8 := Lib.hid b8
        clear hl8 ho8 hr8 b8 HOP
        go_wp2_with fail
        refine HSR.out.mono ?_
        rintro e w9 ⟨rfl, b9⟩
        have HF : Hid (BInv W w9 (i + 1) d g p8 { s6 with off := false, fuse := -1 } bf first (Q + 1) (Q + 2) (opV ta tb tc te tf) (opV ma mb mc me mf)) := by
          refine ⟨HL8.out.below b9, rfl, rfl, ?_, ?_, (HY7.out.1.below HB8.out).below b9, (HY7.out.2.1.below HB8.out).below b9, (HY7.out.2.2.1.below HB8.out).below b9, bel_next (bel_next HY7.out.2.2.2 HB8.out) b9, HX2.out.2.2.2.1.d0, HX2.out.2.2.2.1.g0, hp8', ?_⟩
          · show s6.writes ≤ _
            have := HS6.out.2.2.1
            have := HX2.out.2.2.2.1.wts
            omega
          · show GensTo s6.c s6.n _
            rw [HS6.out.2.1]
            exact HS6.out.2.2.2
          · show 10 ≤ halfN s6.n
            rw [HS6.out.2.1]
            exact HX2.out.2.2.2.1.half
        clear b9 HSR
        go_wp2_with fail
        go_roundw
        case rel => exact ⟨i + 1, by omega, by go_num, p8, { s6 with off := false, fuse := -1 }, rfl, HF⟩
        case measure => simp [intOf]; omega
    · have z5 := hinv.out.o2
      obtain ⟨_, _, y2, y3, _⟩ := opv_cell z5
      have h505 : 0 ≤ tc % 50 ∧ tc % 50 < 50 := ⟨Int.emod_nonneg _ (by decide), Int.emod_lt_of_pos _ (by decide)⟩
      have HP5 := Lib.hid (fun w => place_any tc 50 w (by omega) (by omega))
      obtain ⟨k5, hk5⟩ : ∃ m, Hid (tc % 50 = m) := ⟨_, rfl⟩
      rw [hk5.out] at HP5 h505
      obtain ⟨fby5, flen5, fgood5⟩ := rec_short k5 te (by omega) (by omega)
      have HREC5 := Lib.hid (fun W => record_any (1 + k5) te W)
      have hfl5 := recordL_length (1 + k5) te
      generalize recordL (1 + k5) te = sec at *
      rw [← hfl5] at HREC5
      have hfb5 : blks sec = 1 := by unfold blks; omega
      have hf505 : sec.length ≤ 50 := by omega
      have HFI5 := Lib.hid (And.intro fby5 (And.intro fgood5 hfb5))
      obtain ⟨h50a5, h50b5⟩ := h505
      have hw505 : IntKind.i64.wrap (1 + k5) = 1 + k5 := by rw [IntKind.wrap_i64]; omega
      have bD : Below wr.heap.size wr wr.drew := (Drawn.refl wr).drew.below _
      have HC : Hid (∀ W', Below wr.heap.size wr W' → W'.cell? ⟨Q + 1, 2, none⟩ = some (.int .i64 tc) ∧ W'.cell? ⟨Q + 1, 3, none⟩ = some (.int .i64 te)) := fun W' hb => ⟨cell_keep hb y2, cell_keep hb y3⟩
      clear hfl5 flen5 fby5 fgood5 hfb5
      go_wp2_with fail
      go_region_held3 (fun w' => w'.cell? ⟨Q + 1, 2, none⟩ = some (.int .i64 tc) ∧ w'.cell? ⟨Q + 1, 3, none⟩ = some (.int .i64 te)) ((first | assumption | exact HC.out _ (Below.refl _ _) | exact HC.out _ (by assumption))) (first | (go_at_call 21; refine (HP5.out _).mono ?_; rintro e w' ⟨rfl, rfl⟩) | (go_at_call 10; refine (HREC5.out _).mono ?_; rintro e w5 ⟨rfl, b3', k3⟩; have b3 : Below wr.heap.size wr w5 := bel_next bD b3'))
      have HR5 : Hid (RowB w5 wr.heap.size sec) := RowB.of_blk k3
      have V5 := Lib.hid (hinv.out.kp b3)
      have HB5 := Lib.hid b3
      clear k3 b3' b3 HC y2 y3 bD
      have z6 := V5.out.o3
      clear z5
      obtain ⟨b5, hb5⟩ : ∃ b, Hid (wr.heap.size = b) := ⟨_, rfl⟩
      simp only [hb5.out] at HR5 ⊢
      obtain ⟨_, _, y2, y3, _⟩ := opv_cell z6
      have h506 : 0 ≤ mc % 50 ∧ mc % 50 < 50 := ⟨Int.emod_nonneg _ (by decide), Int.emod_lt_of_pos _ (by decide)⟩
      have HP6 := Lib.hid (fun w => place_any mc 50 w (by omega) (by omega))
      obtain ⟨k6, hk6⟩ : ∃ m, Hid (mc % 50 = m) := ⟨_, rfl⟩
      rw [hk6.out] at HP6 h506
      obtain ⟨fby6, flen6, fgood6⟩ := rec_short k6 me (by omega) (by omega)
      have HREC6 := Lib.hid (fun W => record_any (1 + k6) me W)
      have hfl6 := recordL_length (1 + k6) me
      generalize recordL (1 + k6) me = thi at *
      rw [← hfl6] at HREC6
      have hfb6 : blks thi = 1 := by unfold blks; omega
      have hf506 : thi.length ≤ 50 := by omega
      have HFI6 := Lib.hid (And.intro fby6 (And.intro fgood6 hfb6))
      obtain ⟨h50a6, h50b6⟩ := h506
      have hw506 : IntKind.i64.wrap (1 + k6) = 1 + k6 := by rw [IntKind.wrap_i64]; omega
      have bD : Below w5.heap.size w5 w5.drew := (Drawn.refl w5).drew.below _
      have HC : Hid (∀ W', Below w5.heap.size w5 W' → W'.cell? ⟨Q + 2, 2, none⟩ = some (.int .i64 mc) ∧ W'.cell? ⟨Q + 2, 3, none⟩ = some (.int .i64 me)) := fun W' hb => ⟨cell_keep hb y2, cell_keep hb y3⟩
      clear hfl6 flen6 fby6 fgood6 hfb6
      go_wp2_with fail
      go_region_held3 (fun w' => w'.cell? ⟨Q + 2, 2, none⟩ = some (.int .i64 mc) ∧ w'.cell? ⟨Q + 2, 3, none⟩ = some (.int .i64 me)) ((first | assumption | exact HC.out _ (Below.refl _ _) | exact HC.out _ (by assumption))) (first | (go_at_call 21; refine (HP6.out _).mono ?_; rintro e w' ⟨rfl, rfl⟩) | (go_at_call 10; refine (HREC6.out _).mono ?_; rintro e w6 ⟨rfl, b3', k3⟩; have b3 : Below w5.heap.size w5 w6 := bel_next bD b3'))
      have HR6 : Hid (RowB w6 w5.heap.size thi) := RowB.of_blk k3
      have V6 := Lib.hid (V5.out.kp b3)
      have HB6 := Lib.hid b3
      clear k3 b3' b3 HC y2 y3 bD
      clear z6
      have HR56 := Lib.hid (HR5.out.below HB6.out)
      obtain ⟨b6, hb6⟩ : ∃ b, Hid (w5.heap.size = b) := ⟨_, rfl⟩
      simp only [hb6.out] at HR6 ⊢
      have hA : Below w6.heap.size w6 (w6.alloc (.cells #[.slice (some ⟨b5, 0, none⟩) sec.length sec.length] 22)) := bel_alloc (Below.refl _ _) _
      have hli := V6.out.live
      have HT := Lib.hid (turn_any (w6.alloc (.cells #[.slice (some ⟨b5, 0, none⟩) sec.length sec.length] 22)) p d g s 1 0 [first] [sec] (hli.below hA) (some ⟨w6.heap.size, 0, none⟩) 1 1
        (handed_lit (Blk.new w6 _ _) (fun j v hj => by rw [List.getElem?_toArray]; exact hj) (rws_1 (S := fun _ => True) (HR56.out.below hA) (Nat.le_refl _) trivial) (hli.below hA).disk rfl (fun r hr => by rw [List.mem_singleton.1 hr]; exact HFI5.out.1) (fun r hr => by rw [List.mem_singleton.1 hr]; omega) (by omega)) (by have := V6.out.wts; omega))
      clear hli
      go_wp2_with fail
      refine HT.out.mono ?_
      rintro e w8 ⟨E, s8, rfl, hE, k8⟩
      have hgood1 : ∀ r ∈ [sec], goodR r := fun r hr => by rw [List.mem_singleton.1 hr]; exact HFI5.out.2.1
      have htot1 : total [sec] = 1 := by rw [total_one]; exact HFI5.out.2.2
      obtain ⟨rfl, G, hl8, ho8, hf8, hn8, hw8⟩ : E = 0 ∧ ∃ G, Live w8 d g p s8 G (1 - 0) [sec] ∧ s8.off = false ∧ s8.fuse = -1 ∧ s8.n = s.n ∧ s8.writes ≤ s.writes + 5000 := by
        have v1 := V6.out.off
        have v2 := V6.out.fuse
        cases hE with
        | bad hb l => obtain ⟨r, hr, hn⟩ := hb; exact absurd (hgood1 r hr) hn
        | full hg hf l => have := V6.out.half; omega
        | high hg hf hh l => exact absurd (hh (1 + i) (by omega) V6.out.gens) (by omega)
        | ok _ G hg hf l hG ho ho' hfu hfu' hn hw hgens => exact ⟨rfl, G, l, ho', hfu' v2, hn, hw⟩
        | cut _ hg hf l ho' hp hn hw hgens =>
          rcases hp with e | e
          · rw [v1] at e; cases e
          · omega
      have hk68 : Kp (DGP d g p) w6 w8 := (Kp.of_below hA).trans (k8.mono (fun _ h _ => h))
      have HR58 := Lib.hid (HR56.out.kp hk68 V6.out.live.no)
      have HR68 := Lib.hid (HR6.out.kp hk68 V6.out.live.no)
      have HB8 := Lib.hid (V6.out.belK hk68)
      have h3n : 3 ≤ s8.n := by rw [hn8]; exact V6.out.n3
      have HOP := Lib.hid (open_live w8 d g s8 G (1 - 0) [sec] hl8.disk hl8.byd h3n hl8.on)
      simp only [List.length_cons, List.length_nil, Nat.zero_add] at HOP
      have HL8 := Lib.hid (And.intro hl8 (And.intro ho8 (And.intro hf8 (And.intro hn8 hw8))))
      clear hl8 ho8 hf8 hn8 hw8 hE k8 hk68 HT hA
      go_wp2_with fail
      refine HOP.out.mono ?_
      rintro e w9 ⟨p9, A9, c9, vs9, rfl, hl9, _, ho9, hr9, b9⟩
      have HSR := Lib.hid (same_lit1 w9 A9 c9 b5 sec.length vs9 sec _ _ ho9 hr9 (HR58.out.below b9) (Nat.le_refl _) (by omega))
      have HL9 := Lib.hid (HL8.out.1.below b9)
      have HR59 := Lib.hid (HR58.out.below b9)
      have HR69 := Lib.hid (HR68.out.below b9)
      have HB9 := Lib.hid (bel_next HB8.out b9)
      clear hl9 ho9 hr9 b9 HOP
      go_wp2_with fail
      refine HSR.out.mono ?_
      rintro e w10 ⟨rfl, b10⟩
      have HL10 := Lib.hid (HL9.out.below b10)
      have HR5a := Lib.hid (HR59.out.below b10)
      have HR6a := Lib.hid (HR69.out.below b10)
      have HBa := Lib.hid (bel_next HB9.out b10)
      have HAP := Lib.hid (append_live w10 p d g b6 thi.length s8 G (1 - 0) [sec] thi HL10.out HR6a.out (Nat.le_refl _) HFI6.out.1 HFI6.out.2.1 (by rw [htot1, HFI6.out.2.2, HL8.out.2.2.2.1]; have := V6.out.half; omega) (by have := HL8.out.2.2.2.2; have := V6.out.wts; omega))
      clear b10 HSR
      go_wp2_with fail
      refine HAP.out.mono ?_
      rintro e w11 ⟨E, s11, rfl, hE, k11⟩
      obtain ⟨rfl, hl11, hgo⟩ : E = 0 ∧ Live w11 d g p s11 G (1 - 0) ([sec] ++ [thi]) ∧ Goes s8 s11 G 8 := by
        cases hE with
        | ok _ l ho ho' hf hgo => exact ⟨rfl, l, hgo⟩
        | cut _ l hp ho' hgo => exact absurd ⟨HL8.out.2.1, HL8.out.2.2.1⟩ hp
      have HR5b := Lib.hid (HR5a.out.kp k11 HL10.out.no)
      have HR6b := Lib.hid (HR6a.out.kp k11 HL10.out.no)
      have HBb : Hid (Below W.heap.size W w11) := bel_nextK HBa.out k11 (fun k hk => by have := V6.out.d0; have := V6.out.g0; have := V6.out.p0; rcases hk with e | e | e <;> omega)
      have HOP := Lib.hid (open_live w11 d g s11 G (1 - 0) [sec, thi] hl11.disk hl11.byd (by rw [hgo.n]; exact h3n) hl11.on)
      simp only [List.length_cons, List.length_nil, Nat.zero_add, Nat.reduceAdd] at HOP
      clear hl11 hgo hE k11 HAP
      go_wp2_with fail
      refine HOP.out.mono ?_
      rintro e w12 ⟨p12, A12, c12, vs12, rfl, hl12, _, ho12, hr12, b12⟩
      have HSR := Lib.hid (same_lit2 w12 A12 c12 b5 sec.length b6 thi.length vs12 sec thi _ _ ho12 hr12 (HR5b.out.below b12) (Nat.le_refl _) (by omega) (HR6b.out.below b12) (Nat.le_refl _) (by omega))
      have HBc := Lib.hid (bel_next HBb.out b12)
      clear hl12 ho12 hr12 b12 HOP
      go_wp2_with fail
      refine HSR.out.mono ?_
      rintro e w13 ⟨rfl, b13⟩
      have HBd := Lib.hid (bel_next HBc.out b13)
      have HAW := Lib.hid (awake_any w13)
      clear b13 HSR
      go_wp2_with fail
      refine HAW.out.mono ?_
      rintro e w14 ⟨rfl, b14⟩
      have HBe := Lib.hid (bel_next HBd.out b14)
      go_wp2_with fail
      go_ret
      exact ⟨rfl, HBe.out⟩

end Go.Proofs.Ytmliiggieclbeaa
