/- The scroll's Turn. -/
import Derived.Test.YtmliiggieclbeaaSclT
namespace Go.Proofs.Ytmliiggieclbeaa
open Go.RowKit

theorem take_snoc {α : Type} (l : List α) (k : Nat) (x : α) (h : l[k]? = some x) : l.take (k + 1) = l.take k ++ [x] := by
  rw [List.take_add_one, h]
  rfl
theorem total_le (rs : List (List Int)) (h : ∀ r ∈ rs, goodR r) : total rs ≤ 8 * rs.length := by
  induction rs with
  | nil => simp [total]
  | cons r rs ih =>
    have h1 := good_blks (h r (by simp))
    have h2 := ih (fun x hx => h x (by simp [hx]))
    simp only [total, List.map_cons, List.sum_cons, List.length_cons] at *
    omega
theorem total_take_le (rs : List (List Int)) (k : Nat) : total (rs.take k) ≤ total rs := by
  have := total_app (rs.take k) (rs.drop k)
  rw [List.take_append_drop] at this
  omega
theorem GensTo.mono {c : Nat → List Int} {n M M' : Nat} (h : GensTo c n M) (hm : M ≤ M') : GensTo c n M' := fun a b h1 h2 => by have := h a b h1 h2; omega
def TurnPost (d g p : Nat) (s : DS) (gen h : Nat) (old rs : List (List Int)) (w : World) (e : Ending) (w' : World) : Prop :=
  ∃ E s', e = .returned (.int .i64 E) ∧ TurnEnd d g p s gen h old rs w' E s' ∧ Kp (DGP d g p) w w'
/-- The rows that are handed in, as they lie. -/
structure Handed (w : World) (d g : Nat) (A : Option Addr) (n : Nat) (rs : List (List Int)) : Prop where
  len : rs.length = n
  at_ : ∀ k, k < n → ∃ x b c r, A = some x ∧ x.block < w.heap.size ∧ x.block ≠ d ∧ x.block ≠ g ∧ rs[k]? = some r ∧ w.cell? (x.add k) = some (.slice (some ⟨b, 0, none⟩) r.length c) ∧ r.length ≤ c ∧ RowB w b r
  by_ : ∀ r ∈ rs, isBy r
  short : ∀ r ∈ rs, r.length ≤ 1000000
  few : n ≤ 1000000

set_option maxRecDepth 100000 in
set_option maxHeartbeats 4000000 in
theorem turn_any (w : World) (p d g : Nat) (s : DS) (gen h : Nat) (old rs : List (List Int)) (l : Live w d g p s gen h old) (A : Option Addr) (n c : Nat) (ha : Handed w d g A n rs) (hw : s.writes + 5000 ≤ 4611686018427387904) :
    Calls Try.prog 24 #[.pointer (some ⟨p, 0, none⟩), .slice A n c] w (TurnPost d g p s gen h old rs w) := by
  have hL := Lib.hid l
  have HH := Lib.hid ha
  have hfew := ha.few
  have hrl := ha.len
  obtain ⟨c0, _, _, _, _, _⟩ := l.scr.cells
  obtain ⟨l1, l2, l3⟩ := l.le
  have hh1 := l.on.hd.h1
  have hg2 := l.on.hd.g2
  clear l ha
  go_enter Try.func24, Try.ntmps24
  go_wp2_with fail
  go_loopw [5, 17] (fun v5 v17 wr => ∃ k T : Nat, k ≤ n ∧ v17 = .int .i64 k ∧ v5 = .int .i64 T ∧ Hid (T = total (rs.take k)) ∧ Hid (∀ r ∈ rs.take k, goodR r) ∧ Hid (w = wr)) (fun _ v _ => n - (intOf v).toNat)
  case atStart => exact ⟨0, 0, Nat.zero_le _, rfl, rfl, Lib.hid rfl, Lib.hid (fun r hr => absurd hr (by simp)), Lib.hid rfl⟩
  case round =>
    obtain ⟨k, T, hk, rfl, rfl, hT, hg, hwr⟩ := hrel
    obtain rfl := hwr.out
    clear hwr
    have hT8 : T ≤ 8 * n := by
      have := total_le _ hg.out
      rw [← hT.out, List.length_take] at this
      omega
    by_cases hlt : k < n
    · obtain ⟨x, b, c2, r, rfl, _, _, _, hri, hxc, hrc, hrb⟩ := HH.out.at_ k hlt
      have hrm := List.mem_of_getElem? hri
      have hsh := HH.out.short r hrm
      have HGD := Lib.hid (good_any w (some ⟨b, 0, none⟩) c2 r (by omega))
      have HBL := Lib.hid (blocks_any w (some ⟨b, 0, none⟩) c2 r (by omega))
      by_cases hgood : goodR r
      · have hb8 := good_blks hgood
        have HN : Hid (T + blks r = total (rs.take (k + 1))) := by show _ = _; rw [take_snoc _ _ _ hri, total_app, total_one, ← hT.out]
        have HG : Hid (∀ r ∈ rs.take (k + 1), goodR r) := fun y hy => by
          rw [take_snoc _ _ _ hri] at hy
          rcases List.mem_append.1 hy with hy | hy
          · exact hg.out y hy
          · rw [List.mem_singleton.1 hy]; exact hgood
        simp only [decide_eq_true hgood] at HGD
        clear hgood hrb hg hT
        go_wp2_with fail
        refine HGD.out.mono ?_
        rintro e w1 ⟨rfl, rfl⟩
        go_wp2_with fail
        refine HBL.out.mono ?_
        rintro e w1 ⟨rfl, rfl⟩
        go_wp2_with fail
        go_roundw
        case rel => exact ⟨k + 1, T + blks r, by omega, by go_num, by go_num, HN, HG, by first | exact Lib.hid trivial | exact Lib.hid rfl⟩
        case measure => simp [intOf]; omega
      · simp only [decide_eq_false hgood] at HGD
        have HBAD : Hid (∃ r ∈ rs, ¬ goodR r) := ⟨r, hrm, hgood⟩
        clear hgood hrb hg hT
        go_wp2_with fail
        refine HGD.out.mono ?_
        rintro e w1 ⟨rfl, rfl⟩
        go_wp2_with fail
        go_ret
        exact ⟨61, s, rfl, .bad HBAD.out hL.out, Kp.refl _ _⟩
    · have hkn : k = n := by omega
      have hTt : T = total rs := by rw [hT.out, List.take_of_length_le (by omega)]
      have HG : Hid (∀ r ∈ rs, goodR r) := fun r hr => hg.out r (by rw [List.take_of_length_le (by omega)]; exact hr)
      have HSZ := Lib.hid (ssize_any w d g s hL.out.disk)
      clear hg hT
      have HTT := Lib.hid hTt
      clear hTt
      go_wp2_with fail
      refine HSZ.out.mono ?_
      rintro e w1 ⟨rfl, rfl⟩
      by_cases hfull : halfN s.n < T
      · go_wp2_with fail
        go_ret
        exact ⟨2, s, rfl, .full HG.out (by rw [← HTT.out]; exact hfull) hL.out, Kp.refl _ _⟩
      · have HNX := Lib.hid (next_any w d g s hL.out.disk hL.out.byd)
        go_wp2_with fail
        refine HNX.out.mono ?_
        rintro e w1 ⟨G, K, rfl, hnext, b1⟩
        obtain ⟨hK, hgG, hhalf, hGM⟩ := hL.out.on.next (fun k => (hL.out.byd k).1) hnext
        have HKK := Lib.hid hK
        have hK1' : K ≤ 1 := by omega
        clear hK
        have hl1 := hL.out.below b1
        have HL1 := Lib.hid hl1
        have HHALF := Lib.hid hhalf
        have HGM := Lib.hid hGM
        clear hnext hhalf hGM HNX HSZ
        obtain ⟨c1, _, _, _, _, _⟩ := hl1.scr.cells
        have hsz1 := b1.size
        obtain ⟨hlt1, hlt2, hlt3⟩ := hl1.lt
        clear hl1
        by_cases hbig : 1073741824 < G
        · go_wp2_with fail
          go_ret
          exact ⟨60, s, rfl, .high HG.out (by rw [← HTT.out]; omega) (fun M h1 h2 => by have := HGM.out M h1 h2; omega) HL1.out, Kp.of_below b1⟩
        · go_wp2_with fail
          have hq : ScrAt (w1.alloc (.cells #[.pointer (some ⟨d, 0, none⟩), .int .i64 K, .int .i64 G, .int .i64 0, .int .i64 0] 64)) w1.heap.size d ⟨K, G, 0, 0⟩ := Blk.new w1 _ _
          have HD0 : Hid (DiskAt (w1.alloc (.cells #[.pointer (some ⟨d, 0, none⟩), .int .i64 K, .int .i64 G, .int .i64 0, .int .i64 0] 64)) d g s) := HL1.out.disk.below ((Below.refl _ _).alloc (Nat.le_refl _) _)
          have HK0 : Hid (Kp (fun k => k = d ∨ k = g) w (w1.alloc (.cells #[.pointer (some ⟨d, 0, none⟩), .int .i64 K, .int .i64 G, .int .i64 0, .int .i64 0] 64))) := (Kp.of_below b1).alloc _
          have HQ0 := Lib.hid hq
          have HT0 : Hid (TurnSt s s K G []) := TurnSt.start hL.out.byd HHALF.out
          have hK1 : K ≤ 1 := hK1'
          have hG1 : 1 ≤ G := by omega
          have hG2 : G ≤ 1073741824 := by omega
          have HNO := Lib.hid (dgp_no hL.out.disk hL.out.scr)
          obtain ⟨q, hqq⟩ : ∃ q, Hid (w1.heap.size = q) := ⟨_, rfl⟩
          have hpq : p < q := by have := hqq.out; omega
          have hwq : w.heap.size ≤ q := by have := hqq.out; omega
          have hdq : d < q := by have := hqq.out; omega
          have hgq : g < q := by have := hqq.out; omega
          have htot : total rs ≤ halfN s.n := by have := HTT.out; omega
          have hrn : n ≤ 512 := by
            have := total_ge rs HG.out
            omega
          have HTOT := Lib.hid htot
          clear hq b1 HHALF
          simp only [hqq.out] at HD0 HK0 HQ0 ⊢
          go_loopw [56] (fun v wr => ∃ (k : Nat) (s' : DS), k ≤ n ∧ v = .int .i64 k ∧ Hid (TurnSt s s' K G (rs.take k)) ∧ Hid (DiskAt wr d g s') ∧ Hid (ScrAt wr q d ⟨K, G, k, total (rs.take k)⟩) ∧ Hid (Kp (fun k => k = d ∨ k = g) w wr)) (fun v _ => n - (intOf v).toNat)
          case atStart => exact ⟨0, s, Nat.zero_le _, rfl, HT0, HD0, HQ0, HK0⟩
          case round =>
            obtain ⟨k, s', hk, rfl, hts, hdk, hqs, hkp⟩ := hrel
            have hps : ScrAt wr p d ⟨h, gen, old.length, total old⟩ := hL.out.scr.kp hkp.out (fun e => by
              have := scr_ne hL.out.disk hL.out.scr
              rcases e with e | e
              · exact this.1 e
              · exact this.2 e)
            have HPS := Lib.hid hps
            obtain ⟨cp0, _, _, _, _, _⟩ := hps.cells
            clear hps
            by_cases hlt : k < n
            · obtain ⟨x, b, c2, r, rfl, hx1, hx2, hx3, hri, hxc, hrc, hrb⟩ := HH.out.at_ k hlt
              have hrm := List.mem_of_getElem? hri
              have hxc' : wr.cell? (x.add k) = some (.slice (some ⟨b, 0, none⟩) r.length c2) := (hkp.out.cell (p := x.add k) (by rw [add_at]; exact hx1) (by rw [add_at]; rintro (e | e); exact hx2 e; exact hx3 e)).trans hxc
              have hrb' : RowB wr b r := hrb.kp hkp.out (fun k cs hk => HNO.out k cs (by rcases hk with e | e; exact .inl e; exact .inr (.inl e)))
              have hgr := HG.out r hrm
              have htk : total (rs.take k) + blks r ≤ halfN s.n := by
                have h1 := total_take_le rs (k + 1)
                rw [take_snoc _ _ _ hri, total_app, total_one] at h1
                have := HTOT.out
                omega
              have hsn : s'.n = s.n := hts.out.n
              have HAP := Lib.hid (append_any wr q d g b c2 s' ⟨K, G, k, total (rs.take k)⟩ r hdk.out hts.out.byd hqs.out hrb' hrc hgr (by rw [hsn]; exact htk) hK1 (by have := hts.out.wr; rw [List.length_take] at this; omega) (by show k ≤ 1000; omega))
              have HTK := Lib.hid htk
              clear hxc hrb hrb' htk
              go_wp2_with fail
              refine HAP.out.mono ?_
              rintro e w2 ⟨E, s2, rfl, hE, hd2, hq2, hk2⟩
              simp only at hE
              rw [hsn] at hE
              have hlen : (rs.take k).length = k := by rw [List.length_take]; omega
              rw [show k = (rs.take k).length from hlen.symm] at hE
              have hE2 := hts.out.app (by have := hdk.out.fuse0; omega) (HH.out.by_ r hrm) hgr HTK.out (by rw [hlen] at hE ⊢; exact hE)
              have HK2 : Hid (Kp (fun k => k = d ∨ k = g) w w2) := ⟨hk2.os.trans hkp.out.os, hk2.tape.trans hkp.out.tape, hk2.output.trans hkp.out.output, Nat.le_trans hkp.out.size hk2.size, fun i hi hn => (hk2.block i (Nat.lt_of_lt_of_le hi hkp.out.size) (fun e => by rcases e with e | e | e; exact hn (.inl e); exact hn (.inr e); omega)).trans (hkp.out.block i hi hn)⟩
              have HD2 := Lib.hid hd2
              have HQ2 := Lib.hid hq2
              clear hE hd2 hq2 hk2 HAP
              rcases hE2 with ⟨rfl, ht2⟩ | ⟨rfl, ht2⟩
              · have HT2 : Hid (TurnSt s s2 K G (rs.take (k + 1))) := by rw [take_snoc _ _ _ hri]; exact ht2
                have HQ3 : Hid (ScrAt w2 q d ⟨K, G, k + 1, total (rs.take (k + 1))⟩) := by
                  have := HQ2.out
                  rw [if_pos rfl] at this
                  rw [take_snoc _ _ _ hri, total_app, total_one]
                  exact this
                have HALL := Lib.hid (And.intro HT2 (And.intro HD2 (And.intro HQ3 HK2)))
                clear ht2 HT2 HQ3 HQ2 HD2 HK2
                go_wp2_with fail
                go_roundw
                case rel => first | exact ⟨k + 1, s2, by omega, by go_num, HALL.out.1, HALL.out.2.1, HALL.out.2.2.1, HALL.out.2.2.2⟩ | exact ⟨_, _, _, _, ⟨k + 1, s2, by omega, by go_num, HALL.out.1, HALL.out.2.1, HALL.out.2.2.1, HALL.out.2.2.2⟩, rfl, rfl, rfl, rfl⟩
                case measure => simp [intOf]; omega
              · have HFIN : Hid (TurnPost d g p s gen h old rs w (.returned (.int .i64 21)) w2) := by
                  have hpw : ScrAt w2 p d ⟨h, gen, old.length, total old⟩ := hL.out.scr.kp HK2.out (fun e => by
                    have := scr_ne hL.out.disk hL.out.scr
                    rcases e with e | e
                    · exact this.1 e
                    · exact this.2 e)
                  have hw2 := ht2.wr
                  rw [hlen] at hw2
                  have hon : ScrollAt s2.c s2.n gen h old := by
                    rw [ht2.n]
                    exact hL.out.on.other (fun k hk => by have := ht2.diff k hk; rwa [HKK.out] at this)
                  exact ⟨21, s2, rfl, .cut s2 HG.out HTOT.out ⟨HD2.out, ht2.byd, hpw, hon⟩ ht2.off (by rcases ht2.pow with e | ⟨e, _⟩; exact .inl e; exact .inr e) ht2.n (by omega) (fun M h1 h2 h3 => ht2.gens (M + 1) (by have := HGM.out M h1 h3; omega) h2 (h3.mono (by omega))), HK2.out.mono (fun k hk _ => by rcases hk with e | e; exact .inl e; exact .inr (.inl e))⟩
                clear ht2
                go_wp2_with fail
                go_ret
                exact HFIN.out
            · have hkn2 : rs.take k = rs := List.take_of_length_le (by omega)
              have hkr : k = rs.length := by omega
              have HTS : Hid (TurnSt s s' K G rs) := by rw [← hkn2]; exact hts.out
              have HQS : Hid (ScrAt wr q d ⟨K, G, rs.length, total rs⟩) := by
                have := hqs.out
                rw [hkn2] at this
                rw [← hkr]
                exact this
              clear hkn2 hkr
              obtain ⟨E, S', hES, hWE, hWS⟩ : ∃ E S', ((E = 0 ∧ S' = s'.put 0 (hdL G K) ∧ s'.off = false ∧ s'.fuse ≠ 0) ∨ (E = 21 ∧ S'.off = true ∧ S'.c = s'.c ∧ S'.n = s'.n ∧ S'.writes = s'.writes ∧ (s'.off = true ∨ 0 ≤ s'.fuse))) ∧
                  s'.writeE 0 (hdL G K) = E ∧ s'.writeS 0 (hdL G K) = S' := by
                have hhas : s'.has 0 := ⟨by omega, by have := hdk.out.low; omega⟩
                have hpl := hd_len (G : Int) (K : Int)
                cases ho : s'.off with
                | true =>
                  refine ⟨21, s', .inr ⟨rfl, ho, rfl, rfl, rfl, .inl rfl⟩, ?_, ?_⟩
                  · unfold DS.writeE
                    simp [hhas, hpl, ho]
                  · unfold DS.writeS
                    simp [hhas, hpl, ho]
                | false =>
                  by_cases hcut : s'.fuse = 0
                  · refine ⟨21, s'.cut, .inr ⟨rfl, rfl, rfl, rfl, rfl, .inr (by omega)⟩, ?_, ?_⟩
                    · unfold DS.writeE
                      simp [hhas, hpl, ho, hcut]
                    · unfold DS.writeS DS.cut
                      simp [hhas, hpl, ho, hcut]
                  · obtain ⟨e1, e2⟩ := DS.writeS_put hhas hpl ho hcut
                    exact ⟨0, _, .inl ⟨rfl, rfl, rfl, hcut⟩, e2, e1⟩
              have HES := Lib.hid hES
              have HWRITE : Hid (∀ W b, Below wr.heap.size wr W → Blk W b (ints .u8 (hdL G K)).toArray 5 → Calls Try.prog 37 #[.pointer (some ⟨d, 0, none⟩), .int .i64 0, .slice (some ⟨b, 0, none⟩) 64 64] W fun e w' => e = .returned (.int .i64 E) ∧ Kp (fun k => k = d ∨ k = g) W w' ∧ DiskAt w' d g S') := fun W b hb hblk => by
                have hd := hdk.out.below hb
                obtain ⟨cap, _, hbx⟩ := hd.box
                have := write_at W d g _ hd 0 b _ _ (hd_len _ _) hblk (fun e => by subst e; exact absurd (blk_ty hbx hblk) (by decide)) (by have := HTS.out.wr; omega)
                rwa [hWE, hWS] at this
              have HHEAD := Lib.hid (fun W => header_any W G K)
              have hne := scr_ne hL.out.disk hL.out.scr
              have HC5 : Hid (∀ W W5, Below wr.heap.size wr W → Kp (fun k => k = d ∨ k = g) W W5 → Kp (fun k => k = d ∨ k = g) w W5 ∧ ScrAt W5 p d ⟨h, gen, old.length, total old⟩ ∧ ScrAt W5 q d ⟨K, G, rs.length, total rs⟩) := fun W W5 hb h5 =>
                ⟨(hkp.out.trans (Kp.of_below hb)).trans (h5.mono (fun _ h _ => h)), (HPS.out.below hb).kp h5 (fun e => by rcases e with e | e; exact hne.1 e; exact hne.2 e), (HQS.out.below hb).kp h5 (fun e => by rcases e with e | e <;> omega)⟩
              have HCP : Hid (∀ W W5, Below wr.heap.size wr W → Kp (fun k => k = d ∨ k = g) W W5 → W5.cell? ⟨p, 0, none⟩ = some (.pointer (some ⟨d, 0, none⟩))) := fun W W5 hb h5 => (HC5.out W W5 hb h5).2.1.cells.1
              have bD : Below wr.heap.size wr wr.drew := (Drawn.refl wr).drew.below _
              clear hES hWE hWS
              go_upto_region 22 with fail
              go_region_held3 (fun w' => w'.cell? ⟨p, 0, none⟩ = some (.pointer (some ⟨d, 0, none⟩))) ((first | assumption | exact cell_keep (by assumption) cp0)) (first | (go_at_call 49; refine (HHEAD.out _).mono ?_; rintro e wp ⟨rfl, bP', kP⟩; have bP : Below wr.heap.size wr wp := bel_next (by assumption) bP') | (go_at_call 37; refine (HWRITE.out _ _ (by assumption) (by assumption)).mono ?_; rintro e w5 ⟨rfl, k5, d5⟩; have c5 := HCP.out _ _ (by assumption) k5))
              obtain ⟨kw5, sp5, sq5⟩ := HC5.out _ _ bP k5
              have D5 := Lib.hid d5
              have K5 := Lib.hid kw5
              have SP5 := Lib.hid sp5
              have SQ5 := Lib.hid sq5
              obtain ⟨y0, y1, y2, y3, y4, yf⟩ := sp5.cells
              obtain ⟨z0, z1, z2, z3, z4, zf⟩ := sq5.cells
              have yf0 := yf 0
              have yf1 := yf 1
              have yf2 := yf 2
              have yf3 := yf 3
              have yf4 := yf 4
              have hrl512 : rs.length ≤ 512 := by omega
              rcases HES.out with ⟨rfl, hS', ho, hf0⟩ | ⟨rfl, ho, hc', hn', hw', hpw⟩
              · have HOF := Lib.hid (And.intro hS' (And.intro ho hf0))
                clear d5 kw5 sp5 sq5 hS' ho hf0 yf zf
                have HFIN : Hid (∀ W, W = (((((w5.setCell ⟨p, 0, none⟩ (.pointer (some ⟨d, 0, none⟩))).setCell ⟨p, 1, none⟩ (.int .i64 K)).setCell ⟨p, 2, none⟩ (.int .i64 G)).setCell ⟨p, 3, none⟩ (.int .i64 n)).setCell ⟨p, 4, none⟩ (.int .i64 (total rs))) → TurnPost d g p s gen h old rs w (.returned (.int .i64 0)) W) := fun W hW => by
                  obtain ⟨hS', ho, hf0⟩ := HOF.out
                  have hts2 := HTS.out
                  have hk : Kp (fun k => k = p) w5 W := by
                    rw [hW]
                    exact (((((Kp.refl (fun k => k = p) w5).setCell (p := ⟨p, 0, none⟩) rfl _).setCell (p := ⟨p, 1, none⟩) rfl _).setCell (p := ⟨p, 2, none⟩) rfl _).setCell (p := ⟨p, 3, none⟩) rfl _).setCell (p := ⟨p, 4, none⟩) rfl _
                  have hscr : ScrAt W p d ⟨K, G, rs.length, total rs⟩ := by
                    have := ((((Blk.set SP5.out 0 (.pointer (some ⟨d, 0, none⟩))).set 1 (.int .i64 K)).set 2 (.int .i64 G)).set 3 (.int .i64 n)).set 4 (.int .i64 (total rs))
                    rw [hW, hrl]
                    exact this
                  have hdW : DiskAt W d g S' := D5.out.kp hk (fun e => hne.1 e.symm) (fun e => hne.2 e.symm)
                  obtain ⟨hb1, hb2, hb3⟩ := hts2.laidHead hG1 hG2 hK1
                  rw [← hS'] at hb1 hb2 hb3
                  have hn' : S'.n = s.n := by rw [hS']; exact hts2.n
                  have hfu : S'.fuse = if s'.fuse = -1 then -1 else s'.fuse - 1 := by rw [hS']; rfl
                  have hwr : S'.writes = s'.writes + 1 := by rw [hS']; rfl
                  have hoff : S'.off = s'.off := by rw [hS']; rfl
                  have hf1 := hdk.out.fuse0
                  have hlive : Live W d g p S' G (1 - h) rs := ⟨hdW, hb1, by rw [← HKK.out]; exact hscr, by rw [hn', ← HKK.out]; exact hb2⟩
                  have hpo : s.off = false ∧ (s.fuse = -1 ∨ (total rs : Int) + 1 ≤ s.fuse) ∧ (s.fuse = -1 → s'.fuse = -1) := by
                    rcases hts2.pow with ⟨e1, e2⟩ | ⟨p1, p2, p3⟩
                    · rw [← e2]
                      refine ⟨ho, ?_, fun e => e⟩
                      rw [e1, total_nil]
                      omega
                    · refine ⟨p1, ?_, ?_⟩
                      · rcases p3 with ⟨q1, q2⟩ | ⟨q1, q2⟩
                        · exact .inl q1
                        · exact .inr (by omega)
                      · intro e
                        rcases p3 with ⟨q1, q2⟩ | ⟨q1, q2⟩
                        · exact q2
                        · omega
                  refine ⟨0, S', rfl, .ok S' G HG.out HTOT.out hlive hgG hpo.1 (by rw [hoff]; exact ho) hpo.2.1 (fun e => by rw [hfu, if_pos (hpo.2.2 e)]) hn' (by have := hts2.wr; omega) (fun M h1 h2 h3 => ?_), (K5.out.mono (fun k hk _ => by rcases hk with e | e; exact .inl e; exact .inr (.inl e))).trans (hk.mono (fun k hk _ => .inr (.inr hk)))⟩
                  have hGM := HGM.out M h1 h3
                  exact ⟨hGM, hb3 (M + 1) hGM h2 (h3.mono (by omega))⟩
                go_wp2_with fail
                go_ret
                exact HFIN.out _ rfl
              · have hFIN : TurnPost d g p s gen h old rs w (.returned (.int .i64 21)) w5 := by
                  have hts2 := HTS.out
                  have hnn : S'.n = s.n := hn'.trans hts2.n
                  have hon : ScrollAt S'.c S'.n gen h old := by
                    rw [hnn, hc']
                    exact hL.out.on.other (fun k hk => by have := hts2.diff k hk; rwa [HKK.out] at this)
                  refine ⟨21, S', rfl, .cut S' HG.out HTOT.out ⟨D5.out, fun k => by rw [hc']; exact hts2.byd k, SP5.out, hon⟩ ho ?_ hnn (by have := hts2.wr; omega) (fun M h1 h2 h3 => by rw [hc']; exact hts2.gens (M + 1) (by have := HGM.out M h1 h3; omega) h2 (h3.mono (by omega))), K5.out.mono (fun k hk _ => by rcases hk with e | e; exact .inl e; exact .inr (.inl e))⟩
                  rcases hts2.pow with ⟨_, e⟩ | ⟨p1, p2, p3⟩
                  · rw [← e]; exact hpw
                  · rcases hpw with e | e
                    · rw [p2] at e; cases e
                    · rcases p3 with ⟨q1, q2⟩ | ⟨q1, q2⟩
                      · omega
                      · exact .inr (by omega)
                have HFIN := Lib.hid hFIN
                clear d5 kw5 sp5 sq5 hFIN ho hc' hn' hw' hpw y0 y1 y2 y3 y4 yf z0 z1 z2 z3 z4 zf yf0 yf1 yf2 yf3 yf4
                go_wp2_with fail
                go_ret
                exact HFIN.out

end Go.Proofs.Ytmliiggieclbeaa
