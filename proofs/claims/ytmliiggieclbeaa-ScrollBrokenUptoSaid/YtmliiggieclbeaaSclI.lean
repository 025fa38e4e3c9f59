/- The scroll's Open: the records that stand on the disk, or that there is no scroll. -/
import Derived.Test.YtmliiggieclbeaaSclH
import Derived.Deep.RegionHeld3
import Derived.Deep.Cut
import Derived.Deep.RegionWith
namespace Go.Proofs.Ytmliiggieclbeaa
open Go.RowKit

theorem own_some {w : World} {base n c : Nat} {e : TypeId} {size : Nat} {A : Option Addr} {vs : List Value} (h : w.ownsRow base e size (.slice A n c) n vs) (hn : 0 < n) : ∃ g, A = some ⟨g, 0, none⟩ ∧ n ≤ c ∧ base ≤ g ∧ g < w.heap.size := by
  obtain ⟨hl, hv⟩ := h
  rcases hv with ⟨he, h0⟩ | ⟨g, cap, cur, he, hb, hc, h2, _⟩
  · injection he with h1 h2 h3; omega
  · injection he with h1 h3 h4
    subst h1; subst h4
    exact ⟨g, rfl, by omega, hb, (Array.getElem?_eq_some_iff.1 hc).1⟩
theorem rd_of_v {k : IntKind} {w : World} {a : Option Addr} {l : List Int} (h : RdV w a (ints k l)) : Rd k w a l := ⟨fun j hj => h.at_ j _ (ints_get k l j hj)⟩

/-- What stands of a scroll that was opened. -/
structure Opened (s : DS) (d : Nat) (w : World) (gen h p : Nat) (rs : List (List Int)) (A : Option Addr) (c : Nat) (vs : List Value) (w' : World) : Prop where
  hd : IsHd (s.c 0) gen h
  rd : RdAll s.c (halfN s.n) (startN s.n h) gen 0 0 rs
  tot : total rs ≤ halfN s.n
  new : w.heap.size ≤ p
  scr : ScrAt w' p d ⟨h, gen, rs.length, total rs⟩
  own : w'.ownsRow w.heap.size 22 1 (.slice A rs.length c) rs.length vs
  rows : Rws (fun k => w.heap.size ≤ k) w' vs rs
  bel : Below w.heap.size w w'
def OpenPost (s : DS) (d : Nat) (w : World) (e : Ending) (w' : World) : Prop :=
  (∃ gen h p rs A c vs, e = .returned (.tuple #[.pointer (some ⟨p, 0, none⟩), .slice A rs.length c, .int .i64 0]) ∧ 3 ≤ s.n ∧ Opened s d w gen h p rs A c vs w') ∨
  (e = .returned (.tuple #[.pointer none, .slice none 0 0, .int .i64 60]) ∧ (s.n < 3 ∨ ∀ g h, ¬ IsHd (s.c 0) g h) ∧ Below w.heap.size w w')
/-- A reading under way. -/
structure OpSt (s : DS) (d : Nat) (w : World) (gen h p num : Nat) (A : Option Addr) (c : Nat) (w' : World) : Prop where
  ex : ∃ rs vs, num = rs.length ∧ total rs ≤ halfN s.n ∧ ScrAt w' p d ⟨h, gen, rs.length, total rs⟩ ∧ w'.ownsRow w.heap.size 22 1 (.slice A rs.length c) rs.length vs ∧
    Rws (fun k => w.heap.size ≤ k) w' vs rs ∧ (∀ l, RdAll s.c (halfN s.n) (startN s.n h) gen (total rs) rs.length l → RdAll s.c (halfN s.n) (startN s.n h) gen 0 0 (rs ++ l)) ∧ rs.length ≤ total rs
  hd : IsHd (s.c 0) gen h
  new : w.heap.size ≤ p
  bel : Below w.heap.size w w'
  lt : p < w'.heap.size
/-- .. at its end. -/
structure OpEnd (s : DS) (d : Nat) (w : World) (num p : Nat) (A : Option Addr) (c : Nat) (w' : World) : Prop where
  ex : ∃ gen h rs vs, num = rs.length ∧ Opened s d w gen h p rs A c vs w'
def lenOf : Value → Nat
  | .slice _ n _ => n
  | _ => 0

set_option maxRecDepth 100000 in
set_option maxHeartbeats 4000000 in
theorem open_any (w : World) (d g : Nat) (s : DS) (hD : DiskAt w d g s) (hB : ByD s) :
    Calls Try.prog 17 #[.pointer (some ⟨d, 0, none⟩)] w (OpenPost s d w) := by
  have hhi := hD.high
  have hlo := hD.low
  have HD : Hid (∀ W, Below w.heap.size w W → DiskAt W d g s) := fun W hb => hD.below hb
  have HB := Lib.hid hB
  have hle := halfN_le s.n hhi
  clear hD hB
  by_cases h3 : 3 ≤ s.n
  · go_enter Try.func17, Try.ntmps17
    go_wp2_with fail
    refine' wp_scope_loop
      (fun a' w' => ∃ (gen h p num : Nat) (A : Option Addr) (c : Nat) (v5 v6 v7 v8 u9 u10 u11 u12 u13 u14 u15 u16 u17 u18 u19 u20 u21 u22 u23 u24 u25 u26 u27 u28 u29 u30 u31 u32 u33 u34 u35 u36 u37 u38 u39 u40 u41 u42 u43 u44 u45 u46 u47 u48 u49 u50 u51 u52 u53 : Value), OpSt s d w gen h p num A c w' ∧ a' = { tmps := #[.pointer (some ⟨d, 0, none⟩), undef, .pointer (some ⟨p, 0, none⟩), .slice A num c, .int .i64 0, v5, v6, v7, v8, u9, u10, u11, u12, u13, u14, u15, u16, u17, u18, u19, u20, u21, u22, u23, u24, u25, u26, u27, u28, u29, u30, u31, u32, u33, u34, u35, u36, u37, u38, u39, u40, u41, u42, u43, u44, u45, u46, u47, u48, u49, u50, u51, u52, u53], defers := [] })
      (fun a' w' => ∃ (p num : Nat) (A : Option Addr) (c : Nat) (v5 v6 v7 v8 u9 u10 u11 u12 u13 u14 u15 u16 u17 u18 u19 u20 u21 u22 u23 u24 u25 u26 u27 u28 u29 u30 u31 u32 u33 u34 u35 u36 u37 u38 u39 u40 u41 u42 u43 u44 u45 u46 u47 u48 u49 u50 u51 u52 u53 : Value), OpEnd s d w num p A c w' ∧ a' = { tmps := #[.pointer (some ⟨d, 0, none⟩), undef, .pointer (some ⟨p, 0, none⟩), .slice A num c, .int .i64 0, v5, v6, v7, v8, u9, u10, u11, u12, u13, u14, u15, u16, u17, u18, u19, u20, u21, u22, u23, u24, u25, u26, u27, u28, u29, u30, u31, u32, u33, u34, u35, u36, u37, u38, u39, u40, u41, u42, u43, u44, u45, u46, u47, u48, u49, u50, u51, u52, u53], defers := [] })
      (fun a' _ => 1000 - lenOf (a'.tmps.getD 3 undef)) ?h1 ?h0 ?pass1 ?pass0 ?first
    case h1 => exact rfl
    case h0 => exact rfl
    case first =>
      intro hfirst
      have HF := Lib.hid hfirst
      clear hfirst
      go_wp2_with fail
      refine (size_any w d g s (HD.out w (Below.refl _ _))).mono ?_
      rintro e w1 ⟨rfl, rfl⟩
      go_wp2_with fail
      refine (named_any w d g s (HD.out w (Below.refl _ _)) HB.out).mono ?_
      rintro e w1 ⟨G, k, b, rfl, hN, b1⟩
      rcases hN with @⟨g0, h0, hd⟩ | hd
      · have HHD := Lib.hid hd
        have HB1 := Lib.hid b1
        clear hd b1
        go_wp2_with fail
        go_step3
        rename_i K hK
        refine hK _ _ ?_
        refine HF.out _ _ ⟨g0, h0, w1.heap.size, 0, none, 0, _, _, _, _, _, _, _, _, _, _, _, _, _, _, _, _, _, _, _, _, _, _, _, _, _, _, _, _, _, _, _, _, _, _, _, _, _, _, _, _, _, _, _, _, _, _, _, _, _, ⟨⟨[], [], rfl, Nat.zero_le _, Blk.new w1 _ _, own_none _ _ _ _, Rws.nil _ _, fun l hl => hl, Nat.le_refl _⟩, HHD.out, HB1.out.size, HB1.out.alloc HB1.out.size _, by simp⟩, rfl⟩
      · have HHD := Lib.hid hd
        have HB1 := Lib.hid b1
        clear hd b1
        go_wp2_with fail
        refine jumps2_ret ?_
        go_ret3
        exact .inr ⟨rfl, .inr HHD.out, HB1.out⟩
    case pass1 =>
      rintro a' w1 ⟨gen, h, p, num, A, c, v5, v6, v7, v8, u9, u10, u11, u12, u13, u14, u15, u16, u17, u18, u19, u20, u21, u22, u23, u24, u25, u26, u27, u28, u29, u30, u31, u32, u33, u34, u35, u36, u37, u38, u39, u40, u41, u42, u43, u44, u45, u46, u47, u48, u49, u50, u51, u52, u53, hS, rfl⟩
      obtain ⟨⟨rs, vs, hnum, htot, hscr, hown, hrows, hrd, hlen⟩, hhd, hnew, hbel, hlt⟩ := hS
      subst hnum
      have HC := Lib.hid (read_rec w1 p d g s ⟨h, gen, rs.length, total rs⟩ (HD.out w1 hbel) HB.out hscr htot hhd.h1)
      have hh1 := hhd.h1
      have hg2 := hhd.g2
      have HHD := Lib.hid hhd
      have HSC := Lib.hid hscr
      have HOW := Lib.hid hown
      have HRO := Lib.hid hrows
      have HRD := Lib.hid hrd
      have HBE := Lib.hid hbel
      clear hscr hown hrows hrd hbel hhd
      go_wp2_with fail
      refine HC.out.mono ?_
      rintro e w2 (⟨count, A2, c2, rfl, hrec, hown2, hb2⟩ | ⟨rfl, hno, hb2⟩)
      · obtain ⟨hbl, hgr⟩ := rec_blks hrec (fun k => (HB.out k).2)
        have hroom := (hrec.2.2 (count - 1) (by have := hrec.1; omega)).room
        have hc1 := hrec.1
        have hrdn : Hid (∀ l, RdAll s.c (halfN s.n) (startN s.n h) gen (total rs + count) (rs.length + 1) l → RdAll s.c (halfN s.n) (startN s.n h) gen 0 0 (rs ++ [recL s.c (startN s.n h) (total rs) count] ++ l)) := fun l hl => by
          have := HRD.out _ (RdAll.more count hrec hl)
          simpa using this
        clear hrec HC HRD
        simp only at hown2 hrdn hbl hgr hroom ⊢
        generalize recL s.c (startN s.n h) (total rs) count = r at *
        obtain ⟨g2, rfl, hc2, hg2, hg2'⟩ := own_some hown2 hgr.1
        have hrow2 := RowB.of_own hown2
        have hz1 := HBE.out.size
        have hz2 := hb2.size
        have hB2 := bel_next HBE.out hb2
        have hA : Below w2.heap.size w2 (w2.alloc (.cells #[.slice (some ⟨g2, 0, none⟩) r.length c2] 22)) := (Below.refl _ _).alloc (Nat.le_refl _) _
        have hoA := own_below (own_below HOW.out hb2) hA
        obtain ⟨v3, w3, hr, ho3, hg3⟩ := append_run (P := Try.prog) (w := w2.alloc (.cells #[.slice (some ⟨g2, 0, none⟩) r.length c2] 22)) 32 Try.underlying32 sinfo (by omega) hoA
          (news := [.slice (some ⟨g2, 0, none⟩) r.length c2]) (a := ⟨w2.heap.size, 0, none⟩) (m := 1) (c := 1) rfl
          (fun j u hu => by
            rw [Addr.add_mid, Nat.zero_add, (Blk.new w2 _ _).cell, List.getElem?_toArray]
            exact hu)
          (fun u hu => by simp at hu; subst hu; rfl) (by omega) (by omega) (by simp; omega)
        obtain ⟨A3, c3, rfl⟩ := own_form ho3
        have hkA := Kp.of_grown hg3
        have hne : ∀ k cs t, (Value.slice A rs.length c).ownBlock = some k → Blk (w2.alloc (.cells #[.slice (some ⟨g2, 0, none⟩) r.length c2] 22)) k cs t → t = 22 := fun k cs t hk hb => own_ty hoA hk hb
        have hscA : ScrAt (w2.alloc (.cells #[.slice (some ⟨g2, 0, none⟩) r.length c2] 22)) p d ⟨h, gen, rs.length, total rs⟩ := (HSC.out.below hb2).below hA
        have hsc3 : ScrAt w3 p d ⟨h, gen, rs.length, total rs⟩ := hscA.kp hkA (fun hk => absurd (hne p _ _ hk hscA) (by decide))
        have hro3 : Rws (fun k => w.heap.size ≤ k) w3 (vs ++ [.slice (some ⟨g2, 0, none⟩) r.length c2]) (rs ++ [r]) :=
          (((HRO.out.below hb2).push hrow2 hc2 (by show _ ≤ _; omega)).below hA).kp hkA (fun k cs hk hb => absurd (hne k _ _ hk hb) (by decide)) (fun _ h => h)
        have hB3 : Below w.heap.size w w3 := grown_below (bel_next hB2 hA) hg3 (by simp; omega) (own_ge hoA)
        obtain ⟨_, _, _, z3, z4, zf⟩ := hsc3.cells
        have zf3 := zf 3
        have zf4 := zf 4
        have z4' : (w3.setCell ⟨p, 3, none⟩ (.int .i64 ((rs.length : Int) + 1))).cell? ⟨p, 4, none⟩ = some (.int .i64 (total rs)) := by rw [(Blk.set hsc3 3 _).cell]; rfl
        have zf4' : (w3.setCell ⟨p, 3, none⟩ (.int .i64 ((rs.length : Int) + 1))).frozen? ⟨p, 4, none⟩ = false := (Blk.set hsc3 3 _).frozen 4
        have HEND : Hid (∀ W1, Drawn (w3.setCell ⟨p, 3, none⟩ (.int .i64 ((rs.length : Int) + 1))) W1 → ∀ W2, Drawn (W1.setCell ⟨p, 4, none⟩ (.int .i64 ((total rs : Int) + (count : Int)))) W2 → OpSt s d w gen h p (rs.length + 1) A3 c3 W2) := fun W1 hW W2 hW2 => by
          have k1 : Kp (fun k => k = p) w3 W1 := (Kp.setCell (S := fun k => k = p) (Kp.refl _ _) (p := ⟨p, 3, none⟩) rfl _).trans (hW.kp _)
          have k2 : Kp (fun k => k = p) w3 W2 := (k1.setCell (p := ⟨p, 4, none⟩) rfl _).trans (hW2.kp _)
          have e1 := Blk.set hsc3 3 (.int .i64 ((rs.length : Int) + 1))
          have e2 : Blk W1 p _ _ := e1.below (hW.below _)
          have e3 : Blk W2 p _ _ := (e2.set 4 (.int .i64 ((total rs : Int) + (count : Int)))).below (hW2.below _)
          have hT : total (rs ++ [r]) = total rs + count := by rw [total_app, total_one, hbl]
          refine ⟨⟨rs ++ [r], _, by simp, by rw [hT]; omega, ?_, ?_, hro3.kp k2 (fun k cs hk hb => ?_) (fun _ h => h), fun l hl => hrdn.out l (by rw [hT, List.length_append] at hl; exact hl), by rw [hT]; simp; omega⟩, HHD.out, hnew, below_kp hB3 k2 hB3.size (fun k hk => by omega), Nat.lt_of_lt_of_le (Blk.lt hsc3) k2.size⟩
          · show Blk _ _ _ _
            rw [hT, List.length_append, List.length_singleton]
            simpa using e3
          · rw [List.length_append, List.length_singleton]
            exact own_kp ho3 k2 (fun k hk hp => absurd (own_ty ho3 hk (hp ▸ hsc3)) (by decide))
          · subst hk
            exact absurd (blk_ty hb hsc3) (by decide)
        have HBL : Hid (∀ W, Calls Try.prog 11 #[.slice (some ⟨g2, 0, none⟩) r.length c2] W fun e w' => e = .returned (.int .i64 (count : Int)) ∧ W = w') := fun W => by
          have := blocks_any W (some ⟨g2, 0, none⟩) c2 r (by have := hgr.2; omega)
          rwa [hbl] at this
        have hl512 : rs.length ≤ 512 := by omega
        have hcl : count ≤ 512 := by omega
        clear hrdn hown2 hrow2 hB2 hA hoA ho3 hg3 hkA hne hscA hsc3 hro3 hB3 hbl hgr zf HSC HOW HRO
        go_wp2_with (first | (at_builtin; (with_reducible refine wpList_append_run rfl _ _ _ _ rfl _ _ _ ?_ ?_ hr ?_); rfl; rfl))
        obtain ⟨W3, hW3⟩ : ∃ W3, W3 = w3.setCell ⟨p, 3, none⟩ (.int .i64 ((rs.length : Int) + 1)) := ⟨_, rfl⟩
        rw [← hW3] at z4' zf4' HEND ⊢
        clear hW3
        have hwT : IntKind.i64.wrap ((total rs : Int) + (count : Int)) = (total rs : Int) + (count : Int) := by rw [IntKind.wrap_i64]; omega
        go_region_with (first | (go_at_call 11; refine (HBL.out _).mono ?_; rintro e w' ⟨rfl, rfl⟩))
        all_goals
          go_wp2_with fail
          go_step3
          exact jumps2_1 ⟨⟨gen, h, p, rs.length + 1, A3, c3, _, _, _, _, _, _, _, _, _, _, _, _, _, _, _, _, _, _, _, _, _, _, _, _, _, _, _, _, _, _, _, _, _, _, _, _, _, _, _, _, _, _, _, _, _, _, _, _, _, HEND.out _ (Drawn.refl _) _ ((Drawn.refl _).drew), rfl⟩, by simp [lenOf]; omega⟩
      · have hfin : OpEnd s d w rs.length p A c w2 := ⟨gen, h, rs, vs, rfl, HHD.out, by have := HRD.out [] (.stop hno); rwa [List.append_nil] at this, htot, hnew, HSC.out.below hb2, own_below HOW.out hb2, HRO.out.below hb2, bel_next HBE.out hb2⟩
        have HFI := Lib.hid hfin
        clear hfin hno HC
        go_wp2_with fail
        go_step3
        exact jumps2_0 ⟨p, rs.length, A, c, _, _, _, _, _, _, _, _, _, _, _, _, _, _, _, _, _, _, _, _, _, _, _, _, _, _, _, _, _, _, _, _, _, _, _, _, _, _, _, _, _, _, _, _, _, _, _, _, _, HFI.out, rfl⟩
    case pass0 =>
      rintro a' w1 ⟨p, num, A, c, v5, v6, v7, v8, u9, u10, u11, u12, u13, u14, u15, u16, u17, u18, u19, u20, u21, u22, u23, u24, u25, u26, u27, u28, u29, u30, u31, u32, u33, u34, u35, u36, u37, u38, u39, u40, u41, u42, u43, u44, u45, u46, u47, u48, u49, u50, u51, u52, u53, hE, rfl⟩
      have HE := Lib.hid hE
      clear hE
      go_wp2_with fail
      refine jumps2_ret ?_
      go_ret3
      obtain ⟨gen, h, rs, vs, hn, ho⟩ := HE.out.ex
      subst hn
      exact .inl ⟨gen, h, p, rs, A, c, vs, rfl, h3, ho⟩
  · go_enter Try.func17, Try.ntmps17
    go_wp2_with fail
    go_step3
    go_wp2_with fail
    refine (size_any w d g s (HD.out w (Below.refl _ _))).mono ?_
    rintro e w1 ⟨rfl, rfl⟩
    go_wp2_with fail
    go_ret3
    exact .inr ⟨rfl, .inl (by omega), Below.refl _ _⟩

end Go.Proofs.Ytmliiggieclbeaa
