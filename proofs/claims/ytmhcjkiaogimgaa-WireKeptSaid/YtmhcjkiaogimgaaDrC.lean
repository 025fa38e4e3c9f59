/- The document's str. -/
import Derived.Test.YtmhcjkiaogimgaaDrB
import Derived.Test.YtmhcjkiaogimgaaRdD
namespace Go.Proofs.Ytmhcjkiaogimgaa
open Go.RowKit

theorem DS.rest {w : World} {A : Option Addr} {c : Nat} {s : List Int} (h : DS w A c s) (k : Nat) (hk : k ≤ s.length) (A' : Option Addr) (hA : c ≠ k → ∀ x, A = some x → A' = some (x.add k)) : DS w A' (c - k) (s.drop k) := by
  cases A with
  | some x => exact h.tail k hk A' (fun hc => hA hc x rfl)
  | none =>
    have h0 : s = [] := by
      cases s with
      | nil => rfl
      | cons a t =>
        obtain ⟨x, hx, _⟩ := h.rd.at_ 0 (by simp)
        cases hx
    subst h0
    have := h.lim
    rw [List.drop_nil]
    exact ⟨Rd.nil _ _ _, fun x hx => (by cases hx), by simp, by simp, by omega⟩

set_option maxRecDepth 100000 in
set_option maxHeartbeats 4000000 in
theorem dtxt_any (w0 w : World) (hw : Below w0.heap.size w0 w) (A : Option Addr) (c : Nat) (s : List Int) (ok : Bool) (h : DS w0 A c s) :
    Calls Try.prog 84 #[.agg #[.slice A s.length c, .bool ok]] w (DGot w0 dtxt Value.string (fun _ => True) (stOf ok s) w) := by
  obtain ⟨n, hn⟩ : ∃ n, Hid (n = s.length) := ⟨_, rfl⟩
  have H := Lib.hid h
  clear h
  rw [← hn.out]
  have HA : Hid (∀ V, V = (w.alloc (.cells #[.slice A n c, .bool ok] 99)).alloc (.cells #[.slice none 0 0, .bool false] 99) → Blk V w.heap.size #[.slice A n c, .bool ok] 99 ∧ Blk V (w.heap.size + 1) #[.slice none 0 0, .bool false] 99 ∧ Below w.heap.size w V) := by
    rintro V rfl
    refine ⟨(Blk.new w _ _).alloc _, ?_, bel_al (bel_al (Below.refl _ _) _) _⟩
    have := Blk.new (w.alloc (.cells #[.slice A n c, .bool ok] 99)) #[.slice none 0 0, .bool false] 99
    rwa [show (w.alloc (.cells #[.slice A n c, .bool ok] 99)).heap.size = w.heap.size + 1 by simp] at this
  go_enter Try.func84, Try.ntmps84
  go_upto_region 1 with fail
  obtain ⟨V, hV⟩ : ∃ V, V = (w.alloc (.cells #[.slice A n c, .bool ok] 99)).alloc (.cells #[.slice none 0 0, .bool false] 99) := ⟨_, rfl⟩
  obtain ⟨b1, b3, hB⟩ := HA.out V hV
  rw [← hV]
  clear hV HA
  obtain ⟨g1, hg1⟩ : ∃ g, w.heap.size = g := ⟨_, rfl⟩
  rw [hg1] at b1 b3 ⊢
  generalize hg3 : g1 + 1 = g3 at b3 ⊢
  have HG := Lib.hid (And.intro hg1 hg3)
  have hne : g1 ≠ g3 := by omega
  clear hg1 hg3
  have c0 : V.cell? ⟨g1, 0, none⟩ = some (.slice A n c) := (b1.cell 0).trans rfl
  have c1 : V.cell? ⟨g1, 1, none⟩ = some (.bool ok) := (b1.cell 1).trans rfl
  have HB1 := Lib.hid b1
  have HB3 := Lib.hid b3
  have HBB := Lib.hid hB
  clear b1 b3 hB
  go_wp2_with fail
  rw [hn.out]
  refine (dnum_any w0 V (hw.trans (HBB.out.mono hw.size)) A c s ok H.out).mono ?_
  rintro e w2 ⟨b, A2, s2, c2, ok2, rfl, ⟨hb0, hb⟩, hD2, hbel, hrd⟩
  obtain ⟨n2, hn2⟩ : ∃ m, Hid (m = s2.length) := ⟨_, rfl⟩
  rw [← hn2.out, ← hn.out]
  have h1w := HB1.out.kp (S := fun _ => False) (Kp.of_below hbel) (fun h => h)
  have h3w := HB3.out.kp (S := fun _ => False) (Kp.of_below hbel) (fun h => h)
  have HBw := Lib.hid (bel_next HBB.out hbel)
  have HRD := Lib.hid hrd
  have HD2 := Lib.hid hD2
  have hcap := hD2.cap
  have hlim := hD2.lim
  have hlen2 := hD2.len
  rw [← hn2.out] at hcap hlen2
  clear hbel hrd HB1 HB3 HBB c0 c1 H hD2
  have a0 : w2.cell? ⟨g1, 0, none⟩ = some (.slice A n c) := (h1w.cell 0).trans rfl
  have a1 : w2.cell? ⟨g1, 1, none⟩ = some (.bool ok) := (h1w.cell 1).trans rfl
  have fa0 := h1w.frozen 0
  have fa1 := h1w.frozen 1
  go_upto_region 2 with fail
  have hk9 : Kp (fun k => k = g1) w2 (w2.setCells g1 0 [.slice A2 n2 c2, .bool ok2]) := Kp.setCells (S := fun k => k = g1) _ rfl _ _ _ (Kp.refl _ _)
  have b9 := h1w.setCells [.slice A2 n2 c2, .bool ok2] 0
  rw [setMany_whole _ _ (by rfl)] at b9
  have h39 := h3w.kp hk9 (fun e => hne e.symm)
  have HB9 := Lib.hid (below_kp HBw.out hk9 HBw.out.size (fun k hk => by have h1 := HG.out.1; omega))
  have bS : Blk ((w2.setCell ⟨g1, 0, none⟩ (.slice A2 n2 c2)).setCell ⟨g1, 1, none⟩ (.bool ok2)) g1 #[.slice A2 n2 c2, .bool ok2] 99 := b9
  have h3v : Blk ((w2.setCell ⟨g1, 0, none⟩ (.slice A2 n2 c2)).setCell ⟨g1, 1, none⟩ (.bool ok2)) g3 #[.slice none 0 0, .bool false] 99 := h39
  have HBV : Hid (Below w.heap.size w ((w2.setCell ⟨g1, 0, none⟩ (.slice A2 n2 c2)).setCell ⟨g1, 1, none⟩ (.bool ok2))) := HB9
  clear hk9 a0 a1 fa0 fa1 h1w h3w HBw b9 h39 HB9
  generalize (w2.setCell ⟨g1, 0, none⟩ (.slice A2 n2 c2)).setCell ⟨g1, 1, none⟩ (.bool ok2) = V9 at *
  have d0 : V9.cell? ⟨g1, 0, none⟩ = some (.slice A2 n2 c2) := (bS.cell 0).trans rfl
  have d1 : V9.cell? ⟨g1, 1, none⟩ = some (.bool ok2) := (bS.cell 1).trans rfl
  have q0 : V9.cell? ⟨g3, 0, none⟩ = some (.slice none 0 0) := (h3v.cell 0).trans rfl
  have q1 : V9.cell? ⟨g3, 1, none⟩ = some (.bool false) := (h3v.cell 1).trans rfl
  have q2 := h3v.frozen 0
  have q3 := h3v.frozen 1
  have HBAD : Hid (Read dtxt (stOf ok s) ⟨#[]⟩ none → ∀ tmps : Array Value, tmps.getD 2 undef = .string ⟨#[]⟩ → tmps.getD 3 undef = .pointer (some ⟨g3, 0, none⟩) → bodyPost Try.prog Try.f84 (DGot w0 dtxt Value.string (fun _ => True) (stOf ok s) w) Exit.ret { tmps := tmps, defers := [] } (V9.setCells g3 0 [.slice none 0 0, .bool false])) := fun hr => by
    have hkp : Kp (fun k => k = g3) V9 (V9.setCells g3 0 [.slice none 0 0, .bool false]) := Kp.setCells (S := fun k => k = g3) _ rfl _ _ _ (Kp.refl _ _)
    exact in_set rfl h3v rfl ⟨⟨#[]⟩, none, [], 0, false, rfl, trivial, DS.nil _, below_kp HBV.out hkp HBV.out.size (fun k hk => by have h1 := HG.out.1; have h2 := HG.out.2; omega), hr⟩
  cases ok2 with
  | false =>
    have hr : Hid (Read dtxt (stOf ok s) ⟨#[]⟩ none) := by
      refine Read.bind HRD.out ?_
      rfl
    go_wp2_with fail
    exact HBAD.out hr.out _ (by rfl) (by rfl)
  | true =>
    by_cases hnl : b ≤ (n2 : Int)
    · obtain ⟨j, rfl⟩ : ∃ j : Nat, b = (j : Int) := ⟨b.toNat, by omega⟩
      have hjn : j ≤ n2 := by omega
      have hex : ∃ A' : Option Addr, Hid (∀ x, A2 = some x → (if c2 = j then some x else some (x.add j)) = A') ∧ Hid (A2 = none → A' = none) ∧ Hid (DS w0 A' (c2 - j) (s2.drop j)) := by
        cases A2 with
        | none => exact ⟨none, fun x hx => (by cases hx), fun _ => rfl, HD2.out.rest j (by rw [← hn2.out]; exact hjn) none (fun _ x hx => (by cases hx))⟩
        | some x =>
          refine ⟨if c2 = j then some x else some (x.add j), fun y hy => (by injection hy with hy; rw [hy]), fun h => (by cases h), ?_⟩
          exact HD2.out.rest j (by rw [← hn2.out]; exact hjn) _ (fun hc y hy => by injection hy with hy; rw [if_neg hc, hy])
      obtain ⟨A', hA1, hA2, HT⟩ := hex
      have HTL : Hid ((s2.drop j).length = n2 - j) := by show _ = _; rw [List.length_drop, hn2.out]
      obtain ⟨str, hstr⟩ : ∃ str, Hid (str = strOf (s2.take j)) := ⟨_, rfl⟩
      have HCV : Hid (∀ w' : World, Rd .u8 w' A2 s2 → ∀ r, (convert 28 9 (.slice A2 j r)).run Try.prog w' = .ok (.string str) w') := fun w' hr r => by
        have := conv_rd hr 0 j r (by rw [← hn2.out]; omega) A2 (fun _ x hx => by rw [hx]; simp [Addr.add])
        rw [this, hstr.out, List.drop_zero]
      have HR : Hid (Read dtxt (stOf ok s) str (stOf true (s2.drop j))) := by
        refine Read.bind HRD.out ?_
        refine Read.yes ?_
        rw [if_pos ⟨by omega, by rw [← hn2.out]; omega⟩, Int.toNat_natCast, hstr.out]
      have hnl' : decide ((j : Int) > (n2 : Int)) = false := decide_eq_false (by omega)
      have i1 : (0 : Int) ≤ (j : Int) := by omega
      have i2 : (j : Int) ≤ (n2 : Int) := hnl
      have i3 : (j : Int) ≤ (c2 : Int) := by omega
      have i4 : j ≤ c2 := by omega
      have i5 : (n2 : Int) ≤ (c2 : Int) := by omega
      have hRd : Rd .u8 V9.drew A2 s2 := (HD2.out.rd.below (hw.trans (HBV.out.mono hw.size))).below ((Drawn.refl V9).drew.below _)
      have hset := h3v.setCells [.slice A' (n2 - j) (c2 - j), .bool true] 0
      rw [setMany_whole _ _ (by rfl)] at hset
      have hset := hset.drew
      have hkp : Kp (fun k => k = g3) V9 (V9.setCells g3 0 [.slice A' (n2 - j) (c2 - j), .bool true]).drew := (Kp.setCells (S := fun k => k = g3) _ rfl _ _ _ (Kp.refl _ _)).drew
      have hBW2 := Lib.hid (below_kp HBV.out hkp HBV.out.size (fun k hk => by have h1 := HG.out.1; have h2 := HG.out.2; omega))
      have s0 : V9.drew.cell? ⟨g1, 0, none⟩ = some (.slice A2 n2 c2) ∧ V9.drew.cell? ⟨g1, 1, none⟩ = some (.bool true) ∧ Rd .u8 V9.drew A2 s2 := ⟨d0, d1, hRd⟩
      have s1 : (V9.setCells g3 0 [.slice A' (n2 - j) (c2 - j), .bool true]).drew.cell? ⟨g1, 0, none⟩ = some (.slice A2 n2 c2) ∧ (V9.setCells g3 0 [.slice A' (n2 - j) (c2 - j), .bool true]).drew.cell? ⟨g1, 1, none⟩ = some (.bool true) ∧ Rd .u8 (V9.setCells g3 0 [.slice A' (n2 - j) (c2 - j), .bool true]).drew A2 s2 := ⟨(hkp.cell (p := ⟨g1, 0, none⟩) bS.lt hne).trans d0, (hkp.cell (p := ⟨g1, 1, none⟩) bS.lt hne).trans d1, HD2.out.rd.below (hw.trans (hBW2.out.mono hw.size))⟩
      have HF := Lib.hid (in_fin (fn := Try.f84) (w := (V9.setCells g3 0 [.slice A' (n2 - j) (c2 - j), .bool true]).drew) (g := g3) (v := .string str) (x := .slice A' (n2 - j) (c2 - j)) (y := .bool true) (Q := DGot w0 dtxt Value.string (fun _ => True) (stOf ok s) w) rfl (by rw [hset.cell]; rfl) (by rw [hset.cell]; rfl) ⟨str, A', s2.drop j, c2 - j, true, by rw [HTL.out], trivial, HT.out, hBW2.out, HR.out⟩)
      clear hset hkp hRd bS h3v HBAD
      have HS1 := Lib.hid s1
      clear s1
      cases A2 with
      | none =>
        have hA := hA2.out rfl
        subst hA
        have hs2 : Hid (s2 = []) := by
          show _ = _
          cases s2 with
          | nil => rfl
          | cons a t =>
            obtain ⟨x, hx, _⟩ := HD2.out.rd.at_ 0 (by simp)
            cases hx
        have hn20 : n2 = 0 := by rw [hn2.out, hs2.out]; rfl
        have hj0 : j = 0 := by omega
        subst hn20; subst hj0
        go_upto_region 4 with fail
        refine wp_region_held_drew (S := fun w' => w'.cell? ⟨g1, 0, none⟩ = some (.slice none 0 c2) ∧ w'.cell? ⟨g1, 1, none⟩ = some (.bool true) ∧ Rd .u8 w' none s2) (by kernel_rfl) s0 (fun hHeld => ?_)
        refine' wpAnyH_take (i := 0) (oi := _) (v := ?v1) rfl (by kernel_rfl) (by kernel_rfl) (by kernel_rfl) (fun _ _ _ h => h) (Or.inl ⟨by rfl, ?hy1⟩) (by assumption) ?rest1
        case hy1 => (intro w hSw; obtain ⟨s1, s2, s3⟩ := hSw; go_simp; (try with_reducible rfl))
        simp only [Act.put, List.setIfInBounds_toArray, List.set_cons_zero, List.set_cons_succ]
        refine' wpAnyH_take (i := 1) (oi := _) (v := ?v2) rfl (by kernel_rfl) (by kernel_rfl) (by kernel_rfl) (fun _ _ _ h => h) (Or.inl ⟨by rfl, ?hy2⟩) (by assumption) ?rest2
        case hy2 => (intro w hSw; obtain ⟨s1, s2, s3⟩ := hSw; go_simp; (try with_reducible rfl))
        simp only [Act.put, List.setIfInBounds_toArray, List.set_cons_zero, List.set_cons_succ]
        refine' wpAnyH_take (i := 2) (oi := _) (v := ?v3) rfl (by kernel_rfl) (by kernel_rfl) (by kernel_rfl) (fun _ _ _ h => h) (Or.inl ⟨by rfl, ?hy3⟩) (by assumption) ?rest3
        case hy3 => (intro w hSw; obtain ⟨s1, s2, s3⟩ := hSw; go_simp; (try with_reducible rfl))
        simp only [Act.put, List.setIfInBounds_toArray, List.set_cons_zero, List.set_cons_succ]
        refine' wpAnyH_take (i := 3) (oi := _) (v := ?v4) rfl (by kernel_rfl) (by kernel_rfl) (by kernel_rfl) (fun _ _ _ h => h) (Or.inl ⟨by rfl, ?hy4⟩) (by assumption) ?rest4
        case hy4 => (intro w hSw; obtain ⟨s1, s2, s3⟩ := hSw; go_simp; (try with_reducible rfl))
        simp only [Act.put, List.setIfInBounds_toArray, List.set_cons_zero, List.set_cons_succ]
        refine' wpAnyH_take (i := 4) (oi := _) (v := ?v5) rfl (by kernel_rfl) (by kernel_rfl) (by kernel_rfl) (fun _ _ _ h => h) (Or.inl ⟨by rfl, ?hy5⟩) (by assumption) ?rest5
        case hy5 => (intro w hSw; obtain ⟨s1, s2, s3⟩ := hSw; have hcv := HCV.out w s3; go_simp; (try with_reducible rfl))
        simp only [Act.put, List.setIfInBounds_toArray, List.set_cons_zero, List.set_cons_succ]
        refine' wpAnyH_take (i := 5) (oi := _) (v := ?v6) rfl (by kernel_rfl) (by kernel_rfl) (by kernel_rfl) (fun _ _ _ h => h) (Or.inl ⟨by rfl, ?hy6⟩) (by assumption) ?rest6
        case hy6 => (intro w hSw; obtain ⟨s1, s2, s3⟩ := hSw; go_simp; (try with_reducible rfl))
        simp only [Act.put, List.setIfInBounds_toArray, List.set_cons_zero, List.set_cons_succ]
        refine' wpAnyH_take (i := 6) (oi := _) (v := ?v7) rfl (by kernel_rfl) (by kernel_rfl) (by kernel_rfl) (fun _ _ _ h => h) (Or.inl ⟨by rfl, ?hy7⟩) (by assumption) ?rest7
        case hy7 => (intro w hSw; obtain ⟨s1, s2, s3⟩ := hSw; go_simp; (try with_reducible rfl))
        simp only [Act.put, List.setIfInBounds_toArray, List.set_cons_zero, List.set_cons_succ]
        refine' wpAnyH_take (i := 7) (oi := _) (v := ?v8) rfl (by kernel_rfl) (by kernel_rfl) (by kernel_rfl) (fun _ _ _ h => h) (Or.inl ⟨by rfl, ?hy8⟩) (by assumption) ?rest8
        case hy8 => (intro w hSw; obtain ⟨s1, s2, s3⟩ := hSw; go_simp; (try with_reducible rfl))
        simp only [Act.put, List.setIfInBounds_toArray, List.set_cons_zero, List.set_cons_succ]
        refine' wpAnyH_take (i := 8) (oi := _) (v := ?v9) rfl (by kernel_rfl) (by kernel_rfl) (by kernel_rfl) (fun _ _ _ h => h) (Or.inl ⟨by rfl, ?hy9⟩) (by assumption) ?rest9
        case hy9 => (intro w hSw; obtain ⟨s1, s2, s3⟩ := hSw; go_simp; (try with_reducible rfl))
        simp only [Act.put, List.setIfInBounds_toArray, List.set_cons_zero, List.set_cons_succ]
        refine' wpAnyH_take (i := 9) (oi := _) (v := ?v10) rfl (by kernel_rfl) (by kernel_rfl) (by kernel_rfl) (fun _ _ _ h => h) (Or.inl ⟨by rfl, ?hy10⟩) (by assumption) ?rest10
        case hy10 => (intro w hSw; obtain ⟨s1, s2, s3⟩ := hSw; go_simp; (try with_reducible rfl))
        simp only [Act.put, List.setIfInBounds_toArray, List.set_cons_zero, List.set_cons_succ]
        refine' wpAnyH_take (i := 10) (oi := _) (v := ?v11) rfl (by kernel_rfl) (by kernel_rfl) (by kernel_rfl) (fun _ _ _ h => h) (Or.inl ⟨by rfl, ?hy11⟩) (by assumption) ?rest11
        case hy11 => (intro w hSw; obtain ⟨s1, s2, s3⟩ := hSw; go_simp; (try with_reducible rfl))
        simp only [Act.put, List.setIfInBounds_toArray, List.set_cons_zero, List.set_cons_succ]
        refine wpAnyH_ready (rs := [11]) (by kernel_rfl) (by simp) ?_
        refine AllReadyH.cons rfl (fun K hK => ?_) AllReadyH.nil
        go_simp
        refine hK.out _ ((V9.setCells g3 0 [.slice none (0 - 0) (c2 - 0), .bool true]).drew) HS1.out (fun hHeld => ?_)
        clear hK K s0
        refine wpAnyH_done (by kernel_rfl) ?_ _
        go_wp2_with fail
        exact HF.out _ (by rfl) (by rfl)
      | some x =>
        have hAx := hA1.out x rfl
        go_upto_region 4 with fail
        refine wp_region_held_drew (S := fun w' => w'.cell? ⟨g1, 0, none⟩ = some (.slice (some x) n2 c2) ∧ w'.cell? ⟨g1, 1, none⟩ = some (.bool true) ∧ Rd .u8 w' (some x) s2) (by kernel_rfl) s0 (fun hHeld => ?_)
        refine' wpAnyH_take (i := 0) (oi := _) (v := ?v12) rfl (by kernel_rfl) (by kernel_rfl) (by kernel_rfl) (fun _ _ _ h => h) (Or.inl ⟨by rfl, ?hy12⟩) (by assumption) ?rest12
        case hy12 => (intro w hSw; obtain ⟨s1, s2, s3⟩ := hSw; go_simp; (try with_reducible rfl))
        simp only [Act.put, List.setIfInBounds_toArray, List.set_cons_zero, List.set_cons_succ]
        refine' wpAnyH_take (i := 1) (oi := _) (v := ?v13) rfl (by kernel_rfl) (by kernel_rfl) (by kernel_rfl) (fun _ _ _ h => h) (Or.inl ⟨by rfl, ?hy13⟩) (by assumption) ?rest13
        case hy13 => (intro w hSw; obtain ⟨s1, s2, s3⟩ := hSw; go_simp; (try with_reducible rfl))
        simp only [Act.put, List.setIfInBounds_toArray, List.set_cons_zero, List.set_cons_succ]
        refine' wpAnyH_take (i := 2) (oi := _) (v := ?v14) rfl (by kernel_rfl) (by kernel_rfl) (by kernel_rfl) (fun _ _ _ h => h) (Or.inl ⟨by rfl, ?hy14⟩) (by assumption) ?rest14
        case hy14 => (intro w hSw; obtain ⟨s1, s2, s3⟩ := hSw; go_simp; (try with_reducible rfl))
        simp only [Act.put, List.setIfInBounds_toArray, List.set_cons_zero, List.set_cons_succ]
        refine' wpAnyH_take (i := 3) (oi := _) (v := ?v15) rfl (by kernel_rfl) (by kernel_rfl) (by kernel_rfl) (fun _ _ _ h => h) (Or.inl ⟨by rfl, ?hy15⟩) (by assumption) ?rest15
        case hy15 => (intro w hSw; obtain ⟨s1, s2, s3⟩ := hSw; go_simp; (try with_reducible rfl))
        simp only [Act.put, List.setIfInBounds_toArray, List.set_cons_zero, List.set_cons_succ]
        refine' wpAnyH_take (i := 4) (oi := _) (v := ?v16) rfl (by kernel_rfl) (by kernel_rfl) (by kernel_rfl) (fun _ _ _ h => h) (Or.inl ⟨by rfl, ?hy16⟩) (by assumption) ?rest16
        case hy16 => (intro w hSw; obtain ⟨s1, s2, s3⟩ := hSw; have hcv := HCV.out w s3; go_simp; (try with_reducible rfl))
        simp only [Act.put, List.setIfInBounds_toArray, List.set_cons_zero, List.set_cons_succ]
        refine' wpAnyH_take (i := 5) (oi := _) (v := ?v17) rfl (by kernel_rfl) (by kernel_rfl) (by kernel_rfl) (fun _ _ _ h => h) (Or.inl ⟨by rfl, ?hy17⟩) (by assumption) ?rest17
        case hy17 => (intro w hSw; obtain ⟨s1, s2, s3⟩ := hSw; go_simp; (try with_reducible rfl))
        simp only [Act.put, List.setIfInBounds_toArray, List.set_cons_zero, List.set_cons_succ]
        refine' wpAnyH_take (i := 6) (oi := _) (v := ?v18) rfl (by kernel_rfl) (by kernel_rfl) (by kernel_rfl) (fun _ _ _ h => h) (Or.inl ⟨by rfl, ?hy18⟩) (by assumption) ?rest18
        case hy18 => (intro w hSw; obtain ⟨s1, s2, s3⟩ := hSw; go_simp; (try with_reducible rfl))
        simp only [Act.put, List.setIfInBounds_toArray, List.set_cons_zero, List.set_cons_succ]
        refine' wpAnyH_take (i := 7) (oi := _) (v := ?v19) rfl (by kernel_rfl) (by kernel_rfl) (by kernel_rfl) (fun _ _ _ h => h) (Or.inl ⟨by rfl, ?hy19⟩) (by assumption) ?rest19
        case hy19 => (intro w hSw; obtain ⟨s1, s2, s3⟩ := hSw; go_simp; (try with_reducible rfl))
        simp only [Act.put, List.setIfInBounds_toArray, List.set_cons_zero, List.set_cons_succ]
        refine' wpAnyH_take (i := 8) (oi := _) (v := ?v20) rfl (by kernel_rfl) (by kernel_rfl) (by kernel_rfl) (fun _ _ _ h => h) (Or.inl ⟨by rfl, ?hy20⟩) (by assumption) ?rest20
        case hy20 => (intro w hSw; obtain ⟨s1, s2, s3⟩ := hSw; go_simp; (try with_reducible rfl))
        simp only [Act.put, List.setIfInBounds_toArray, List.set_cons_zero, List.set_cons_succ]
        refine' wpAnyH_take (i := 9) (oi := _) (v := ?v21) rfl (by kernel_rfl) (by kernel_rfl) (by kernel_rfl) (fun _ _ _ h => h) (Or.inl ⟨by rfl, ?hy21⟩) (by assumption) ?rest21
        case hy21 => (intro w hSw; obtain ⟨s1, s2, s3⟩ := hSw; go_simp; (try with_reducible rfl))
        simp only [Act.put, List.setIfInBounds_toArray, List.set_cons_zero, List.set_cons_succ]
        refine' wpAnyH_take (i := 10) (oi := _) (v := ?v22) rfl (by kernel_rfl) (by kernel_rfl) (by kernel_rfl) (fun _ _ _ h => h) (Or.inl ⟨by rfl, ?hy22⟩) (by assumption) ?rest22
        case hy22 => (intro w hSw; obtain ⟨s1, s2, s3⟩ := hSw; go_simp; (try with_reducible rfl))
        simp only [Act.put, List.setIfInBounds_toArray, List.set_cons_zero, List.set_cons_succ]
        refine wpAnyH_ready (rs := [11]) (by kernel_rfl) (by simp) ?_
        refine AllReadyH.cons rfl (fun K hK => ?_) AllReadyH.nil
        go_simp
        refine hK.out _ ((V9.setCells g3 0 [.slice A' (n2 - j) (c2 - j), .bool true]).drew) HS1.out (fun hHeld => ?_)
        clear hK K s0
        refine wpAnyH_done (by kernel_rfl) ?_ _
        go_wp2_with fail
        exact HF.out _ (by rfl) (by rfl)
    · have hnl' : decide (b > (n2 : Int)) = true := decide_eq_true (by omega)
      have hr : Hid (Read dtxt (stOf ok s) ⟨#[]⟩ none) := by
        refine Read.bind HRD.out ?_
        exact Read.no (if_neg (by rw [← hn2.out]; omega)) _
      go_wp2_with fail
      exact HBAD.out hr.out _ (by rfl) (by rfl)

end Go.Proofs.Ytmhcjkiaogimgaa
