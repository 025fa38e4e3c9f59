/- The document's num. -/
import Derived.Test.YtmhcjkiaogimgaaDrA
import Derived.Test.YtmhcjkiaogimgaaRdC
namespace Go.Proofs.Ytmhcjkiaogimgaa
open Go.RowKit

theorem tmod128 {b : Int} (h : 0 ≤ b) : Int.tmod b 128 = b % 128 := Int.tmod_eq_emod_of_nonneg h
theorem dn_step {j : Nat} {x u : Int} {s : List Int} {b : Int} {t : List Int} (h : s = b :: t) : dn (j + 1) x u s = if b < 128 then some (x + b % 128 * u, t) else dn j (x + b % 128 * u) (u * 128) t := by subst h; rfl
theorem dn_nil : ∀ (j : Nat) (x u : Int), dn j x u [] = none
  | 0, _, _ => rfl
  | _ + 1, _, _ => rfl
theorem dread_none {st : Option (List Int)} {v : Int} (h : Read pbyte st v none) (j : Nat) (x u y : Int) : Read (dn j x u) st y none := by
  cases st with
  | none => rfl
  | some s =>
    cases s with
    | nil => exact Read.no (dn_nil j x u) y
    | cons a t =>
      have h : v = a ∧ none = some t := h
      cases h.2
theorem pow_le6 {k : Nat} (h : k ≤ 6) : 1 ≤ (128 : Int) ^ k ∧ (128 : Int) ^ k ≤ 4398046511104 := by
  rcases (by omega : k = 0 ∨ k = 1 ∨ k = 2 ∨ k = 3 ∨ k = 4 ∨ k = 5 ∨ k = 6) with rfl | rfl | rfl | rfl | rfl | rfl | rfl <;> decide

set_option maxRecDepth 100000 in
set_option maxHeartbeats 4000000 in
theorem dnum_any (w0 w : World) (hw : Below w0.heap.size w0 w) (A : Option Addr) (c : Nat) (s : List Int) (ok : Bool) (h : DS w0 A c s) :
    Calls Try.prog 59 #[.agg #[.slice A s.length c, .bool ok]] w (DGot w0 dnum (Value.int .i64) (fun v => 0 ≤ v ∧ v ≤ 4398046511104) (stOf ok s) w) := by
  obtain ⟨n, hn⟩ : ∃ n, Hid (n = s.length) := ⟨_, rfl⟩
  have H := Lib.hid h
  clear h
  rw [← hn.out]
  have HA : Hid (∀ V, V = (w.alloc (.cells #[.slice A n c, .bool ok] 99)).alloc (.cells #[.slice none 0 0, .bool false] 99) → Blk V w.heap.size #[.slice A n c, .bool ok] 99 ∧ Blk V (w.heap.size + 1) #[.slice none 0 0, .bool false] 99 ∧ Below w.heap.size w V) := by
    rintro V rfl
    refine ⟨(Blk.new w _ _).alloc _, ?_, bel_al (bel_al (Below.refl _ _) _) _⟩
    have := Blk.new (w.alloc (.cells #[.slice A n c, .bool ok] 99)) #[.slice none 0 0, .bool false] 99
    rwa [show (w.alloc (.cells #[.slice A n c, .bool ok] 99)).heap.size = w.heap.size + 1 by simp] at this
  go_enter Try.func59, Try.ntmps59
  go_upto_region 1 with fail
  obtain ⟨V, hV⟩ : ∃ V, V = (w.alloc (.cells #[.slice A n c, .bool ok] 99)).alloc (.cells #[.slice none 0 0, .bool false] 99) := ⟨_, rfl⟩
  obtain ⟨b1, b3, hB⟩ := HA.out V hV
  rw [← hV]
  clear hV HA
  obtain ⟨g1, hg1⟩ : ∃ g, w.heap.size = g := ⟨_, rfl⟩
  rw [hg1] at b1 b3 ⊢
  generalize hg3 : g1 + 1 = g3 at b3 ⊢
  have HG := Lib.hid (And.intro hg1 hg3)
  have hne : g1 ≠ g3 := by omega
  clear hg1 hg3
  have HB1 := Lib.hid b1
  have HB3 := Lib.hid b3
  have HBB := Lib.hid hB
  clear b1 b3 hB
  go_wp2_with fail
  go_loopw [4, 5, 6] (fun v4 v5 v6 wr => ∃ (k : Nat) (x : Int) (A' : Option Addr) (c' n' : Nat) (s' : List Int) (ok' : Bool), k ≤ 6 ∧ 0 ≤ x ∧ x < 128 ^ k ∧ v4 = .int .i64 x ∧ v5 = .int .i64 (128 ^ k) ∧ v6 = .int .i64 k ∧ Hid (n' = s'.length) ∧
      Hid (Blk wr g1 #[.slice A' n' c', .bool ok'] 99) ∧ Hid (Blk wr g3 #[.slice none 0 0, .bool false] 99) ∧ Hid (DS w0 A' c' s') ∧ Hid (Below w.heap.size w wr) ∧ Hid (∀ v st', Read (dn (6 - k) x (128 ^ k)) (stOf ok' s') v st' → Read dnum (stOf ok s) v st')) (fun _ _ v _ => (6 - intOf v).toNat)
  case atStart => exact ⟨0, 0, A, c, n, s, ok, by omega, by omega, by decide, rfl, rfl, rfl, hn, HB1, HB3, H, HBB, fun v st' hh => hh⟩
  case round =>
    obtain ⟨k, x, A', c', n', s', ok', hk, hx0, hx, rfl, rfl, rfl, hn', h1, h3, hD, hBW, hN⟩ := hrel
    have HX := Lib.hid (And.intro hx0 hx)
    clear hx0 hx HB1 HB3 HBB H
    by_cases hlt : k < 6
    · have hk6 : (k : Int) < 6 := by omega
      have c0 : wr.cell? ⟨g1, 0, none⟩ = some (.slice A' n' c') := by rw [h1.out.cell]; rfl
      have c1 : wr.cell? ⟨g1, 1, none⟩ = some (.bool ok') := by rw [h1.out.cell]; rfl
      go_wp2_with fail
      rw [hn'.out]
      refine (dbyte_any w0 wr (hw.trans (hBW.out.mono hw.size)) A' c' s' ok' hD.out).mono ?_
      rintro e w2 ⟨b, A2, s2, c2, ok2, rfl, ⟨hb0, hb⟩, hD2, hbel, hrd⟩
      obtain ⟨n2, hn2⟩ : ∃ m, Hid (m = s2.length) := ⟨_, rfl⟩
      rw [← hn2.out, ← hn'.out]
      have h1w := h1.out.kp (S := fun _ => False) (Kp.of_below hbel) (fun h => h)
      have h3w := h3.out.kp (S := fun _ => False) (Kp.of_below hbel) (fun h => h)
      have HBw := Lib.hid (bel_next hBW.out hbel)
      have HRD := Lib.hid hrd
      have hg12 : g1 < w2.heap.size := h1w.lt
      have hg32 : g3 < w2.heap.size := h3w.lt
      obtain ⟨V8, hV8⟩ : ∃ V8, V8 = w2.alloc (.cells #[.slice A2 n2 c2, .bool ok2] 99) := ⟨_, rfl⟩
      have bS : Blk V8 w2.heap.size #[.slice A2 n2 c2, .bool ok2] 99 := by rw [hV8]; exact Blk.new _ _ _
      have h1v : Blk V8 g1 #[.slice A' n' c', .bool ok'] 99 := by rw [hV8]; exact h1w.alloc _
      have h3v : Blk V8 g3 #[.slice none 0 0, .bool false] 99 := by rw [hV8]; exact h3w.alloc _
      have HBV : Hid (Below w.heap.size w V8) := by rw [hV8]; exact bel_next HBw.out (bel_al (Below.refl _ _) _)
      have HV8 := Lib.hid hV8
      clear hV8 h1w h3w hbel hrd h1 h3 HBw c0 c1 hBW
      cases ok2 with
      | false =>
        have hrn : Hid (Read dnum (stOf ok s) 0 none) := hN.out 0 none (dread_none (by have := HRD.out; exact this) _ _ _ _)
        go_upto_region 8 with fail
        rw [← HV8.out]
        have hgS : ¬ w2.heap.size = g3 := by omega
        have s0 : V8.drew.cell? ⟨w2.heap.size, 0, none⟩ = some (.slice A2 n2 c2) ∧ V8.drew.cell? ⟨w2.heap.size, 1, none⟩ = some (.bool false) := ⟨(bS.cell 0).trans rfl, (bS.cell 1).trans rfl⟩
        have q0 : V8.cell? ⟨g3, 0, none⟩ = some (.slice none 0 0) := (h3v.cell 0).trans rfl
        have q1 : V8.cell? ⟨g3, 1, none⟩ = some (.bool false) := (h3v.cell 1).trans rfl
        have q2 := h3v.frozen 0
        have q3 := h3v.frozen 1
        have hset := h3v.setCells [.slice A2 n2 c2, .bool false] 0
        rw [setMany_whole _ _ (by rfl)] at hset
        have hset := hset.drew
        have hkp : Kp (fun k => k = g3) V8 (V8.setCells g3 0 [.slice A2 n2 c2, .bool false]).drew := (Kp.setCells (S := fun k => k = g3) _ rfl _ _ _ (Kp.refl _ _)).drew
        have hBW2 := Lib.hid (below_kp HBV.out hkp HBV.out.size (fun k hk => by have h1 := HG.out.1; have h2 := HG.out.2; omega))
        have s1 : (V8.setCells g3 0 [.slice A2 n2 c2, .bool false]).drew.cell? ⟨w2.heap.size, 0, none⟩ = some (.slice A2 n2 c2) ∧ (V8.setCells g3 0 [.slice A2 n2 c2, .bool false]).drew.cell? ⟨w2.heap.size, 1, none⟩ = some (.bool false) := ⟨(hkp.cell (p := ⟨w2.heap.size, 0, none⟩) bS.lt hgS).trans s0.1, (hkp.cell (p := ⟨w2.heap.size, 1, none⟩) bS.lt hgS).trans s0.2⟩
        have HF := Lib.hid (in_fin (fn := Try.f59) (w := (V8.setCells g3 0 [.slice A2 n2 c2, .bool false]).drew) (g := g3) (v := .int .i64 0) (x := .slice A2 n2 c2) (y := .bool false) (Q := DGot w0 dnum (Value.int .i64) (fun v => 0 ≤ v ∧ v ≤ 4398046511104) (stOf ok s) w) rfl (by rw [hset.cell]; rfl) (by rw [hset.cell]; rfl) ⟨0, A2, s2, c2, false, by rw [hn2.out], by omega, hD2, hBW2.out, hrn.out⟩)
        clear hset hkp
        refine wp_region_held_drew (S := fun w' => w'.cell? ⟨w2.heap.size, 0, none⟩ = some (.slice A2 n2 c2) ∧ w'.cell? ⟨w2.heap.size, 1, none⟩ = some (.bool false)) (by kernel_rfl) s0 (fun hHeld => ?_)
        refine' wpAnyH_take (i := 0) (oi := _) (v := ?v1) rfl (by kernel_rfl) (by kernel_rfl) (by kernel_rfl) (fun _ _ _ h => h) (Or.inl ⟨by rfl, ?hy1⟩) (by assumption) ?rest1
        case hy1 => (intro w hSw; obtain ⟨s1, s2⟩ := hSw; go_simp; (try with_reducible rfl))
        simp only [Act.put, List.setIfInBounds_toArray, List.set_cons_zero, List.set_cons_succ]
        refine' wpAnyH_take (i := 1) (oi := _) (v := ?v2) rfl (by kernel_rfl) (by kernel_rfl) (by kernel_rfl) (fun _ _ _ h => h) (Or.inl ⟨by rfl, ?hy2⟩) (by assumption) ?rest2
        case hy2 => (intro w hSw; obtain ⟨s1, s2⟩ := hSw; go_simp; (try with_reducible rfl))
        simp only [Act.put, List.setIfInBounds_toArray, List.set_cons_zero, List.set_cons_succ]
        refine wpAnyH_ready (rs := [2]) (by kernel_rfl) (by simp) ?_
        refine AllReadyH.cons rfl (fun K hK => ?_) AllReadyH.nil
        go_simp
        refine hK.out _ ((V8.setCells g3 0 [.slice A2 n2 c2, .bool false]).drew) s1 (fun hHeld => ?_)
        clear hK K s1 s0
        refine wpAnyH_done (by kernel_rfl) ?_ _
        go_wp2_with fail
        exact HF.out _ (by rfl) (by rfl)
      | true =>
        obtain ⟨t0, ht0, hp0⟩ := HRD.out.fst (t := s2) rfl
        have hcons : t0 = b :: s2 := by
          cases t0 with
          | nil => cases hp0
          | cons a u =>
            simp only [pbyte, Option.some.injEq, Prod.mk.injEq] at hp0
            rw [hp0.1, hp0.2]
        obtain ⟨j, hj⟩ : ∃ j, 6 - k = j + 1 := ⟨5 - k, by omega⟩
        have hj2 : 6 - (k + 1) = j := by omega
        have hpw := pow_le6 (k := k) (by omega)
        have hpw2 := pow_le6 (k := k + 1) (by omega)
        rw [Int.pow_succ] at hpw2
        have hxb := HX.out
        have hmul := Int.mul_le_mul_of_nonneg_right (show b % 128 ≤ 127 by omega) (show 0 ≤ (128 : Int) ^ k by omega)
        have hmul0 := Int.mul_nonneg (show 0 ≤ b % 128 by omega) (show 0 ≤ (128 : Int) ^ k by omega)
        have e0 := tmod128 hb0
        obtain ⟨z, hz⟩ : ∃ z, Hid (z = b % 128 * 128 ^ k) := ⟨_, rfl⟩
        obtain ⟨y, hy⟩ : ∃ y, Hid (y = x + b % 128 * 128 ^ k) := ⟨_, rfl⟩
        obtain ⟨u, hu⟩ : ∃ u, Hid (u = (128 : Int) ^ k) := ⟨_, rfl⟩
        obtain ⟨u2, hu2⟩ : ∃ u, Hid (u = (128 : Int) ^ (k + 1)) := ⟨_, rfl⟩
        have e1 : wrap64 (b % 128 * u) = z := by rw [hz.out, hu.out]; simp only [wrap64]; omega
        have e2 : wrap64 (x + z) = y := by rw [hy.out, hz.out]; simp only [wrap64]; omega
        have e3 : wrap64 (u * 128) = u2 := by rw [hu.out, hu2.out, Int.pow_succ]; simp only [wrap64]; omega
        have hy0 : Hid (0 ≤ y ∧ y < 128 ^ (k + 1) ∧ y ≤ 4398046511104) := by rw [hy.out, Int.pow_succ]; exact ⟨by omega, by omega, by omega⟩
        have HPN : Hid (stOf ok' s' = some (b :: s2) ∧ dn (6 - k) x (128 ^ k) (b :: s2) = if b < 128 then some (y, s2) else dn j y (128 ^ (k + 1)) s2) := ⟨by rw [ht0, hcons], by rw [hj, dn_step rfl, hy.out, Int.pow_succ]⟩
        rw [← hu.out]
        clear hpw hpw2 hxb hmul hmul0 ht0 hp0 hcons
        have d0 : V8.cell? ⟨w2.heap.size, 0, none⟩ = some (.slice A2 n2 c2) := (bS.cell 0).trans rfl
        have d1 : V8.cell? ⟨w2.heap.size, 1, none⟩ = some (.bool true) := (bS.cell 1).trans rfl
        have a0 : V8.cell? ⟨g1, 0, none⟩ = some (.slice A' n' c') := (h1v.cell 0).trans rfl
        have a1 : V8.cell? ⟨g1, 1, none⟩ = some (.bool ok') := (h1v.cell 1).trans rfl
        have fa0 := h1v.frozen 0
        have fa1 := h1v.frozen 1
        go_upto_region 9 with fail
        rw [← HV8.out]
        go_upto_region 10 with fail
        have hk9 : Kp (fun k => k = g1) V8 (V8.setCells g1 0 [.slice A2 n2 c2, .bool true]) := Kp.setCells (S := fun k => k = g1) _ rfl _ _ _ (Kp.refl _ _)
        have b9 := h1v.setCells [.slice A2 n2 c2, .bool true] 0
        rw [setMany_whole _ _ (by rfl)] at b9
        have h39 := h3v.kp hk9 (fun e => hne e.symm)
        have HB9 := Lib.hid (below_kp HBV.out hk9 HBV.out.size (fun k hk => by have h1 := HG.out.1; omega))
        have b9 : Blk ((V8.setCell ⟨g1, 0, none⟩ (.slice A2 n2 c2)).setCell ⟨g1, 1, none⟩ (.bool true)) g1 #[.slice A2 n2 c2, .bool true] 99 := b9
        have h39 : Blk ((V8.setCell ⟨g1, 0, none⟩ (.slice A2 n2 c2)).setCell ⟨g1, 1, none⟩ (.bool true)) g3 #[.slice none 0 0, .bool false] 99 := h39
        have HB9 : Hid (Below w.heap.size w ((V8.setCell ⟨g1, 0, none⟩ (.slice A2 n2 c2)).setCell ⟨g1, 1, none⟩ (.bool true))) := HB9
        clear hk9 d0 d1 a0 a1 fa0 fa1 bS h1v h3v HBV
        generalize (V8.setCell ⟨g1, 0, none⟩ (.slice A2 n2 c2)).setCell ⟨g1, 1, none⟩ (.bool true) = V9 at *
        by_cases hb128 : b < 128
        · have HRR : Hid (Read dnum (stOf ok s) y (stOf true s2)) := hN.out y (some s2) (by rw [HPN.out.1]; exact Read.yes (by rw [HPN.out.2, if_pos hb128]))
          go_upto_region 13 with fail
          have bS := b9
          have h3v := h39
          have HBV := HB9
          have hgS : ¬ g1 = g3 := hne
          have s0 : V9.drew.cell? ⟨g1, 0, none⟩ = some (.slice A2 n2 c2) ∧ V9.drew.cell? ⟨g1, 1, none⟩ = some (.bool true) := ⟨(bS.cell 0).trans rfl, (bS.cell 1).trans rfl⟩
          have q0 : V9.cell? ⟨g3, 0, none⟩ = some (.slice none 0 0) := (h3v.cell 0).trans rfl
          have q1 : V9.cell? ⟨g3, 1, none⟩ = some (.bool false) := (h3v.cell 1).trans rfl
          have q2 := h3v.frozen 0
          have q3 := h3v.frozen 1
          have hset := h3v.setCells [.slice A2 n2 c2, .bool true] 0
          rw [setMany_whole _ _ (by rfl)] at hset
          have hset := hset.drew
          have hkp : Kp (fun k => k = g3) V9 (V9.setCells g3 0 [.slice A2 n2 c2, .bool true]).drew := (Kp.setCells (S := fun k => k = g3) _ rfl _ _ _ (Kp.refl _ _)).drew
          have hBW2 := Lib.hid (below_kp HBV.out hkp HBV.out.size (fun k hk => by have h1 := HG.out.1; have h2 := HG.out.2; omega))
          have s1 : (V9.setCells g3 0 [.slice A2 n2 c2, .bool true]).drew.cell? ⟨g1, 0, none⟩ = some (.slice A2 n2 c2) ∧ (V9.setCells g3 0 [.slice A2 n2 c2, .bool true]).drew.cell? ⟨g1, 1, none⟩ = some (.bool true) := ⟨(hkp.cell (p := ⟨g1, 0, none⟩) bS.lt hgS).trans s0.1, (hkp.cell (p := ⟨g1, 1, none⟩) bS.lt hgS).trans s0.2⟩
          have HF := Lib.hid (in_fin (fn := Try.f59) (w := (V9.setCells g3 0 [.slice A2 n2 c2, .bool true]).drew) (g := g3) (v := .int .i64 y) (x := .slice A2 n2 c2) (y := .bool true) (Q := DGot w0 dnum (Value.int .i64) (fun v => 0 ≤ v ∧ v ≤ 4398046511104) (stOf ok s) w) rfl (by rw [hset.cell]; rfl) (by rw [hset.cell]; rfl) ⟨y, A2, s2, c2, true, by rw [hn2.out], ⟨hy0.out.1, hy0.out.2.2⟩, hD2, hBW2.out, HRR.out⟩)
          clear hset hkp
          refine wp_region_held_drew (S := fun w' => w'.cell? ⟨g1, 0, none⟩ = some (.slice A2 n2 c2) ∧ w'.cell? ⟨g1, 1, none⟩ = some (.bool true)) (by kernel_rfl) s0 (fun hHeld => ?_)
          refine' wpAnyH_take (i := 0) (oi := _) (v := ?v3) rfl (by kernel_rfl) (by kernel_rfl) (by kernel_rfl) (fun _ _ _ h => h) (Or.inl ⟨by rfl, ?hy3⟩) (by assumption) ?rest3
          case hy3 => (intro w hSw; obtain ⟨s1, s2⟩ := hSw; go_simp; (try with_reducible rfl))
          simp only [Act.put, List.setIfInBounds_toArray, List.set_cons_zero, List.set_cons_succ]
          refine' wpAnyH_take (i := 1) (oi := _) (v := ?v4) rfl (by kernel_rfl) (by kernel_rfl) (by kernel_rfl) (fun _ _ _ h => h) (Or.inl ⟨by rfl, ?hy4⟩) (by assumption) ?rest4
          case hy4 => (intro w hSw; obtain ⟨s1, s2⟩ := hSw; go_simp; (try with_reducible rfl))
          simp only [Act.put, List.setIfInBounds_toArray, List.set_cons_zero, List.set_cons_succ]
          refine' wpAnyH_take (i := 2) (oi := _) (v := ?v5) rfl (by kernel_rfl) (by kernel_rfl) (by kernel_rfl) (fun _ _ _ h => h) (Or.inl ⟨by rfl, ?hy5⟩) (by assumption) ?rest5
          case hy5 => (intro w hSw; obtain ⟨s1, s2⟩ := hSw; go_simp; (try with_reducible rfl))
          simp only [Act.put, List.setIfInBounds_toArray, List.set_cons_zero, List.set_cons_succ]
          refine wpAnyH_ready (rs := [3]) (by kernel_rfl) (by simp) ?_
          refine AllReadyH.cons rfl (fun K hK => ?_) AllReadyH.nil
          go_simp
          refine hK.out _ ((V9.setCells g3 0 [.slice A2 n2 c2, .bool true]).drew) s1 (fun hHeld => ?_)
          clear hK K s1 s0
          refine wpAnyH_done (by kernel_rfl) ?_ _
          go_wp2_with fail
          exact HF.out _ (by rfl) (by rfl)
        · have HS := hD2
          have hb128' : 128 ≤ b := by omega
          go_wp2_with fail
          go_roundw
          case rel => exact ⟨k + 1, y, A2, c2, n2, s2, true, by omega, hy0.out.1, hy0.out.2.1, by rw [e2], by rw [e3, hu2.out], by go_num, hn2, b9, h39, HS, HB9, fun v st' hh => hN.out v st' (by rw [HPN.out.1]; rw [hj2] at hh; exact Read.congr (p' := dn j y (128 ^ (k + 1))) (s' := s2) (by rw [HPN.out.2, if_neg hb128]) hh)⟩
          case measure => simp [intOf]; omega
    · obtain rfl : k = 6 := by omega
      have q0 : wr.cell? ⟨g3, 0, none⟩ = some (.slice none 0 0) := (h3.out.cell 0).trans rfl
      have q1 : wr.cell? ⟨g3, 1, none⟩ = some (.bool false) := (h3.out.cell 1).trans rfl
      have q2 := h3.out.frozen 0
      have q3 := h3.out.frozen 1
      have hkp : Kp (fun k => k = g3) wr (wr.setCells g3 0 [.slice none 0 0, .bool false]) := Kp.setCells (S := fun k => k = g3) _ rfl _ _ _ (Kp.refl _ _)
      have hBW2 := Lib.hid (below_kp hBW.out hkp hBW.out.size (fun k hk => by have h1 := HG.out.1; have h2 := HG.out.2; omega))
      have HF := Lib.hid (in_set (fn := Try.f59) (v := .int .i64 0) (x := .slice none 0 0) (y := .bool false) (Q := DGot w0 dnum (Value.int .i64) (fun v => 0 ≤ v ∧ v ≤ 4398046511104) (stOf ok s) w) rfl h3.out rfl ⟨0, none, [], 0, false, rfl, by omega, DS.nil _, hBW2.out, hN.out 0 none (Read.fail (fun _ => rfl) _ _)⟩)
      clear hkp
      go_wp2_with fail
      exact HF.out _ (by rfl) (by rfl)

end Go.Proofs.Ytmhcjkiaogimgaa
