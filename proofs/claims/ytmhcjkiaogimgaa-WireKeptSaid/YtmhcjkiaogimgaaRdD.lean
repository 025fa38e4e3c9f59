/- The program's reader: text. -/
import Derived.Test.YtmhcjkiaogimgaaRdC
import Derived.Laws.BytesString
namespace Go.Proofs.Ytmhcjkiaogimgaa
open Go.RowKit

theorem fold_push : ∀ (ns : List Int) (s : ByteArray), ns.foldl (fun r n => r.push (UInt8.ofNat n.toNat)) s = ⟨s.data ++ (ns.map fun z => UInt8.ofNat z.toNat).toArray⟩
  | [], s => by simp
  | n :: ns, s => by
    rw [List.foldl_cons, fold_push ns]
    simp [ByteArray.push]
theorem conv_run (W : World) (a : Option Addr) (j r : Nat) (ns : List Int) (hl : ns.length = j) (h : j ≠ 0 → ∃ x, a = some x ∧ ∀ i v, ns[i]? = some v → W.cell? (x.add i) = some (.int .u8 v)) :
    (convert 28 9 (.slice a j r)).run Try.prog W = .ok (.string (strOf ns)) W := by
  rw [run_convert_bytes_string W _ _ 5 a j r Try.underlying28 Try.underlying5 Try.underlying9]
  cases a with
  | none =>
    have : j = 0 := by
      rcases Nat.eq_zero_or_pos j with h0 | h0
      · exact h0
      · obtain ⟨x, hx, _⟩ := h (by omega)
        cases hx
    subst this
    rw [List.length_eq_zero_iff] at hl
    subst hl
    rfl
  | some y =>
    have hr : (loadCells y j).run Try.prog W = .ok (ns.map (Value.int .u8)).toArray W := by
      have := run_loadCells_list (P := Try.prog) W y (ns.map (Value.int .u8)) (fun i v hv => by
        rw [List.getElem?_map] at hv
        cases hn : ns[i]? with
        | none => rw [hn] at hv; cases hv
        | some z =>
          rw [hn] at hv
          simp at hv
          subst hv
          obtain ⟨x, hx, hc⟩ := h (by
            have := (List.getElem?_eq_some_iff.1 hn).1
            omega)
          injection hx with hx
          subst hx
          exact hc i z hn)
      rwa [List.length_map, hl] at this
    rw [run_bytesToString W y j r ns hr, fold_push]
    simp [strOf]
/-- The bytes from k on, as a string. -/
theorem conv_rd {W : World} {A : Option Addr} {l : List Int} (h : Rd .u8 W A l) (k j r : Nat) (hl : k + j ≤ l.length) (A' : Option Addr) (hA : j ≠ 0 → ∀ x, A = some x → A' = some (x.add k)) :
    (convert 28 9 (.slice A' j r)).run Try.prog W = .ok (.string (strOf ((l.drop k).take j))) W := by
  refine conv_run W A' j r _ (by rw [List.length_take, List.length_drop]; omega) (fun hj => ?_)
  obtain ⟨x, hx, _⟩ := h.at_ k (by omega)
  refine ⟨x.add k, hA hj x hx, fun i v hv => ?_⟩
  rw [List.getElem?_take] at hv
  split at hv
  · rw [List.getElem?_drop] at hv
    obtain ⟨y, hy, _, hc⟩ := h.at_ (k + i) (by omega)
    rw [hx] at hy
    injection hy with hy
    subst hy
    rw [add_add, hc, List.getD_eq_getElem?_getD, hv]
    rfl
  · cases hv

set_option maxRecDepth 100000 in
set_option maxHeartbeats 2000000 in
theorem rtxt_any (w : World) (q : Nat) (A : Option Addr) (c : Nat) (l : List Int) (st : Option (List Int)) (h : RSt w q A c l st) :
    Calls Try.prog 83 #[.pointer (some ⟨q, 0, none⟩)] w (Got ptxt Value.string (fun _ => True) q A c l st w) := by
  have HD := Lib.hid h
  clear h
  go_enter Try.func83, Try.ntmps83
  go_wp2_with fail
  refine (rnum_any w q A c l st HD.out).mono ?_
  rintro e w2 ⟨n, st2, rfl, ⟨hn0, hn1⟩, hkp, hR, hrd⟩
  obtain ⟨k, bad, c0, c1, c2, f1, f2, hk, he⟩ := hR.cells
  have HR := Lib.hid hR
  have HK := Lib.hid hkp
  have HRD := Lib.hid hrd
  have HE := Lib.hid he
  have hlen := hR.len
  have hcap := hR.cap
  have hlim := hR.lim
  have HA := Lib.hid hR.rd
  clear hR hkp hrd he
  obtain ⟨m, hm⟩ : ∃ m, Hid (m = l.length) := ⟨_, rfl⟩
  rw [← hm.out] at c0 hk hlen hcap
  have hfail : Hid (st2 = none ∨ (∃ s, st2 = some s ∧ ¬ (n ≤ 96 ∧ n ≤ s.length)) → ∀ v, Read ptxt st v none) := by
    intro hh v
    refine Read.bind HRD.out ?_
    rcases hh with rfl | ⟨s, rfl, hs⟩
    · rfl
    · exact Read.no (if_neg hs) _
  cases bad with
  | true =>
    have hst : Hid (st2 = none) := HE.out
    go_wp2_with fail
    go_quiet (fail)
    go_wp2_with fail
    go_ret
    obtain ⟨g1, g2⟩ := HR.out.stop ((Drawn.refl w2).drewN _)
    exact ⟨_, none, rfl, trivial, HK.out.trans g1, g2, hfail.out (.inl hst.out) _⟩
  | false =>
    have hst : Hid (st2 = some (l.drop k)) := HE.out
    have hdl : Hid ((l.drop k).length = m - k) := by show _ = _; rw [List.length_drop, hm.out]
    by_cases h96 : n ≤ 96
    · have e1 : IntKind.i64.wrap ((m : Int) - (k : Int)) = (m : Int) - (k : Int) := wrap_id (by omega) (by omega)
      by_cases hnl : n ≤ (m : Int) - (k : Int)
      · have hnl' : decide (n > (m : Int) - (k : Int)) = false := decide_eq_false (by omega)
        have h96' : decide (n > 96) = false := decide_eq_false (by omega)
        obtain ⟨j, rfl⟩ : ∃ j : Nat, n = (j : Int) := ⟨n.toNat, by omega⟩
        have e2 : IntKind.i64.wrap ((k : Int) + (j : Int)) = (k : Int) + (j : Int) := wrap_id (by omega) (by omega)
        have e3 : IntKind.i64.wrap (k : Int) = (k : Int) := wrap_id (by omega) (by omega)
        have i1 : (0 : Int) ≤ (k : Int) := by omega
        have i2 : (k : Int) ≤ (k : Int) + (j : Int) := by omega
        have i3 : (k : Int) + (j : Int) ≤ (c : Int) := by omega
        have HRR : Hid (Read ptxt st (strOf ((l.drop k).take j)) (some (l.drop (k + j)))) := by
          refine Read.bind HRD.out ?_
          rw [hst.out]
          refine Read.yes ?_
          rw [if_pos ⟨h96, by rw [hdl.out]; omega⟩, Int.toNat_natCast, List.drop_drop]
        have HKJ : Hid (k + j ≤ l.length) := by show _ ≤ _; rw [← hm.out]; omega
        have hjk : ((k : Int) + (j : Int)).toNat - k = j := by omega
        obtain ⟨s, hs⟩ : ∃ s, Hid (s = strOf ((l.drop k).take j)) := ⟨_, rfl⟩
        cases A with
        | none =>
          have hm0 : Hid (l.length = 0) := by
            show _ = _
            rcases Nat.eq_zero_or_pos l.length with h0 | h0
            · exact h0
            · obtain ⟨x, hx, _⟩ := HA.out.at_ 0 h0
              cases hx
          have hm1 : m = 0 := hm.out.trans hm0.out
          have hk1 : k = 0 := by omega
          have hj1 : j = 0 := by omega
          subst hk1; subst hj1
          have hcv : ∀ (p r : Nat) (W : World), (convert 28 9 (.slice none p r)).run Try.prog W = .ok (.string s) W := fun p r W => by
            rw [run_convert_bytes_string W _ _ 5 none p r Try.underlying28 Try.underlying5 Try.underlying9, hs.out]
            rfl
          go_wp2_with fail
          go_quiet (fail)
          go_wp2_with fail
          go_quiet (fail)
          go_wp2_with fail
          go_ret
          obtain ⟨g1, g2⟩ := HR.out.move hst.out ((Drawn.refl w2).drewN _) (0 + 0) HKJ.out 0 rfl ((Drawn.refl _).drewN _)
          exact ⟨s, _, rfl, trivial, HK.out.trans g1, g2, by rw [hs.out]; exact HRR.out⟩
        | some x =>
          obtain ⟨A', hA'⟩ : ∃ A', (if c = k then some x else some (x.add k)) = A' := ⟨_, rfl⟩
          have HCV : Hid (∀ nq n, (convert 28 9 (.slice A' j (c - k))).run Try.prog (((w2.drewN nq).setCell ⟨q, 1, none⟩ (.int .i64 ((k : Int) + (j : Int)))).drewN n) = .ok (.string s) (((w2.drewN nq).setCell ⟨q, 1, none⟩ (.int .i64 ((k : Int) + (j : Int)))).drewN n)) := fun nq n => by
            rw [hs.out]
            obtain ⟨_, g2⟩ := HR.out.move hst.out ((Drawn.refl w2).drewN nq) (k + j) HKJ.out ((k : Int) + (j : Int)) (by omega) ((Drawn.refl _).drewN n)
            refine conv_rd g2.rd k j _ HKJ.out A' (fun hj x' hx' => ?_)
            injection hx' with hx'
            subst hx'
            rw [← hA', if_neg (by omega)]
          go_wp2_with fail
          go_quiet (fail)
          go_wp2_with fail
          have hcv := HCV.out nq
          go_quiet (fail)
          go_wp2_with fail
          go_ret
          obtain ⟨g1, g2⟩ := HR.out.move hst.out ((Drawn.refl w2).drewN _) (k + j) HKJ.out ((k : Int) + (j : Int)) (by omega) ((Drawn.refl _).drewN _)
          exact ⟨s, _, rfl, trivial, HK.out.trans g1, g2, by rw [hs.out]; exact HRR.out⟩
      · have hnl' : decide (n > (m : Int) - (k : Int)) = true := decide_eq_true (by omega)
        have h96' : decide (n > 96) = false := decide_eq_false (by omega)
        go_wp2_with fail
        go_quiet (fail)
        go_wp2_with fail
        go_ret
        obtain ⟨g1, g2⟩ := HR.out.stop ((Drawn.refl w2).drewN _)
        exact ⟨_, none, rfl, trivial, HK.out.trans g1, g2, hfail.out (.inr ⟨_, hst.out, by rw [hdl.out]; omega⟩) _⟩
    · have h96' : decide (n > 96) = true := decide_eq_true (by omega)
      go_wp2_with fail
      go_quiet (fail)
      go_wp2_with fail
      go_ret
      obtain ⟨g1, g2⟩ := HR.out.stop ((Drawn.refl w2).drewN _)
      exact ⟨_, none, rfl, trivial, HK.out.trans g1, g2, hfail.out (.inr ⟨_, hst.out, by omega⟩) _⟩

end Go.Proofs.Ytmhcjkiaogimgaa
