/- SameKeys, SameEntries. -/
import Derived.Test.YtmhcjkiaogimgaaLwA
import Derived.Test.YtmhcjkiaogimgaaEqs
namespace Go.Proofs.Ytmhcjkiaogimgaa
open Go.RowKit

theorem row_at {w : World} {A : Option Addr} {k : Nat} {rows : List (List Value)} (h : RowsAt w A k rows) (i : Nat) (cs : List Value) (hi : rows[i]? = some cs) : ∃ g o, A = some ⟨g, o, none⟩ ∧ ∀ j v, cs[j]? = some v → w.cell? ⟨g, o + i * k + j, none⟩ = some v := by
  obtain ⟨g, o, h1, _, h3⟩ := h.at_ i cs hi
  exact ⟨g, o, h1, fun j v hj => h3 j v hj⟩
theorem RowsAt.drawn {w w' : World} {A : Option Addr} {k : Nat} {rows : List (List Value)} (h : RowsAt w A k rows) (hd : Drawn w w') : RowsAt w' A k rows := h.below (hd.below _)
theorem same_list {α : Type} {la lb : List α} {n k : Nat} (h1 : la.length = n) (h2 : lb.length = n) (hk : n ≤ k) (h : ∀ j, j < k → la[j]? = lb[j]?) : la = lb := by
  apply List.ext_getElem?
  intro i
  rcases Nat.lt_or_ge i n with hi | hi
  · exact h i (by omega)
  · rw [List.getElem?_eq_none (by omega), List.getElem?_eq_none (by omega)]

set_option maxHeartbeats 1000000 in
theorem sameKey_walk (n : Nat) (A B : Option Addr) (ca cb : Nat) (la lb : List KeyD) (w : World) (ha : RowsAt w A 2 (la.map KeyD.cells)) (hb : RowsAt w B 2 (lb.map KeyD.cells)) (hla : Hid (la.length = n)) (hlb : Hid (lb.length = n)) (hn : n * 2 ≤ 9223372036854775807) :
    Calls Try.prog 50 #[.slice A n ca, .slice B n cb] w fun e w' => e = .returned (.bool (decide (la = lb))) ∧ Drawn w w' := by
  have HA := Lib.hid ha
  have HB := Lib.hid hb
  clear ha hb
  go_enter Try.func50, Try.ntmps50
  go_wp2
  go_loopw [5] (fun v wr => ∃ k : Nat, k ≤ n ∧ v = .int .i64 k ∧ Drawn w wr ∧ ∀ j, j < k → la[j]? = lb[j]?) (fun v _ => n - (intOf v).toNat)
  case atStart => exact ⟨0, Nat.zero_le _, rfl, Drawn.refl _, fun j hj => absurd hj (by omega)⟩
  case round =>
    obtain ⟨k, hk, rfl, hd, hr⟩ := hrel
    have HR := Lib.hid hr
    clear hr
    by_cases hlt : k < n
    · obtain ⟨ea, hea⟩ : ∃ e, la[k]? = some e := ⟨_, List.getElem?_eq_getElem (by rw [hla.out]; exact hlt)⟩
      obtain ⟨eb, heb⟩ : ∃ e, lb[k]? = some e := ⟨_, List.getElem?_eq_getElem (by rw [hlb.out]; exact hlt)⟩
      obtain ⟨ga, oa, rfl, ra⟩ := row_at (HA.out.drawn hd) k ea.cells (by rw [List.getElem?_map, hea]; rfl)
      obtain ⟨gb, ob, rfl, rb⟩ := row_at (HB.out.drawn hd) k eb.cells (by rw [List.getElem?_map, heb]; rfl)
      have HNE : Hid (ea = eb → ∀ j, j < k + 1 → la[j]? = lb[j]?) := fun e j hj => by
        rcases Nat.lt_or_ge j k with h | h
        · exact HR.out j h
        · obtain rfl : j = k := by omega
          rw [hea, heb, e]
      have HNN : Hid (ea ≠ eb → la ≠ lb) := fun e h => by
        rw [h, heb] at hea
        injection hea with hea
        exact e hea.symm
      clear hea heb
      have hneq : ∀ W' : World, (binOp .neq 43 (.agg ea.cells.toArray) (.agg eb.cells.toArray)).run Try.prog W' = .ok (.bool (!decide (ea = eb))) W' := fun W' => neq_run (w := W') rfl rfl (eq_key 9998 W' ea eb)
      have ra0 : wr.cell? ⟨ga, oa + k * 2, none⟩ = some (.int .i64 ea.dir) := ra 0 _ rfl
      have ra1 : wr.cell? ⟨ga, oa + k * 2 + 1, none⟩ = some (.string ea.name) := ra 1 _ rfl
      have rb0 : wr.cell? ⟨gb, ob + k * 2, none⟩ = some (.int .i64 eb.dir) := rb 0 _ rfl
      have rb1 : wr.cell? ⟨gb, ob + k * 2 + 1, none⟩ = some (.string eb.name) := rb 1 _ rfl
      clear ra rb
      by_cases e : ea = eb
      · have hee : (!decide (ea = eb)) = false := by simp [e]
        have HN := Lib.hid (HNE.out e)
        rw [hee] at hneq
        clear hee e HNE HNN
        obtain ⟨pd, pn⟩ := ea
        obtain ⟨rd, rn⟩ := eb
        simp only [KeyD.cells] at hneq
        go_wp2
        go_quiet (fail)
        go_wp2
        go_roundw
        case rel => exact ⟨k + 1, by omega, by go_num, hd.drewN _, HN.out⟩
        case measure => simp [intOf]; omega
      · have hee : (!decide (ea = eb)) = true := by simp [e]
        have HN := Lib.hid (HNN.out e)
        rw [hee] at hneq
        clear hee e HNE HNN
        obtain ⟨pd, pn⟩ := ea
        obtain ⟨rd, rn⟩ := eb
        simp only [KeyD.cells] at hneq
        go_wp2
        go_quiet (fail)
        go_wp2
        go_ret
        exact ⟨bb (decide_eq_false HN.out).symm, hd.drewN _⟩
    · go_wp2
      go_ret
      exact ⟨bb (decide_eq_true (same_list hla.out hlb.out (by omega) HR.out)).symm, hd⟩
theorem sameKey_any (A B : Option Addr) (ca cb : Nat) (la lb : List KeyD) (w : World) (ha : RowsAt w A 2 (la.map KeyD.cells)) (hb : RowsAt w B 2 (lb.map KeyD.cells)) (hla : la.length * 2 ≤ 9223372036854775807) :
    Calls Try.prog 50 #[.slice A la.length ca, .slice B lb.length cb] w fun e w' => e = .returned (.bool (decide (la = lb))) ∧ Drawn w w' := by
  by_cases hl : la.length = lb.length
  · rw [← hl]
    exact sameKey_walk la.length A B ca cb la lb w ha hb (Lib.hid rfl) (Lib.hid hl.symm) hla
  · have hl' : ((la.length : Int) != (lb.length : Int)) = true := by rw [bne_iff_ne]; omega
    go_enter Try.func50, Try.ntmps50
    go_wp2
    go_ret
    exact ⟨bb (decide_eq_false (fun e => hl (by rw [e]))).symm, Drawn.refl _⟩

set_option maxHeartbeats 1000000 in
theorem sameEntry_walk (n : Nat) (A B : Option Addr) (ca cb : Nat) (la lb : List EntryD) (w : World) (ha : RowsAt w A 7 (la.map EntryD.cells)) (hb : RowsAt w B 7 (lb.map EntryD.cells)) (hla : Hid (la.length = n)) (hlb : Hid (lb.length = n)) (hn : n * 7 ≤ 9223372036854775807) :
    Calls Try.prog 49 #[.slice A n ca, .slice B n cb] w fun e w' => e = .returned (.bool (decide (la = lb))) ∧ Drawn w w' := by
  have HA := Lib.hid ha
  have HB := Lib.hid hb
  clear ha hb
  go_enter Try.func49, Try.ntmps49
  go_wp2
  go_loopw [5] (fun v wr => ∃ k : Nat, k ≤ n ∧ v = .int .i64 k ∧ Drawn w wr ∧ ∀ j, j < k → la[j]? = lb[j]?) (fun v _ => n - (intOf v).toNat)
  case atStart => exact ⟨0, Nat.zero_le _, rfl, Drawn.refl _, fun j hj => absurd hj (by omega)⟩
  case round =>
    obtain ⟨k, hk, rfl, hd, hr⟩ := hrel
    have HR := Lib.hid hr
    clear hr
    by_cases hlt : k < n
    · obtain ⟨ea, hea⟩ : ∃ e, la[k]? = some e := ⟨_, List.getElem?_eq_getElem (by rw [hla.out]; exact hlt)⟩
      obtain ⟨eb, heb⟩ : ∃ e, lb[k]? = some e := ⟨_, List.getElem?_eq_getElem (by rw [hlb.out]; exact hlt)⟩
      obtain ⟨ga, oa, rfl, ra⟩ := row_at (HA.out.drawn hd) k ea.cells (by rw [List.getElem?_map, hea]; rfl)
      obtain ⟨gb, ob, rfl, rb⟩ := row_at (HB.out.drawn hd) k eb.cells (by rw [List.getElem?_map, heb]; rfl)
      have HNE : Hid (ea = eb → ∀ j, j < k + 1 → la[j]? = lb[j]?) := fun e j hj => by
        rcases Nat.lt_or_ge j k with h | h
        · exact HR.out j h
        · obtain rfl : j = k := by omega
          rw [hea, heb, e]
      have HNN : Hid (ea ≠ eb → la ≠ lb) := fun e h => by
        rw [h, heb] at hea
        injection hea with hea
        exact e hea.symm
      clear hea heb
      have hneq : ∀ W' : World, (binOp .neq 47 (.agg ea.cells.toArray) (.agg eb.cells.toArray)).run Try.prog W' = .ok (.bool (!decide (ea = eb))) W' := fun W' => neq_run (w := W') rfl rfl (eq_entry 9997 W' ea eb)
      have ra0 : wr.cell? ⟨ga, oa + k * 7, none⟩ = some (.int .i64 ea.key.dir) := ra 0 _ rfl
      have ra1 : wr.cell? ⟨ga, oa + k * 7 + 1, none⟩ = some (.string ea.key.name) := ra 1 _ rfl
      have ra2 : wr.cell? ⟨ga, oa + k * 7 + 2, none⟩ = some (.bool ea.neg) := ra 2 _ rfl
      have ra3 : wr.cell? ⟨ga, oa + k * 7 + 3, none⟩ = some (.int .i64 ea.node.id) := ra 3 _ rfl
      have ra4 : wr.cell? ⟨ga, oa + k * 7 + 4, none⟩ = some (.int .i64 ea.node.kind) := ra 4 _ rfl
      have ra5 : wr.cell? ⟨ga, oa + k * 7 + 5, none⟩ = some (.int .i64 ea.node.mode) := ra 5 _ rfl
      have ra6 : wr.cell? ⟨ga, oa + k * 7 + 6, none⟩ = some (.string ea.node.target) := ra 6 _ rfl
      have rb0 : wr.cell? ⟨gb, ob + k * 7, none⟩ = some (.int .i64 eb.key.dir) := rb 0 _ rfl
      have rb1 : wr.cell? ⟨gb, ob + k * 7 + 1, none⟩ = some (.string eb.key.name) := rb 1 _ rfl
      have rb2 : wr.cell? ⟨gb, ob + k * 7 + 2, none⟩ = some (.bool eb.neg) := rb 2 _ rfl
      have rb3 : wr.cell? ⟨gb, ob + k * 7 + 3, none⟩ = some (.int .i64 eb.node.id) := rb 3 _ rfl
      have rb4 : wr.cell? ⟨gb, ob + k * 7 + 4, none⟩ = some (.int .i64 eb.node.kind) := rb 4 _ rfl
      have rb5 : wr.cell? ⟨gb, ob + k * 7 + 5, none⟩ = some (.int .i64 eb.node.mode) := rb 5 _ rfl
      have rb6 : wr.cell? ⟨gb, ob + k * 7 + 6, none⟩ = some (.string eb.node.target) := rb 6 _ rfl
      clear ra rb
      by_cases e : ea = eb
      · have hee : (!decide (ea = eb)) = false := by simp [e]
        have HN := Lib.hid (HNE.out e)
        rw [hee] at hneq
        clear hee e HNE HNN
        obtain ⟨⟨pd, pn⟩, pg, ⟨pi, pk, pm, pt⟩⟩ := ea
        obtain ⟨⟨rd, rn⟩, rg, ⟨ri, rk, rm, rt⟩⟩ := eb
        simp only [EntryD.cells] at hneq
        go_wp2
        go_quiet (fail)
        go_wp2
        go_roundw
        case rel => exact ⟨k + 1, by omega, by go_num, hd.drewN _, HN.out⟩
        case measure => simp [intOf]; omega
      · have hee : (!decide (ea = eb)) = true := by simp [e]
        have HN := Lib.hid (HNN.out e)
        rw [hee] at hneq
        clear hee e HNE HNN
        obtain ⟨⟨pd, pn⟩, pg, ⟨pi, pk, pm, pt⟩⟩ := ea
        obtain ⟨⟨rd, rn⟩, rg, ⟨ri, rk, rm, rt⟩⟩ := eb
        simp only [EntryD.cells] at hneq
        go_wp2
        go_quiet (fail)
        go_wp2
        go_ret
        exact ⟨bb (decide_eq_false HN.out).symm, hd.drewN _⟩
    · go_wp2
      go_ret
      exact ⟨bb (decide_eq_true (same_list hla.out hlb.out (by omega) HR.out)).symm, hd⟩
theorem sameEntry_any (A B : Option Addr) (ca cb : Nat) (la lb : List EntryD) (w : World) (ha : RowsAt w A 7 (la.map EntryD.cells)) (hb : RowsAt w B 7 (lb.map EntryD.cells)) (hla : la.length * 7 ≤ 9223372036854775807) :
    Calls Try.prog 49 #[.slice A la.length ca, .slice B lb.length cb] w fun e w' => e = .returned (.bool (decide (la = lb))) ∧ Drawn w w' := by
  by_cases hl : la.length = lb.length
  · rw [← hl]
    exact sameEntry_walk la.length A B ca cb la lb w ha hb (Lib.hid rfl) (Lib.hid hl.symm) hla
  · have hl' : ((la.length : Int) != (lb.length : Int)) = true := by rw [bne_iff_ne]; omega
    go_enter Try.func49, Try.ntmps49
    go_wp2
    go_ret
    exact ⟨bb (decide_eq_false (fun e => hl (by rw [e]))).symm, Drawn.refl _⟩

end Go.Proofs.Ytmhcjkiaogimgaa
