/- Which numbers, texts, keys, entries and ops are plain: the program's checks. -/
import Derived.Test.YtmhcjkiaogimgaaRows
import Derived.Test.YtmhcjkiaogimgaaWirA
import Derived.Test.YtmhcjkiaogimgaaEqs
import Derived.StillTailTactics
import Derived.Deep.QuietTactic
import Derived.BigQuiet
import Derived.WalkSpells
namespace Go.Proofs.Ytmhcjkiaogimgaa
open Go.RowKit

theorem within_any (x a b : Int) (w : World) :
    Calls Try.prog 62 #[.int .i64 x, .int .i64 a, .int .i64 b] w fun e w' => e = .returned (.bool (okIn x a b)) ∧ w = w' := by
  by_cases h1 : a ≤ x
  · by_cases h2 : x ≤ b
    all_goals
      go_enter Try.func62, Try.ntmps62
      go_wp2_with fail
      go_ret
      exact ⟨bb (by simp [okIn, h1, h2]), rfl⟩
  · go_enter Try.func62, Try.ntmps62
    go_wp2_with fail
    go_ret
    exact ⟨bb (by simp [okIn]; omega), rfl⟩

theorem all_take {α : Type} (p : α → Bool) (l : List α) (d : α) (k : Nat) (h : k < l.length) : (l.take (k + 1)).all p = ((l.take k).all p && p (l.getD k d)) := by
  rw [List.take_succ_eq_append_getElem h, List.all_append]
  simp [List.getD_eq_getElem?_getD, List.getElem?_eq_getElem h]
theorem all_false {α : Type} (p : α → Bool) (l : List α) (d : α) (k : Nat) (h : k < l.length) (hk : p (l.getD k d) = false) : l.all p = false := by
  rw [List.all_eq_false]
  refine ⟨l.getD k d, ?_, by rw [hk]; simp⟩
  rw [List.getD_eq_getElem?_getD, List.getElem?_eq_getElem h]
  exact List.getElem_mem h

set_option maxHeartbeats 400000 in
theorem number_any (g n : Nat) (zs : List Int) (t : TypeId) (w : World) (h : Blk w g (ints .i64 zs).toArray t) (hn : zs.length = n) (hl : n ≤ 1000) :
    Calls Try.prog 63 #[.slice (some ⟨g, 0, none⟩) n n] w fun e w' => e = .returned (.bool (zs.all okN)) ∧ w = w' := by
  have H := Lib.hid h
  have HN := Lib.hid hn
  clear h hn
  go_enter Try.func63, Try.ntmps63
  go_wp2_with fail
  go_loop [7] (fun v => ∃ k : Nat, k ≤ n ∧ v = .int .i64 k ∧ Hid ((zs.take k).all okN = true)) (fun v => n - (intOf v).toNat)
  case atStart => exact ⟨0, Nat.zero_le _, rfl, by show _ = _; simp⟩
  case round =>
    obtain ⟨k, hk, rfl, hall⟩ := hrel
    by_cases hlt : k < n
    · have hc := H.out.cell k
      rw [List.getElem?_toArray, ints_get _ _ _ (by rw [HN.out]; exact hlt)] at hc
      have hat := Lib.hid (all_take okN zs 0 k (by rw [HN.out]; exact hlt))
      have haf := Lib.hid (all_false okN zs 0 k (by rw [HN.out]; exact hlt))
      generalize zs.getD k 0 = x at *
      have hin : (0 : Int) ≤ (k : Int) := by omega
      cases hx : okN x with
      | true =>
        have hx' : okIn x 0 1099511627776 = true := hx
        have hnext : Hid ((zs.take (k + 1)).all okN = true) := by show _ = _; rw [hat.out, hall.out, hx]; rfl
        clear hx
        go_wp2_with (go_at_call 62; refine (within_any _ _ _ _).mono ?_; rintro e w' ⟨rfl, rfl⟩; rw [hx'])
        go_round
        case rel => exact ⟨k + 1, by omega, by go_num, hnext⟩
        case measure => simp [intOf]; omega
      | false =>
        have hx' : okIn x 0 1099511627776 = false := hx
        have hfin := Lib.hid (haf.out hx)
        clear hx
        go_wp2_with (go_at_call 62; refine (within_any _ _ _ _).mono ?_; rintro e w' ⟨rfl, rfl⟩; rw [hx'])
        go_ret
        exact ⟨bb hfin.out.symm, rfl⟩
    · obtain rfl : k = n := by omega
      have hfin : Hid (zs.all okN = true) := by
        have := hall.out
        rwa [List.take_of_length_le (by rw [HN.out]; exact Nat.le_refl _)] at this
      go_wp2_with fail
      go_ret
      exact ⟨bb hfin.out.symm, rfl⟩

set_option maxHeartbeats 400000 in
theorem text_any (g n : Nat) (ss : List ByteArray) (t : TypeId) (w : World) (h : Blk w g (strs ss).toArray t) (hn : ss.length = n) (hl : n ≤ 1000) :
    Calls Try.prog 86 #[.slice (some ⟨g, 0, none⟩) n n] w fun e w' => e = .returned (.bool (ss.all okT)) ∧ w = w' := by
  have H := Lib.hid h
  have HN := Lib.hid hn
  clear h hn
  go_enter Try.func86, Try.ntmps86
  go_wp2_with fail
  go_loop [7] (fun v => ∃ k : Nat, k ≤ n ∧ v = .int .i64 k ∧ Hid ((ss.take k).all okT = true)) (fun v => n - (intOf v).toNat)
  case atStart => exact ⟨0, Nat.zero_le _, rfl, by show _ = _; simp⟩
  case round =>
    obtain ⟨k, hk, rfl, hall⟩ := hrel
    by_cases hlt : k < n
    · have hc := H.out.cell k
      rw [List.getElem?_toArray, strs_get _ _ (by rw [HN.out]; exact hlt)] at hc
      have hat := Lib.hid (all_take okT ss ByteArray.empty k (by rw [HN.out]; exact hlt))
      have haf := Lib.hid (all_false okT ss ByteArray.empty k (by rw [HN.out]; exact hlt))
      generalize ss.getD k ByteArray.empty = x at *
      have hin : (0 : Int) ≤ (k : Int) := by omega
      cases hx : okT x with
      | true =>
        have hx' : decide (96 < x.size) = false := by unfold okT at hx; simp at hx ⊢; omega
        have hx2 : ¬ 96 < x.size := by simpa using hx'
        have hnext : Hid ((ss.take (k + 1)).all okT = true) := by show _ = _; rw [hat.out, hall.out, hx]; rfl
        clear hx
        go_wp2_with fail
        go_round
        case rel => exact ⟨k + 1, by omega, by go_num, hnext⟩
        case measure => simp [intOf]; omega
      | false =>
        have hx' : decide (96 < x.size) = true := by unfold okT at hx; simp at hx ⊢; omega
        have hx2 : 96 < x.size := by simpa using hx'
        have hfin := Lib.hid (haf.out hx)
        clear hx
        go_wp2_with fail
        go_ret
        exact ⟨bb hfin.out.symm, rfl⟩
    · obtain rfl : k = n := by omega
      have hfin : Hid (ss.all okT = true) := by
        have := hall.out
        rwa [List.take_of_length_le (by rw [HN.out]; exact Nat.le_refl _)] at this
      go_wp2_with fail
      go_ret
      exact ⟨bb hfin.out.symm, rfl⟩

/-- .. of numbers that were just laid. -/
theorem number_lit (H n : Nat) (zs : List Int) (b : Bool) (cs : Array Value) (W : World) (hH : W.heap.size = H) (hcs : cs = (ints .i64 zs).toArray) (hn : zs.length = n) (hl : n ≤ 1000) (hb : zs.all okN = b) :
    Calls Try.prog 63 #[.slice (some ⟨H, 0, none⟩) n n] (W.alloc (.cells cs 3)) fun e w' => e = .returned (.bool b) ∧ W.alloc (.cells cs 3) = w' := by
  subst hH; subst hcs; subst hb
  exact number_any _ n zs _ _ (Blk.new _ _ _) hn hl
theorem text_lit (H n : Nat) (ss : List ByteArray) (b : Bool) (cs : Array Value) (W : World) (hH : W.heap.size = H) (hcs : cs = (strs ss).toArray) (hn : ss.length = n) (hl : n ≤ 1000) (hb : ss.all okT = b) :
    Calls Try.prog 86 #[.slice (some ⟨H, 0, none⟩) n n] (W.alloc (.cells cs 9)) fun e w' => e = .returned (.bool b) ∧ W.alloc (.cells cs 9) = w' := by
  subst hH; subst hcs; subst hb
  exact text_any _ n ss _ _ (Blk.new _ _ _) hn hl

theorem bel_al {w0 w : World} (h : Below w0.heap.size w0 w) (o : Obj) : Below w0.heap.size w0 (w.alloc o) := h.alloc h.size o
/-- What a check answers: a truth, and new memory alone. -/
def Tells (b : Bool) (w : World) (e : Ending) (w' : World) : Prop := e = .returned (.bool b) ∧ Below w.heap.size w w'

set_option maxHeartbeats 400000 in
theorem plainKey_any (k : KeyD) (w : World) : Calls Try.prog 67 #[.agg k.cells.toArray] w (Tells k.ok w) := by
  obtain ⟨d, s⟩ := k
  show Calls Try.prog _ #[.agg #[.int .i64 d, .string s]] w _
  cases h1 : okN d with
  | true =>
    have h1' : Hid ([d].all okN = true) := by show _ = _; simp [h1]
    have h2 : Hid (KeyD.ok ⟨d, s⟩ = [s].all okT) := by show _ = _; simp [KeyD.ok, h1]
    clear h1
    go_enter Try.func67, Try.ntmps67
    go_wp2_with fail
    refine (number_lit _ _ [d] true _ _ (by simp) rfl rfl (by simp) h1'.out).mono ?_
    rintro e w1 ⟨rfl, rfl⟩
    go_wp2_with fail
    refine (text_lit _ _ [s] _ _ _ (by simp) rfl rfl (by simp) rfl).mono ?_
    rintro e w1 ⟨rfl, rfl⟩
    rw [← h2.out]
    go_wp2_with fail
    go_ret
    exact ⟨rfl, bel_al (bel_al (bel_al (Below.refl _ _) _) _) _⟩
  | false =>
    have h1' : Hid ([d].all okN = false) := by show _ = _; simp [h1]
    have h2 : Hid (KeyD.ok ⟨d, s⟩ = false) := by show _ = _; simp [KeyD.ok, h1]
    clear h1
    go_enter Try.func67, Try.ntmps67
    go_wp2_with fail
    refine (number_lit _ _ [d] false _ _ (by simp) rfl rfl (by simp) h1'.out).mono ?_
    rintro e w1 ⟨rfl, rfl⟩
    go_wp2_with fail
    go_ret
    rw [h2.out]
    exact ⟨rfl, bel_al (bel_al (Below.refl _ _) _) _⟩

set_option maxHeartbeats 1000000 in
theorem plainOp_any (o : OpD) (w : World) : Calls Try.prog 65 #[.agg o.cells.toArray] w (Tells o.ok w) := by
  obtain ⟨k, d, s, t, n, m, g⟩ := o
  show Calls Try.prog _ #[.agg #[.int .i64 k, .int .i64 d, .string s, .int .i64 t, .string n, .int .i64 m, .string g]] w _
  cases h0 : okIn k 1 11 with
  | true =>
    cases h1 : (okN d && okN t && okN m) with
    | true =>
      have h1' : Hid ([d, t, m].all okN = true) := by show _ = _; simpa [Bool.and_assoc] using h1
      have h2 : Hid (OpD.ok ⟨k, d, s, t, n, m, g⟩ = [s, n, g].all okT) := by show _ = _; simp [OpD.ok, h0, h1, Bool.and_assoc]
      clear h1
      go_enter Try.func65, Try.ntmps65
      go_wp2_with fail
      refine (within_any _ _ _ _).mono ?_
      rintro e w1 ⟨rfl, rfl⟩
      rw [h0]
      go_wp2_with fail
      refine (number_lit _ _ [d, t, m] true _ _ (by simp) rfl rfl (by simp) h1'.out).mono ?_
      rintro e w1 ⟨rfl, rfl⟩
      go_wp2_with fail
      refine (text_lit _ _ [s, n, g] _ _ _ (by simp) rfl rfl (by simp) rfl).mono ?_
      rintro e w1 ⟨rfl, rfl⟩
      rw [← h2.out]
      go_wp2_with fail
      go_ret
      exact ⟨rfl, bel_al (bel_al (bel_al (Below.refl _ _) _) _) _⟩
    | false =>
      have h1' : Hid ([d, t, m].all okN = false) := by show _ = _; simpa [Bool.and_assoc] using h1
      have h2 : Hid (OpD.ok ⟨k, d, s, t, n, m, g⟩ = false) := by show _ = _; simp only [OpD.ok, h1, Bool.and_false, Bool.false_and]
      clear h1
      go_enter Try.func65, Try.ntmps65
      go_wp2_with fail
      refine (within_any _ _ _ _).mono ?_
      rintro e w1 ⟨rfl, rfl⟩
      rw [h0]
      go_wp2_with fail
      refine (number_lit _ _ [d, t, m] false _ _ (by simp) rfl rfl (by simp) h1'.out).mono ?_
      rintro e w1 ⟨rfl, rfl⟩
      go_wp2_with fail
      go_ret
      rw [h2.out]
      exact ⟨rfl, bel_al (bel_al (Below.refl _ _) _) _⟩
  | false =>
    have h2 : Hid (OpD.ok ⟨k, d, s, t, n, m, g⟩ = false) := by show _ = _; simp only [OpD.ok, h0, Bool.false_and]
    go_enter Try.func65, Try.ntmps65
    go_wp2_with fail
    refine (within_any _ _ _ _).mono ?_
    rintro e w1 ⟨rfl, rfl⟩
    rw [h0]
    go_wp2_with fail
    go_ret
    rw [h2.out]
    exact ⟨rfl, bel_al (Below.refl _ _) _⟩

theorem entry_kept {w w1 : World} {x : EntryD} {g : Nat} (h : Blk w g x.cells.toArray 47) (b1 : Below w.heap.size w w1) :
    w1.cell? ⟨g, 0, none⟩ = some (.int .i64 x.key.dir) ∧ w1.cell? ⟨g, 1, none⟩ = some (.string x.key.name) ∧ w1.cell? ⟨g, 2, none⟩ = some (.bool x.neg) ∧ w1.cell? ⟨g, 3, none⟩ = some (.int .i64 x.node.id) ∧ w1.cell? ⟨g, 4, none⟩ = some (.int .i64 x.node.kind) ∧ w1.cell? ⟨g, 5, none⟩ = some (.int .i64 x.node.mode) ∧ w1.cell? ⟨g, 6, none⟩ = some (.string x.node.target) := by
  have k1 := h.kp (S := fun _ => False) (Kp.of_below b1) (fun h => h)
  exact ⟨by rw [k1.cell]; rfl, by rw [k1.cell]; rfl, by rw [k1.cell]; rfl, by rw [k1.cell]; rfl, by rw [k1.cell]; rfl, by rw [k1.cell]; rfl, by rw [k1.cell]; rfl⟩
set_option maxHeartbeats 2000000 in
theorem plainEntry_any (x : EntryD) (w : World) : Calls Try.prog 66 #[.agg x.cells.toArray] w (Tells x.ok w) := by
  obtain ⟨⟨kd, ks⟩, neg, ⟨id, kind, mode, target⟩⟩ := x
  show Calls Try.prog _ #[.agg #[.int .i64 kd, .string ks, .bool neg, .int .i64 id, .int .i64 kind, .int .i64 mode, .string target]] w _
  have HB : Hid (∀ w1, Below (w.heap.size + 1) (w.alloc (.cells #[.int .i64 kd, .string ks, .bool neg, .int .i64 id, .int .i64 kind, .int .i64 mode, .string target] 47)) w1 → Below w.heap.size w w1) := fun w1 h =>
    bel_next (bel_al (Below.refl _ _) _) (by simpa using h)
  cases h0 : KeyD.ok ⟨kd, ks⟩ with
  | true =>
    cases neg with
    | true =>
      have hq : ∀ W : World, (binOp .eql 45 (.agg #[.int .i64 id, .int .i64 kind, .int .i64 mode, .string target]) (.agg #[.int .i64 0, .int .i64 0, .int .i64 0, .string ⟨#[]⟩])).run Try.prog W = .ok (.bool (decide ((⟨id, kind, mode, target⟩ : NodeD) = NodeD.zero))) W := fun W => eql_run rfl rfl (eq_node 9998 W ⟨id, kind, mode, target⟩ NodeD.zero)
      have hok : Hid (EntryD.ok ⟨⟨kd, ks⟩, true, ⟨id, kind, mode, target⟩⟩ = decide ((⟨id, kind, mode, target⟩ : NodeD) = NodeD.zero)) := by show _ = _; simp [EntryD.ok, h0]
      generalize decide ((⟨id, kind, mode, target⟩ : NodeD) = NodeD.zero) = b at *
      go_enter Try.func66, Try.ntmps66
      go_wp2_with fail
      refine (plainKey_any ⟨kd, ks⟩ _).mono ?_
      rintro e w1 ⟨rfl, b1⟩
      rw [h0]
      obtain ⟨c0, c1, c2, c3, c4, c5, c6⟩ := entry_kept (x := ⟨⟨kd, ks⟩, true, ⟨id, kind, mode, target⟩⟩) (Blk.new w _ _) b1
      go_wp2_with fail
      go_ret
      rw [hok.out]
      exact ⟨rfl, HB.out _ (by simpa using b1)⟩
    | false =>
      cases h1 : (okN id && okN mode) with
      | true =>
        have h1' : Hid ([id, mode].all okN = true) := by show _ = _; simpa using h1
        cases h2 : okIn kind 1 3 with
        | true =>
          have hok : Hid (EntryD.ok ⟨⟨kd, ks⟩, false, ⟨id, kind, mode, target⟩⟩ = [target].all okT) := by show _ = _; simp [EntryD.ok, h0, h1, h2]
          clear h1
          go_enter Try.func66, Try.ntmps66
          go_wp2_with fail
          refine (plainKey_any ⟨kd, ks⟩ _).mono ?_
          rintro e w1 ⟨rfl, b1⟩
          rw [h0]
          obtain ⟨c0, c1, c2, c3, c4, c5, c6⟩ := entry_kept (x := ⟨⟨kd, ks⟩, false, ⟨id, kind, mode, target⟩⟩) (Blk.new w _ _) b1
          have B1 := HB.out _ (by simpa using b1)
          have hlt := World.block_lt_of_cell? w1 _ c0
          go_wp2_with fail
          refine (number_lit _ _ [id, mode] true _ _ (by simp) rfl rfl (by simp) h1'.out).mono ?_
          rintro e w2 ⟨rfl, rfl⟩
          go_wp2_with fail
          refine (within_any _ _ _ _).mono ?_
          rintro e w2 ⟨rfl, rfl⟩
          rw [h2]
          go_wp2_with fail
          refine (text_lit _ _ [target] _ _ _ (by simp) rfl rfl (by simp) rfl).mono ?_
          rintro e w2 ⟨rfl, rfl⟩
          rw [← hok.out]
          go_wp2_with fail
          go_ret
          exact ⟨rfl, bel_al (bel_al B1 _) _⟩
        | false =>
          have hok : Hid (EntryD.ok ⟨⟨kd, ks⟩, false, ⟨id, kind, mode, target⟩⟩ = false) := by show _ = _; simp [EntryD.ok, h2]
          clear h1
          go_enter Try.func66, Try.ntmps66
          go_wp2_with fail
          refine (plainKey_any ⟨kd, ks⟩ _).mono ?_
          rintro e w1 ⟨rfl, b1⟩
          rw [h0]
          obtain ⟨c0, c1, c2, c3, c4, c5, c6⟩ := entry_kept (x := ⟨⟨kd, ks⟩, false, ⟨id, kind, mode, target⟩⟩) (Blk.new w _ _) b1
          have B1 := HB.out _ (by simpa using b1)
          have hlt := World.block_lt_of_cell? w1 _ c0
          go_wp2_with fail
          refine (number_lit _ _ [id, mode] true _ _ (by simp) rfl rfl (by simp) h1'.out).mono ?_
          rintro e w2 ⟨rfl, rfl⟩
          go_wp2_with fail
          refine (within_any _ _ _ _).mono ?_
          rintro e w2 ⟨rfl, rfl⟩
          rw [h2]
          go_wp2_with fail
          go_ret
          rw [hok.out]
          exact ⟨rfl, bel_al B1 _⟩
      | false =>
        have h1' : Hid ([id, mode].all okN = false) := by show _ = _; simpa using h1
        have hok : Hid (EntryD.ok ⟨⟨kd, ks⟩, false, ⟨id, kind, mode, target⟩⟩ = false) := by
          show _ = _
          simp only [EntryD.ok, Bool.false_eq_true, if_false, h1, Bool.and_false, Bool.false_and]
        clear h1
        go_enter Try.func66, Try.ntmps66
        go_wp2_with fail
        refine (plainKey_any ⟨kd, ks⟩ _).mono ?_
        rintro e w1 ⟨rfl, b1⟩
        rw [h0]
        obtain ⟨c0, c1, c2, c3, c4, c5, c6⟩ := entry_kept (x := ⟨⟨kd, ks⟩, false, ⟨id, kind, mode, target⟩⟩) (Blk.new w _ _) b1
        have B1 := HB.out _ (by simpa using b1)
        go_wp2_with fail
        refine (number_lit _ _ [id, mode] false _ _ (by simp) rfl rfl (by simp) h1'.out).mono ?_
        rintro e w2 ⟨rfl, rfl⟩
        go_wp2_with fail
        go_ret
        rw [hok.out]
        exact ⟨rfl, bel_al B1 _⟩
  | false =>
    have hok : Hid (EntryD.ok ⟨⟨kd, ks⟩, neg, ⟨id, kind, mode, target⟩⟩ = false) := by show _ = _; simp [EntryD.ok, h0]
    cases neg
    all_goals
      go_enter Try.func66, Try.ntmps66
      go_wp2_with fail
      refine (plainKey_any ⟨kd, ks⟩ _).mono ?_
      rintro e w1 ⟨rfl, b1⟩
      rw [h0]
      have B1 := HB.out _ (by simpa using b1)
      go_wp2_with fail
      go_ret
      rw [hok.out]
      exact ⟨rfl, B1⟩

end Go.Proofs.Ytmhcjkiaogimgaa
