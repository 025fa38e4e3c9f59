/- Which messages are plain: the document's check. -/
import Derived.Test.YtmhcjkiaogimgaaWirL
import Derived.Test.YtmhcjkiaogimgaaWirE
namespace Go.Proofs.Ytmhcjkiaogimgaa
open Go.RowKit

set_option maxHeartbeats 4000000 in
theorem rplain_bad (m : MsgD) (s : Sls) (xs : Array Value) (w : World) (hx : MsgArg w xs m s) (hbad : Bad m.ma m.mb) : Calls Try.prog 41 #[.agg xs] w (Tells false w) := by
  obtain ⟨W, hW⟩ : ∃ W, W = w.alloc (.cells xs 34) := ⟨_, rfl⟩
  have hM := hx.box W hW
  obtain ⟨c0, c1, c2, c3, c4, c5, c6, c14, c15⟩ := hM.nums
  have hlt := hM.blk.lt
  have HW := Lib.hid hW
  clear hx hW
  go_enter Try.func41, Try.ntmps41
  go_upto_region 1 with fail
  rw [← HW.out]
  go_wp2_with fail
  refine (parts_no hbad _).mono ?_
  rintro e w1 ⟨rfl, rfl⟩
  go_wp2_with fail
  go_ret
  exact ⟨rfl, hM.bel⟩

set_option maxRecDepth 100000 in
set_option maxHeartbeats 8000000 in
theorem rplain_yes (m : MsgD) (s : Sls) (xs : Array Value) (w : World) (hx : MsgArg w xs m s) (ee nn : Nat) (hmv : MV m.ma m.mb ee nn) : Calls Try.prog 41 #[.agg xs] w (Tells m.ok w) := by
  obtain ⟨W, hW⟩ : ∃ W, W = w.alloc (.cells xs 34) := ⟨_, rfl⟩
  have hM := hx.box W hW
  obtain ⟨c0, c1, c2, c3, c4, c5, c6, c14, c15⟩ := hM.nums
  have hlt := hM.blk.lt
  have HW := Lib.hid hW
  clear hx hW
  by_cases k1 : 1 ≤ m.kind
  · by_cases k2 : m.kind ≤ 4
    · skip
      cases n0 : okN m.client with
      | false =>
        have hok : Hid (m.ok = false) := by show _ = _; simp [MsgD.ok, MsgD.nums, n0]
        go_enter Try.func41, Try.ntmps41
        go_upto_region 1 with fail
        rw [← HW.out]
        go_wp2_with fail
        refine (parts_yes hmv _).mono ?_
        rintro e w1 ⟨rfl, rfl⟩
        go_wp2_with (first | (go_at_call 69; refine (bad_any _ _).mono ?_; rintro e w1 ⟨rfl, rfl⟩))
        go_ret
        exact ⟨bb hok.out.symm, hM.bel⟩
      | true =>
        cases n1 : okN m.life with
        | false =>
          have hok : Hid (m.ok = false) := by show _ = _; simp [MsgD.ok, MsgD.nums, n1]
          go_enter Try.func41, Try.ntmps41
          go_upto_region 1 with fail
          rw [← HW.out]
          go_wp2_with fail
          refine (parts_yes hmv _).mono ?_
          rintro e w1 ⟨rfl, rfl⟩
          go_wp2_with (first | (go_at_call 69; refine (bad_any _ _).mono ?_; rintro e w1 ⟨rfl, rfl⟩))
          go_ret
          exact ⟨bb hok.out.symm, hM.bel⟩
        | true =>
          cases n2 : okN m.seq with
          | false =>
            have hok : Hid (m.ok = false) := by show _ = _; simp [MsgD.ok, MsgD.nums, n2]
            go_enter Try.func41, Try.ntmps41
            go_upto_region 1 with fail
            rw [← HW.out]
            go_wp2_with fail
            refine (parts_yes hmv _).mono ?_
            rintro e w1 ⟨rfl, rfl⟩
            go_wp2_with (first | (go_at_call 69; refine (bad_any _ _).mono ?_; rintro e w1 ⟨rfl, rfl⟩))
            go_ret
            exact ⟨bb hok.out.symm, hM.bel⟩
          | true =>
            cases n3 : okN m.version with
            | false =>
              have hok : Hid (m.ok = false) := by show _ = _; simp [MsgD.ok, MsgD.nums, n3]
              go_enter Try.func41, Try.ntmps41
              go_upto_region 1 with fail
              rw [← HW.out]
              go_wp2_with fail
              refine (parts_yes hmv _).mono ?_
              rintro e w1 ⟨rfl, rfl⟩
              go_wp2_with (first | (go_at_call 69; refine (bad_any _ _).mono ?_; rintro e w1 ⟨rfl, rfl⟩))
              go_ret
              exact ⟨bb hok.out.symm, hM.bel⟩
            | true =>
              cases n4 : okN m.err with
              | false =>
                have hok : Hid (m.ok = false) := by show _ = _; simp [MsgD.ok, MsgD.nums, n4]
                go_enter Try.func41, Try.ntmps41
                go_upto_region 1 with fail
                rw [← HW.out]
                go_wp2_with fail
                refine (parts_yes hmv _).mono ?_
                rintro e w1 ⟨rfl, rfl⟩
                go_wp2_with (first | (go_at_call 69; refine (bad_any _ _).mono ?_; rintro e w1 ⟨rfl, rfl⟩))
                go_ret
                exact ⟨bb hok.out.symm, hM.bel⟩
              | true =>
                have h1 : okIn m.kind 1 4 = true := by simp [okIn, k1, k2]
                have h2 : m.nums.all okN = true := by simp [MsgD.nums, n0, n1, n2, n3, n4]
                have hhd : Hid (m.ok = ((if m.kind = 1 then m.op.ok else decide (m.op = OpD.zero)) &&
                  ((decide (m.kind = 2) || decide (m.entries.length = 0)) && decide (m.entries.length ≤ 48)) && (decide (m.kind = 3) == decide (0 < m.keys.length) && decide (m.keys.length ≤ 48)) && m.entries.all EntryD.ok && m.keys.all KeyD.ok)) := by
                  show _ = _
                  simp only [MsgD.ok, h1, h2, Bool.true_and]
                have hkind : 1 ≤ m.kind ∧ m.kind ≤ 4 := ⟨k1, k2⟩
                go_enter Try.func41, Try.ntmps41
                go_upto_region 1 with fail
                rw [← HW.out]
                go_wp2_with fail
                refine (parts_yes hmv _).mono ?_
                rintro e w1 ⟨rfl, rfl⟩

                go_upto_region 4 with (first | (go_at_call 69; refine (bad_any _ _).mono ?_; rintro e w1 ⟨rfl, rfl⟩))
                clear c1 c2 c3 c4 c5 c6 h1 h2 n0 n1 n2 n3 n4 k1 k2
                rcases (show m.kind = 1 ∨ m.kind = 2 ∨ m.kind = 3 ∨ m.kind = 4 by omega) with hk | hk | hk | hk
                · have HK := Lib.hid hk
                  rw [hk] at c0
                  clear hk hkind

                  cases h3 : m.op.ok with
                  | false =>
                    go_wp2_with (first | ((with_reducible refine wpList_load_mop (op := ⟨_, Op.load 23 _, _, _, _, _⟩) ?_ _ rfl _ _ _ _ ?_ hM ?_); rfl; rfl))
                    refine (rplainOp_any m.op _).mono ?_
                    rintro e w4 ⟨rfl, b4⟩
                    rw [h3]
                    have hok : Hid (m.ok = false) := by show _ = _; rw [hhd.out]; simp [HK.out, h3]
                    go_wp2_with fail
                    all_goals
                      go_ret
                      exact ⟨bb hok.out.symm, (hM.next b4).bel⟩

                  | true =>
                    go_wp2_with (first | ((with_reducible refine wpList_load_mop (op := ⟨_, Op.load 23 _, _, _, _, _⟩) ?_ _ rfl _ _ _ _ ?_ hM ?_); rfl; rfl))
                    refine (rplainOp_any m.op _).mono ?_
                    rintro e w4 ⟨rfl, b4⟩
                    rw [h3]
                    have hM3 := hM.next b4
                    clear c0 c14 c15 hM hlt
                    obtain ⟨c0, -, -, -, -, -, -, c14, c15⟩ := hM3.nums
                    have hlt3 := hM3.blk.lt
                    rw [HK.out] at c0
                    by_cases he0 : m.entries.length = 0
                    · rw [he0] at c14
                      by_cases hk0 : m.keys.length = 0
                      · rw [hk0] at c15
                        have hfin : Hid (m.ok = true) := by show _ = _; rw [hhd.out, all_len0 EntryD.ok m.entries he0, all_len0 KeyD.ok m.keys hk0]; simp [HK.out, h3, he0, hk0]
                        go_wp2_with fail
                        go_loopw [6] (fun v wr => v = .int .i64 0 ∧ MsgIn w w.heap.size m s wr) (fun _ _ => 0)
                        case atStart => exact ⟨rfl, hM3⟩
                        case round =>
                          clear c0 c14 c15 hlt3
                          obtain ⟨rfl, hM4⟩ := hrel
                          obtain ⟨c0, -, -, -, -, -, -, c14, c15⟩ := hM4.nums
                          have hlt4 := hM4.blk.lt
                          rw [he0] at c14
                          rw [hk0] at c15
                          go_wp2_with fail
                          go_loopw [7] (fun v wr => v = .int .i64 0 ∧ MsgIn w w.heap.size m s wr) (fun _ _ => 0)
                          case atStart => exact ⟨rfl, hM4⟩
                          case round =>
                            clear c0 c14 c15 hlt4
                            obtain ⟨rfl, hM5⟩ := hrel
                            obtain ⟨-, -, -, -, -, -, -, -, c15⟩ := hM5.nums
                            have hlt5 := hM5.blk.lt
                            rw [hk0] at c15
                            go_wp2_with fail
                            go_ret
                            exact ⟨bb hfin.out.symm, hM5.bel⟩

                      · have hok : Hid (m.ok = false) := by show _ = _; rw [hhd.out]; simp [HK.out, hk0]
                        go_wp2_with fail
                        all_goals
                          go_ret
                          exact ⟨bb hok.out.symm, hM3.bel⟩

                    · have hok : Hid (m.ok = false) := by show _ = _; rw [hhd.out]; simp [HK.out, he0]
                      go_wp2_with fail
                      all_goals
                        go_ret
                        exact ⟨bb hok.out.symm, hM3.bel⟩

                · have HK := Lib.hid hk
                  rw [hk] at c0
                  clear hk hkind

                  have hq : ∀ W' : World, (binOp .neq 23 (.agg m.op.cells.toArray) (.agg #[.int .i64 0, .int .i64 0, .string ⟨#[]⟩, .int .i64 0, .string ⟨#[]⟩, .int .i64 0, .string ⟨#[]⟩])).run Try.prog W' = .ok (.bool (!decide (m.op = OpD.zero))) W' := fun W' => neq_run (w := W') rfl rfl (eq_op 9998 W' m.op OpD.zero)
                  cases h3 : decide (m.op = OpD.zero) with
                  | false =>
                    rw [h3] at hq
                    go_wp2_with (first | ((with_reducible refine wpList_load_mop (op := ⟨_, Op.load 23 _, _, _, _, _⟩) ?_ _ rfl _ _ _ _ ?_ hM ?_); rfl; rfl))
                    have hok : Hid (m.ok = false) := by show _ = _; rw [hhd.out]; simp [HK.out, of_decide_eq_false h3]
                    all_goals
                      go_ret
                      exact ⟨bb hok.out.symm, hM.bel⟩

                  | true =>
                    rw [h3] at hq
                    go_upto_region 6 with (first | ((with_reducible refine wpList_load_mop (op := ⟨_, Op.load 23 _, _, _, _, _⟩) ?_ _ rfl _ _ _ _ ?_ hM ?_); rfl; rfl))
                    have hM3 := hM
                    clear hM
                    have hlt3 := hlt
                    by_cases he : m.entries.length ≤ 48
                    · by_cases hk0 : m.keys.length = 0
                      · rw [hk0] at c15
                        have hrest : Hid (m.ok = m.entries.all EntryD.ok) := by show _ = _; rw [hhd.out, all_len0 KeyD.ok m.keys hk0]; simp [HK.out, of_decide_eq_true h3, he, hk0]
                        go_wp2_with fail
                        go_loopw [6] (fun v wr => ∃ k : Nat, k ≤ m.entries.length ∧ v = .int .i64 k ∧ MsgIn w w.heap.size m s wr ∧ Hid ((m.entries.take k).all EntryD.ok = true)) (fun v _ => m.entries.length - (intOf v).toNat)
                        case atStart => exact ⟨0, Nat.zero_le _, rfl, hM3, by show _ = _; simp⟩
                        case round =>
                          clear c0 c14 c15
                          obtain ⟨k, hk, rfl, hMr, hall⟩ := hrel
                          obtain ⟨c0, -, -, -, -, -, -, c14, c15⟩ := hMr.nums
                          have hltr := hMr.blk.lt
                          by_cases hlt : k < m.entries.length
                          · obtain ⟨g, o, hA, hg, hrow⟩ := hMr.ents.at_ k _ (getD_map EntryD.cells m.entries EntryD.zero k hlt)
                            have hat := Lib.hid (all_take EntryD.ok m.entries EntryD.zero k hlt)
                            have haf := Lib.hid (all_false EntryD.ok m.entries EntryD.zero k hlt)
                            generalize m.entries.getD k EntryD.zero = x at *
                            have hin : (0 : Int) ≤ (k : Int) := by omega
                            rw [hA] at c14
                            clear hA
                            cases hx : x.ok with
                            | true =>
                              have hnext : Hid ((m.entries.take (k + 1)).all EntryD.ok = true) := by show _ = _; rw [hat.out, hall.out, hx]; rfl
                              have HX := Lib.hid hx
                              clear hx hat haf hall
                              obtain ⟨⟨kd, ks⟩, neg, ⟨id, kind, mode, target⟩⟩ := x
                              change wr.rangeAt g (o + k * 7) [.int .i64 kd, .string ks, .bool neg, .int .i64 id, .int .i64 kind, .int .i64 mode, .string target] at hrow
                              go_wp2_with (first | ((with_reducible refine wpList_load_mid (op := ⟨_, Op.load 47 _, _, _, _, _⟩) rfl _ _ rfl _ _ ?_ _ _ hrow Try.underlying47 rfl ?_ ?_); (focus (first | (go_simp; done) | (go_simp; rfl))); (focus (exact size_entry))))
                              refine (rplainEntry_any ⟨⟨kd, ks⟩, neg, ⟨id, kind, mode, target⟩⟩ _).mono ?_
                              rintro e w6 ⟨rfl, b6⟩
                              rw [HX.out]
                              have hM6 := hMr.next b6
                              clear c0 c14 c15
                              go_wp2_with fail
                              go_roundw
                              case rel => exact ⟨k + 1, by omega, by go_num, hM6, hnext⟩
                              case measure => simp [intOf]; omega
                            | false =>
                              have hfin := Lib.hid (hrest.out.trans (haf.out hx))
                              have HX := Lib.hid hx
                              clear hx hat haf hall hrest
                              obtain ⟨⟨kd, ks⟩, neg, ⟨id, kind, mode, target⟩⟩ := x
                              change wr.rangeAt g (o + k * 7) [.int .i64 kd, .string ks, .bool neg, .int .i64 id, .int .i64 kind, .int .i64 mode, .string target] at hrow
                              go_wp2_with (first | ((with_reducible refine wpList_load_mid (op := ⟨_, Op.load 47 _, _, _, _, _⟩) rfl _ _ rfl _ _ ?_ _ _ hrow Try.underlying47 rfl ?_ ?_); (focus (first | (go_simp; done) | (go_simp; rfl))); (focus (exact size_entry))))
                              refine (rplainEntry_any ⟨⟨kd, ks⟩, neg, ⟨id, kind, mode, target⟩⟩ _).mono ?_
                              rintro e w6 ⟨rfl, b6⟩
                              rw [HX.out]
                              have hM6 := hMr.next b6
                              go_wp2_with fail
                              go_ret
                              exact ⟨bb hfin.out.symm, hM6.bel⟩
                          · have hke : k = m.entries.length := by omega
                            have hfin : Hid (m.ok = true) := by
                              have := hall.out
                              rw [hke, List.take_length] at this
                              exact hrest.out.trans this
                            rw [hke]
                            clear hall hrest hk hlt
                            have hM4 := hMr
                            have hlt4 := hltr
                            rw [hk0] at c15
                            go_wp2_with fail
                            go_loopw [7] (fun v wr => v = .int .i64 0 ∧ MsgIn w w.heap.size m s wr) (fun _ _ => 0)
                            case atStart => exact ⟨rfl, hM4⟩
                            case round =>
                              clear c0 c14 c15 hlt4
                              obtain ⟨rfl, hM5⟩ := hrel
                              obtain ⟨-, -, -, -, -, -, -, -, c15⟩ := hM5.nums
                              have hlt5 := hM5.blk.lt
                              rw [hk0] at c15
                              go_wp2_with fail
                              go_ret
                              exact ⟨bb hfin.out.symm, hM5.bel⟩

                      · have hok : Hid (m.ok = false) := by show _ = _; rw [hhd.out]; simp [HK.out, hk0]
                        go_wp2_with fail
                        all_goals
                          go_ret
                          exact ⟨bb hok.out.symm, hM3.bel⟩

                    · have hok : Hid (m.ok = false) := by show _ = _; rw [hhd.out]; simp [HK.out, he]
                      go_wp2_with fail
                      all_goals
                        go_ret
                        exact ⟨bb hok.out.symm, hM3.bel⟩

                · have HK := Lib.hid hk
                  rw [hk] at c0
                  clear hk hkind

                  have hq : ∀ W' : World, (binOp .neq 23 (.agg m.op.cells.toArray) (.agg #[.int .i64 0, .int .i64 0, .string ⟨#[]⟩, .int .i64 0, .string ⟨#[]⟩, .int .i64 0, .string ⟨#[]⟩])).run Try.prog W' = .ok (.bool (!decide (m.op = OpD.zero))) W' := fun W' => neq_run (w := W') rfl rfl (eq_op 9998 W' m.op OpD.zero)
                  cases h3 : decide (m.op = OpD.zero) with
                  | false =>
                    rw [h3] at hq
                    go_wp2_with (first | ((with_reducible refine wpList_load_mop (op := ⟨_, Op.load 23 _, _, _, _, _⟩) ?_ _ rfl _ _ _ _ ?_ hM ?_); rfl; rfl))
                    have hok : Hid (m.ok = false) := by show _ = _; rw [hhd.out]; simp [HK.out, of_decide_eq_false h3]
                    all_goals
                      go_ret
                      exact ⟨bb hok.out.symm, hM.bel⟩

                  | true =>
                    rw [h3] at hq
                    go_upto_region 6 with (first | ((with_reducible refine wpList_load_mop (op := ⟨_, Op.load 23 _, _, _, _, _⟩) ?_ _ rfl _ _ _ _ ?_ hM ?_); rfl; rfl))
                    have hM3 := hM
                    clear hM
                    have hlt3 := hlt
                    by_cases he0 : m.entries.length = 0
                    · rw [he0] at c14
                      by_cases hk0 : m.keys.length = 0
                      · rw [hk0] at c15
                        have hok : Hid (m.ok = false) := by show _ = _; rw [hhd.out]; simp [HK.out, hk0]
                        go_wp2_with fail
                        all_goals
                          go_ret
                          exact ⟨bb hok.out.symm, hM3.bel⟩

                      · by_cases hk1 : m.keys.length ≤ 48
                        · have hrest : Hid (m.ok = m.keys.all KeyD.ok) := by show _ = _; rw [hhd.out, all_len0 EntryD.ok m.entries he0]; simp [HK.out, of_decide_eq_true h3, he0, hk1]; omega
                          have hkz : 0 < m.keys.length := by omega
                          clear hk0
                          go_wp2_with fail
                          go_loopw [6] (fun v wr => v = .int .i64 0 ∧ MsgIn w w.heap.size m s wr) (fun _ _ => 0)
                          case atStart => exact ⟨rfl, hM3⟩
                          case round =>
                            clear c0 c14 c15 hlt3
                            obtain ⟨rfl, hM4⟩ := hrel
                            obtain ⟨c0, -, -, -, -, -, -, c14, c15⟩ := hM4.nums
                            have hlt4 := hM4.blk.lt
                            rw [he0] at c14
                            skip
                            go_wp2_with fail
                            go_loopw [7] (fun v wr => ∃ k : Nat, k ≤ m.keys.length ∧ v = .int .i64 k ∧ MsgIn w w.heap.size m s wr ∧ Hid ((m.keys.take k).all KeyD.ok = true)) (fun v _ => m.keys.length - (intOf v).toNat)
                            case atStart => exact ⟨0, Nat.zero_le _, rfl, hM4, by show _ = _; simp⟩
                            case round =>
                              clear c0 c14 c15
                              obtain ⟨k, hk, rfl, hMr, hall⟩ := hrel
                              obtain ⟨c0, -, -, -, -, -, -, c14, c15⟩ := hMr.nums
                              have hltr := hMr.blk.lt
                              by_cases hlt : k < m.keys.length
                              · obtain ⟨g, o, hA, hg, hrow⟩ := hMr.keys.at_ k _ (getD_map KeyD.cells m.keys KeyD.zero k hlt)
                                have hat := Lib.hid (all_take KeyD.ok m.keys KeyD.zero k hlt)
                                have haf := Lib.hid (all_false KeyD.ok m.keys KeyD.zero k hlt)
                                generalize m.keys.getD k KeyD.zero = x at *
                                have hin : (0 : Int) ≤ (k : Int) := by omega
                                rw [hA] at c15
                                clear hA
                                cases hx : x.ok with
                                | true =>
                                  have hnext : Hid ((m.keys.take (k + 1)).all KeyD.ok = true) := by show _ = _; rw [hat.out, hall.out, hx]; rfl
                                  have HX := Lib.hid hx
                                  clear hx hat haf hall
                                  obtain ⟨kd, ks⟩ := x
                                  change wr.rangeAt g (o + k * 2) [.int .i64 kd, .string ks] at hrow
                                  go_wp2_with (first | ((with_reducible refine wpList_load_mid (op := ⟨_, Op.load 43 _, _, _, _, _⟩) rfl _ _ rfl _ _ ?_ _ _ hrow Try.underlying43 rfl ?_ ?_); (focus (first | (go_simp; done) | (go_simp; rfl))); (focus (exact size_key))))
                                  refine (rplainKey_any ⟨kd, ks⟩ _).mono ?_
                                  rintro e w6 ⟨rfl, b6⟩
                                  rw [HX.out]
                                  have hM6 := hMr.next b6
                                  clear c0 c14 c15
                                  go_wp2_with fail
                                  go_roundw
                                  case rel => exact ⟨k + 1, by omega, by go_num, hM6, hnext⟩
                                  case measure => simp [intOf]; omega
                                | false =>
                                  have hfin := Lib.hid (hrest.out.trans (haf.out hx))
                                  have HX := Lib.hid hx
                                  clear hx hat haf hall hrest
                                  obtain ⟨kd, ks⟩ := x
                                  change wr.rangeAt g (o + k * 2) [.int .i64 kd, .string ks] at hrow
                                  go_wp2_with (first | ((with_reducible refine wpList_load_mid (op := ⟨_, Op.load 43 _, _, _, _, _⟩) rfl _ _ rfl _ _ ?_ _ _ hrow Try.underlying43 rfl ?_ ?_); (focus (first | (go_simp; done) | (go_simp; rfl))); (focus (exact size_key))))
                                  refine (rplainKey_any ⟨kd, ks⟩ _).mono ?_
                                  rintro e w6 ⟨rfl, b6⟩
                                  rw [HX.out]
                                  have hM6 := hMr.next b6
                                  go_wp2_with fail
                                  go_ret
                                  exact ⟨bb hfin.out.symm, hM6.bel⟩
                              · have hke : k = m.keys.length := by omega
                                have hfin : Hid (m.ok = true) := by
                                  have := hall.out
                                  rw [hke, List.take_length] at this
                                  exact hrest.out.trans this
                                rw [hke]
                                clear hall hrest hk hlt
                                skip
                                go_wp2_with fail
                                go_ret
                                exact ⟨bb hfin.out.symm, hMr.bel⟩

                        · have hok : Hid (m.ok = false) := by show _ = _; rw [hhd.out]; simp [HK.out, hk1]
                          go_wp2_with fail
                          all_goals
                            go_ret
                            exact ⟨bb hok.out.symm, hM3.bel⟩

                    · have hok : Hid (m.ok = false) := by show _ = _; rw [hhd.out]; simp [HK.out, he0]
                      go_wp2_with fail
                      all_goals
                        go_ret
                        exact ⟨bb hok.out.symm, hM3.bel⟩

                · have HK := Lib.hid hk
                  rw [hk] at c0
                  clear hk hkind

                  have hq : ∀ W' : World, (binOp .neq 23 (.agg m.op.cells.toArray) (.agg #[.int .i64 0, .int .i64 0, .string ⟨#[]⟩, .int .i64 0, .string ⟨#[]⟩, .int .i64 0, .string ⟨#[]⟩])).run Try.prog W' = .ok (.bool (!decide (m.op = OpD.zero))) W' := fun W' => neq_run (w := W') rfl rfl (eq_op 9998 W' m.op OpD.zero)
                  cases h3 : decide (m.op = OpD.zero) with
                  | false =>
                    rw [h3] at hq
                    go_wp2_with (first | ((with_reducible refine wpList_load_mop (op := ⟨_, Op.load 23 _, _, _, _, _⟩) ?_ _ rfl _ _ _ _ ?_ hM ?_); rfl; rfl))
                    have hok : Hid (m.ok = false) := by show _ = _; rw [hhd.out]; simp [HK.out, of_decide_eq_false h3]
                    all_goals
                      go_ret
                      exact ⟨bb hok.out.symm, hM.bel⟩

                  | true =>
                    rw [h3] at hq
                    go_upto_region 6 with (first | ((with_reducible refine wpList_load_mop (op := ⟨_, Op.load 23 _, _, _, _, _⟩) ?_ _ rfl _ _ _ _ ?_ hM ?_); rfl; rfl))
                    have hM3 := hM
                    clear hM
                    have hlt3 := hlt
                    by_cases he0 : m.entries.length = 0
                    · rw [he0] at c14
                      by_cases hk0 : m.keys.length = 0
                      · rw [hk0] at c15
                        have hfin : Hid (m.ok = true) := by show _ = _; rw [hhd.out, all_len0 EntryD.ok m.entries he0, all_len0 KeyD.ok m.keys hk0]; simp [HK.out, of_decide_eq_true h3, he0, hk0]
                        go_wp2_with fail
                        go_loopw [6] (fun v wr => v = .int .i64 0 ∧ MsgIn w w.heap.size m s wr) (fun _ _ => 0)
                        case atStart => exact ⟨rfl, hM3⟩
                        case round =>
                          clear c0 c14 c15 hlt3
                          obtain ⟨rfl, hM4⟩ := hrel
                          obtain ⟨c0, -, -, -, -, -, -, c14, c15⟩ := hM4.nums
                          have hlt4 := hM4.blk.lt
                          rw [he0] at c14
                          rw [hk0] at c15
                          go_wp2_with fail
                          go_loopw [7] (fun v wr => v = .int .i64 0 ∧ MsgIn w w.heap.size m s wr) (fun _ _ => 0)
                          case atStart => exact ⟨rfl, hM4⟩
                          case round =>
                            clear c0 c14 c15 hlt4
                            obtain ⟨rfl, hM5⟩ := hrel
                            obtain ⟨-, -, -, -, -, -, -, -, c15⟩ := hM5.nums
                            have hlt5 := hM5.blk.lt
                            rw [hk0] at c15
                            go_wp2_with fail
                            go_ret
                            exact ⟨bb hfin.out.symm, hM5.bel⟩

                      · have hok : Hid (m.ok = false) := by show _ = _; rw [hhd.out]; simp [HK.out, hk0]
                        go_wp2_with fail
                        all_goals
                          go_ret
                          exact ⟨bb hok.out.symm, hM3.bel⟩

                    · have hok : Hid (m.ok = false) := by show _ = _; rw [hhd.out]; simp [HK.out, he0]
                      go_wp2_with fail
                      all_goals
                        go_ret
                        exact ⟨bb hok.out.symm, hM3.bel⟩
    · have hok : Hid (m.ok = false) := by show _ = _; simp [MsgD.ok, okIn, k2]
      go_enter Try.func41, Try.ntmps41
      go_upto_region 1 with fail
      rw [← HW.out]
      go_wp2_with fail
      refine (parts_yes hmv _).mono ?_
      rintro e w1 ⟨rfl, rfl⟩
      go_wp2_with (first | (go_at_call 69; refine (bad_any _ _).mono ?_; rintro e w1 ⟨rfl, rfl⟩))
      go_ret
      exact ⟨bb hok.out.symm, hM.bel⟩
  · have hok : Hid (m.ok = false) := by show _ = _; simp [MsgD.ok, okIn, k1]
    go_enter Try.func41, Try.ntmps41
    go_upto_region 1 with fail
    rw [← HW.out]
    go_wp2_with fail
    refine (parts_yes hmv _).mono ?_
    rintro e w1 ⟨rfl, rfl⟩
    go_wp2_with (first | (go_at_call 69; refine (bad_any _ _).mono ?_; rintro e w1 ⟨rfl, rfl⟩))
    go_ret
    exact ⟨bb hok.out.symm, hM.bel⟩

end Go.Proofs.Ytmhcjkiaogimgaa
