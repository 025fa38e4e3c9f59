/- SameMsg. -/
import Derived.Test.YtmhcjkiaogimgaaLwC
import Derived.Test.YtmhcjkiaogimgaaRdK
namespace Go.Proofs.Ytmhcjkiaogimgaa
open Go.RowKit

/-- Equality of two marks, as the machine finds it. -/
def feq (x y : Nat) : Bool := FloatKind.f64.format.order x y == some .eq
theorem ceq_run {P : Program} (t : TypeId) (a b c d : Nat) (w : World) : (binOp .eql t (.complex .f64 a b) (.complex .f64 c d)).run P w = .ok (.bool (feq a c && feq b d)) w := by
  simp [binOp, Op.complexOp, Op.Complex.cmp, Op.floatCmp, feq, asBool]
def MsgD.same (x y : MsgD) : Bool := decide (x.kind = y.kind) && (decide (x.client = y.client) && (decide (x.life = y.life) && (decide (x.seq = y.seq) && ((feq x.ma y.ma && feq x.mb y.mb) && (decide (x.version = y.version) && (decide (x.err = y.err) && (decide (x.op = y.op) && (decide (x.entries = y.entries) && decide (x.keys = y.keys)))))))))
theorem box_run (xs : Array Value) (w : World) : (Instr.box 34 (.agg xs)).run Try.prog w = .ok (.pointer (some ⟨w.heap.size, 0, none⟩)) (w.alloc (.cells xs 34)) := by
  go_simp
theorem wpList_box_msg {ops : Array Oper} {rest : List Oper} {op : Oper} {a : Act} {w : World} {Q : Exit → Act → World → Prop} (hgd : op.guard = none) (x : Operand) (ho : op.op = .box 34 x) (xs : Array Value) (hx : a.eval x = .agg xs) (V : World) (hV : w.alloc (.cells xs 34) = V) (g : Nat) (hg : w.heap.size = g)
    (h : wpList Try.prog ops Q rest (a.put op.dst (.pointer (some ⟨g, 0, none⟩))) V) : wpList Try.prog ops Q (op :: rest) a w :=
  wpList_plain hgd fun _ hK => by
    subst hV; subst hg
    unfold Oper.wp execOp
    simp only [ho, hx, Sem.run_bind, Sem.run_pure, Result.andThen_ok, box_run]
    exact hK _ _ h

set_option maxRecDepth 100000 in
set_option maxHeartbeats 16000000 in
theorem sameMsg_any (x y : MsgD) (sx sy : Sls) (xs ys : Array Value) (w : World) (hx : MsgArg w xs x sx) (hy : MsgArg w ys y sy) (hl : x.entries.length * 7 ≤ 9223372036854775807) (hkl : x.keys.length * 2 ≤ 9223372036854775807) :
    Calls Try.prog 21 #[.agg xs, .agg ys] w (Tells (x.same y) w) := by
  obtain ⟨V1, hV1⟩ : ∃ V, w.alloc (.cells xs 34) = V := ⟨_, rfl⟩
  obtain ⟨V2, hV2⟩ : ∃ V, V1.alloc (.cells ys 34) = V := ⟨_, rfl⟩
  obtain ⟨g, hg⟩ : ∃ g, w.heap.size = g := ⟨_, rfl⟩
  obtain ⟨g', hg'⟩ : ∃ g, V1.heap.size = g := ⟨_, rfl⟩
  have hM1 := hx.box V1 hV1.symm
  have hB1 : Below w.heap.size w V1 := hM1.bel
  have hM2 := (hy.below hB1).box V2 hV2.symm
  have hM3 : MsgIn w w.heap.size x sx V2 := hM1.next hM2.bel
  rw [hg] at hM3
  rw [hg'] at hM2
  have hB : Below w.heap.size w V2 := hM3.bel
  obtain ⟨c0, c1, c2, c3, c4, c5, c6, c14, c15⟩ := hM3.nums
  obtain ⟨d0, d1, d2, d3, d4, d5, d6, d14, d15⟩ := hM2.nums
  have co := hM3.op
  have do' := hM2.op
  have HE1 := Lib.hid hM3.ents
  have HE2 := Lib.hid hM2.ents
  have HK1 := Lib.hid hM3.keys
  have HK2 := Lib.hid hM2.keys
  have HL := Lib.hid hl
  have HKL := Lib.hid hkl
  have HB := Lib.hid hB
  have HS : Hid (x.same y = (decide (x.kind = y.kind) && (decide (x.client = y.client) && (decide (x.life = y.life) && (decide (x.seq = y.seq) && ((feq x.ma y.ma && feq x.mb y.mb) && (decide (x.version = y.version) && (decide (x.err = y.err) && (decide (x.op = y.op) && (decide (x.entries = y.entries) && decide (x.keys = y.keys))))))))))) := rfl
  clear hx hy hM1 hB1 hM2 hM3 hB hl hkl
  have heq : ∀ W' : World, (binOp .eql 23 (.agg x.op.cells.toArray) (.agg y.op.cells.toArray)).run Try.prog W' = .ok (.bool (decide (x.op = y.op))) W' := fun W' => eql_run (w := W') rfl rfl (eq_op 9998 W' x.op y.op)
  have hceq : ∀ W' : World, (binOp .eql 32 (.complex .f64 x.ma x.mb) (.complex .f64 y.ma y.mb)).run Try.prog W' = .ok (.bool (feq x.ma y.ma && feq x.mb y.mb)) W' := fun W' => ceq_run _ _ _ _ _ W'
  generalize x.same y = res at *
  obtain ⟨x0, x1, x2, x3, xa, xb, x5, x6, xo, xe, xk⟩ := x
  obtain ⟨y0, y1, y2, y3, ya, yb, y5, y6, yo, ye, yk⟩ := y
  simp only at c0 c1 c2 c3 c4 c5 c6 c14 c15 d0 d1 d2 d3 d4 d5 d6 d14 d15 co do' HS heq hceq HE1 HE2 HK1 HK2 HL HKL
  obtain ⟨o1, o2, o3, o4, o5, o6, o7⟩ := xo
  obtain ⟨p1, p2, p3, p4, p5, p6, p7⟩ := yo
  have oc0 : V2.cell? ⟨g, 7, none⟩ = some (.int .i64 o1) := co 0 _ rfl
  have oc1 : V2.cell? ⟨g, 8, none⟩ = some (.int .i64 o2) := co 1 _ rfl
  have oc2 : V2.cell? ⟨g, 9, none⟩ = some (.string o3) := co 2 _ rfl
  have oc3 : V2.cell? ⟨g, 10, none⟩ = some (.int .i64 o4) := co 3 _ rfl
  have oc4 : V2.cell? ⟨g, 11, none⟩ = some (.string o5) := co 4 _ rfl
  have oc5 : V2.cell? ⟨g, 12, none⟩ = some (.int .i64 o6) := co 5 _ rfl
  have oc6 : V2.cell? ⟨g, 13, none⟩ = some (.string o7) := co 6 _ rfl
  have pc0 : V2.cell? ⟨g', 7, none⟩ = some (.int .i64 p1) := do' 0 _ rfl
  have pc1 : V2.cell? ⟨g', 8, none⟩ = some (.int .i64 p2) := do' 1 _ rfl
  have pc2 : V2.cell? ⟨g', 9, none⟩ = some (.string p3) := do' 2 _ rfl
  have pc3 : V2.cell? ⟨g', 10, none⟩ = some (.int .i64 p4) := do' 3 _ rfl
  have pc4 : V2.cell? ⟨g', 11, none⟩ = some (.string p5) := do' 4 _ rfl
  have pc5 : V2.cell? ⟨g', 12, none⟩ = some (.int .i64 p6) := do' 5 _ rfl
  have pc6 : V2.cell? ⟨g', 13, none⟩ = some (.string p7) := do' 6 _ rfl
  clear co do'
  generalize hqe : xe.length = ne at *
  generalize hqf : ye.length = nf at *
  generalize hqk : xk.length = nk at *
  generalize hql : yk.length = nl at *
  have HQ := Lib.hid (And.intro hqe (And.intro hqf (And.intro hqk hql)))
  clear hqe hqf hqk hql
  by_cases h0 : x0 = y0
  case neg =>
    have e0 : (x0 == y0) = false := by simp [h0]
    have hres : Hid (res = false) := by show _ = _; rw [HS.out]; simp [h0]
    go_enter Try.func21, Try.ntmps21
    go_wp2_with (first | ((with_reducible refine wpList_box_msg (op := ⟨some 2, Op.box 34 _, _, _, _, _⟩) rfl _ rfl _ ?_ V1 hV1 g hg ?_); rfl) | ((with_reducible refine wpList_box_msg (op := ⟨some 3, Op.box 34 _, _, _, _, _⟩) rfl _ rfl _ ?_ V2 hV2 g' hg' ?_); rfl))
    go_ret
    exact ⟨by rw [hres.out]; rfl, HB.out⟩
  case pos =>
    subst h0
    by_cases h1 : x1 = y1
    case neg =>
      have e1 : (x1 == y1) = false := by simp [h1]
      have hres : Hid (res = false) := by show _ = _; rw [HS.out]; simp [h1]
      go_enter Try.func21, Try.ntmps21
      go_wp2_with (first | ((with_reducible refine wpList_box_msg (op := ⟨some 2, Op.box 34 _, _, _, _, _⟩) rfl _ rfl _ ?_ V1 hV1 g hg ?_); rfl) | ((with_reducible refine wpList_box_msg (op := ⟨some 3, Op.box 34 _, _, _, _, _⟩) rfl _ rfl _ ?_ V2 hV2 g' hg' ?_); rfl))
      go_ret
      exact ⟨by rw [hres.out]; rfl, HB.out⟩
    case pos =>
      subst h1
      by_cases h2 : x2 = y2
      case neg =>
        have e2 : (x2 == y2) = false := by simp [h2]
        have hres : Hid (res = false) := by show _ = _; rw [HS.out]; simp [h2]
        go_enter Try.func21, Try.ntmps21
        go_wp2_with (first | ((with_reducible refine wpList_box_msg (op := ⟨some 2, Op.box 34 _, _, _, _, _⟩) rfl _ rfl _ ?_ V1 hV1 g hg ?_); rfl) | ((with_reducible refine wpList_box_msg (op := ⟨some 3, Op.box 34 _, _, _, _, _⟩) rfl _ rfl _ ?_ V2 hV2 g' hg' ?_); rfl))
        go_ret
        exact ⟨by rw [hres.out]; rfl, HB.out⟩
      case pos =>
        subst h2
        by_cases h3 : x3 = y3
        case neg =>
          have e3 : (x3 == y3) = false := by simp [h3]
          have hres : Hid (res = false) := by show _ = _; rw [HS.out]; simp [h3]
          go_enter Try.func21, Try.ntmps21
          go_wp2_with (first | ((with_reducible refine wpList_box_msg (op := ⟨some 2, Op.box 34 _, _, _, _, _⟩) rfl _ rfl _ ?_ V1 hV1 g hg ?_); rfl) | ((with_reducible refine wpList_box_msg (op := ⟨some 3, Op.box 34 _, _, _, _, _⟩) rfl _ rfl _ ?_ V2 hV2 g' hg' ?_); rfl))
          go_ret
          exact ⟨by rw [hres.out]; rfl, HB.out⟩
        case pos =>
          subst h3
          cases hm : (feq xa ya && feq xb yb) with
          | false =>
            rw [hm] at hceq HS
            clear hm
            have hres : Hid (res = false) := by show _ = _; rw [HS.out]; simp
            go_enter Try.func21, Try.ntmps21
            go_wp2_with (first | ((with_reducible refine wpList_box_msg (op := ⟨some 2, Op.box 34 _, _, _, _, _⟩) rfl _ rfl _ ?_ V1 hV1 g hg ?_); rfl) | ((with_reducible refine wpList_box_msg (op := ⟨some 3, Op.box 34 _, _, _, _, _⟩) rfl _ rfl _ ?_ V2 hV2 g' hg' ?_); rfl))
            go_ret
            exact ⟨by rw [hres.out]; rfl, HB.out⟩
          | true =>
            rw [hm] at hceq HS
            clear hm
            by_cases h5 : x5 = y5
            case neg =>
              have e5 : (x5 == y5) = false := by simp [h5]
              have hres : Hid (res = false) := by show _ = _; rw [HS.out]; simp [h5]
              go_enter Try.func21, Try.ntmps21
              go_wp2_with (first | ((with_reducible refine wpList_box_msg (op := ⟨some 2, Op.box 34 _, _, _, _, _⟩) rfl _ rfl _ ?_ V1 hV1 g hg ?_); rfl) | ((with_reducible refine wpList_box_msg (op := ⟨some 3, Op.box 34 _, _, _, _, _⟩) rfl _ rfl _ ?_ V2 hV2 g' hg' ?_); rfl))
              go_ret
              exact ⟨by rw [hres.out]; rfl, HB.out⟩
            case pos =>
              subst h5
              by_cases h6 : x6 = y6
              case neg =>
                have e6 : (x6 == y6) = false := by simp [h6]
                have hres : Hid (res = false) := by show _ = _; rw [HS.out]; simp [h6]
                go_enter Try.func21, Try.ntmps21
                go_wp2_with (first | ((with_reducible refine wpList_box_msg (op := ⟨some 2, Op.box 34 _, _, _, _, _⟩) rfl _ rfl _ ?_ V1 hV1 g hg ?_); rfl) | ((with_reducible refine wpList_box_msg (op := ⟨some 3, Op.box 34 _, _, _, _, _⟩) rfl _ rfl _ ?_ V2 hV2 g' hg' ?_); rfl))
                go_ret
                exact ⟨by rw [hres.out]; rfl, HB.out⟩
              case pos =>
                subst h6
                cases ho : decide ((⟨o1, o2, o3, o4, o5, o6, o7⟩ : OpD) = ⟨p1, p2, p3, p4, p5, p6, p7⟩) with
                | false =>
                  rw [ho] at heq HS
                  clear ho
                  simp only [OpD.cells] at heq
                  have hres : Hid (res = false) := by show _ = _; rw [HS.out]; simp
                  go_enter Try.func21, Try.ntmps21
                  go_wp2_with (first | ((with_reducible refine wpList_box_msg (op := ⟨some 2, Op.box 34 _, _, _, _, _⟩) rfl _ rfl _ ?_ V1 hV1 g hg ?_); rfl) | ((with_reducible refine wpList_box_msg (op := ⟨some 3, Op.box 34 _, _, _, _, _⟩) rfl _ rfl _ ?_ V2 hV2 g' hg' ?_); rfl))
                  go_ret
                  exact ⟨by rw [hres.out]; rfl, HB.out⟩
                | true =>
                  rw [ho] at heq HS
                  clear ho
                  simp only [OpD.cells] at heq
                  go_enter Try.func21, Try.ntmps21
                  go_wp2_with (first | ((with_reducible refine wpList_box_msg (op := ⟨some 2, Op.box 34 _, _, _, _, _⟩) rfl _ rfl _ ?_ V1 hV1 g hg ?_); rfl) | ((with_reducible refine wpList_box_msg (op := ⟨some 3, Op.box 34 _, _, _, _, _⟩) rfl _ rfl _ ?_ V2 hV2 g' hg' ?_); rfl))
                  obtain ⟨q1, q2, q3, q4⟩ := HQ.out
                  rw [← q1, ← q2]
                  refine (sameEntry_any sx.ea sy.ea sx.ec sy.ec xe ye V2 HE1.out HE2.out (by rw [q1]; exact HL.out)).mono ?_
                  rintro e w1 ⟨rfl, hd1⟩
                  have HD1 := Lib.hid hd1
                  rw [q1, q2]
                  have b15 := (hd1.below _).cell (p := ⟨g, 15, none⟩) (World.block_lt_of_cell? V2 _ c15)
                  rw [c15] at b15
                  have b15' := (hd1.below _).cell (p := ⟨g', 15, none⟩) (World.block_lt_of_cell? V2 _ d15)
                  rw [d15] at b15'
                  clear hd1 q1 q2 q3 q4 c0 c1 c2 c3 c4 c5 c6 c14 c15 d0 d1 d2 d3 d4 d5 d6 d14 d15 heq hceq oc0 oc1 oc2 oc3 oc4 oc5 oc6 pc0 pc1 pc2 pc3 pc4 pc5 pc6
                  cases he : decide (xe = ye) with
                  | false =>
                    have hres : Hid (res = false) := by show _ = _; rw [HS.out, he]; simp
                    go_wp2_with fail
                    go_ret
                    exact ⟨by rw [hres.out]; rfl, bel_next HB.out (HD1.out.below _)⟩
                  | true =>
                    go_wp2_with fail
                    obtain ⟨q1, q2, q3, q4⟩ := HQ.out
                    rw [← q3, ← q4]
                    refine (sameKey_any sx.ka sy.ka sx.kc sy.kc xk yk w1 (HK1.out.drawn HD1.out) (HK2.out.drawn HD1.out) (by rw [q3]; exact HKL.out)).mono ?_
                    rintro e w2 ⟨rfl, hd2⟩
                    have hres : Hid (res = decide (xk = yk)) := by show _ = _; rw [HS.out, he]; simp
                    clear q1 q2 q3 q4
                    have HD2 := Lib.hid hd2
                    clear hd2 he
                    go_wp2_with fail
                    go_ret
                    exact ⟨by rw [hres.out]; rfl, bel_next (bel_next HB.out (HD1.out.below _)) (HD2.out.below _)⟩

end Go.Proofs.Ytmhcjkiaogimgaa
