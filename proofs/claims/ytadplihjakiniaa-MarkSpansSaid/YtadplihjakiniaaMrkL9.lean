/- MarkSpans: the walk. -/
import Derived.Test.YtadplihjakiniaaMrkL8
import Derived.Test.YtadplihjakiniaaIee2
import Derived.BigFrame
namespace Go.Proofs.Ytadplihjakiniaa
open Go.RowKit

/-- An append whose run is known, behind a guard that lets it be. -/
theorem wpList_append_run_g {P : Program} {ops : Array Oper} {rest : List Oper} {op : Oper} {a : Act} {w w' : World} {Q : Exit → Act → World → Prop} (hw : Region.wanted op (yielded ops a.tmps) = true) (s x : Operand) (t t' : TypeId) (ho : op.op = .call { callee := .builtin .append, args := #[s, x], argTypes := #[t, t'] })
    (vs vx v : Value) (hs : a.eval s = vs) (hx : a.eval x = vx) (hr : (Builtin.append_ #[t, t'] op.type #[vs, vx]).run P w = .ok v w')
    (h : wpList P ops Q rest (a.put op.dst v) w') : wpList P ops Q (op :: rest) a w :=
  BigFrame.wpList_want hw fun _ hK => by
    unfold Oper.wp execOp
    simp only [ho, resolve, invoke, builtin, Sem.run_bind, Sem.run_pure, Result.andThen_ok, List.map_toArray, List.map_cons, List.map_nil, hs, hx, hr]
    exact hK _ _ h

/-- nums, with its row. -/
def NumsRow (w : World) (zs : List (Nat × Nat)) (r : Ending) (w' : World) : Prop :=
  ∃ A c, r = .returned (.slice A zs.length c) ∧ w'.ownsRow w.heap.size 22 1 (.slice A zs.length c) zs.length (cvals zs) ∧ Below w.heap.size w w'
/-- One more number behind a row. -/
theorem app_one {w w' : World} {A : Option Addr} {c : Nat} {zs : List (Nat × Nat)} (x y : Nat) (hl : zs.length ≤ 8796093021952) (hB : Below w.heap.size w w')
    (ho : w'.ownsRow w.heap.size 22 1 (.slice A zs.length c) zs.length (cvals zs)) :
    ∃ A2 c2 w2, (Builtin.append_ #[51, 51] 51 #[.slice A zs.length c, .slice (some ⟨w'.heap.size, 0, none⟩) 1 1]).run Try.prog (w'.alloc (.cells #[.complex .f64 x y] 22)) = .ok (.slice A2 (zs.length + 1) c2) w2 ∧ Cs w2 A2 (zs ++ [(x, y)]) ∧ Below w.heap.size w w2 := by
  have hsz := hB.size
  obtain ⟨v', w2, hr, h2, hg⟩ := append_run (P := Try.prog) (w := w'.alloc (.cells #[.complex .f64 x y] 22)) 51 Try.underlying51 cinfo (by omega) (own_below ho ((Below.refl _ _).alloc (Nat.le_refl _) _))
    (news := [.complex .f64 x y]) (a := ⟨w'.heap.size, 0, none⟩) (m := 1) (c := 1) rfl
    (fun j u hu => by
      rw [Addr.add_mid, Nat.zero_add, (Blk.new w' _ _).cell]
      simpa using hu)
    (fun u hu => by simp at hu; subst hu; rfl) (by omega) (by omega) (by simp; omega)
  obtain ⟨A2, c2, rfl⟩ := own_form h2
  refine ⟨A2, c2, w2, hr, Cs.of (RdV.of_own (n := zs.length + 1) (c := c2) (e := 22) (size := 1) (base := w.heap.size) ?_), (hB.alloc (by omega) _).grown hg (by simp; omega) (own_ge ho)⟩
  rw [cvals_append]
  exact h2

noncomputable def goods (zs : List (Nat × Nat)) : List (Nat × Nat) := zs.filter fun z => (mk z).isSome
theorem goods_none {l : List (Nat × Nat)} {z : Nat × Nat} (h : mk z = none) : goods (l ++ [z]) = goods l := by simp [goods, h]
theorem goods_some {l : List (Nat × Nat)} {z p : Nat × Nat} (h : mk z = some p) : goods (l ++ [z]) = goods l ++ [z] := by simp [goods, h]
theorem marks_goods (zs : List (Nat × Nat)) : marks (goods zs) = marks zs := by
  unfold marks goods
  induction zs with
  | nil => rfl
  | cons z t ih =>
    cases h : mk z with
    | none => simp [h, ih]
    | some p => simp [h, ih]
theorem goods_length (zs : List (Nat × Nat)) : (goods zs).length = (marks zs).length := by
  unfold marks goods
  induction zs with
  | nil => rfl
  | cons z t ih =>
    cases h : mk z with
    | none => simp [h, ih]
    | some p => simp [h, ih]
theorem last_count {zs : List (Nat × Nat)} {o : Option (Nat × Nat)} (h : IsLast (marks zs) o) : decide (0 < (goods zs).length) = o.isSome := by
  rw [goods_length]
  cases o with
  | none => rw [show marks zs = [] from h]; rfl
  | some l =>
    have := List.length_pos_of_mem h.1
    simp; omega
theorem half_run {a b e n : Nat} (h : MV a b e n) (t : TypeId) : ∃ x y, (∀ w : World, (binOp .add t (.complex .f64 a b) (.complex .f64 4602678819172646912 0)).run Try.prog w = .ok (.complex .f64 x y) w) ∧ Bad x y := by
  obtain ⟨x, hx, vx⟩ := half_not h.re h.he
  obtain ⟨y, hy, vy⟩ := val_add h.im val_zero (by have := h.hn; omega)
  refine ⟨x, y, fun w => run_complex_sum w .add (.inl rfl) t .f64 a b _ _ x y ?_, fun h' => vx h'.1⟩
  show ((Ieee.double.add a _).bind fun re => (Ieee.double.add b _).bind fun im => some (re, im)) = _
  rw [hx, hy]; rfl

set_option maxRecDepth 100000 in
set_option maxHeartbeats 4000000 in
theorem spans_any (A : Option Addr) (len cap : Nat) (ps : List (Int × Int)) {W : World} (h : ArgPairs W A len ps) (hlen : len * 16 ≤ 140737488351232) (e n : Int) (hf : Fits e n) :
    Calls Try.prog 13 #[.slice A len cap, .agg #[.int .i64 e, .int .i64 n]] W fun r w' => r = .returned (.bool true) ∧ Below W.heap.size W w' := by
  obtain ⟨zs, hzs⟩ : ∃ zs, zs = quarts ps := ⟨_, rfl⟩
  have hl : zs.length = len := by rw [hzs, quarts_length, h.length]
  have N : ∀ w, Below W.heap.size W w → Calls Try.prog 32 #[.slice A zs.length cap] w (NumsRow w zs) := fun w hb => by
    rw [hl]
    refine (nums_any A len cap ps w (h.below hb) hlen).mono ?_
    rintro r w' ⟨A', c', rfl, ho, hb'⟩
    rw [← hzs, ← hl] at ho
    exact ⟨A', c', by rw [hl], ho, hb'⟩
  have HN := Lib.hid N
  have hlz : zs.length ≤ 8796093021952 := by omega
  subst hl
  clear N hzs
  have b0 : Below W.heap.size W (W.alloc (.cells #[.int .i64 e, .int .i64 n] 35)) := (Below.refl _ _).alloc (Nat.le_refl _) _
  have K0 : Blk (W.alloc (.cells #[.int .i64 e, .int .i64 n] 35)) W.heap.size #[.int .i64 e, .int .i64 n] 35 := Blk.new W _ _
  go_enter Try.func13, Try.ntmps13
  go_wp2_with fail
  generalize W.alloc (.cells #[.int .i64 e, .int .i64 n] 35) = W0 at *
  refine (HN.out _ b0).mono ?_
  rintro r w1 ⟨A1, c1, rfl, o1, b1⟩
  have C1 := Cs.of (RdV.of_own o1)
  have B1 := bel_next b0 b1
  have K1 := K0.kp (S := fun _ => False) (Kp.of_below b1) (fun h => h)
  clear o1 b0 b1 K0
  go_wp2_with fail
  go_loopw [6, 7] (fun v6 v7 wr => ∃ i n : Nat, i ≤ zs.length ∧ n ≤ i ∧ v7 = .int .i64 i ∧ ∃ A' c', v6 = .slice A' n c' ∧ wr.ownsRow w1.heap.size 22 1 (.slice A' n c') n (cvals (goods (zs.take i))) ∧ Below w1.heap.size w1 wr) (fun _ v _ => zs.length - (intOf v).toNat)
  case atStart => exact ⟨0, 0, by omega, by omega, rfl, none, 0, rfl, own_none _ _ _ _, Below.refl _ _⟩
  case round =>
    obtain ⟨i, m, hi, hmi, rfl, A', c', rfl, hown, hb⟩ := hrel
    by_cases hlt : i < zs.length
    · obtain ⟨g, f, rfl, hg, h1⟩ := (C1.below hb).at_ i hlt
      have hsn := take_snoc (0, 0) zs i hlt
      generalize zs.getD i (0, 0) = z at *
      have HS := Lib.hid hsn
      clear hsn
      cases hk : mk z with
      | none =>
        have hbad := mk_none hk
        have HO := Lib.hid hown
        clear hown
        go_wp2_with fail
        refine (good_no hbad _).mono ?_
        rintro r w' ⟨rfl, rfl⟩
        go_wp2_with fail
        go_roundw
        case rel => exact ⟨i + 1, m, by omega, by omega, by go_num, A', c', rfl, by rw [HS.out, goods_none hk]; exact HO.out, hb⟩
        case measure => simp [intOf]; omega
      | some p =>
        have hmv := mk_some hk
        have hzz := hb.size
        obtain ⟨v', w2, hr, ho, hgr⟩ := append_run (P := Try.prog) (w := wr.alloc (.cells #[.complex .f64 z.1 z.2] 22)) 51 Try.underlying51 cinfo (by omega) (own_below hown ((Below.refl _ _).alloc (Nat.le_refl _) _))
          (news := [.complex .f64 z.1 z.2]) (a := ⟨wr.heap.size, 0, none⟩) (m := 1) (c := 1) rfl
          (fun j u hu => by
            rw [Addr.add_mid, Nat.zero_add, (Blk.new wr _ _).cell]
            simpa using hu)
          (fun u hu => by simp at hu; subst hu; rfl) (by omega) (by omega) (by simp; omega)
        obtain ⟨A2, c2, rfl⟩ := own_form ho
        have hB2 : Below w1.heap.size w1 w2 := (hb.alloc (by omega) _).grown hgr (by simp; omega) (own_ge hown)
        have hO2 : w2.ownsRow w1.heap.size 22 1 (.slice A2 (m + 1) c2) (m + 1) (cvals (goods (zs.take (i + 1)))) := by
          rw [HS.out, goods_some hk, cvals_append]; exact ho
        have HO := Lib.hid hO2
        clear ho hO2 hown hgr HS hzz hb
        go_wp2_with fail
        refine (good_yes hmv _).mono ?_
        rintro r w' ⟨rfl, rfl⟩
        go_wp2_with (at_builtin; refine wpList_append_run rfl _ _ _ _ rfl _ _ _ rfl rfl hr ?_)
        go_roundw
        case rel => exact ⟨i + 1, m + 1, by omega, by omega, by go_num, A2, c2, rfl, HO.out, hB2⟩
        case measure => simp [intOf]; omega
    · obtain rfl : i = zs.length := by omega
      rw [List.take_length] at hown
      have hgl : (goods zs).length = m := by
        have := hown.1
        rw [cvals_length] at this
        omega
      have CB := Cs.of (RdV.of_own hown)
      have CA := C1.below hb
      have K2 := K1.kp (S := fun _ => False) (Kp.of_below hb) (fun h => h)
      have B5 := bel_next B1 hb
      have SB := Lib.hid (span_any A' c' (goods zs) (by omega) wr CB)
      have hx1 : wr.cell? ⟨W.heap.size, 0, none⟩ = some (.int .i64 e) := by rw [K2.cell]; rfl
      have hx2 : wr.cell? ⟨W.heap.size, 1, none⟩ = some (.int .i64 n) := by rw [K2.cell]; rfl
      subst hgl
      clear hown C1 B1 hb K1
      go_wp2_with fail
      refine (last_any A1 c1 zs (by omega) wr CA).mono ?_
      rintro r w' ⟨o, x1, y1, rfl, l1, s1, rfl⟩
      go_wp2_with fail
      refine (last_any A' c' (goods zs) (by omega) wr CB).mono ?_
      rintro r w' ⟨o2, x2, y2, rfl, l2, s2, rfl⟩
      rw [marks_goods] at l2
      obtain rfl := isLast_same l1 l2 (fun _ => Iff.rfl)
      obtain ⟨q1, q2⟩ := st_same s1 s2
      have hcnt := last_count l1
      obtain ⟨ok, hok⟩ : ∃ ok, ok = o.isSome := ⟨_, rfl⟩
      rw [← hok] at hcnt
      rw [← hok]
      have hoo : (ok != ok) = false := by simp
      have HOK := Lib.hid hok
      have HL1 := Lib.hid l1
      have HS1 := Lib.hid s1
      clear hok l1 l2 s1 s2
      generalize (goods zs).length = gl at *
      clear CB K2
      go_wp2_with fail
      refine (span_any A1 c1 zs (by omega) wr CA).mono ?_
      rintro r w' ⟨x3, y3, s1, t1, rfl, v1, v2, p1, p2, rfl⟩
      go_wp2_with fail
      refine SB.out.mono ?_
      rintro r w' ⟨x4, y4, s2, t2, rfl, v3, v4, p3, p4, rfl⟩
      rw [marks_goods] at p3 p4
      obtain rfl := span_same p1 p3 (fun _ => Iff.rfl)
      obtain rfl := span_same p2 p4 (fun _ => Iff.rfl)
      have q3 := ord_eq v1 v3
      have q4 := ord_eq v2 v4
      clear p1 p2 p3 p4 v1 v2 v3 v4 SB
      go_wp2_with fail
      refine (num_any e n _ hf).mono ?_
      rintro r w5 ⟨rfl, b5⟩
      have C5 := CA.below b5
      have B6 := bel_next B5 b5
      clear B5 b5 CA hx1 hx2
      generalize quart e = a
      generalize quart n = b
      rcases mark_or_bad a b with ⟨f, k, hm⟩ | hbad
      · obtain ⟨x5, y5, hh, hb5⟩ := half_run hm 22
        have HB := Lib.hid hb5
        clear hb5
        go_wp2_with fail
        refine (good_yes hm _).mono ?_
        rintro r w' ⟨rfl, rfl⟩
        go_wp2_with fail
        refine (HN.out _ B6).mono ?_
        rintro r w6 ⟨A6, c6, rfl, o6, b6⟩
        obtain ⟨A7, c7, w7, hr7, C7, b7⟩ := app_one x5 y5 hlz b6 o6
        have B7 := bel_next B6 b7
        have D7 := C5.below b7
        clear o6 b6 b7 B6 C5
        go_wp2_with (at_builtin; refine wpList_append_run rfl _ _ _ _ rfl _ _ _ rfl rfl hr7 ?_)
        have LC := last_any A7 c7 (zs ++ [(x5, y5)]) (by simp; omega) w7 C7
        rw [List.length_append] at LC
        refine LC.mono ?_
        clear LC hr7 C7
        rintro r w' ⟨o8, x8, y8, rfl, l8, s8, rfl⟩
        rw [marks_none (mk_bad HB.out)] at l8
        obtain rfl := isLast_same HL1.out l8 (fun _ => Iff.rfl)
        obtain ⟨q7, q8⟩ := st_same s8 HS1.out
        rw [← HOK.out]
        clear l8 s8
        have hoo2 : (ok == ok) = true := by simp
        go_wp2_with fail
        refine (HN.out _ B7).mono ?_
        rintro r w8 ⟨A8, c8, rfl, o8, b8⟩
        obtain ⟨A9, c9, w9, hr9, C9, b9⟩ := app_one x5 y5 hlz b8 o8
        have B9 := bel_next B7 b9
        have D9 := D7.below b9
        clear o8 b8 b9 B7 D7
        go_wp2_with (at_builtin; refine wpList_append_run_g (by rfl) _ _ _ _ rfl _ _ _ rfl rfl hr9 ?_)
        have LD := span_any A9 c9 (zs ++ [(x5, y5)]) (by simp; omega) w9 C9
        rw [List.length_append] at LD
        refine LD.mono ?_
        clear LD hr9 C9
        rintro r w' ⟨x9, y9, e9, n9, rfl, v9, u9, p9, r9, rfl⟩
        rw [marks_none (mk_bad HB.out)] at p9 r9
        go_wp2_with fail
        refine (span_any A1 c1 zs (by omega) _ D9).mono ?_
        rintro r w' ⟨x10, y10, e10, n10, rfl, v10, u10, p10, r10, rfl⟩
        obtain rfl := span_same p9 p10 (fun _ => Iff.rfl)
        obtain rfl := span_same r9 r10 (fun _ => Iff.rfl)
        have q9 := ord_eq v9 v10
        have q10 := ord_eq u9 u10
        clear p9 p10 r9 r10 v9 v10 u9 u10
        go_wp2_with fail
        refine (awake_any _).mono ?_
        rintro r w' ⟨rfl, rfl⟩
        go_wp2_with fail
        go_ret
        exact ⟨rfl, B9⟩
      · obtain ⟨x5, hx5⟩ : ∃ x5, x5 = a := ⟨_, rfl⟩
        obtain ⟨y5, hy5⟩ : ∃ y5, y5 = b := ⟨_, rfl⟩
        subst hx5
        subst hy5
        have HB := Lib.hid hbad
        go_wp2_with fail
        refine (good_no hbad _).mono ?_
        rintro r w' ⟨rfl, rfl⟩
        clear hbad
        go_wp2_with fail
        refine (HN.out _ B6).mono ?_
        rintro r w6 ⟨A6, c6, rfl, o6, b6⟩
        obtain ⟨A7, c7, w7, hr7, C7, b7⟩ := app_one x5 y5 hlz b6 o6
        have B7 := bel_next B6 b7
        have D7 := C5.below b7
        clear o6 b6 b7 B6 C5
        go_wp2_with (at_builtin; refine wpList_append_run rfl _ _ _ _ rfl _ _ _ rfl rfl hr7 ?_)
        have LC := last_any A7 c7 (zs ++ [(x5, y5)]) (by simp; omega) w7 C7
        rw [List.length_append] at LC
        refine LC.mono ?_
        clear LC hr7 C7
        rintro r w' ⟨o8, x8, y8, rfl, l8, s8, rfl⟩
        rw [marks_none (mk_bad HB.out)] at l8
        obtain rfl := isLast_same HL1.out l8 (fun _ => Iff.rfl)
        obtain ⟨q7, q8⟩ := st_same s8 HS1.out
        rw [← HOK.out]
        clear l8 s8
        have hoo2 : (ok == ok) = true := by simp
        go_wp2_with fail
        refine (HN.out _ B7).mono ?_
        rintro r w8 ⟨A8, c8, rfl, o8, b8⟩
        obtain ⟨A9, c9, w9, hr9, C9, b9⟩ := app_one x5 y5 hlz b8 o8
        have B9 := bel_next B7 b9
        have D9 := D7.below b9
        clear o8 b8 b9 B7 D7
        go_wp2_with (at_builtin; refine wpList_append_run_g (by rfl) _ _ _ _ rfl _ _ _ rfl rfl hr9 ?_)
        have LD := span_any A9 c9 (zs ++ [(x5, y5)]) (by simp; omega) w9 C9
        rw [List.length_append] at LD
        refine LD.mono ?_
        clear LD hr9 C9
        rintro r w' ⟨x9, y9, e9, n9, rfl, v9, u9, p9, r9, rfl⟩
        rw [marks_none (mk_bad HB.out)] at p9 r9
        go_wp2_with fail
        refine (span_any A1 c1 zs (by omega) _ D9).mono ?_
        rintro r w' ⟨x10, y10, e10, n10, rfl, v10, u10, p10, r10, rfl⟩
        obtain rfl := span_same p9 p10 (fun _ => Iff.rfl)
        obtain rfl := span_same r9 r10 (fun _ => Iff.rfl)
        have q9 := ord_eq v9 v10
        have q10 := ord_eq u9 u10
        clear p9 p10 r9 r10 v9 v10 u9 u10
        go_wp2_with fail
        refine (awake_any _).mono ?_
        rintro r w' ⟨rfl, rfl⟩
        go_wp2_with fail
        go_ret
        exact ⟨rfl, B9⟩

end Go.Proofs.Ytadplihjakiniaa
