/- MarkTurned: the walk. -/
import Derived.Test.YtadplihjakiniaaMrkL7
namespace Go.Proofs.Ytadplihjakiniaa
open Go.RowKit

theorem val_neg {x : Nat} {n : Int} (h : Val x n) : Val (Op.negFloat .f64 x) (-n) := by
  obtain ⟨s, m, e, hr, he, hz⟩ := h
  have h1 : Op.negFloat .f64 x = x ^^^ 2 ^ 63 := rfl
  have hm : (x ^^^ 2 ^ 63) % 9223372036854775808 = x % 9223372036854775808 := by
    have := Nat.xor_mod_two_pow (a := x) (b := 2 ^ 63) (n := 63)
    simpa using this
  have hd : (((x ^^^ 2 ^ 63) / 9223372036854775808 % 2 == 1) : Bool) = !((x / 9223372036854775808 % 2 == 1) : Bool) := by
    have := Nat.xor_div_two_pow (a := x) (b := 2 ^ 63) (n := 63)
    have h2 : (x ^^^ 2 ^ 63) / 9223372036854775808 = (x / 9223372036854775808) ^^^ 1 := by simpa using this
    rw [h2]
    have h3 : ((x / 9223372036854775808) ^^^ 1) % 2 = ((x / 9223372036854775808) % 2) ^^^ 1 := by
      have := Nat.xor_mod_two_pow (a := x / 9223372036854775808) (b := 1) (n := 1)
      simpa using this
    rw [h3]
    rcases Nat.mod_two_eq_zero_or_one (x / 9223372036854775808) with h | h <;> rw [h] <;> rfl
  have hread : Ieee.double.read (x ^^^ 2 ^ 63) = .number (!s) m e := by
    unfold Ieee.Format.read at hr ⊢
    simp only [d_binade, d_inf, d_sign, d_least] at hr ⊢
    rw [hm, hd]
    split at hr
    · next c => rw [if_pos c]; injection hr with a b c; subst a; subst b; subst c; rfl
    · next c =>
      rw [if_neg c]
      split at hr
      · next c2 => rw [if_pos c2]; injection hr with a b c; subst a; subst b; subst c; rfl
      · split at hr <;> cases hr
  rw [h1]
  refine ⟨!s, m, e, hread, he, ?_⟩
  rw [signed_zero] at hz ⊢
  cases s <;> simp at hz ⊢ <;> rw [Int.neg_mul, ← hz] <;> omega

theorem rev_snoc (zs : List (Nat × Nat)) (k : Nat) (h : k < zs.length) : (zs.drop k).reverse = (zs.drop (k + 1)).reverse ++ [zs.getD k (0, 0)] := by
  rw [List.drop_eq_getElem_cons h, List.reverse_cons]
  simp only [List.getD_eq_getElem?_getD, List.getElem?_eq_getElem h, Option.getD_some]
theorem marks_rev (zs : List (Nat × Nat)) (x : Nat × Nat) : x ∈ marks zs ↔ x ∈ marks zs.reverse := by
  unfold marks
  simp [List.mem_filterMap]
theorem map_rev (sel : Nat × Nat → Nat) (zs : List (Nat × Nat)) (x : Nat) : x ∈ (marks zs).map sel ↔ x ∈ (marks zs.reverse).map sel := by
  simp only [List.mem_map]
  exact ⟨fun ⟨a, h, e⟩ => ⟨a, (marks_rev zs a).1 h, e⟩, fun ⟨a, h, e⟩ => ⟨a, (marks_rev zs a).2 h, e⟩⟩
theorem st_mk {o : Option (Nat × Nat)} {a b : Nat} (h : St o a b) : ∃ q, mk (a, b) = some q := by
  cases o with
  | none => obtain ⟨rfl, rfl⟩ := h; exact ⟨_, mk_mv (e := 0) (n := 0) ⟨val_zero, val_zero, by omega, by omega⟩⟩
  | some m => exact ⟨_, mk_mv h⟩
theorem span_twice {sel : Nat × Nat → Nat} {z q : Nat × Nat} {s : Int} (h : IsSpan ((marks [z, z]).map sel) s) (hq : mk z = some q) : s = 0 := by
  have hm : marks [z, z] = [q, q] := by simp [marks, hq]
  rw [hm] at h
  rcases h.is with h0 | ⟨e, he, f, hf, rfl⟩
  · exact h0
  · simp at he hf; omega
theorem ord_ge {x y : Nat} {a b : Int} (hx : Val x a) (hy : Val y b) (h : b ≤ a) : ∃ c, FloatKind.f64.format.order x y = some c ∧ (c == .lt) = false := by
  rw [ord hx hy]
  rcases Int.lt_or_eq_of_le h with h | h
  · exact ⟨_, rfl, by rw [cmp_gt h]; rfl⟩
  · subst h; exact ⟨_, rfl, by rw [cmp_eq]; rfl⟩
theorem ord_le {x y : Nat} {a b : Int} (hx : Val x a) (hy : Val y b) (h : a ≤ b) : ∃ c, FloatKind.f64.format.order x y = some c ∧ (c == .gt) = false := by
  rw [ord hx hy]
  rcases Int.lt_or_eq_of_le h with h | h
  · exact ⟨_, rfl, by rw [cmp_lt h]; rfl⟩
  · subst h; exact ⟨_, rfl, by rw [cmp_eq]; rfl⟩

set_option maxRecDepth 100000 in
set_option maxHeartbeats 2000000 in
theorem turned_any (A : Option Addr) (len cap : Nat) (ps : List (Int × Int)) {W : World} (h : ArgPairs W A len ps) (hlen : len * 16 ≤ 140737488351232) :
    Calls Try.prog 12 #[.slice A len cap] W fun r w' => r = .returned (.bool true) ∧ Below W.heap.size W w' := by
  go_enter Try.func12, Try.ntmps12
  go_wp2_with fail
  refine (nums_any A len cap ps W h hlen).mono ?_
  rintro r w1 ⟨A1, c1, rfl, o1, b1⟩
  have C1 := Cs.of (RdV.of_own o1)
  clear o1
  obtain ⟨zs, hzs⟩ : ∃ zs, zs = quarts ps := ⟨_, rfl⟩
  have hl : zs.length = len := by rw [hzs, quarts_length, h.length]
  rw [← hzs] at C1
  clear hzs
  subst hl
  go_wp2_with fail
  go_loopw [4, 5] (fun v4 v5 wr => ∃ k n : Nat, k + n = zs.length ∧ v5 = .int .i64 ((k : Int) - 1) ∧ ∃ A' c', v4 = .slice A' n c' ∧ wr.ownsRow w1.heap.size 22 1 (.slice A' n c') n (cvals ((zs.drop k).reverse)) ∧ Below w1.heap.size w1 wr) (fun _ v _ => (intOf v + 1).toNat)
  case atStart => exact ⟨zs.length, 0, by omega, by go_num, none, 0, rfl, by rw [List.drop_length]; exact own_none _ _ _ _, Below.refl _ _⟩
  case round =>
    obtain ⟨k, n, hkn, rfl, A', c', rfl, hown, hb⟩ := hrel
    cases k with
    | succ j =>
      obtain ⟨g, f, rfl, hg, h1⟩ := (C1.below hb).at_ j (by omega)
      have hv : ((j + 1 : Nat) : Int) - 1 = j := by omega
      rw [hv]
      have hsn := rev_snoc zs j (by omega)
      generalize zs.getD j (0, 0) = z at *
      have HS := Lib.hid hsn
      clear hsn
      have hzz := hb.size
      obtain ⟨v', w2, hr, ho, hgr⟩ := append_run (P := Try.prog) (w := wr.alloc (.cells #[.complex .f64 z.1 z.2] 22)) 51 Try.underlying51 cinfo (by omega) (own_below hown ((Below.refl _ _).alloc (Nat.le_refl _) _))
        (news := [.complex .f64 z.1 z.2]) (a := ⟨wr.heap.size, 0, none⟩) (m := 1) (c := 1) rfl
        (fun j u hu => by
          rw [Addr.add_mid, Nat.zero_add, (Blk.new wr _ _).cell]
          simpa using hu)
        (fun u hu => by simp at hu; subst hu; rfl) (by omega) (by omega) (by simp; omega)
      obtain ⟨A2, c2, rfl⟩ := own_form ho
      have hB2 : Below w1.heap.size w1 w2 := (hb.alloc (by omega) _).grown hgr (by simp; omega) (own_ge hown)
      have hO2 : w2.ownsRow w1.heap.size 22 1 (.slice A2 (n + 1) c2) (n + 1) (cvals ((zs.drop j).reverse)) := by
        rw [HS.out, cvals_append]; exact ho
      have HO := Lib.hid hO2
      clear ho hO2 hown hgr HS hzz hb
      go_wp2_with (at_builtin; refine wpList_append_run rfl _ _ _ _ rfl _ _ _ rfl rfl hr ?_)
      go_roundw
      case rel => exact ⟨j, n + 1, by omega, by go_num, A2, c2, rfl, HO.out, hB2⟩
      case measure => first | (simp [intOf]; done) | (simp [intOf]; omega)
    | zero =>
      obtain rfl : n = zs.length := by omega
      have CB := Cs.of (RdV.of_own hown)
      rw [List.drop_zero] at CB
      have CA := C1.below hb
      have B0 := bel_next b1 hb
      clear hown C1 b1 hb
      have LB := last_any A' c' zs.reverse (by rw [List.length_reverse]; omega) wr CB
      have SB := span_any A' c' zs.reverse (by rw [List.length_reverse]; omega) wr CB
      rw [List.length_reverse] at LB SB
      have HLB := Lib.hid LB
      have HSB := Lib.hid SB
      clear LB SB
      go_wp2_with fail
      refine (last_any A1 c1 zs (by omega) wr CA).mono ?_
      rintro r w' ⟨o, x1, y1, rfl, l1, s1, rfl⟩
      go_wp2_with fail
      refine HLB.out.mono ?_
      rintro r w' ⟨o2, x2, y2, rfl, l2, s2, rfl⟩
      obtain rfl := isLast_same l1 l2 (marks_rev zs)
      obtain ⟨q1, q2⟩ := st_same s1 s2
      clear l2 s2
      go_wp2_with fail
      refine (span_any A1 c1 zs (by omega) wr CA).mono ?_
      rintro r w' ⟨x3, y3, e, n, rfl, v1, v2, p1, p2, rfl⟩
      have hoo : (o.isSome != o.isSome) = false := by simp
      obtain ⟨ok, hok⟩ : ∃ ok, ok = o.isSome := ⟨_, rfl⟩
      rw [← hok] at hoo
      rw [← hok]
      have HOK := Lib.hid hok
      clear hok
      go_wp2_with fail
      refine HSB.out.mono ?_
      rintro r w' ⟨x4, y4, e', n', rfl, v3, v4, p3, p4, rfl⟩
      obtain rfl := span_same p1 p3 (map_rev _ zs)
      obtain rfl := span_same p2 p4 (map_rev _ zs)
      have q3 := ord_eq v1 v3
      have q4 := ord_eq v2 v4
      clear p3 p4 v3 v4 HSB HLB CB
      go_wp2_with fail
      go_loopw [11] (fun v11 w2 => ∃ i : Nat, i ≤ zs.length ∧ v11 = .int .i64 i ∧ Drawn wr w2) (fun v _ => zs.length - (intOf v).toNat)
      case atStart => exact ⟨0, Nat.zero_le _, rfl, Drawn.refl _⟩
      case round =>
        obtain ⟨i, hi, rfl, hd⟩ := hrel
        by_cases hlt : i < zs.length
        · obtain ⟨g, f, rfl, hg, h1⟩ := (CA.drawn hd).at_ i hlt
          have hmem := fun p hp => mem_marks (zs := zs) (p := p) |>.2 ⟨i, hlt, hp⟩
          generalize zs.getD i (0, 0) = z at *
          have HM := Lib.hid hmem
          clear hmem
          cases hk : mk z with
          | none =>
            have hbad := mk_none hk
            go_wp2_with fail
            refine (good_no hbad _).mono ?_
            rintro r w' ⟨rfl, rfl⟩
            go_wp2_with fail
            go_roundw
            case rel => exact ⟨i + 1, by omega, by go_num, hd⟩
            case measure => simp [intOf]; omega
          | some p =>
            have hmv := mk_some hk
            have hpm := HM.out p hk
            clear HM
            cases o with
            | none => rw [show marks zs = [] from l1] at hpm; cases hpm
            | some m =>
              obtain rfl : ok = true := HOK.out
              have hlb := l1.2 p hpm
              have hle := (laterB_not _ _ _ _).1 hlb
              have m1 := s1.he; have m2 := s1.hn; have m3 := hmv.he; have m4 := hmv.hn
              have hs1 : MV x1 y1 m.1 m.2 := s1
              obtain ⟨x5, y5, hs, w5, w6⟩ := sub_run hs1.re hmv.re hs1.im hmv.im (by omega) (by omega) 22
              have i1 := p1.all m.1 (List.mem_map.2 ⟨m, l1.1, rfl⟩) p.1 (List.mem_map.2 ⟨p, hpm, rfl⟩)
              have i2 := p2.all m.2 (List.mem_map.2 ⟨m, l1.1, rfl⟩) p.2 (List.mem_map.2 ⟨p, hpm, rfl⟩)
              have i3 := p2.all p.2 (List.mem_map.2 ⟨p, hpm, rfl⟩) m.2 (List.mem_map.2 ⟨m, l1.1, rfl⟩)
              obtain ⟨k1, e1, f1⟩ := ord_ge w5 val_zero (by omega)
              obtain ⟨k2, e2, f2⟩ := ord_le w5 v1 i1
              obtain ⟨k3, e3, f3⟩ := ord_le w6 v2 i2
              obtain ⟨k4, e4, f4⟩ := ord_le (val_neg w6) v2 (by omega)
              have hneg : ∀ w : World, (Op.unary .neg (.float .f64 y5)).run Try.prog w = .ok (.float .f64 (Op.negFloat .f64 y5)) w := fun w => by simp [Op.unary]
              generalize Op.negFloat .f64 y5 = ny at *
              clear m1 m2 m3 m4 i1 i2 i3 hle w5 w6 hpm
              go_wp2_with fail
              refine (good_yes hmv _).mono ?_
              rintro r w' ⟨rfl, rfl⟩
              go_wp2_with fail
              refine (later_yes hmv hs1 _).mono ?_
              rw [hlb]
              rintro r w' ⟨rfl, rfl⟩
              go_wp2_with fail
              go_roundw
              case rel => exact ⟨i + 1, by omega, by go_num, hd⟩
              case measure => simp [intOf]; omega
        · have B1 := bel_next B0 (hd.below _)
          have hst := s1
          clear l1 s1 p1 p2 v1 v2 q1 q2 q3 q4 B0 hd CA HOK
          go_wp2_with fail
          refine (nums_any A 0 cap [] _ ⟨rfl, fun j hj => by omega, fun j hj => by omega⟩ (by omega)).mono ?_
          rintro r w3 ⟨A3, c3, rfl, o3, b3⟩
          have B2 := bel_next B1 b3
          have hsz := b3.size
          obtain ⟨v', w4, hr, ho, hgr⟩ := append_run (P := Try.prog) (w := w3.alloc (.cells #[.complex .f64 x1 y1, .complex .f64 x1 y1] 22)) 51 Try.underlying51 cinfo (by omega) (own_below o3 ((Below.refl _ _).alloc (Nat.le_refl _) _))
            (news := [.complex .f64 x1 y1, .complex .f64 x1 y1]) (a := ⟨w3.heap.size, 0, none⟩) (m := 2) (c := 2) rfl
            (fun j u hu => by
              rw [Addr.add_mid, Nat.zero_add, (Blk.new w3 _ _).cell]
              simpa using hu)
            (fun u hu => by simp at hu; subst hu; rfl) (by omega) (by omega) (by simp; omega)
          obtain ⟨A4, c4, rfl⟩ := own_form ho
          have C4 : Cs w4 A4 [(x1, y1), (x1, y1)] := Cs.of (RdV.of_own ho)
          have B3 : Below W.heap.size W w4 := bel_next B1 ((b3.alloc (Nat.le_trans (Nat.le_refl _) b3.size) _).grown hgr (by simp; omega) (own_ge o3))
          obtain ⟨q, hq⟩ := st_mk hst
          clear ho hgr o3 b3 B2 B1 hsz hst
          go_wp2_with (at_builtin; refine wpList_append_run rfl _ _ _ _ rfl _ _ _ rfl rfl hr ?_)
          refine (span_any A4 c4 [(x1, y1), (x1, y1)] (by simp) w4 C4).mono ?_
          rintro r w' ⟨x6, y6, e6, n6, rfl, v6, u6, p6, p7, rfl⟩
          obtain rfl := span_twice p6 hq
          obtain rfl := span_twice p7 hq
          have q5 := ord_eq v6 val_zero
          have q6 := ord_eq u6 val_zero
          clear v6 u6 p6 p7
          go_wp2_with fail
          refine (awake_any _).mono ?_
          rintro r w' ⟨rfl, rfl⟩
          go_wp2_with fail
          go_ret
          exact ⟨rfl, B3⟩

end Go.Proofs.Ytadplihjakiniaa
