/- The program's reader: number. -/
import Derived.Test.YtmhcjkiaogimgaaRdB
import Derived.ScopeJumps
namespace Go.Proofs.Ytmhcjkiaogimgaa
open Go.RowKit

/-- As Q; by a goto to label l: J l. -/
def jumps (J : Nat → Act → World → Prop) (Q : Exit → Act → World → Prop) : Exit → Act → World → Prop
  | .goto l, a, w => J l a w
  | e, a, w => Q e a w
theorem wp_scope_jumps2 {P : Program} {a : Act} {w : World} {Q : Exit → Act → World → Prop} {c : Code} (rest : Nat → Code) (J : Nat → Act → World → Prop) (μ : Nat → Act → World → Nat) (hf : ∀ l a w, J l a w → findLabel c l = some (rest l))
    (first : c.wp P (jumps J Q) a w)
    (pass : ∀ l a w, J l a w → (rest l).wp P (jumps (fun l' a' w' => J l' a' w' ∧ μ l' a' w' < μ l a w) Q) a w) : (Code.scope c).wp P Q a w := by
  intro b k cs
  have hg : ∀ l a w, J l a w → gotoIn l (.inScope c :: k) = some (.code (rest l) :: .inScope c :: k) := fun l a w h => by simp [gotoIn, hf l a w h]
  have key : ∀ n l a w, μ l a w = n → J l a w → ∃ e a' w', Q e a' w' ∧ Arrives P (lone (b.at a (.code (rest l) :: .inScope c :: k)) cs w) b k cs e a' w' := by
    intro n
    induction n using Nat.strongRecOn with
    | _ n ih =>
      intro l a w hn hJ
      obtain ⟨e, a₁, w₁, hq, harr⟩ := pass l a w hJ b (.inScope c :: k) cs
      cases e with
      | normal => exact ⟨.normal, a₁, w₁, hq, Steps.trans harr (.one step_inScope)⟩
      | exit id => exact ⟨.exit id, a₁, w₁, hq, fun k' hk => harr k' (by simp [exitTo, hk])⟩
      | goto l' =>
        obtain ⟨hJ', hlt⟩ := hq
        obtain ⟨e₂, a₂, w₂, hq₂, harr₂⟩ := ih _ (by omega) l' a₁ w₁ rfl hJ'
        exact ⟨e₂, a₂, w₂, hq₂, .of_steps (harr _ (hg _ _ _ hJ')) harr₂⟩
      | ret => exact ⟨_, a₁, w₁, hq, harr⟩
      | panic ch => exact ⟨_, a₁, w₁, hq, harr⟩
      | outgrown => exact ⟨_, a₁, w₁, hq, harr⟩
  obtain ⟨e, a₁, w₁, hq, harr⟩ := first b (.inScope c :: k) cs
  cases e with
  | normal => exact ⟨.normal, a₁, w₁, hq, .head step_scope (Steps.trans harr (.one step_inScope))⟩
  | exit id => exact ⟨.exit id, a₁, w₁, hq, fun k' hk => .head step_scope (harr k' (by simp [exitTo, hk]))⟩
  | goto l' =>
    have hJ' : J l' a₁ w₁ := hq
    obtain ⟨e₂, a₂, w₂, hq₂, harr₂⟩ := key _ l' a₁ w₁ rfl hJ'
    exact ⟨e₂, a₂, w₂, hq₂, .of_steps (.head step_scope (harr _ (hg _ _ _ hJ'))) harr₂⟩
  | ret => exact ⟨_, a₁, w₁, hq, .of_steps (.one step_scope) harr⟩
  | panic ch => exact ⟨_, a₁, w₁, hq, .of_steps (.one step_scope) harr⟩
  | outgrown => exact ⟨_, a₁, w₁, hq, .of_steps (.one step_scope) harr⟩

/-- As Q; by a goto to label 0: J0; to label 1: J1; by any other: no way out. -/
def jumps2 (J0 J1 : Act → World → Prop) (Q : Exit → Act → World → Prop) : Exit → Act → World → Prop := jumps (fun l a w => match l with | 0 => J0 a w | 1 => J1 a w | _ => False) Q
theorem jumps2_0 {J0 J1 : Act → World → Prop} {Q : Exit → Act → World → Prop} {a : Act} {w : World} (h : J0 a w) : jumps2 J0 J1 Q (.goto 0) a w := h
theorem jumps2_1 {J0 J1 : Act → World → Prop} {Q : Exit → Act → World → Prop} {a : Act} {w : World} (h : J1 a w) : jumps2 J0 J1 Q (.goto 1) a w := h
theorem jumps2_ret {J0 J1 : Act → World → Prop} {Q : Exit → Act → World → Prop} {a : Act} {w : World} (h : Q .ret a w) : jumps2 J0 J1 Q .ret a w := h
theorem jumps2_mono {J0 J0' J1 : Act → World → Prop} {Q : Exit → Act → World → Prop} (h0 : ∀ a w, J0' a w → J0 a w) : ∀ e a w, jumps2 J0' J1 Q e a w → jumps2 J0 J1 Q e a w := by
  intro e a' w' h
  cases e with
  | goto l =>
    match l, h with
    | 0, h => exact h0 _ _ h
    | 1, h => exact h
  | _ => exact h
theorem wp_scope_two {P : Program} {a : Act} {w : World} {Q : Exit → Act → World → Prop} (pre rest r1 : Code) (J0 J1 : Act → World → Prop) (μ : Act → World → Nat) (h0 : findLabel (.seq pre (.seq (.label 0) rest)) 0 = some (.seq .skip rest)) (h1 : findLabel (.seq pre (.seq (.label 0) rest)) 1 = some r1)
    (first : ∀ K : Act → World → Prop, (∀ a w, J0 a w → K a w) → pre.wp P (fun e a' w' => e = .normal ∧ K a' w') a w)
    (pass0 : ∀ a w, J0 a w → rest.wp P (jumps2 (fun a' w' => J0 a' w' ∧ μ a' w' < μ a w) J1 Q) a w)
    (pass1 : ∀ a w, J1 a w → r1.wp P (jumps2 (fun _ _ => False) (fun _ _ => False) Q) a w) : (Code.scope (.seq pre (.seq (.label 0) rest))).wp P Q a w := by
  refine wp_scope_jumps2 (fun l => match l with | 0 => .seq .skip rest | _ => r1) (fun l a w => match l with | 0 => J0 a w | 1 => J1 a w | _ => False) (fun l a w => match l with | 0 => μ a w + 1 | _ => 0) ?_ ?_ ?_
  · intro l a w h
    match l, h with
    | 0, _ => exact h0
    | 1, _ => exact h1
  · refine wp_seq (Code.wp_mono ?_ (first J0 (fun _ _ h => h)))
    rintro e a' w' ⟨rfl, hJ⟩
    show Code.wp P (.seq (.label 0) rest) _ a' w'
    refine wp_seq (wp_label ?_)
    exact Code.wp_mono (jumps2_mono (fun _ _ h => And.left h)) (pass0 _ _ hJ)
  · intro l a w h
    match l, h with
    | 0, h =>
      refine wp_seq (wp_skip ?_)
      refine Code.wp_mono ?_ (pass0 a w h)
      intro e a' w' h
      cases e with
      | goto l =>
        match l, h with
        | 0, h => exact ⟨And.left h, Nat.succ_lt_succ (And.right h)⟩
        | 1, h => exact ⟨h, Nat.succ_pos _⟩
      | _ => exact h
    | 1, h =>
      refine Code.wp_mono ?_ (pass1 a w h)
      intro e a' w' h
      cases e with
      | goto l =>
        match l, h with
        | 0, h => exact False.elim h
        | 1, h => exact False.elim h
      | _ => exact h

theorem pn_nil : ∀ (j : Nat) (x u : Int), pn j x u [] = none
  | 0, _, _ => rfl
  | _ + 1, _, _ => rfl
theorem pow128 (k : Nat) : (128 : Int) ^ k = ((2 ^ (7 * k) : Nat) : Int) := by
  rw [Nat.pow_mul]; simp
theorem pow_le5 {k : Nat} (h : k ≤ 5) : 1 ≤ (128 : Int) ^ k ∧ (128 : Int) ^ k ≤ 34359738368 := by
  rcases (by omega : k = 0 ∨ k = 1 ∨ k = 2 ∨ k = 3 ∨ k = 4 ∨ k = 5) with rfl | rfl | rfl | rfl | rfl | rfl <;> decide
theorem read_byte_none {st : Option (List Int)} {v : Int} (h : Read pbyte st v none) (j : Nat) (x u y : Int) : Read (pn j x u) st y none := by
  cases st with
  | none => rfl
  | some s =>
    cases s with
    | nil => exact Read.no (pn_nil j x u) y
    | cons a t =>
      have h : v = a ∧ none = some t := h
      cases h.2
theorem Read.congr {α : Type} {p p' : Prs α} {s s' : List Int} {v : α} {st : Option (List Int)} (h : p s = p' s') (k : Read p' (some s') v st) : Read p (some s) v st := by
  unfold Read at k ⊢
  simp only at k ⊢
  rw [h]
  exact k
/-- One group more. -/
theorem group_run (v x : Int) (k : Nat) (_ : 0 ≤ v) (_ : v < 256) (hx0 : 0 ≤ x) (hx : x < 128 ^ k) (hk : k ≤ 5) : bits .or .i64 x (v % 128 * 128 ^ k) = x + v % 128 * 128 ^ k := by
  obtain ⟨a, rfl⟩ := Int.eq_ofNat_of_zero_le hx0
  obtain ⟨b, hb⟩ := Int.eq_ofNat_of_zero_le (show 0 ≤ v % 128 by omega)
  have hb' : b < 128 := by omega
  rw [hb]
  have hp := pow_le5 hk
  rw [pow128] at hx hp ⊢
  have hm : b * 2 ^ (7 * k) ≤ 127 * 2 ^ (7 * k) := Nat.mul_le_mul_right _ (by omega)
  have h1 := i64_or_nat a (b * 2 ^ (7 * k)) (by omega) (by omega)
  have h2 := Nat.two_pow_add_eq_or_of_lt (i := 7 * k) (b := a) (show a < 2 ^ (7 * k) by omega) b
  rw [Nat.or_comm, Nat.mul_comm b, ← h2] at h1
  rw [← Int.natCast_mul, Nat.mul_comm b, h1]
  omega

set_option maxRecDepth 100000 in
set_option maxHeartbeats 4000000 in
theorem rnum_any (w : World) (q : Nat) (A : Option Addr) (c : Nat) (l : List Int) (st : Option (List Int)) (h : RSt w q A c l st) :
    Calls Try.prog 55 #[.pointer (some ⟨q, 0, none⟩)] w (Got pnum (Value.int .i64) (fun v => 0 ≤ v ∧ v ≤ 1099511627776) q A c l st w) := by
  have HD := Lib.hid h
  clear h
  go_enter Try.func55, Try.ntmps55
  go_wp2_with fail
  refine wp_scope_two _ _ _
    (fun a' w' => ∃ (k : Nat) (x cv : Int) (st1 : Option (List Int)) (u6 u7 u8 u9 u10 u11 u12 u13 u14 u15 u16 u17 u18 u19 u20 u21 u22 u23 u24 u25 u26 u27 u28 u29 u30 u31 u32 u33 u34 u35 u36 u37 u38 u39 : Value), k ≤ 6 ∧ 0 ≤ x ∧ x < 128 ^ k ∧ Kp (fun k => k = q) w w' ∧ RSt w' q A c l st1 ∧ Hid (∀ v st', Read (pn (6 - k) x (128 ^ k)) st1 v st' → Read pnum st v st') ∧ a' = { tmps := #[.pointer (some ⟨q, 0, none⟩), undef, .int .i64 0, .int .i64 x, .int .i64 (7 * (k : Int)), .int .i64 cv, u6, u7, u8, u9, u10, u11, u12, u13, u14, u15, u16, u17, u18, u19, u20, u21, u22, u23, u24, u25, u26, u27, u28, u29, u30, u31, u32, u33, u34, u35, u36, u37, u38, u39], defers := [] })
    (fun a' w' => ∃ (x sh cv : Int) (st1 : Option (List Int)) (u6 u7 u8 u9 u10 u11 u12 u13 u14 u15 u16 u17 u18 u19 u20 u21 u22 u23 u24 u25 u26 u27 u28 u29 u30 u31 u32 u33 u34 u35 u36 u37 u38 u39 : Value), Kp (fun k => k = q) w w' ∧ RSt w' q A c l st1 ∧ Read pnum st 0 none ∧ a' = { tmps := #[.pointer (some ⟨q, 0, none⟩), undef, .int .i64 0, .int .i64 x, .int .i64 sh, .int .i64 cv, u6, u7, u8, u9, u10, u11, u12, u13, u14, u15, u16, u17, u18, u19, u20, u21, u22, u23, u24, u25, u26, u27, u28, u29, u30, u31, u32, u33, u34, u35, u36, u37, u38, u39], defers := [] })
    (fun a' _ => 100 - (intOf (a'.tmps.getD 4 undef)).toNat) rfl rfl ?first ?pass0 ?pass1
  case first =>
    intro K hK
    have HJ := Lib.hid hK
    clear hK
    go_wp2_with fail
    exact HJ.out _ _ ⟨0, 0, 0, st, _, _, _, _, _, _, _, _, _, _, _, _, _, _, _, _, _, _, _, _, _, _, _, _, _, _, _, _, _, _, _, _, _, _, by omega, by omega, by decide, Kp.refl _ _, HD.out, fun v st' hh => hh, rfl⟩
  case pass0 =>
    rintro a' w1 ⟨k, x, cv, st1, u6, u7, u8, u9, u10, u11, u12, u13, u14, u15, u16, u17, u18, u19, u20, u21, u22, u23, u24, u25, u26, u27, u28, u29, u30, u31, u32, u33, u34, u35, u36, u37, u38, u39, hk, hx0, hx, hkp, hR, hN, rfl⟩
    go_wp2_with fail
    refine (rbyte_any w1 q A c l st1 hR).mono ?_
    rintro e w2 ⟨v, st2, rfl, ⟨hv0, hv⟩, hkp2, hR2, hrd⟩
    have hkp3 := hkp.trans hkp2
    obtain ⟨k2, bad, c0, c1, c2, f1, f2, _, he⟩ := hR2.cells
    have HR := Lib.hid hR2
    have HK := Lib.hid hkp3
    have HRD := Lib.hid hrd
    have HE := Lib.hid he
    have HX := Lib.hid (And.intro hx0 hx)
    have HV := Lib.hid (And.intro hv0 hv)
    clear hR hkp hkp2 hkp3 hR2 hrd he hx0 hx hv0 hv
    cases bad with
    | true =>
      have hst : Hid (st2 = none) := HE.out
      go_wp2_with fail
      go_step3
      refine jumps2_1 ⟨_, _, _, st2, _, _, _, _, _, _, _, _, _, _, _, _, _, _, _, _, _, _, _, _, _, _, _, _, _, _, _, _, _, _, _, _, _, _, HK.out, HR.out, hN.out 0 none ?_, rfl⟩
      have := HRD.out
      rw [hst.out] at this
      exact read_byte_none this _ _ _ _
    | false =>
      obtain ⟨s2, hs2⟩ : ∃ s2, Hid (st2 = some s2) := ⟨_, HE.out⟩
      obtain ⟨s1, hs1, hp1⟩ := HRD.out.fst hs2.out
      have HS := Lib.hid (And.intro hs1 hp1)
      clear hs1 hp1
      by_cases h6 : k = 6
      · subst h6
        go_wp2_with fail
        go_step3
        refine jumps2_1 ⟨_, _, _, st2, _, _, _, _, _, _, _, _, _, _, _, _, _, _, _, _, _, _, _, _, _, _, _, _, _, _, _, _, _, _, _, _, _, _, HK.out, HR.out, hN.out 0 none ?_, rfl⟩
        exact Read.fail (fun _ => rfl) _ _
      · have h5 : ¬ (35 < 7 * (k : Int)) := by omega
        by_cases hz : v = 0 ∧ 0 < k
        · obtain ⟨rfl, hk0⟩ := hz
          have h7 : 0 < 7 * (k : Int) := by omega
          go_wp2_with fail
          go_step3
          refine jumps2_1 ⟨_, _, _, st2, _, _, _, _, _, _, _, _, _, _, _, _, _, _, _, _, _, _, _, _, _, _, _, _, _, _, _, _, _, _, _, _, _, _, HK.out, HR.out, hN.out 0 none ?_, rfl⟩
          rw [HS.out.1]
          obtain ⟨j, hj⟩ : ∃ j, 6 - k = j + 1 := ⟨5 - k, by omega⟩
          have hs1 : s1 = 0 :: s2 := by
            have := HS.out.2
            cases s1 with
            | nil => cases this
            | cons a b =>
              simp only [pbyte, Option.some.injEq, Prod.mk.injEq] at this
              rw [this.1, this.2]
          refine Read.no ?_ _
          obtain ⟨k', rfl⟩ : ∃ k', k = k' + 1 := ⟨k - 1, by omega⟩
          have hp := (pow_le5 (k := k') (by omega)).1
          rw [hj, hs1, pn, if_pos ⟨rfl, by rw [Int.pow_succ]; omega⟩]
        · obtain ⟨j, hj⟩ : ∃ j, 6 - k = j + 1 := ⟨5 - k, by omega⟩
          have hj2 : 6 - (k + 1) = j := by omega
          have hpw := pow_le5 (k := k) (by omega)
          have hvb := HV.out
          have hxb := HX.out
          have hmul := Int.mul_le_mul_of_nonneg_right (show v % 128 ≤ 127 by omega) (show 0 ≤ (128 : Int) ^ k by omega)
          have hmul0 := Int.mul_nonneg (show 0 ≤ v % 128 by omega) (show 0 ≤ (128 : Int) ^ k by omega)
          have HG := Lib.hid (group_run v x k hvb.1 hvb.2 hxb.1 hxb.2 (by omega))
          have e1 := and_127 v hvb.1 (by omega)
          obtain ⟨z, hz2⟩ : ∃ z, Hid (z = v % 128 * 128 ^ k) := ⟨_, rfl⟩
          obtain ⟨y, hy2⟩ : ∃ y, Hid (y = x + v % 128 * 128 ^ k) := ⟨_, rfl⟩
          have e2 : wrap64 (v % 128 * 2 ^ (7 * k)) = z := by
            rw [hz2.out]
            have : (2 : Int) ^ (7 * k) = 128 ^ k := by rw [pow128]; simp
            rw [this]
            simp only [wrap64]
            omega
          have e3 : bits .or .i64 x z = y := by rw [hy2.out, hz2.out]; exact HG.out
          have hy0 : Hid (0 ≤ y) := by show _ ≤ _; rw [hy2.out]; omega
          have hylt : Hid (y < 128 ^ (k + 1)) := by show _ < _; rw [hy2.out, Int.pow_succ]; omega
          have HPN : Hid (pn (6 - k) x (128 ^ k) s1 = if 127 < v then pn j y (128 ^ (k + 1)) s2 else if y ≤ 1099511627776 then some (y, s2) else none) := by
            show _ = _
            have hs1 : s1 = v :: s2 := by
              have := HS.out.2
              cases s1 with
              | nil => cases this
              | cons a b =>
                simp only [pbyte, Option.some.injEq, Prod.mk.injEq] at this
                rw [this.1, this.2]
            rw [hs1, hj, pn, if_neg (by
              rintro ⟨h0, h1⟩
              refine hz ⟨h0, ?_⟩
              rcases Nat.eq_zero_or_pos k with hk0 | hk0
              · subst hk0; simp at h1
              · exact hk0), hy2.out, Int.pow_succ]
          have HZ := Lib.hid hz
          clear hpw hvb hxb hmul hmul0 hz
          by_cases hv0 : v = 0
          · have hk0 : k = 0 := by
              rcases Nat.eq_zero_or_pos k with hk0 | hk0
              · exact hk0
              · exact absurd ⟨hv0, hk0⟩ HZ.out
            subst hv0; subst hk0
            have hx1 : x = 0 := by have := HX.out; simp at this; omega
            subst hx1
            have e4 : wrap64 0 = 0 := by simp only [wrap64]; omega
            have e5 := e1
            simp only [show (0 : Int) % 128 = 0 from rfl] at e5
            have e6 : bits .or .i64 0 0 = 0 := by kernel_rfl
            have hyz : Hid (y = 0) := by show _ = _; rw [hy2.out]; rfl
            clear e1 e2 e3
            go_wp2_with fail
            refine jumps2_ret ?_
            go_ret
            refine ⟨0, st2, rfl, by omega, HK.out, HR.out, hN.out 0 st2 ?_⟩
            rw [HS.out.1, hs2.out]
            refine Read.yes ?_
            have := HPN.out
            rw [hyz.out] at this
            exact this
          · by_cases h127 : 127 < v
            · go_wp2_with fail
              go_step3
              refine jumps2_0 ⟨⟨k + 1, y, ?_, st2, ?_, ?_, ?_, ?_, ?_, ?_, ?_, ?_, ?_, ?_, ?_, ?_, ?_, ?_, ?_, ?_, ?_, ?_, ?_, ?_, ?_, ?_, ?_, ?_, ?_, ?_, ?_, ?_, ?_, ?_, ?_, ?_, ?_, ?_, by omega, hy0.out, hylt.out, HK.out, HR.out, fun v' st' hh => hN.out v' st' ?rd, ?fr⟩, ?ms⟩
              case fr => rw [show (7 * ((k + 1 : Nat) : Int)) = 7 * k + 7 by omega]
              case rd =>
                rw [HS.out.1]
                rw [hj2, hs2.out] at hh
                refine Read.congr (p' := pn j y (128 ^ (k + 1))) (s' := s2) ?_ hh
                rw [HPN.out, if_pos (by omega)]
              case ms => simp [intOf]; omega
            · have h128 : v ≤ 127 := by omega
              by_cases hyM : y ≤ 1099511627776
              · go_wp2_with fail
                refine jumps2_ret ?_
                go_ret
                refine ⟨y, st2, rfl, ⟨hy0.out, hyM⟩, HK.out, HR.out, hN.out y st2 ?_⟩
                rw [HS.out.1, hs2.out]
                refine Read.yes ?_
                rw [HPN.out, if_neg (by omega), if_pos hyM]
              · have hyM' : 1099511627776 < y := by omega
                go_wp2_with fail
                go_step3
                go_wp2_with fail
                refine jumps2_ret ?_
                go_ret
                obtain ⟨g1, g2⟩ := HR.out.stop (Drawn.refl _)
                refine ⟨0, none, rfl, by omega, HK.out.trans g1, g2, hN.out 0 none ?_⟩
                rw [HS.out.1]
                refine Read.no ?_ _
                rw [HPN.out, if_neg (by omega), if_neg (by omega)]
  case pass1 =>
    rintro a' w1 ⟨x, sh, cv, st1, u6, u7, u8, u9, u10, u11, u12, u13, u14, u15, u16, u17, u18, u19, u20, u21, u22, u23, u24, u25, u26, u27, u28, u29, u30, u31, u32, u33, u34, u35, u36, u37, u38, u39, hkp, hR, hN, rfl⟩
    obtain ⟨k, bad, c0, c1, c2, f1, f2, hk, he⟩ := hR.cells
    have HN := Lib.hid hN
    have HR := Lib.hid hR
    have HK := Lib.hid hkp
    clear hN hR hkp he hk
    go_wp2_with fail
    refine jumps2_ret ?_
    go_ret
    obtain ⟨g1, g2⟩ := HR.out.stop (Drawn.refl _)
    exact ⟨0, none, rfl, by omega, HK.out.trans g1, g2, HN.out⟩

end Go.Proofs.Ytmhcjkiaogimgaa
