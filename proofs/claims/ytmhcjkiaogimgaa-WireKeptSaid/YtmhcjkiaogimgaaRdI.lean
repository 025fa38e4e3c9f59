/- reader.many, over any closure that reads one thing more. -/
import Derived.Test.YtmhcjkiaogimgaaRdH
namespace Go.Proofs.Ytmhcjkiaogimgaa
open Go.RowKit

/-- A closure that is called again and again. -/
structure Reader {α : Type} (F : FuncId) (cap : Array Value) (p : Prs α) (q : Nat) (A : Option Addr) (c : Nat) (l : List Int) (I : List α → Option (List Int) → World → Prop) : Prop where
  rst : ∀ xs st w, I xs st w → RSt w q A c l st
  move : ∀ xs st w st' w', I xs st w → Kp (fun k => k = q) w w' → RSt w' q A c l st' → I xs st' w'
  enter : ∀ (args : Array Value) (w : World), (callFunc F args).run Try.prog w = .ok (.enter F args) w
  step : ∀ xs st w, xs.length < 48 → I xs st w → Calls Try.prog F cap w fun e w' => e = .returned (.tuple #[]) ∧ ∃ x st', Read p st x st' ∧ I (xs ++ [x]) st' w'

theorem run_enter {f : FuncId} {fn : Func} (hf : Try.prog.funcs[f]? = some fn) (hb : fn.body.isNone = false) (hn : (fn.name == "runtime.NumGoroutine") = false) (args : Array Value) (w : World) : (callFunc f args).run Try.prog w = .ok (.enter f args) w := by
  have hn' : ¬ fn.name = "runtime.NumGoroutine" := by simpa using hn
  have hb' : ¬ fn.body = none := by
    intro h
    rw [h] at hb
    cases hb
  unfold callFunc
  simp only [Sem.run_bind]
  show Result.andThen (.ok Try.prog w) _ = _
  simp only [Result.andThen, hf]
  simp [hn', hb']
theorem read_cnt_bad {α : Type} {p : Prs α} {st st1 : Option (List Int)} {n : Int} (h : Read pnum st n st1) (hn : 48 < n ∨ st1 = none) (xs : List α) : Read (gcnt pnum pcnt p) st xs none := by
  refine h.bind (f := fun n => match pcnt n with | some k => gmany p k | none => pfail) ?_
  rcases hn with hn | rfl
  · rw [pcnt, if_neg (by omega)]
    exact Read.fail (fun _ => rfl) _ _
  · rfl

set_option maxRecDepth 100000 in
set_option maxHeartbeats 4000000 in
theorem many_any {α : Type} {F : FuncId} {gm gr : Nat} {p : Prs α} {q : Nat} {A : Option Addr} {c : Nat} {l : List Int} {I : List α → Option (List Int) → World → Prop} (R : Reader F #[.pointer (some ⟨gm, 0, none⟩), .pointer (some ⟨gr, 0, none⟩)] p q A c l I) (st : Option (List Int)) (w : World) (h : I [] st w) :
    Calls Try.prog 78 #[.pointer (some ⟨q, 0, none⟩), .func (.func F) #[] #[.pointer (some ⟨gm, 0, none⟩), .pointer (some ⟨gr, 0, none⟩)]] w fun e w' => e = .returned (.tuple #[]) ∧ ∃ xs st', Read (gcnt pnum pcnt p) st xs st' ∧ I xs st' w' := by
  have H := Lib.hid h
  clear h
  have hen := R.enter
  go_enter Try.func78, Try.ntmps78
  go_wp2_with fail
  refine (rnum_any w q A c l st (R.rst _ _ _ H.out)).mono ?_
  rintro e w1 ⟨n, st1, rfl, ⟨hn0, hn1⟩, hk, hr, hrd⟩
  obtain ⟨k, bad, c0, c1, c2, f1, f2, _, he⟩ := hr.cells
  have hI := Lib.hid (R.move _ _ _ _ _ H.out hk hr)
  have HR := Lib.hid hr
  have HK := Lib.hid hk
  have HRD := Lib.hid hrd
  have HE := Lib.hid he
  clear hk hr hrd he H
  by_cases h48 : 48 < n
  · obtain ⟨g1, g2⟩ := HR.out.stop (Drawn.refl _)
    have hI2 := R.move _ _ _ _ _ hI.out g1 g2
    have HI2 := Lib.hid hI2
    have HS : Hid (∀ z : Option (List Int), z = none → z = none ∨ (([] : List α).length : Int) + n ≤ 48) := fun _ h => .inl h
    have HREL : Hid (∀ r st', Read (gmany p n.toNat) none r st' → Read (gcnt pnum pcnt p) st ([] ++ r) st') := fun r st' hr => by
      rw [Read.none_of hr]; exact read_cnt_bad HRD.out (.inl h48) _
    clear g1 g2 hI2 hI HR
    go_wp2_with fail
    go_loopw [4] (fun v wr => ∃ (N : Int) (xs : List α) (st2 : Option (List Int)), 0 ≤ N ∧ N ≤ 1099511627776 ∧ v = .int .i64 N ∧ I xs st2 wr ∧ (st2 = none ∨ (xs.length : Int) + N ≤ 48) ∧ Hid (∀ r st', Read (gmany p N.toNat) st2 r st' → Read (gcnt pnum pcnt p) st (xs ++ r) st')) (fun v _ => (intOf v).toNat)
    case atStart => exact ⟨n, [], _, hn0, hn1, rfl, HI2.out, HS.out _ rfl, HREL.out⟩
    case round =>
      obtain ⟨N, xs, st2, hN0, hN1, rfl, hI2, hs, hrel⟩ := hrel
      have HJ := Lib.hid hI2
      obtain ⟨k2, bad2, e0, e1, e2, _, _, _, he2⟩ := (R.rst _ _ _ hI2).cells
      have HE2 := Lib.hid he2
      have HSS := Lib.hid hs
      clear hI2 he2 hs
      by_cases hN : 0 < N
      · cases bad2 with
        | true =>
          have hst : Hid (st2 = none) := HE2.out
          go_wp2_with fail
          go_end0
          refine ⟨rfl, xs, none, ?_, by have := HJ.out; rwa [hst.out] at this⟩
          have := hrel.out [] none (by rw [hst.out]; rfl)
          rwa [List.append_nil] at this
        | false =>
          have hlt : xs.length < 48 := by
            rcases HSS.out with h0 | h0
            · have := HE2.out; rw [h0] at this; cases this
            · omega
          go_wp2_with fail
          refine (R.step xs st2 wr hlt HJ.out).mono ?_
          rintro e w3 ⟨rfl, x, st3, hx, hI3⟩
          have HI3 := Lib.hid hI3
          have HX := Lib.hid hx
          clear hI3 hx
          go_wp2_with fail
          go_roundw
          case rel =>
            refine ⟨N - 1, xs ++ [x], st3, by omega, by omega, by go_num, HI3.out, ?_, fun r st' hr => ?_⟩
            · rcases HSS.out with h0 | h0
              · have := HE2.out; rw [h0] at this; cases this
              · right; rw [List.length_append, List.length_singleton]; omega
            · have h1 : N.toNat = (N - 1).toNat + 1 := by omega
              have := hrel.out (x :: r) st' (by rw [h1, gmany]; exact HX.out.bind (hr.bind (Read.ret _ _)))
              simpa using this
          case measure => simp [intOf]; omega
      · have h0 : N = 0 := by omega
        subst h0
        go_wp2_with fail
        go_end0
        refine ⟨rfl, xs, st2, ?_, HJ.out⟩
        have := hrel.out [] st2 (Read.ret _ _)
        rwa [List.append_nil] at this
  · have HI2 := hI
    have HS : Hid (st1 = none ∨ (([] : List α).length : Int) + n ≤ 48) := .inr (by simp; omega)
    have HREL : Hid (∀ r st', Read (gmany p n.toNat) st1 r st' → Read (gcnt pnum pcnt p) st ([] ++ r) st') := fun r st' hr => by
      refine HRD.out.bind (f := fun n => match pcnt n with | some k => gmany p k | none => pfail) ?_
      rw [pcnt, if_pos (by omega)]
      exact hr
    clear hI HR
    go_wp2_with fail
    go_loopw [4] (fun v wr => ∃ (N : Int) (xs : List α) (st2 : Option (List Int)), 0 ≤ N ∧ N ≤ 1099511627776 ∧ v = .int .i64 N ∧ I xs st2 wr ∧ (st2 = none ∨ (xs.length : Int) + N ≤ 48) ∧ Hid (∀ r st', Read (gmany p N.toNat) st2 r st' → Read (gcnt pnum pcnt p) st (xs ++ r) st')) (fun v _ => (intOf v).toNat)
    case atStart => exact ⟨n, [], _, hn0, hn1, rfl, HI2.out, HS.out, HREL.out⟩
    case round =>
      obtain ⟨N, xs, st2, hN0, hN1, rfl, hI2, hs, hrel⟩ := hrel
      have HJ := Lib.hid hI2
      obtain ⟨k2, bad2, e0, e1, e2, _, _, _, he2⟩ := (R.rst _ _ _ hI2).cells
      have HE2 := Lib.hid he2
      have HSS := Lib.hid hs
      clear hI2 he2 hs
      by_cases hN : 0 < N
      · cases bad2 with
        | true =>
          have hst : Hid (st2 = none) := HE2.out
          go_wp2_with fail
          go_end0
          refine ⟨rfl, xs, none, ?_, by have := HJ.out; rwa [hst.out] at this⟩
          have := hrel.out [] none (by rw [hst.out]; rfl)
          rwa [List.append_nil] at this
        | false =>
          have hlt : xs.length < 48 := by
            rcases HSS.out with h0 | h0
            · have := HE2.out; rw [h0] at this; cases this
            · omega
          go_wp2_with fail
          refine (R.step xs st2 wr hlt HJ.out).mono ?_
          rintro e w3 ⟨rfl, x, st3, hx, hI3⟩
          have HI3 := Lib.hid hI3
          have HX := Lib.hid hx
          clear hI3 hx
          go_wp2_with fail
          go_roundw
          case rel =>
            refine ⟨N - 1, xs ++ [x], st3, by omega, by omega, by go_num, HI3.out, ?_, fun r st' hr => ?_⟩
            · rcases HSS.out with h0 | h0
              · have := HE2.out; rw [h0] at this; cases this
              · right; rw [List.length_append, List.length_singleton]; omega
            · have h1 : N.toNat = (N - 1).toNat + 1 := by omega
              have := hrel.out (x :: r) st' (by rw [h1, gmany]; exact HX.out.bind (hr.bind (Read.ret _ _)))
              simpa using this
          case measure => simp [intOf]; omega
      · have h0 : N = 0 := by omega
        subst h0
        go_wp2_with fail
        go_end0
        refine ⟨rfl, xs, st2, ?_, HJ.out⟩
        have := hrel.out [] st2 (Read.ret _ _)
        rwa [List.append_nil] at this

end Go.Proofs.Ytmhcjkiaogimgaa
