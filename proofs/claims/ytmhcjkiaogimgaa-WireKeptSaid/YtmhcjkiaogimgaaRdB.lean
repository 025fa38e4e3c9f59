/- The program's reader: its memory; byte. -/
import Derived.Test.YtmhcjkiaogimgaaRdA
import Derived.Test.YtmhcjkiaogimgaaWirO
import Derived.WalkMore
import Derived.Scope
import Derived.BigQuiet
import Derived.Deep.QuietTactic
namespace Go.Proofs.Ytmhcjkiaogimgaa
open Go.RowKit

/-- From what was left (none: gone wrong) v was read, and this is left. -/
def Read {α : Type} (p : Prs α) (st : Option (List Int)) (v : α) (st' : Option (List Int)) : Prop :=
  match st with
  | none => st' = none
  | some s => match p s with
    | none => st' = none
    | some (x, t) => v = x ∧ st' = some t
theorem Read.bad {α : Type} (p : Prs α) (v : α) : Read p none v none := rfl
theorem Read.no {α : Type} {p : Prs α} {s : List Int} (h : p s = none) (v : α) : Read p (some s) v none := by rw [Read, h]
theorem Read.yes {α : Type} {p : Prs α} {s t : List Int} {x : α} (h : p s = some (x, t)) : Read p (some s) x (some t) := by rw [Read, h]; exact ⟨rfl, rfl⟩
theorem Read.ret {α : Type} (x : α) (st : Option (List Int)) : Read (pret x) st x st := by
  cases st with
  | none => rfl
  | some s => exact ⟨rfl, rfl⟩
theorem Read.bind {α β : Type} {p : Prs α} {f : α → Prs β} {st st1 st2 : Option (List Int)} {v : α} {y : β} (h : Read p st v st1) (k : Read (f v) st1 y st2) : Read (pbind p f) st y st2 := by
  cases st with
  | none =>
    have h : st1 = none := h
    subst h
    exact k
  | some s =>
    cases hp : p s with
    | none =>
      rw [Read, hp] at h
      simp only at h
      subst h
      rw [Read, pbind_none hp]
      exact k
    | some xt =>
      obtain ⟨x, t⟩ := xt
      rw [Read, hp] at h
      simp only at h
      obtain ⟨rfl, rfl⟩ := h
      rw [Read, pbind_some hp]
      exact k
/-- Nothing more is read. -/
theorem Read.fail {α : Type} {p : Prs α} (h : ∀ s, p s = none) (st : Option (List Int)) (v : α) : Read p st v none := by
  cases st with
  | none => rfl
  | some s => exact Read.no (h s) v
theorem Read.none_of {α : Type} {p : Prs α} {st : Option (List Int)} {v : α} (h : Read p none v st) : st = none := h
theorem Read.fst {α : Type} {p : Prs α} {st st' : Option (List Int)} {v : α} (h : Read p st v st') {t : List Int} (ht : st' = some t) : ∃ s, st = some s ∧ p s = some (v, t) := by
  cases st with
  | none => have h : st' = none := h; rw [h] at ht; cases ht
  | some s =>
    cases hp : p s with
    | none => rw [Read, hp] at h; simp only at h; rw [h] at ht; cases ht
    | some xt =>
      obtain ⟨x, u⟩ := xt
      rw [Read, hp] at h
      simp only at h
      obtain ⟨rfl, h⟩ := h
      rw [h] at ht
      injection ht with ht
      subst ht
      exact ⟨s, rfl, hp⟩

/-- A reader in block q, over the bytes l; st: what is left (none: it went wrong). -/
structure RSt (w : World) (q : Nat) (A : Option Addr) (c : Nat) (l : List Int) (st : Option (List Int)) : Prop where
  rd : Rd .u8 w A l
  ne : ∀ x, A = some x → x.block ≠ q
  isb : isB l
  len : l.length ≤ 140737488355328
  cap : l.length ≤ c
  lim : c ≤ 9223372036854775807
  blk : ∃ (k : Nat) (bad : Bool), Blk w q #[.slice A l.length c, .int .i64 k, .bool bad] 97 ∧ k ≤ l.length ∧ st = if bad then none else some (l.drop k)
theorem RSt.to {w w' : World} {q : Nat} {A : Option Addr} {c : Nat} {l : List Int} {st : Option (List Int)} (h : RSt w q A c l st) (hk : Kp (fun k => k = q) w w') (k : Nat) (bad : Bool) (hb : Blk w' q #[.slice A l.length c, .int .i64 k, .bool bad] 97) (hl : k ≤ l.length)
    {st' : Option (List Int)} (he : st' = if bad then none else some (l.drop k)) : RSt w' q A c l st' :=
  ⟨h.rd.kp hk (fun x hx => h.ne x hx), h.ne, h.isb, h.len, h.cap, h.lim, k, bad, hb, hl, he⟩
theorem RSt.below {w w' : World} {q : Nat} {A : Option Addr} {c : Nat} {l : List Int} {st : Option (List Int)} (h : RSt w q A c l st) (b : Below w.heap.size w w') : RSt w' q A c l st := by
  obtain ⟨k, bad, hb, hl, he⟩ := h.blk
  exact ⟨h.rd.below b, h.ne, h.isb, h.len, h.cap, h.lim, k, bad, hb.kp (S := fun _ => False) (Kp.of_below b) (fun h => h), hl, he⟩
theorem RSt.lt {w : World} {q : Nat} {A : Option Addr} {c : Nat} {l : List Int} {st : Option (List Int)} (h : RSt w q A c l st) : q < w.heap.size := by
  obtain ⟨k, bad, hb, _⟩ := h.blk
  exact hb.lt

/-- What a reading leaves. -/
def Got {α : Type} (p : Prs α) (val : α → Value) (ok : α → Prop) (q : Nat) (A : Option Addr) (c : Nat) (l : List Int) (st : Option (List Int)) (w : World) (e : Ending) (w' : World) : Prop :=
  ∃ v st', e = .returned (val v) ∧ ok v ∧ Kp (fun k => k = q) w w' ∧ RSt w' q A c l st' ∧ Read p st v st'

theorem wrap_id {z : Int} (h0 : 0 ≤ z) (h1 : z ≤ 9223372036854775807) : IntKind.i64.wrap z = z := by
  rw [IntKind.wrap_i64]
  omega
theorem drop_cons {l : List Int} {k : Nat} (h : k < l.length) : l.drop k = l.getD k 0 :: l.drop (k + 1) := by
  rw [List.drop_eq_getElem_cons h]
  simp [List.getD_eq_getElem?_getD, h]

theorem RSt.stop {w W0 : World} {q : Nat} {A : Option Addr} {c : Nat} {l : List Int} {st : Option (List Int)} (h : RSt w q A c l st) (hd : Drawn w W0) :
    Kp (fun k => k = q) w (W0.setCell ⟨q, 2, none⟩ (.bool true)) ∧ RSt (W0.setCell ⟨q, 2, none⟩ (.bool true)) q A c l none := by
  obtain ⟨k, bad, hb, hk, _⟩ := h.blk
  have hkp : Kp (fun k => k = q) w (W0.setCell ⟨q, 2, none⟩ (.bool true)) := Kp.setCell (S := fun k => k = q) (hd.kp _) (p := ⟨q, 2, none⟩) rfl _
  exact ⟨hkp, h.to hkp k true ((hb.kp (hd.kp (fun _ => False)) (fun h => h)).set 2 _) hk rfl⟩
theorem RSt.cells {w : World} {q : Nat} {A : Option Addr} {c : Nat} {l : List Int} {st : Option (List Int)} (h : RSt w q A c l st) : ∃ (k : Nat) (bad : Bool), w.cell? ⟨q, 0, none⟩ = some (.slice A l.length c) ∧ w.cell? ⟨q, 1, none⟩ = some (.int .i64 k) ∧ w.cell? ⟨q, 2, none⟩ = some (.bool bad) ∧
    w.frozen? ⟨q, 1, none⟩ = false ∧ w.frozen? ⟨q, 2, none⟩ = false ∧ k ≤ l.length ∧ st = if bad then none else some (l.drop k) := by
  obtain ⟨k, bad, hb, hk, he⟩ := h.blk
  exact ⟨k, bad, by rw [hb.cell]; rfl, by rw [hb.cell]; rfl, by rw [hb.cell]; rfl, hb.frozen 1, hb.frozen 2, hk, he⟩
/-- The reader goes on: its place is k now. -/
theorem RSt.move {w W0 W1 : World} {q : Nat} {A : Option Addr} {c : Nat} {l : List Int} {st : Option (List Int)} (h : RSt w q A c l st) {s : List Int} (hs : st = some s) (hd : Drawn w W0) (k : Nat) (hk : k ≤ l.length) (z : Int) (hz : z = k) (hd1 : Drawn (W0.setCell ⟨q, 1, none⟩ (.int .i64 z)) W1) :
    Kp (fun k => k = q) w W1 ∧ RSt W1 q A c l (some (l.drop k)) := by
  subst hz
  obtain ⟨k0, bad, hb, _, he⟩ := h.blk
  have hbad : bad = false := by
    cases bad with
    | false => rfl
    | true => rw [hs] at he; cases he
  subst hbad
  have hkp : Kp (fun k => k = q) w (W0.setCell ⟨q, 1, none⟩ (.int .i64 k)) := Kp.setCell (S := fun k => k = q) (hd.kp _) (p := ⟨q, 1, none⟩) rfl _
  have hkp2 : Kp (fun k => k = q) w W1 := ⟨(hd1.kp (fun k => k = q)).os.trans hkp.os, (hd1.kp (fun k => k = q)).tape.trans hkp.tape, (hd1.kp (fun k => k = q)).output.trans hkp.output, Nat.le_trans hkp.size (hd1.kp (fun k => k = q)).size, fun i hi hs => ((hd1.kp (fun k => k = q)).block i (Nat.lt_of_lt_of_le hi hkp.size) hs).trans (hkp.block i hi hs)⟩
  exact ⟨hkp2, h.to hkp2 k false ((((hb.kp (hd.kp (fun _ => False)) (fun h => h)).set 1 _).kp (hd1.kp (fun _ => False)) (fun h => h))) hk rfl⟩

set_option maxHeartbeats 1000000 in
theorem rbyte_any (w : World) (q : Nat) (A : Option Addr) (c : Nat) (l : List Int) (st : Option (List Int)) (h : RSt w q A c l st) :
    Calls Try.prog 54 #[.pointer (some ⟨q, 0, none⟩)] w (Got pbyte (Value.int .i64) (fun v => 0 ≤ v ∧ v < 256) q A c l st w) := by
  obtain ⟨k, bad, c0, c1, c2, f1, f2, hk, he⟩ := h.cells
  have HD := Lib.hid h
  have hlen := h.len
  cases bad with
  | true =>
    have HE : Hid (st = none) := he
    clear hk he h hlen
    generalize l.length = n at *
    go_enter Try.func54, Try.ntmps54
    go_wp2_with fail
    go_quiet (fail)
    go_wp2_with fail
    go_ret
    obtain ⟨g1, g2⟩ := HD.out.stop ((Drawn.refl w).drewN _)
    exact ⟨0, none, rfl, by omega, g1, g2, by rw [HE.out]; rfl⟩
  | false =>
    have HE : Hid (st = some (l.drop k)) := he
    by_cases hlt : k < l.length
    · have hnge : decide ((k : Int) ≥ (l.length : Int)) = false := decide_eq_false (by omega)
      obtain ⟨x, hx, _, hc⟩ := h.rd.at_ k hlt
      have HR := Lib.hid (drop_cons hlt)
      have hB := h.isb _ (List.mem_of_getElem? (l := l) (i := k) (a := l.getD k 0) (by simp [List.getD_eq_getElem?_getD, hlt]))
      have e1 : IntKind.i64.wrap ((k : Int) + 1) = (k : Int) + 1 := wrap_id (by omega) (by omega)
      have e2 : IntKind.i64.wrap (k : Int) = (k : Int) := wrap_id (by omega) (by omega)
      have e3 : IntKind.i64.wrap (l.getD k 0) = l.getD k 0 := wrap_id (by omega) (by omega)
      have hkl : k + 1 ≤ l.length := hlt
      have HC : ∀ nq, ((w.drewN nq).setCell ⟨q, 1, none⟩ (.int .i64 ((k : Int) + 1))).cell? (x.add k) = some (.int .u8 (l.getD k 0)) := fun nq => by
        obtain ⟨_, g2⟩ := h.move HE.out ((Drawn.refl w).drewN nq) (k + 1) hkl ((k : Int) + 1) (by omega) (Drawn.refl _)
        obtain ⟨y, hy, _, hcy⟩ := g2.rd.at_ k hlt
        rw [hx] at hy
        injection hy with hy
        subst hy
        exact hcy
      have HC := Lib.hid HC
      have HB := Lib.hid hB
      have HK := Lib.hid hkl
      clear he h hk hB hkl
      subst hx
      have hlt' : (k : Int) < (l.length : Int) := by omega
      have h0 : (0 : Int) ≤ (k : Int) := by omega
      generalize l.getD k 0 = b at *
      obtain ⟨n, hn⟩ : ∃ n, Hid (n = l.length) := ⟨_, rfl⟩
      rw [← hn.out] at c0 hnge hlt' hlt
      go_enter Try.func54, Try.ntmps54
      go_wp2_with fail
      go_quiet (fail)
      go_wp2_with fail
      have dc := HC.out nq
      go_quiet (fail)
      go_wp2_with fail
      go_ret
      obtain ⟨g1, g2⟩ := HD.out.move HE.out ((Drawn.refl w).drewN _) (k + 1) HK.out ((k : Int) + 1) rfl ((Drawn.refl _).drewN _)
      exact ⟨b, _, rfl, HB.out, g1, g2, by rw [HE.out, HR.out]; exact Read.yes rfl⟩
    · have hge : decide ((k : Int) ≥ (l.length : Int)) = true := decide_eq_true (by omega)
      have hle : l.length ≤ k := by omega
      have HS : Hid (pbyte (l.drop k) = none) := by show _ = _; rw [List.drop_eq_nil_of_le (by omega)]; rfl
      clear hk hlt he h hlen
      obtain ⟨n, hn⟩ : ∃ n, Hid (n = l.length) := ⟨_, rfl⟩
      rw [← hn.out] at c0 hge hle
      go_enter Try.func54, Try.ntmps54
      go_wp2_with fail
      go_quiet (fail)
      go_wp2_with fail
      go_ret
      obtain ⟨g1, g2⟩ := HD.out.stop ((Drawn.refl w).drewN _)
      exact ⟨0, none, rfl, by omega, g1, g2, by rw [HE.out]; exact Read.no HS.out _⟩

end Go.Proofs.Ytmhcjkiaogimgaa
