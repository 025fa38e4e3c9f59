/- Encode: a message's bytes. -/
import Derived.Test.YtmhcjkiaogimgaaWirI
import Derived.Test.YtmhcjkiaogimgaaWirL
namespace Go.Proofs.Ytmhcjkiaogimgaa
open Go.RowKit

def MsgD.rest (m : MsgD) : List Int := if m.kind = 1 then m.op.enc else if m.kind = 2 then vb m.entries.length ++ (m.entries.map EntryD.enc).flatten else if m.kind = 3 then vb m.keys.length ++ (m.keys.map KeyD.enc).flatten else []
/-- A message's bytes; e, n: its mark's parts. -/
def MsgD.enc (m : MsgD) (e n : Nat) : List Int := [m.kind % 256] ++ vbs [m.client, m.life, m.seq, (e : Int), (n : Int), m.version, m.err] ++ m.rest
def MsgD.encL (m : MsgD) (e n : Nat) : List Int := if m.ok then m.enc e n else []
def MsgD.encE (m : MsgD) : Int := if m.ok then 0 else 50

set_option maxHeartbeats 4000000 in
theorem encode_bad (m : MsgD) (s : Sls) (xs : Array Value) (w : World) (hx : MsgArg w xs m s) (hbad : Bad m.ma m.mb) : Calls Try.prog 14 #[.agg xs] w (OwnRes [] 50 w) := by
  obtain ⟨W, hW⟩ : ∃ W, W = w.alloc (.cells xs 34) := ⟨_, rfl⟩
  have hM := hx.box W hW
  have hlt := hM.blk.lt
  have HW := Lib.hid hW
  have HX := Lib.hid (hx.below hM.bel)
  clear hx hW
  go_enter Try.func14, Try.ntmps14
  go_upto_region 1 with fail
  rw [← HW.out]
  go_wp2_with (first | ((with_reducible refine wpList_load_msg (op := ⟨_, Op.load 34 _, _, _, _, _⟩) rfl _ rfl _ _ _ _ ?_ hM ?_); rfl))
  refine (plain_bad m s _ _ ⟨⟨rfl⟩, HX.out.ents, HX.out.keys⟩ hbad).mono ?_
  rintro e w1 ⟨rfl, b1⟩
  go_wp2_with fail
  go_ret2
  exact ⟨none, 0, rfl, own_none _ _ _ _, bel_next hM.bel b1⟩

theorem MsgD.ok_parts {m : MsgD} (h : m.ok = true) : (1 ≤ m.kind ∧ m.kind ≤ 4) ∧ (okN m.client = true ∧ okN m.life = true ∧ okN m.seq = true ∧ okN m.version = true ∧ okN m.err = true) ∧
    (m.kind = 1 → m.op.ok = true) ∧ (m.kind ≠ 1 → m.op = OpD.zero) ∧ (m.kind ≠ 2 → m.entries.length = 0) ∧ m.entries.length ≤ 48 ∧ (m.kind = 3 ↔ 0 < m.keys.length) ∧ m.keys.length ≤ 48 ∧ (∀ x ∈ m.entries, x.ok = true) ∧ ∀ x ∈ m.keys, x.ok = true := by
  simp only [MsgD.ok, Bool.and_eq_true, decide_eq_true_eq, MsgD.nums, List.all_cons, List.all_nil, and_true, Bool.or_eq_true, beq_iff_eq, List.all_eq_true, decide_eq_decide] at h
  obtain ⟨⟨⟨⟨⟨⟨h1, h2⟩, h3⟩, h4, h5⟩, h6, h7⟩, h8⟩, h9⟩ := h
  refine ⟨by simpa [okIn] using h1, h2, fun hk => ?_, fun hk => ?_, fun hk => ?_, h5, h6, h7, h8, h9⟩
  · rwa [if_pos hk] at h3
  · rw [if_neg hk] at h3
    exact of_decide_eq_true h3
  · exact h4.resolve_left hk
theorem InBox.al {q : Nat} {r : Option Nat} {w0 : World} {b : Nat} {cs : Array Value} {t : TypeId} {base : Nat} {w : World} {r1 : Option Nat} {l : List Int} (h : InBox q r w0 b cs t base w r1 l) (o : Obj) : InBox q r w0 b cs t base (w.alloc o) r1 l :=
  h.step (WTo.below (bel_al (Below.refl _ _) _)) (h.at_.below (bel_al (Below.refl _ _) _))
theorem InBox.drew {q : Nat} {r : Option Nat} {w0 : World} {b : Nat} {cs : Array Value} {t : TypeId} {base : Nat} {w : World} {r1 : Option Nat} {l : List Int} (h : InBox q r w0 b cs t base w r1 l) : InBox q r w0 b cs t base w.drew r1 l :=
  h.step (WTo.below ((Drawn.refl w).drew.below _)) (h.at_.below ((Drawn.refl w).drew.below _))
/-- The message's cells, in the box. -/
abbrev MC (g : Nat) (m : MsgD) (s : Sls) (w : World) : Prop := w.cell? ⟨g, 0, none⟩ = some (.int .i64 m.kind) ∧ w.cell? ⟨g, 1, none⟩ = some (.int .i64 m.client) ∧ w.cell? ⟨g, 2, none⟩ = some (.int .i64 m.life) ∧ w.cell? ⟨g, 3, none⟩ = some (.int .i64 m.seq) ∧
    w.cell? ⟨g, 4, none⟩ = some (.complex .f64 m.ma m.mb) ∧ w.cell? ⟨g, 5, none⟩ = some (.int .i64 m.version) ∧ w.cell? ⟨g, 6, none⟩ = some (.int .i64 m.err) ∧ w.cell? ⟨g, 14, none⟩ = some (.slice s.ea m.entries.length s.ec) ∧ w.cell? ⟨g, 15, none⟩ = some (.slice s.ka m.keys.length s.kc)
theorem mc_of {w : World} {g : Nat} {m : MsgD} {s : Sls} {t : TypeId} (h : Blk w g (m.cells s).toArray t) : MC g m s w :=
  ⟨by rw [h.cell]; rfl, by rw [h.cell]; rfl, by rw [h.cell]; rfl, by rw [h.cell]; rfl, by rw [h.cell]; rfl, by rw [h.cell]; rfl, by rw [h.cell]; rfl, by rw [h.cell]; rfl, by rw [h.cell]; rfl⟩

theorem mop_of {w : World} {g : Nat} {m : MsgD} {s : Sls} {t : TypeId} (h : Blk w g (m.cells s).toArray t) : w.rangeAt g 7 m.op.cells := fun j v hj => by
  rw [h.cell, List.getElem?_toArray, ← hj]
  have hl : j < 7 := (List.getElem?_eq_some_iff.1 hj).1
  match j, hl with
  | 0, _ | 1, _ | 2, _ | 3, _ | 4, _ | 5, _ | 6, _ => rfl
theorem flat_le {α : Type} (f : α → List Int) (B : Nat) : ∀ l : List α, (∀ x ∈ l, (f x).length ≤ B) → ((l.map f).flatten).length ≤ B * l.length
  | [], _ => by simp
  | x :: l, h => by
    have h1 := h x (by simp)
    have h2 := flat_le f B l (fun y hy => h y (by simp [hy]))
    simp only [List.map_cons, List.flatten_cons, List.length_append, List.length_cons]
    rw [Nat.mul_add]
    omega
theorem flat_take {α : Type} (f : α → List Int) (l : List α) (d : α) (k : Nat) (h : k < l.length) : ((l.take (k + 1)).map f).flatten = ((l.take k).map f).flatten ++ f (l.getD k d) := by
  rw [List.take_succ_eq_append_getElem h, List.map_append, List.flatten_append]
  simp [List.getD_eq_getElem?_getD, List.getElem?_eq_getElem h]
theorem getD_mem {α : Type} (l : List α) (d : α) (k : Nat) (h : k < l.length) : l.getD k d ∈ l := by
  rw [List.getD_eq_getElem?_getD, List.getElem?_eq_getElem h]
  exact List.getElem_mem h
theorem InBox.bel {q base : Nat} {r r1 : Option Nat} {w w0 w1 : World} {g : Nat} {cs : Array Value} {t : TypeId} {l : List Int} (h : InBox q r w0 g cs t base w1 r1 l) (hb : Below w.heap.size w w0) (hq : w.heap.size ≤ q) (hr : ∀ k, r = some k → w.heap.size ≤ k) : Below w.heap.size w w1 :=
  h.to.below_of hb hb.size hq hr

set_option maxRecDepth 100000 in
set_option maxHeartbeats 8000000 in
theorem encode_yes (m : MsgD) (s : Sls) (xs : Array Value) (w : World) (hx : MsgArg w xs m s) (ee nn : Nat) (hmv : MV m.ma m.mb ee nn) : Calls Try.prog 14 #[.agg xs] w (OwnRes (m.encL ee nn) m.encE w) := by
  obtain ⟨W, hW⟩ : ∃ W, W = w.alloc (.cells xs 34) := ⟨_, rfl⟩
  have hM := hx.box W hW
  have hlt := hM.blk.lt
  have HW := Lib.hid hW
  have HX := Lib.hid (hx.below hM.bel)
  clear hW
  cases hok : m.ok with
  | false =>
    have hL : Hid (m.encL ee nn = []) := by show _ = _; rw [MsgD.encL, hok]; rfl
    have hE : Hid (m.encE = 50) := by show _ = _; rw [MsgD.encE, hok]; rfl
    rw [hL.out, hE.out]
    clear hx
    go_enter Try.func14, Try.ntmps14
    go_upto_region 1 with fail
    rw [← HW.out]
    go_wp2_with (first | ((with_reducible refine wpList_load_msg (op := ⟨_, Op.load 34 _, _, _, _, _⟩) rfl _ rfl _ _ _ _ ?_ hM ?_); rfl))
    refine (plain_yes m s _ _ ⟨⟨rfl⟩, HX.out.ents, HX.out.keys⟩ ee nn hmv).mono ?_
    rintro e w1 ⟨rfl, b1⟩
    rw [hok]
    go_wp2_with fail
    go_ret2
    exact ⟨none, 0, rfl, own_none _ _ _ _, bel_next hM.bel b1⟩
  | true =>
    obtain ⟨hkind, ⟨o1, o2, o3, o4, o5⟩, hop, _, hen, he48, hkk, hk48, heo, hko⟩ := MsgD.ok_parts hok
    have hL : Hid (m.encL ee nn = m.enc ee nn) := by show _ = _; rw [MsgD.encL, hok]; rfl
    have hE : Hid (m.encE = 0) := by show _ = _; rw [MsgD.encE, hok]; rfl
    rw [hL.out, hE.out]
    have HO := Lib.hid hok
    have HXW := Lib.hid hx
    have F := Lib.hid (show ∀ z ∈ [m.client, m.life, m.seq, (ee : Int), (nn : Int), m.version, m.err], 0 ≤ z ∧ z ≤ 9223372036854775807 by
      have h1 := hmv.he
      have h2 := hmv.hn
      intro z hz
      simp only [List.mem_cons, List.not_mem_nil, or_false] at hz
      rcases hz with rfl | rfl | rfl | rfl | rfl | rfl | rfl
      · exact okN_fit o1
      · exact okN_fit o2
      · exact okN_fit o3
      · omega
      · omega
      · exact okN_fit o4
      · exact okN_fit o5)
    have HOP := Lib.hid hop
    have HEN := Lib.hid hen
    have HKK := Lib.hid hkk
    have HEO := Lib.hid heo
    have HKO := Lib.hid hko
    clear hx hL hE hok o1 o2 o3 o4 o5 hop hen hkk heo hko
    go_enter Try.func14, Try.ntmps14
    go_upto_region 1 with fail
    rw [← HW.out]
    go_wp2_with (first | ((with_reducible refine wpList_load_msg (op := ⟨_, Op.load 34 _, _, _, _, _⟩) rfl _ rfl _ _ _ _ ?_ hM ?_); rfl))
    refine (plain_yes m s _ _ ⟨⟨rfl⟩, HX.out.ents, HX.out.keys⟩ ee nn hmv).mono ?_
    rintro e w1 ⟨rfl, b1⟩
    rw [HO.out]
    have hM1 := hM.next b1
    have hI : InBox w1.heap.size none (w1.alloc (.cells #[.slice none 0 0] 77)) w.heap.size (m.cells s).toArray 34 w.heap.size (w1.alloc (.cells #[.slice none 0 0] 77)) none [] :=
      ⟨WTo.refl _ _ _, (hM1.al _).blk, ⟨none, 0, Blk.new _ _ _, own_none _ _ _ _, rfl⟩, Nat.le_refl _, by have := hM1.blk.lt; omega, fun e => by cases e⟩
    have hz1 : w.heap.size < w1.heap.size := hM1.blk.lt
    have B2 := (hM1.al (.cells #[.slice none 0 0] 77)).bel
    obtain ⟨c0, -⟩ := mc_of hI.blk
    have HI := Lib.hid hI
    have HB2 := Lib.hid B2
    clear hI B2 hM hM1 b1 hlt HX HW
    go_wp2_with fail
    refine (wbyte_any _ _ _ none [] HI.out.at_ (Nat.le_trans HB2.out.size (Nat.le_refl _)) (by simp) m.kind).mono ?_
    rintro e w2 ⟨rfl, r1, t1, a1⟩
    have hI1 := (HI.out.step t1 a1).drew
    have hs2 : w.heap.size ≤ w2.heap.size := Nat.le_trans HB2.out.size (HI.out.step t1 a1).sz
    have hlt2 := hI1.at_.lt
    have s0 : MC w.heap.size m s w2.drew := mc_of hI1.blk
    have I1 := Lib.hid hI1
    clear c0 t1 a1 hI1
    go_upto_region 5 with fail
    refine wp_region_held_drew (S := (fun w' => MC w.heap.size m s w')) (by kernel_rfl) s0 (fun hHeld => ?_)
    refine' wpAnyH_take (i := 0) (oi := { dst := some 18, op := Op.move (Operand.tmp 4), type := 75, pos := "wire.go:122", after := #[], guard := none }) (v := ?v1) rfl (by kernel_rfl) (by kernel_rfl) (by kernel_rfl) (fun _ _ _ h => h) (Or.inl ⟨by rfl, ?hy1⟩) (by assumption) ?rest1
    case hy1 => (intro w hSw; obtain ⟨k0, k1, k2, k3, k4, k5, k6, k14, k15⟩ := hSw; go_simp; (try with_reducible rfl))
    simp only [Act.put, List.setIfInBounds_toArray, List.set_cons_zero, List.set_cons_succ]
    refine' wpAnyH_take (i := 1) (oi := { dst := some 19, op := Op.fieldAddr 34 (Operand.tmp 1) 1, type := 0, pos := "wire.go:122", after := #[], guard := none }) (v := ?v2) rfl (by kernel_rfl) (by kernel_rfl) (by kernel_rfl) (fun _ _ _ h => h) (Or.inl ⟨by rfl, ?hy2⟩) (by assumption) ?rest2
    case hy2 => (intro w hSw; obtain ⟨k0, k1, k2, k3, k4, k5, k6, k14, k15⟩ := hSw; go_simp; (try with_reducible rfl))
    simp only [Act.put, List.setIfInBounds_toArray, List.set_cons_zero, List.set_cons_succ]
    refine' wpAnyH_take (i := 2) (oi := { dst := some 20, op := Op.load 3 (Operand.tmp 19), type := 3, pos := "wire.go:122", after := #[{ on := 1, ground := Ground.data }], guard := none }) (v := ?v3) rfl (by kernel_rfl) (by kernel_rfl) (by kernel_rfl) (fun _ _ _ h => h) (Or.inl ⟨by rfl, ?hy3⟩) (by assumption) ?rest3
    case hy3 => (intro w hSw; obtain ⟨k0, k1, k2, k3, k4, k5, k6, k14, k15⟩ := hSw; go_simp; (try with_reducible rfl))
    simp only [Act.put, List.setIfInBounds_toArray, List.set_cons_zero, List.set_cons_succ]
    refine' wpAnyH_take (i := 3) (oi := { dst := some 21, op := Op.fieldAddr 34 (Operand.tmp 1) 2, type := 0, pos := "wire.go:122", after := #[], guard := none }) (v := ?v4) rfl (by kernel_rfl) (by kernel_rfl) (by kernel_rfl) (fun _ _ _ h => h) (Or.inl ⟨by rfl, ?hy4⟩) (by assumption) ?rest4
    case hy4 => (intro w hSw; obtain ⟨k0, k1, k2, k3, k4, k5, k6, k14, k15⟩ := hSw; go_simp; (try with_reducible rfl))
    simp only [Act.put, List.setIfInBounds_toArray, List.set_cons_zero, List.set_cons_succ]
    refine' wpAnyH_take (i := 4) (oi := { dst := some 22, op := Op.load 3 (Operand.tmp 21), type := 3, pos := "wire.go:122", after := #[{ on := 3, ground := Ground.data }], guard := none }) (v := ?v5) rfl (by kernel_rfl) (by kernel_rfl) (by kernel_rfl) (fun _ _ _ h => h) (Or.inl ⟨by rfl, ?hy5⟩) (by assumption) ?rest5
    case hy5 => (intro w hSw; obtain ⟨k0, k1, k2, k3, k4, k5, k6, k14, k15⟩ := hSw; go_simp; (try with_reducible rfl))
    simp only [Act.put, List.setIfInBounds_toArray, List.set_cons_zero, List.set_cons_succ]
    refine' wpAnyH_take (i := 5) (oi := { dst := some 23, op := Op.fieldAddr 34 (Operand.tmp 1) 3, type := 0, pos := "wire.go:122", after := #[], guard := none }) (v := ?v6) rfl (by kernel_rfl) (by kernel_rfl) (by kernel_rfl) (fun _ _ _ h => h) (Or.inl ⟨by rfl, ?hy6⟩) (by assumption) ?rest6
    case hy6 => (intro w hSw; obtain ⟨k0, k1, k2, k3, k4, k5, k6, k14, k15⟩ := hSw; go_simp; (try with_reducible rfl))
    simp only [Act.put, List.setIfInBounds_toArray, List.set_cons_zero, List.set_cons_succ]
    refine' wpAnyH_take (i := 6) (oi := { dst := some 24, op := Op.load 3 (Operand.tmp 23), type := 3, pos := "wire.go:122", after := #[{ on := 5, ground := Ground.data }], guard := none }) (v := ?v7) rfl (by kernel_rfl) (by kernel_rfl) (by kernel_rfl) (fun _ _ _ h => h) (Or.inl ⟨by rfl, ?hy7⟩) (by assumption) ?rest7
    case hy7 => (intro w hSw; obtain ⟨k0, k1, k2, k3, k4, k5, k6, k14, k15⟩ := hSw; go_simp; (try with_reducible rfl))
    simp only [Act.put, List.setIfInBounds_toArray, List.set_cons_zero, List.set_cons_succ]
    refine' wpAnyH_take (i := 7) (oi := { dst := some 25, op := Op.fieldAddr 34 (Operand.tmp 1) 4, type := 0, pos := "wire.go:122", after := #[], guard := none }) (v := ?v8) rfl (by kernel_rfl) (by kernel_rfl) (by kernel_rfl) (fun _ _ _ h => h) (Or.inl ⟨by rfl, ?hy8⟩) (by assumption) ?rest8
    case hy8 => (intro w hSw; obtain ⟨k0, k1, k2, k3, k4, k5, k6, k14, k15⟩ := hSw; go_simp; (try with_reducible rfl))
    simp only [Act.put, List.setIfInBounds_toArray, List.set_cons_zero, List.set_cons_succ]
    refine' wpAnyH_take (i := 8) (oi := { dst := some 26, op := Op.load 32 (Operand.tmp 25), type := 32, pos := "wire.go:122", after := #[{ on := 7, ground := Ground.data }], guard := none }) (v := ?v9) rfl (by kernel_rfl) (by kernel_rfl) (by kernel_rfl) (fun _ _ _ h => h) (Or.inl ⟨by rfl, ?hy9⟩) (by assumption) ?rest9
    case hy9 => (intro w hSw; obtain ⟨k0, k1, k2, k3, k4, k5, k6, k14, k15⟩ := hSw; go_simp; (try with_reducible rfl))
    simp only [Act.put, List.setIfInBounds_toArray, List.set_cons_zero, List.set_cons_succ]
    refine' wpAnyH_take (i := 10) (oi := { dst := some 28, op := Op.fieldAddr 34 (Operand.tmp 1) 4, type := 0, pos := "wire.go:122", after := #[], guard := none }) (v := ?v10) rfl (by kernel_rfl) (by kernel_rfl) (by kernel_rfl) (fun _ _ _ h => h) (Or.inl ⟨by rfl, ?hy10⟩) (by assumption) ?rest10
    case hy10 => (intro w hSw; obtain ⟨k0, k1, k2, k3, k4, k5, k6, k14, k15⟩ := hSw; go_simp; (try with_reducible rfl))
    simp only [Act.put, List.setIfInBounds_toArray, List.set_cons_zero, List.set_cons_succ]
    refine' wpAnyH_take (i := 11) (oi := { dst := some 29, op := Op.load 32 (Operand.tmp 28), type := 32, pos := "wire.go:122", after := #[{ on := 10, ground := Ground.data }], guard := none }) (v := ?v11) rfl (by kernel_rfl) (by kernel_rfl) (by kernel_rfl) (fun _ _ _ h => h) (Or.inl ⟨by rfl, ?hy11⟩) (by assumption) ?rest11
    case hy11 => (intro w hSw; obtain ⟨k0, k1, k2, k3, k4, k5, k6, k14, k15⟩ := hSw; go_simp; (try with_reducible rfl))
    simp only [Act.put, List.setIfInBounds_toArray, List.set_cons_zero, List.set_cons_succ]
    refine' wpAnyH_take (i := 13) (oi := { dst := some 31, op := Op.fieldAddr 34 (Operand.tmp 1) 5, type := 0, pos := "wire.go:122", after := #[], guard := none }) (v := ?v12) rfl (by kernel_rfl) (by kernel_rfl) (by kernel_rfl) (fun _ _ _ h => h) (Or.inl ⟨by rfl, ?hy12⟩) (by assumption) ?rest12
    case hy12 => (intro w hSw; obtain ⟨k0, k1, k2, k3, k4, k5, k6, k14, k15⟩ := hSw; go_simp; (try with_reducible rfl))
    simp only [Act.put, List.setIfInBounds_toArray, List.set_cons_zero, List.set_cons_succ]
    refine' wpAnyH_take (i := 14) (oi := { dst := some 32, op := Op.load 3 (Operand.tmp 31), type := 3, pos := "wire.go:122", after := #[{ on := 13, ground := Ground.data }], guard := none }) (v := ?v13) rfl (by kernel_rfl) (by kernel_rfl) (by kernel_rfl) (fun _ _ _ h => h) (Or.inl ⟨by rfl, ?hy13⟩) (by assumption) ?rest13
    case hy13 => (intro w hSw; obtain ⟨k0, k1, k2, k3, k4, k5, k6, k14, k15⟩ := hSw; go_simp; (try with_reducible rfl))
    simp only [Act.put, List.setIfInBounds_toArray, List.set_cons_zero, List.set_cons_succ]
    refine' wpAnyH_take (i := 15) (oi := { dst := some 33, op := Op.fieldAddr 34 (Operand.tmp 1) 6, type := 0, pos := "wire.go:122", after := #[], guard := none }) (v := ?v14) rfl (by kernel_rfl) (by kernel_rfl) (by kernel_rfl) (fun _ _ _ h => h) (Or.inl ⟨by rfl, ?hy14⟩) (by assumption) ?rest14
    case hy14 => (intro w hSw; obtain ⟨k0, k1, k2, k3, k4, k5, k6, k14, k15⟩ := hSw; go_simp; (try with_reducible rfl))
    simp only [Act.put, List.setIfInBounds_toArray, List.set_cons_zero, List.set_cons_succ]
    refine' wpAnyH_take (i := 16) (oi := { dst := some 34, op := Op.load 29 (Operand.tmp 33), type := 29, pos := "wire.go:122", after := #[{ on := 15, ground := Ground.data }], guard := none }) (v := ?v15) rfl (by kernel_rfl) (by kernel_rfl) (by kernel_rfl) (fun _ _ _ h => h) (Or.inl ⟨by rfl, ?hy15⟩) (by assumption) ?rest15
    case hy15 => (intro w hSw; obtain ⟨k0, k1, k2, k3, k4, k5, k6, k14, k15⟩ := hSw; go_simp; (try with_reducible rfl))
    simp only [Act.put, List.setIfInBounds_toArray, List.set_cons_zero, List.set_cons_succ]
    refine wpAnyH_ready (rs := [9]) (by kernel_rfl) (by simp) ?_
    refine AllReadyH.cons (o := { dst := some 27, op := Op.call { callee := Callee.value (Operand.func 33), args := #[Operand.tmp 26], argTypes := #[32] }, type := 3, pos := "wire.go:122", after := #[{ on := 8, ground := Ground.data }], guard := none }) rfl (fun K hK => ?_) AllReadyH.nil
    go_simp
    refine (epoch_yes hmv _).mono ?_
    rintro e w3 ⟨rfl, rfl⟩
    go_wp2_with fail
    refine hK.out _ _ s0 (fun hHeld => ?_)
    clear hK K
    try simp only [Act.put, List.setIfInBounds_toArray, List.set_cons_zero, List.set_cons_succ]
    refine wpAnyH_ready (rs := [12]) (by kernel_rfl) (by simp) ?_
    refine AllReadyH.cons (o := { dst := some 30, op := Op.call { callee := Callee.value (Operand.func 34), args := #[Operand.tmp 29], argTypes := #[32] }, type := 3, pos := "wire.go:122", after := #[{ on := 11, ground := Ground.data }, { on := 9, ground := Ground.chain }], guard := none }) rfl (fun K hK => ?_) AllReadyH.nil
    go_simp
    refine (number_yes hmv _).mono ?_
    rintro e w3 ⟨rfl, rfl⟩
    go_wp2_with fail
    refine hK.out _ _ s0 (fun hHeld => ?_)
    clear hK K
    try simp only [Act.put, List.setIfInBounds_toArray, List.set_cons_zero, List.set_cons_succ]
    refine wpAnyH_ready (rs := [17]) (by kernel_rfl) (by simp) ?_
    refine AllReadyH.cons (o := { dst := some 35, op := Op.buildSlice 117 7 #[(0, Operand.tmp 20), (1, Operand.tmp 22), (2, Operand.tmp 24), (3, Operand.tmp 27), (4, Operand.tmp 30), (5, Operand.tmp 32), (6, Operand.tmp 34)], type := 117, pos := "wire.go:122", after := #[{ on := 2, ground := Ground.data }, { on := 4, ground := Ground.data }, { on := 6, ground := Ground.data }, { on := 9, ground := Ground.data }, { on := 12, ground := Ground.data }, { on := 14, ground := Ground.data }, { on := 16, ground := Ground.data }], guard := none }) rfl (fun K hK => ?_) AllReadyH.nil
    go_simp
    refine hK.out _ _ (mc_of (I1.out.al (.cells (ints .i64 [m.client, m.life, m.seq, (ee : Int), (nn : Int), m.version, m.err]).toArray 3)).blk) (fun hHeld => ?_)
    clear hK K
    try simp only [Act.put, List.setIfInBounds_toArray, List.set_cons_zero, List.set_cons_succ]
    refine wpAnyH_ready (rs := [18]) (by kernel_rfl) (by simp) ?_
    refine AllReadyH.cons (o := { dst := some 36, op := Op.call { callee := Callee.value (Operand.func 32), args := #[Operand.tmp 18, Operand.tmp 35], argTypes := #[75, 117] }, type := 0, pos := "wire.go:122", after := #[{ on := 0, ground := Ground.data }, { on := 17, ground := Ground.data }, { on := 12, ground := Ground.chain }], guard := none }) rfl (fun K hK => ?_) AllReadyH.nil
    go_simp
    refine (wnumbers_lit w2.drew _ _ r1 _ I1.out.at_ hs2 _ 7 [m.client, m.life, m.seq, (ee : Int), (nn : Int), m.version, m.err] _ rfl rfl rfl (by omega) F.out (by simp)).mono ?_
    rintro e w3 ⟨rfl, r2, t2, a2⟩
    have I2 := I1.out.step t2 a2
    have s2 : MC w.heap.size m s w3 := mc_of I2.blk
    go_wp2_with fail
    refine hK.out _ _ s2 (fun hHeld => ?_)
    clear hK K
    try simp only [Act.put, List.setIfInBounds_toArray, List.set_cons_zero, List.set_cons_succ]
    refine wpAnyH_done (by kernel_rfl) ?_ _
    obtain ⟨L0, hL0⟩ : ∃ L0 : List Int, L0 = [] ++ [m.kind % 256] ++ vbs [m.client, m.life, m.seq, (ee : Int), (nn : Int), m.version, m.err] := ⟨_, rfl⟩
    have hLen : L0.length ≤ 100 := by
      have := vbs_length [m.client, m.life, m.seq, (ee : Int), (nn : Int), m.version, m.err] (fun z hz => (F.out z hz).2)
      rw [hL0]
      simp only [List.length_append, List.length_cons, List.length_nil] at this ⊢
      omega
    have HL : Hid (m.enc ee nn = L0 ++ m.rest) := by show _ = _; rw [MsgD.enc, hL0]; simp
    rw [← hL0] at I2
    obtain ⟨k0, -, -, -, -, -, -, k14, k15⟩ := s2
    have J2 := Lib.hid I2
    have hs3 : w.heap.size ≤ w3.heap.size := Nat.le_trans hs2 t2.kp.size
    have hlt3 := I2.at_.lt
    have hrop := mop_of I2.blk
    clear hL0 I2 t2 a2 hHeld s0 I1 hlt2 F HI
    obtain ⟨W0, hW0⟩ : ∃ W0, W0 = w1.alloc (.cells #[.slice none 0 0] 77) := ⟨_, rfl⟩
    rw [← hW0] at J2 HB2
    clear hW0
    rcases (show m.kind = 1 ∨ m.kind = 2 ∨ m.kind = 3 ∨ m.kind = 4 by omega) with hk | hk | hk | hk
    · have HK := Lib.hid hk
      have hfit := Lib.hid (OpD.ok_fit (HOP.out hk))
      have hrest : Hid (m.enc ee nn = L0 ++ m.op.enc) := by show _ = _; rw [HL.out, MsgD.rest, if_pos hk]
      rw [hk] at k0
      clear hk
      go_wp2_with (first | ((with_reducible refine wpList_load_mid (op := ⟨_, Op.load 23 _, _, _, _, _⟩) rfl _ _ rfl _ _ ?_ _ _ hrop Try.underlying23 rfl ?_ ?_); (focus rfl); (focus (exact size_op))))
      refine (wop_any w3 _ _ r2 _ J2.out.at_ hs3 m.op hfit.out (by omega)).mono ?_
      rintro e w4 ⟨rfl, r3, t3, a3⟩
      have I3 := J2.out.step t3 a3
      rw [← hrest.out] at I3
      clear t3 a3
      obtain ⟨A, c, hc, HF⟩ := pack_end I3 HB2.out (by omega) (fun k hk => by cases hk) rfl
      clear I3
      go_wp2_with fail
      go_ret2
      exact ⟨A, c, rfl, HF.out.1, HF.out.2⟩
    · have HK := Lib.hid hk
      rw [hk] at k0
      have hrest : Hid (m.enc ee nn = L0 ++ vb m.entries.length ++ (m.entries.map EntryD.enc).flatten) := by show _ = _; rw [HL.out, MsgD.rest, if_neg (by omega), if_pos hk]; simp
      clear hk
      have hn48 : m.entries.length ≤ 48 := he48
      go_wp2_with fail
      refine (wnumber_lit w3 _ _ r2 _ J2.out.at_ hs3 _ (m.entries.length : Int) rfl (by omega) (by omega)).mono ?_
      rintro e w4 ⟨rfl, r3, t3, a3⟩
      have I3 := J2.out.step t3 a3
      have hs4 : w.heap.size ≤ w4.heap.size := Nat.le_trans hs3 t3.kp.size
      clear k0 k14 k15 t3 a3
      obtain ⟨k0, -, -, -, -, -, -, k14, k15⟩ := mc_of I3.blk
      rw [HK.out] at k0
      have hvl : (vb (m.entries.length : Int)).length ≤ 9 := vb_length_i64 (by omega)
      obtain ⟨L1, hL1⟩ : ∃ L1 : List Int, L1 = L0 ++ vb (m.entries.length : Int) := ⟨_, rfl⟩
      have hLen1 : L1.length ≤ 200 := by rw [hL1, List.length_append]; omega
      rw [← hL1] at I3 hrest
      clear hL1 hvl
      have hlt4 := I3.at_.lt
      have J3 := Lib.hid I3
      clear I3
      go_wp2_with fail
      go_loopw [56] (fun v wr => ∃ (k : Nat) (r' : Option Nat), k ≤ m.entries.length ∧ v = .int .i64 k ∧ InBox w1.heap.size none W0 w.heap.size (m.cells s).toArray 34 w.heap.size wr r' (L1 ++ ((m.entries.take k).map EntryD.enc).flatten)) (fun v _ => m.entries.length - (intOf v).toNat)
      case atStart => exact ⟨0, r3, Nat.zero_le _, rfl, by simpa using J3.out⟩
      case round =>
        clear k0 k14 k15 hlt4
        obtain ⟨k, r', hk, rfl, hI⟩ := hrel
        have hbel := hI.bel HB2.out (by omega) (fun k hk => by cases hk)
        by_cases hlt : k < m.entries.length
        · obtain ⟨g, o, hA, hg, hrow⟩ := (HXW.out.ents.below hbel).at_ k _ (getD_map EntryD.cells m.entries EntryD.zero k hlt)
          have hft := Lib.hid (flat_take EntryD.enc m.entries EntryD.zero k hlt)
          have hxo := HEO.out _ (getD_mem m.entries EntryD.zero k hlt)
          have hfl := flat_le EntryD.enc 3000 (m.entries.take k) (fun x hx => EntryD.enc_length (EntryD.ok_fit (HEO.out x (List.mem_of_mem_take hx))))
          rw [List.length_take] at hfl
          generalize m.entries.getD k EntryD.zero = x at *
          have hin : (0 : Int) ≤ (k : Int) := by omega
          have hfit := Lib.hid (EntryD.ok_fit hxo)
          have hll : (L1 ++ ((m.entries.take k).map EntryD.enc).flatten).length ≤ 800000000 := by rw [List.length_append]; omega
          have hsr : w.heap.size ≤ wr.heap.size := hbel.size
          rw [hA]
          clear hxo hfl hbel
          obtain ⟨⟨kd, ks⟩, neg, ⟨id, kind, mode, target⟩⟩ := x
          change wr.rangeAt g (o + k * 7) [.int .i64 kd, .string ks, .bool neg, .int .i64 id, .int .i64 kind, .int .i64 mode, .string target] at hrow
          have HI := Lib.hid hI
          clear hI
          go_wp2_with (first | ((with_reducible refine wpList_load_mid (op := ⟨_, Op.load 47 _, _, _, _, _⟩) rfl _ _ rfl _ _ ?_ _ _ hrow Try.underlying47 rfl ?_ ?_); (focus (first | (go_simp; done) | (go_simp; rfl))); (focus (exact size_entry))))
          refine (wentry_any _ _ _ r' _ (HI.out.al _).at_ (by simp; omega) ⟨⟨kd, ks⟩, neg, ⟨id, kind, mode, target⟩⟩ hfit.out (Nat.le_trans hll (by omega))).mono ?_
          rintro e w6 ⟨rfl, r6, t6, a6⟩
          have I6 := (HI.out.al _).step t6 a6
          rw [List.append_assoc, ← hft.out] at I6
          clear t6 a6 hll
          go_wp2_with fail
          go_roundw
          case rel => exact ⟨k + 1, r6, by omega, by go_num, I6⟩
          case measure => simp [intOf]; omega
        · have hke : k = m.entries.length := by omega
          rw [hke, List.take_length, ← hrest.out] at hI
          rw [hke]
          clear hbel
          obtain ⟨A, c, hc, HF⟩ := pack_end hI HB2.out (by omega) (fun k hk => by cases hk) rfl
          clear hI
          go_wp2_with fail
          go_ret2
          exact ⟨A, c, rfl, HF.out.1, HF.out.2⟩
    · have HK := Lib.hid hk
      rw [hk] at k0
      have hrest : Hid (m.enc ee nn = L0 ++ vb m.keys.length ++ (m.keys.map KeyD.enc).flatten) := by show _ = _; rw [HL.out, MsgD.rest, if_neg (by omega), if_neg (by omega), if_pos hk]; simp
      clear hk
      have hn48 : m.keys.length ≤ 48 := hk48
      go_wp2_with fail
      refine (wnumber_lit w3 _ _ r2 _ J2.out.at_ hs3 _ (m.keys.length : Int) rfl (by omega) (by omega)).mono ?_
      rintro e w4 ⟨rfl, r3, t3, a3⟩
      have I3 := J2.out.step t3 a3
      have hs4 : w.heap.size ≤ w4.heap.size := Nat.le_trans hs3 t3.kp.size
      clear k0 k14 k15 t3 a3
      obtain ⟨k0, -, -, -, -, -, -, k14, k15⟩ := mc_of I3.blk
      rw [HK.out] at k0
      have hvl : (vb (m.keys.length : Int)).length ≤ 9 := vb_length_i64 (by omega)
      obtain ⟨L1, hL1⟩ : ∃ L1 : List Int, L1 = L0 ++ vb (m.keys.length : Int) := ⟨_, rfl⟩
      have hLen1 : L1.length ≤ 200 := by rw [hL1, List.length_append]; omega
      rw [← hL1] at I3 hrest
      clear hL1 hvl
      have hlt4 := I3.at_.lt
      have J3 := Lib.hid I3
      clear I3
      go_wp2_with fail
      go_loopw [75] (fun v wr => ∃ (k : Nat) (r' : Option Nat), k ≤ m.keys.length ∧ v = .int .i64 k ∧ InBox w1.heap.size none W0 w.heap.size (m.cells s).toArray 34 w.heap.size wr r' (L1 ++ ((m.keys.take k).map KeyD.enc).flatten)) (fun v _ => m.keys.length - (intOf v).toNat)
      case atStart => exact ⟨0, r3, Nat.zero_le _, rfl, by simpa using J3.out⟩
      case round =>
        clear k0 k14 k15 hlt4
        obtain ⟨k, r', hk, rfl, hI⟩ := hrel
        have hbel := hI.bel HB2.out (by omega) (fun k hk => by cases hk)
        by_cases hlt : k < m.keys.length
        · obtain ⟨g, o, hA, hg, hrow⟩ := (HXW.out.keys.below hbel).at_ k _ (getD_map KeyD.cells m.keys KeyD.zero k hlt)
          have hft := Lib.hid (flat_take KeyD.enc m.keys KeyD.zero k hlt)
          have hxo := HKO.out _ (getD_mem m.keys KeyD.zero k hlt)
          have hfl := flat_le KeyD.enc 1018 (m.keys.take k) (fun x hx => KeyD.enc_length (KeyD.ok_fit (HKO.out x (List.mem_of_mem_take hx))))
          rw [List.length_take] at hfl
          generalize m.keys.getD k KeyD.zero = x at *
          have hin : (0 : Int) ≤ (k : Int) := by omega
          have hfit := Lib.hid (KeyD.ok_fit hxo)
          have hll : (L1 ++ ((m.keys.take k).map KeyD.enc).flatten).length ≤ 800000000 := by rw [List.length_append]; omega
          have hsr : w.heap.size ≤ wr.heap.size := hbel.size
          rw [hA]
          clear hxo hfl hbel
          obtain ⟨kd, ks⟩ := x
          change wr.rangeAt g (o + k * 2) [.int .i64 kd, .string ks] at hrow
          have HI := Lib.hid hI
          clear hI
          go_wp2_with (first | ((with_reducible refine wpList_load_mid (op := ⟨_, Op.load 43 _, _, _, _, _⟩) rfl _ _ rfl _ _ ?_ _ _ hrow Try.underlying43 rfl ?_ ?_); (focus (first | (go_simp; done) | (go_simp; rfl))); (focus (exact size_key))))
          refine (wkey_any _ _ _ r' _ (HI.out.al _).at_ (by simp; omega) ⟨kd, ks⟩ hfit.out (Nat.le_trans hll (by omega))).mono ?_
          rintro e w6 ⟨rfl, r6, t6, a6⟩
          have I6 := (HI.out.al _).step t6 a6
          rw [List.append_assoc, ← hft.out] at I6
          clear t6 a6 hll
          go_wp2_with fail
          go_roundw
          case rel => exact ⟨k + 1, r6, by omega, by go_num, I6⟩
          case measure => simp [intOf]; omega
        · have hke : k = m.keys.length := by omega
          rw [hke, List.take_length, ← hrest.out] at hI
          rw [hke]
          clear hbel
          obtain ⟨A, c, hc, HF⟩ := pack_end hI HB2.out (by omega) (fun k hk => by cases hk) rfl
          clear hI
          go_wp2_with fail
          go_ret2
          exact ⟨A, c, rfl, HF.out.1, HF.out.2⟩
    · have HK := Lib.hid hk
      have hrest : Hid (m.enc ee nn = L0) := by show _ = _; rw [HL.out, MsgD.rest, if_neg (by omega), if_neg (by omega), if_neg (by omega)]; simp
      rw [hk] at k0
      clear hk
      have I3 := J2.out
      rw [← hrest.out] at I3
      obtain ⟨A, c, hc, HF⟩ := pack_end I3 HB2.out (by omega) (fun k hk => by cases hk) rfl
      clear I3
      go_wp2_with fail
      go_ret2
      exact ⟨A, c, rfl, HF.out.1, HF.out.2⟩

end Go.Proofs.Ytmhcjkiaogimgaa
