/- The document's disk of chapter 3: what it holds, and what its calls do. -/
import Derived.Test.YtdmkphalihdmlaaBlkE
import Derived.Deep.RegionHeld3
import Derived.Deep.AppendLies
import Derived.Deep.RegionLaw
import Derived.Deep.QuietTactic
import Derived.BigQuiet
namespace Go.Proofs.Ytdmkphalihdmlaa
open Go.RowKit

/-- An append in a drawn region, whose run is known. -/
theorem step_append_run {P : Program} {ops : Array Oper} {o : Oper} {a : Act} {w w' : World} {K : Act → World → Prop} {Q : Exit → Act → World → Prop} {E : Prop} (hgd : o.guard = none) (s x : Operand) (t t' : TypeId)
    (ho : o.op = .call { callee := .builtin .append, args := #[s, x], argTypes := #[t, t'] }) (vs vx v : Value) (hs : a.eval s = vs) (hx : a.eval x = vx) (hr : (Builtin.append_ #[t, t'] o.type #[vs, vx]).run P w = .ok v w')
    (h : K (a.put o.dst v) w') : if Region.wanted o (yielded ops a.tmps) = true then Oper.wp P o a w K Q else E := by
  have hw : Region.wanted o (yielded ops a.tmps) = true := by simp [Region.wanted, hgd]
  rw [if_pos hw]
  unfold Oper.wp execOp
  simp only [ho, resolve, invoke, builtin, Sem.run_bind, Sem.run_pure, Result.andThen_ok, List.map_toArray, List.map_cons, List.map_nil, hs, hx, hr]
  exact h

/-- The bytes that were written last into a block. -/
def lastW (did : List (Int × List Int)) (k : Int) : List Int := did.foldl (fun c x => if x.1 = k then x.2 else c) (List.replicate 64 0)
theorem lastW_snoc (did : List (Int × List Int)) (x : Int × List Int) (k : Int) : lastW (did ++ [x]) k = if x.1 = k then x.2 else lastW did k := by simp [lastW, List.foldl_append]

/-- The document's disk as plain data. -/
structure DD where
  n : Int
  did : List (Int × List Int)
  lit : Bool
  fuse : Int

/-- A row's cells are those of these writes. -/
structure WCells (w : World) (vs : List Value) (did : List (Int × List Int)) : Prop where
  at_ : ∀ j, j < did.length → vs[j * 2]? = some (.int .i64 (did.getD j (0, [])).1)
  bs : ∀ j, j < did.length → (did.getD j (0, [])).2.length = 64 ∧ ∃ b c cur, vs[j * 2 + 1]? = some (.slice (some ⟨b, 0, none⟩) 64 c) ∧ Blk w b cur 5 ∧ ∀ i, i < 64 → cur[i]? = some (.int .u8 ((did.getD j (0, [])).2.getD i 0))
/-- No block of these is one of bytes. -/
def NoBytes (w : World) (S : Nat → Prop) : Prop := ∀ k, S k → ∀ cs, ¬ Blk w k cs 5
theorem NoBytes.blk {w : World} {k : Nat} {cs : Array Value} {t : TypeId} (h : Blk w k cs t) (ht : t ≠ 5) : ∀ cs', ¬ Blk w k cs' 5 := by
  intro cs' h'
  unfold Blk at h h'
  rw [h] at h'
  injection h' with h'
  injection h' with _ h'
  exact ht h'
theorem WCells.kp {S : Nat → Prop} {w w' : World} {vs : List Value} {did : List (Int × List Int)} (h : WCells w vs did) (hk : Kp S w w') (hs : NoBytes w S) : WCells w' vs did :=
  ⟨h.at_, fun j hj => by
    obtain ⟨h0, b, c, cur, h1, h2, h3⟩ := h.bs j hj
    exact ⟨h0, b, c, cur, h1, h2.kp hk (fun hS => hs b hS cur h2), h3⟩⟩
theorem WCells.nil (w : World) (vs : List Value) : WCells w vs [] := ⟨fun j hj => absurd hj (by simp), fun j hj => absurd hj (by simp)⟩
theorem WCells.snoc {w : World} {vs : List Value} {did : List (Int × List Int)} (h : WCells w vs did) (hl : vs.length = did.length * 2) {i : Int} {l : List Int} {b c : Nat} {cur : Array Value} (h0 : l.length = 64)
    (hb : Blk w b cur 5) (hc : ∀ i, i < 64 → cur[i]? = some (.int .u8 (l.getD i 0))) : WCells w (vs ++ [.int .i64 i, .slice (some ⟨b, 0, none⟩) 64 c]) (did ++ [(i, l)]) := by
  have e1 : ∀ j, j < did.length → (did ++ [(i, l)]).getD j (0, []) = did.getD j (0, []) := fun j hj => by
    simp [List.getD_eq_getElem?_getD, List.getElem?_append_left hj]
  have e2 : (did ++ [(i, l)]).getD did.length (0, []) = (i, l) := by simp [List.getD_eq_getElem?_getD]
  refine ⟨fun j hj => ?_, fun j hj => ?_⟩
  · rw [List.length_append, List.length_singleton] at hj
    by_cases hlt : j < did.length
    · rw [e1 j hlt, List.getElem?_append_left (by omega)]
      exact h.at_ j hlt
    · obtain rfl : j = did.length := by omega
      rw [e2, List.getElem?_append_right (by omega), show did.length * 2 - vs.length = 0 by omega]
      rfl
  · rw [List.length_append, List.length_singleton] at hj
    by_cases hlt : j < did.length
    · rw [e1 j hlt, List.getElem?_append_left (by omega)]
      exact h.bs j hlt
    · obtain rfl : j = did.length := by omega
      rw [e2, List.getElem?_append_right (by omega), show did.length * 2 + 1 - vs.length = 1 by omega]
      exact ⟨h0, b, c, cur, rfl, hb, hc⟩

/-- Block p of memory is the document's disk, r the block of its writes. -/
structure DocAt (w : World) (base p : Nat) (r : Option Nat) (D : DD) : Prop where
  ex : ∃ A c vs, Blk w p #[.int .i64 D.n, .slice A D.did.length c, .bool D.lit, .int .i64 D.fuse] 60 ∧
    w.ownsRow base 71 2 (.slice A D.did.length c) D.did.length vs ∧ WCells w vs D.did ∧ (Value.slice A D.did.length c).ownBlock = r
  fuse0 : -1 ≤ D.fuse
  fuse1 : D.fuse ≤ 9223372036854775807
def DocAt.S (p : Nat) (r : Option Nat) : Nat → Prop := fun k => k = p ∨ r = some k
theorem DocAt.kp {S : Nat → Prop} {w w' : World} {base p : Nat} {r : Option Nat} {D : DD} (h : DocAt w base p r D) (hk : Kp S w w') (h1 : ¬ S p) (h2 : ∀ k, r = some k → ¬ S k) (h3 : NoBytes w S) : DocAt w' base p r D := by
  obtain ⟨A, c, vs, hb, ho, hw, hr⟩ := h.ex
  exact ⟨⟨A, c, vs, hb.kp hk h1, own_kp ho hk (fun k hk' => h2 k (hr ▸ hk')), hw.kp hk h3, hr⟩, h.fuse0, h.fuse1⟩
theorem DocAt.below {w w' : World} {base p : Nat} {r : Option Nat} {D : DD} (h : DocAt w base p r D) (hb : Below w.heap.size w w') : DocAt w' base p r D :=
  h.kp (S := fun _ => False) (Kp.of_below hb) (fun h => h) (fun _ _ h => h) (fun _ h => h.elim)
theorem DocAt.lt {w : World} {base p : Nat} {r : Option Nat} {D : DD} (h : DocAt w base p r D) : p < w.heap.size ∧ ∀ k, r = some k → k < w.heap.size := by
  obtain ⟨A, c, vs, hb, ho, hw, hr⟩ := h.ex
  refine ⟨hb.lt, fun k hk => ?_⟩
  rcases ho.2 with ⟨he, _⟩ | ⟨g, cap, cur, he, _, hg, _⟩
  · rw [he] at hr
    rw [← hr] at hk
    cases hk
  · rw [he] at hr
    rw [← hr] at hk
    injection hk with hk
    subst hk
    exact (Array.getElem?_eq_some_iff.1 hg).1
theorem DocAt.ne {w : World} {base p : Nat} {r : Option Nat} {D : DD} (h : DocAt w base p r D) : ∀ k, r = some k → k ≠ p ∧ ∃ cs, Blk w k cs 71 := by
  obtain ⟨A, c, vs, hb, ho, hw, hr⟩ := h.ex
  intro k hk
  rcases ho.2 with ⟨he, _⟩ | ⟨g, cap, cur, he, _, hg, _⟩
  · rw [he] at hr
    rw [← hr] at hk
    cases hk
  · rw [he] at hr
    rw [← hr] at hk
    injection hk with hk
    subst hk
    refine ⟨fun e => ?_, cur, hg⟩
    have e : g = p := e
    subst e
    unfold Blk at hb
    rw [hg] at hb
    injection hb with hb
    injection hb with _ hb
    exact absurd hb (by decide)
theorem DocAt.noBytes {w : World} {base p : Nat} {r : Option Nat} {D : DD} (h : DocAt w base p r D) : NoBytes w (DocAt.S p r) := by
  obtain ⟨A, c, vs, hb, ho, hw, hr⟩ := h.ex
  intro k hk
  rcases hk with rfl | hk
  · exact NoBytes.blk hb (by decide)
  · obtain ⟨_, cs, hcs⟩ := h.ne k hk
    exact NoBytes.blk hcs (by decide)
theorem DiskAt.noBytes {w : World} {d g : Nat} {s : DS} (h : DiskAt w d g s) : NoBytes w (fun k => k = d ∨ k = g) := by
  obtain ⟨cap, _, hb⟩ := h.box
  obtain ⟨cs, hc, _⟩ := h.row
  intro k hk
  rcases hk with rfl | rfl
  · exact NoBytes.blk hb (by decide)
  · exact NoBytes.blk hc (by decide)
theorem DocAt.cells {w : World} {base p : Nat} {r : Option Nat} {D : DD} (h : DocAt w base p r D) : ∃ A c vs, w.cell? ⟨p, 0, none⟩ = some (.int .i64 D.n) ∧ w.cell? ⟨p, 1, none⟩ = some (.slice A D.did.length c) ∧ w.cell? ⟨p, 2, none⟩ = some (.bool D.lit) ∧
    w.cell? ⟨p, 3, none⟩ = some (.int .i64 D.fuse) ∧ (∀ j, w.frozen? ⟨p, j, none⟩ = false) ∧
    Hid (w.ownsRow base 71 2 (.slice A D.did.length c) D.did.length vs ∧ WCells w vs D.did ∧ (Value.slice A D.did.length c).ownBlock = r) := by
  obtain ⟨A, c, vs, hb, ho⟩ := h.ex
  exact ⟨A, c, vs, by rw [hb.cell]; rfl, by rw [hb.cell]; rfl, by rw [hb.cell]; rfl, by rw [hb.cell]; rfl, fun j => hb.frozen j, ho⟩

def DD.new (n : Int) : DD := ⟨n, [], true, -1⟩
set_option maxHeartbeats 400000 in
theorem docnew_ok (base : Nat) (n : Int) (w : World) (h0 : 1 ≤ n) (hn : n ≤ 1024) :
    Calls Try.prog 25 #[.int .i64 n] w fun e w' => e = .returned (.tuple #[.pointer (some ⟨w.heap.size, 0, none⟩), .int .i64 0]) ∧ Below w.heap.size w w' ∧ DocAt w' base w.heap.size none (DD.new n) := by
  go_enter Try.func25, Try.ntmps25
  go_wp2_with fail
  go_ret2
  exact ⟨rfl, (Below.refl _ _).alloc (Nat.le_refl _) _, ⟨none, 0, [], Blk.new _ _ _, own_none _ _ _ _, WCells.nil _ _, rfl⟩, by simp [DD.new], by simp [DD.new]⟩
theorem docnew_bad (n : Int) (w : World) (h : n < 1 ∨ 1024 < n) :
    Calls Try.prog 25 #[.int .i64 n] w fun e w' => e = .returned (.tuple #[.pointer none, .int .i64 1]) ∧ w = w' := by
  rcases h with h | h
  all_goals
    go_enter Try.func25, Try.ntmps25
    go_wp2_with fail
    go_ret2
    exact ⟨rfl, rfl⟩

theorem DocAt.turn {w w' : World} {base p : Nat} {r : Option Nat} {D : DD} (h : DocAt w base p r D) (lit : Bool) (fuse : Int) (hk : Kp (fun k => k = p) w w')
    (hc : ∀ A c, w.cell? ⟨p, 1, none⟩ = some (.slice A D.did.length c) → Blk w' p #[.int .i64 D.n, .slice A D.did.length c, .bool lit, .int .i64 fuse] 60) (h0 : -1 ≤ fuse) (h1 : fuse ≤ 9223372036854775807) : DocAt w' base p r { D with lit := lit, fuse := fuse } := by
  obtain ⟨A, c, vs, hb, ho, hw, hr⟩ := h.ex
  have hne := h.ne
  have hnb := h.noBytes
  refine ⟨⟨A, c, vs, hc A c (by rw [hb.cell]; rfl), own_kp ho hk (fun k hk' => (hne k (hr ▸ hk')).1), hw.kp hk (fun k hk' => hnb k (.inl hk')), hr⟩, h0, h1⟩

set_option maxHeartbeats 400000 in
theorem doccut_any (w : World) (base p : Nat) (r : Option Nat) (D : DD) (h : DocAt w base p r D) :
    Calls Try.prog 29 #[.pointer (some ⟨p, 0, none⟩)] w fun e w' => e = .returned (.tuple #[]) ∧ Kp (fun k => k = p) w w' ∧ DocAt w' base p r { D with lit := false, fuse := -1 } := by
  obtain ⟨A, c, vs, c0, c1, c2, c3, hf, _⟩ := h.cells
  have H := Lib.hid h
  have HE : Hid (∀ W, W = (w.setCell ⟨p, 2, none⟩ (.bool false)).setCell ⟨p, 3, none⟩ (.int .i64 (-1)) → Kp (fun k => k = p) w W ∧ DocAt W base p r { D with lit := false, fuse := -1 }) := by
    rintro W rfl
    have hk : Kp (fun k => k = p) w ((w.setCell ⟨p, 2, none⟩ (.bool false)).setCell ⟨p, 3, none⟩ (.int .i64 (-1))) := ((Kp.refl _ w).set1 _).set1 _
    refine ⟨hk, h.turn _ _ hk (fun A' c' hc' => ?_) (by omega) (by omega)⟩
    obtain ⟨A2, c2, vs2, hb, _⟩ := h.ex
    have := (hb.set 2 (.bool false)).set 3 (.int .i64 (-1))
    rw [hb.cell] at hc'
    simp at hc'
    obtain ⟨rfl, rfl⟩ := hc'
    simpa using this
  clear h
  go_enter Try.func29, Try.ntmps29
  go_wp2_with fail
  go_end0
  exact ⟨rfl, HE.out _ rfl⟩

set_option maxHeartbeats 400000 in
theorem docpower_any (w : World) (base p : Nat) (r : Option Nat) (D : DD) (h : DocAt w base p r D) :
    Calls Try.prog 30 #[.pointer (some ⟨p, 0, none⟩)] w fun e w' => e = .returned (.tuple #[]) ∧ Kp (fun k => k = p) w w' ∧ DocAt w' base p r { D with lit := true, fuse := -1 } := by
  obtain ⟨A, c, vs, c0, c1, c2, c3, hf, _⟩ := h.cells
  have HE : Hid (∀ W, W = (w.setCell ⟨p, 2, none⟩ (.bool true)).setCell ⟨p, 3, none⟩ (.int .i64 (-1)) → Kp (fun k => k = p) w W ∧ DocAt W base p r { D with lit := true, fuse := -1 }) := by
    rintro W rfl
    have hk : Kp (fun k => k = p) w ((w.setCell ⟨p, 2, none⟩ (.bool true)).setCell ⟨p, 3, none⟩ (.int .i64 (-1))) := ((Kp.refl _ w).set1 _).set1 _
    refine ⟨hk, h.turn _ _ hk (fun A' c' hc' => ?_) (by omega) (by omega)⟩
    obtain ⟨A2, c2, vs2, hb, _⟩ := h.ex
    have := (hb.set 2 (.bool true)).set 3 (.int .i64 (-1))
    rw [hb.cell] at hc'
    simp at hc'
    obtain ⟨rfl, rfl⟩ := hc'
    simpa using this
  clear h
  go_enter Try.func30, Try.ntmps30
  go_wp2_with fail
  go_end0
  exact ⟨rfl, HE.out _ rfl⟩

def DD.fuseE (D : DD) (n : Int) : Int := if n < 0 then 1 else if D.lit then 0 else 21
def DD.fuseS (D : DD) (n : Int) : DD := if n < 0 then D else if D.lit then { D with fuse := n } else D
set_option maxHeartbeats 400000 in
theorem docfuse_any (w : World) (base p : Nat) (r : Option Nat) (D : DD) (h : DocAt w base p r D) (n : Int) (hm : n ≤ 9223372036854775807) :
    Calls Try.prog 28 #[.pointer (some ⟨p, 0, none⟩), .int .i64 n] w fun e w' => e = .returned (.int .i64 (D.fuseE n)) ∧ Kp (fun k => k = p) w w' ∧ DocAt w' base p r (D.fuseS n) := by
  obtain ⟨A, c, vs, c0, c1, c2, c3, hf, _⟩ := h.cells
  by_cases hn : n < 0
  · have e1 : D.fuseE n = 1 := by unfold DD.fuseE; rw [if_pos hn]
    have e2 : D.fuseS n = D := by unfold DD.fuseS; rw [if_pos hn]
    rw [e1, e2]
    have H := Lib.hid h
    clear h e1 e2
    go_enter Try.func28, Try.ntmps28
    go_wp2_with fail
    go_ret
    exact ⟨rfl, Kp.refl _ _, H.out⟩
  · cases hl : D.lit with
    | false =>
      have e1 : D.fuseE n = 21 := by unfold DD.fuseE; rw [if_neg hn]; simp [hl]
      have e2 : D.fuseS n = D := by unfold DD.fuseS; rw [if_neg hn]; simp [hl]
      rw [e1, e2]
      rw [hl] at c2
      have H := Lib.hid h
      clear h e1 e2 hl
      go_enter Try.func28, Try.ntmps28
      go_wp2_with fail
      go_ret
      exact ⟨rfl, Kp.refl _ _, H.out⟩
    | true =>
      have e1 : D.fuseE n = 0 := by unfold DD.fuseE; rw [if_neg hn]; simp [hl]
      have e2 : D.fuseS n = { D with lit := true, fuse := n } := by unfold DD.fuseS; rw [if_neg hn, if_pos hl, ← hl]
      rw [e1, e2]
      have HE : Hid (∀ W, W = (w.setCell ⟨p, 3, none⟩ (.int .i64 n)) → Kp (fun k => k = p) w W ∧ DocAt W base p r { D with lit := true, fuse := n }) := by
        rintro W rfl
        have hk : Kp (fun k => k = p) w (w.setCell ⟨p, 3, none⟩ (.int .i64 n)) := (Kp.refl _ w).set1 _
        refine ⟨hk, h.turn _ _ hk (fun A' c' hc' => ?_) (by omega) (by omega)⟩
        obtain ⟨A2, c2, vs2, hb, _⟩ := h.ex
        have := hb.set 3 (.int .i64 n)
        rw [hb.cell] at hc'
        simp at hc'
        obtain ⟨rfl, rfl⟩ := hc'
        rw [hl] at this
        simpa using this
      rw [hl] at c2
      clear h e1 e2 hl
      go_enter Try.func28, Try.ntmps28
      go_wp2_with fail
      go_ret
      exact ⟨rfl, HE.out _ rfl⟩

def DD.has (D : DD) (i : Int) : Prop := 0 ≤ i ∧ i < D.n
instance (D : DD) (i : Int) : Decidable (D.has i) := by unfold DD.has; exact inferInstance
def DD.put (D : DD) (i : Int) (l : List Int) : DD := { D with did := D.did ++ [(i, l)], fuse := if 0 < D.fuse then D.fuse - 1 else D.fuse }
def DD.writeE (D : DD) (i : Int) (l : List Int) : Int := if ¬ D.has i then 20 else if l.length ≠ 64 then 1 else if ¬ D.lit then 21 else if D.fuse = 0 then 21 else 0
def DD.writeS (D : DD) (i : Int) (l : List Int) : DD := if ¬ D.has i then D else if l.length ≠ 64 then D else if ¬ D.lit then D else if D.fuse = 0 then { D with lit := false, fuse := -1 } else D.put i l

def DocWrote (w : World) (base p : Nat) (r : Option Nat) (E : Int) (D : DD) (e : Ending) (w' : World) : Prop :=
  e = .returned (.int .i64 E) ∧ Kp (DocAt.S p r) w w' ∧ ∃ r', DocAt w' base p r' D ∧ (r' = r ∨ ∃ k, r' = some k ∧ w.heap.size ≤ k)

theorem docwrite_small (w : World) (base p : Nat) (r : Option Nat) (D : DD) (h : DocAt w base p r D) (i : Int) (A : Option Addr) (len c : Nat) (hlen : len ≤ 9223372036854775807) (hbad : ¬ D.has i ∨ len ≠ 64 ∨ D.lit = false) (l : List Int) (hl : l.length = len) :
    Calls Try.prog 26 #[.pointer (some ⟨p, 0, none⟩), .int .i64 i, .slice A len c] w (DocWrote w base p r (D.writeE i l) (D.writeS i l)) := by
  obtain ⟨A, c, vs, c0, c1, c2, c3, hf, _⟩ := h.cells
  by_cases hi : D.has i
  · obtain ⟨hi0, hi1⟩ := hi
    by_cases h64 : len = 64
    · have hlit : D.lit = false := by
        rcases hbad with hb | hb | hb
        · exact absurd ⟨hi0, hi1⟩ hb
        · exact absurd h64 hb
        · exact hb
      have e1 : D.writeE i l = 21 := by unfold DD.writeE; rw [if_neg (fun h => h ⟨hi0, hi1⟩), if_neg (by omega), if_pos (by simp [hlit])]
      have e2 : D.writeS i l = D := by unfold DD.writeS; rw [if_neg (fun h => h ⟨hi0, hi1⟩), if_neg (by omega), if_pos (by simp [hlit])]
      rw [e1, e2]
      rw [hlit] at c2
      subst h64
      have H := Lib.hid h
      clear h e1 e2 hlit hbad hl
      go_enter Try.func26, Try.ntmps26
      go_wp2_with fail
      go_ret
      exact ⟨rfl, Kp.refl _ _, r, H.out, .inl rfl⟩
    · have e1 : D.writeE i l = 1 := by unfold DD.writeE; rw [if_neg (fun h => h ⟨hi0, hi1⟩), if_pos (by omega)]
      have e2 : D.writeS i l = D := by unfold DD.writeS; rw [if_neg (fun h => h ⟨hi0, hi1⟩), if_pos (by omega)]
      rw [e1, e2]
      have hne : ((len : Int) != 64) = true := by simp; omega
      have H := Lib.hid h
      clear h e1 e2 hbad hl
      go_enter Try.func26, Try.ntmps26
      go_wp2_with fail
      go_ret
      exact ⟨rfl, Kp.refl _ _, r, H.out, .inl rfl⟩
  · have e1 : D.writeE i l = 20 := by unfold DD.writeE; rw [if_pos hi]
    have e2 : D.writeS i l = D := by unfold DD.writeS; rw [if_pos hi]
    rw [e1, e2]
    have H := Lib.hid h
    have hor : i < 0 ∨ (0 ≤ i ∧ D.n ≤ i) := by unfold DD.has at hi; omega
    clear h e1 e2 hbad hl hi
    rcases hor with h0 | ⟨h0, h1⟩
    · go_enter Try.func26, Try.ntmps26
      go_wp2_with fail
      go_ret
      exact ⟨rfl, Kp.refl _ _, r, H.out, .inl rfl⟩
    · go_enter Try.func26, Try.ntmps26
      go_wp2_with fail
      go_ret
      exact ⟨rfl, Kp.refl _ _, r, H.out, .inl rfl⟩

theorem winfo : (Try.prog.info? 71).map (fun i => (i.zero.map (fun z => z.cells.size), i.size, i.bytes)) = some (some 2, 2, 32) := by kernel_rfl

/-- What a write that is done comes to, step by step. -/
structure PutRun (W : World) (base p : Nat) (r : Option Nat) (D : DD) (i : Int) (l : List Int) (A : Option Addr) (c : Nat) (A1 : Option Addr) (c1 : Nat) (w1 : World) (A2 : Option Addr) (c2 : Nat) (w2 : World) : Prop where
  cell1 : ∀ q : Addr, q.block < W.heap.size → w1.cell? q = W.cell? q
  cell2 : w2.cell? ⟨p, 1, none⟩ = some (.slice A D.did.length c)
  froz2 : w2.frozen? ⟨p, 1, none⟩ = false
  fin : ∀ w3, w3 = w2.setCell ⟨p, 1, none⟩ (.slice A2 (D.did.length + 1) c2) → Kp (DocAt.S p r) W w3 ∧ ∃ r', DocAt w3 base p r' { D with did := D.did ++ [(i, l)] } ∧ (r' = r ∨ ∃ k, r' = some k ∧ W.heap.size ≤ k)

theorem put_run (W : World) (base p : Nat) (r : Option Nat) (D : DD) (h : DocAt W base p r D) (hbase : base ≤ W.heap.size) (hlen : (D.did.length + 1) * 32 ≤ 140737488355328) (i : Int) (x : Addr) (cx : Nat) (l : List Int) (hl : l.length = 64) (hr : Rd .u8 W (some x) l)
    (A : Option Addr) (c : Nat) (hc1 : W.cell? ⟨p, 1, none⟩ = some (.slice A D.did.length c)) (ty ty' : TypeId) :
    ∃ A1 c1 w1 A2 c2 w2, (Builtin.append_ #[29, 29] ty #[.slice none 0 0, .slice (some x) 64 cx]).run Try.prog W.drew = .ok (.slice A1 64 c1) w1 ∧
      (Builtin.append_ #[58, 58] ty' #[.slice A D.did.length c, .slice (some ⟨w1.heap.size, 0, none⟩) 1 1]).run Try.prog (w1.alloc (.cells #[.int .i64 i, .slice A1 64 c1] 71)) = .ok (.slice A2 (D.did.length + 1) c2) w2 ∧
      PutRun W base p r D i l A c A1 c1 w1 A2 c2 w2 := by
  have hne := h.ne
  have hlt := h.lt
  have hnb := h.noBytes
  obtain ⟨A', c', vs, hb, ho, hw, hrr⟩ := h.ex
  have e : W.cell? ⟨p, 1, none⟩ = some (.slice A' D.did.length c') := by rw [hb.cell]; rfl
  rw [hc1] at e
  injection e with e
  injection e with e1 _ e2
  subst e1; subst e2
  obtain ⟨v1, w1, hr1, ho1, hg1, hat1⟩ := append_run2 (P := Try.prog) (w := W.drew) (base := W.heap.size) ty Try.underlying29 binfo (by omega) (own_none W.drew W.heap.size 5 1) (news := bvals l) (a := x) (m := 64) (c := cx) (by rw [bvals_length, hl])
    (fun j u hu => by
      have hj : j < l.length := by have := (List.getElem?_eq_some_iff.1 hu).1; rwa [bvals_length] at this
      obtain ⟨y, hy, _, hcy⟩ := hr.at_ j hj
      cases hy
      show W.cell? _ = _
      rw [hcy, ← hu]
      exact (ints_get .u8 l j hj).symm)
    (fun u hu => by simp [bvals] at hu; obtain ⟨y, _, rfl⟩ := hu; rfl) (by omega) (by omega) (Nat.le_refl _)
  rw [Nat.zero_add, List.nil_append] at ho1
  obtain ⟨hl1, hv1⟩ := ho1
  rcases hv1 with ⟨_, h0⟩ | ⟨g1, k1, cur1, rfl, hge1, hblk1, _, _, _, htake1⟩
  · omega
  have hk1 : Kp (fun _ => False) W w1 := (Kp.of_grown hg1).mono (fun k hk _ => by cases hk) |> fun h => ⟨h.os, h.tape, h.output, h.size, h.block⟩
  have hlt1 : g1 < w1.heap.size := (Array.getElem?_eq_some_iff.1 hblk1).1
  have hz1 := hk1.size
  have hkb : Kp (fun _ => False) W (w1.alloc (.cells #[.int .i64 i, .slice (some ⟨g1, 0, none⟩) 64 k1] 71)) := hk1.alloc _
  have hob := own_kp ho hkb (fun _ _ h => h)
  obtain ⟨v2, w2, hr2, ho2, hg2, hat2⟩ := append_run2 (P := Try.prog) ty' Try.underlying58 winfo (by omega) hob (news := [.int .i64 i, .slice (some ⟨g1, 0, none⟩) 64 k1]) (a := ⟨w1.heap.size, 0, none⟩) (m := 1) (c := 1) rfl
    (fun j u hu => by rw [Addr.add_mid, Nat.zero_add, (Blk.new w1 _ _).cell]; simpa using hu)
    (fun u hu => by simp at hu; rcases hu with rfl | rfl <;> rfl) (by omega) (by omega) (by simp; omega)
  obtain ⟨A2, c2, rfl⟩ := own_form ho2
  have hzb : (w1.alloc (.cells #[.int .i64 i, .slice (some ⟨g1, 0, none⟩) 64 k1] 71)).heap.size = w1.heap.size + 1 := by simp
  have hk2 := Kp.of_grown hg2
  have hz2 := hk2.size
  rw [hzb] at hz2
  have hrow : ∀ k, (Value.slice A D.did.length c).ownBlock = some k → k < W.heap.size ∧ k ≠ p := fun k hk => ⟨hlt.2 k (hrr ▸ hk), (hne k (hrr ▸ hk)).1⟩
  have hK2 : Kp (DocAt.S p r) W w2 := (hkb.mono (fun _ h _ => h.elim)).trans (hk2.mono (fun k hk _ => .inr (hrr ▸ hk)))
  have hB1 : Blk w1 g1 cur1 5 := hblk1
  have hB2 : Blk w2 g1 cur1 5 := (hB1.alloc _).kp hk2 (fun hk => by have := (hrow g1 hk).1; omega)
  have hP2 : Blk w2 p #[.int .i64 D.n, .slice A D.did.length c, .bool D.lit, .int .i64 D.fuse] 60 := (hb.kp hkb (fun h => h)).kp hk2 (fun hk => (hrow p hk).2 rfl)
  refine ⟨some ⟨g1, 0, none⟩, k1, w1, A2, c2, w2, hr1, hr2, fun q hq => hk1.cell hq (fun h => h), by rw [hP2.cell]; rfl, hP2.frozen _, ?_⟩
  rintro w3 rfl
  have hK3 := hK2.setCell (p := ⟨p, 1, none⟩) (.inl rfl) (.slice A2 (D.did.length + 1) c2)
  have hrow2 : ∀ k, (Value.slice A2 (D.did.length + 1) c2).ownBlock = some k → k ≠ p ∧ ((Value.slice A2 (D.did.length + 1) c2).ownBlock = r ∨ W.heap.size ≤ k) := fun k hk => by
    rcases hat2 with hat | hat
    · have := hrow k (hat ▸ hk)
      exact ⟨this.2, .inl (hat.trans hrr)⟩
    · rw [hat, hzb] at hk
      injection hk with hk
      exact ⟨by omega, .inr (by omega)⟩
  refine ⟨hK3, (Value.slice A2 (D.did.length + 1) c2).ownBlock, ⟨⟨A2, c2, vs ++ [.int .i64 i, .slice (some ⟨g1, 0, none⟩) 64 k1], ?_, ?_, ?_, ?_⟩, h.fuse0, h.fuse1⟩, ?_⟩
  · have := hP2.set 1 (.slice A2 (D.did.length + 1) c2)
    simpa using this
  · have := own_kp ho2 ((Kp.refl (fun k => k = p) w2).setCell (p := ⟨p, 1, none⟩) rfl (.slice A2 (D.did.length + 1) c2)) (fun k hk => (hrow2 k hk).1)
    simpa using this
  · have hw2 : WCells w2 vs D.did := hw.kp hK2 hnb
    have hw3 := hw2.snoc (i := i) (l := l) (b := g1) (c := k1) (cur := cur1) (by have := ho.1; omega) hl hB2 (fun j hj => by
      have hj' : (bvals l)[j]? = some (.int .u8 (l.getD j 0)) := ints_get .u8 l j (by omega)
      rw [← htake1, List.getElem?_take, if_pos (by omega)] at hj'
      rwa [← Array.getElem?_toList])
    exact hw3.kp ((Kp.refl (fun k => k = p) w2).setCell (p := ⟨p, 1, none⟩) rfl _) (fun k hk => by
      have hk : k = p := hk
      subst hk
      exact NoBytes.blk hP2 (by decide))
  · simp
  · rcases hat2 with hat | hat
    · exact .inl (hat.trans hrr)
    · exact .inr ⟨_, hat, by rw [hzb]; omega⟩

set_option maxHeartbeats 1000000 in
theorem docwrite_cut (w : World) (base p : Nat) (r : Option Nat) (D : DD) (h : DocAt w base p r D) (i : Int) (hi : D.has i) (hlit : D.lit = true) (hf0 : D.fuse = 0) (A : Option Addr) (c : Nat) (l : List Int) (hl : l.length = 64) :
    Calls Try.prog 26 #[.pointer (some ⟨p, 0, none⟩), .int .i64 i, .slice A 64 c] w (DocWrote w base p r (D.writeE i l) (D.writeS i l)) := by
  obtain ⟨A', c', vs, c0, c1, c2, c3, hf, _⟩ := h.cells
  have e1 : D.writeE i l = 21 := by unfold DD.writeE; rw [if_neg (fun h => h hi), if_neg (by omega), if_neg (by simp [hlit]), if_pos hf0]
  have e2 : D.writeS i l = { D with lit := false, fuse := -1 } := by unfold DD.writeS; rw [if_neg (fun h => h hi), if_neg (by omega), if_neg (by simp [hlit]), if_pos hf0]
  rw [e1, e2]
  have HE : Hid (∀ W, W = (w.setCell ⟨p, 2, none⟩ (.bool false)).setCell ⟨p, 3, none⟩ (.int .i64 (-1)) → Kp (fun k => k = p) w W ∧ DocAt W base p r { D with lit := false, fuse := -1 }) := by
    rintro W rfl
    have hk : Kp (fun k => k = p) w ((w.setCell ⟨p, 2, none⟩ (.bool false)).setCell ⟨p, 3, none⟩ (.int .i64 (-1))) := ((Kp.refl _ w).set1 _).set1 _
    refine ⟨hk, h.turn _ _ hk (fun A' c' hc' => ?_) (by omega) (by omega)⟩
    obtain ⟨A2, c2, vs2, hb, _⟩ := h.ex
    have := (hb.set 2 (.bool false)).set 3 (.int .i64 (-1))
    rw [hb.cell] at hc'
    simp at hc'
    obtain ⟨rfl, rfl⟩ := hc'
    simpa using this
  obtain ⟨hi0, hi1⟩ := hi
  rw [hlit] at c2
  rw [hf0] at c3
  clear h e1 e2 hlit hf0 hl
  go_enter Try.func26, Try.ntmps26
  go_wp2_with fail
  go_ret
  obtain ⟨h1, h2⟩ := HE.out _ rfl
  exact ⟨rfl, h1.mono (fun k hk _ => .inl hk), r, h2, .inl rfl⟩

set_option maxHeartbeats 2000000 in
theorem docwrite_put (w : World) (base p : Nat) (r : Option Nat) (D : DD) (h : DocAt w base p r D) (i : Int) (hi : D.has i) (hlit : D.lit = true) (hf0 : D.fuse ≠ 0) (x : Addr) (c : Nat) (l : List Int) (hl : l.length = 64) (hr : Rd .u8 w (some x) l) (hxp : x.block ≠ p)
    (hbase : base ≤ w.heap.size) (hlen : (D.did.length + 1) * 32 ≤ 140737488355328) :
    Calls Try.prog 26 #[.pointer (some ⟨p, 0, none⟩), .int .i64 i, .slice (some x) 64 c] w (DocWrote w base p r (D.writeE i l) (D.writeS i l)) := by
  obtain ⟨A', c', vs, c0, c1, c2, c3, hf, _⟩ := h.cells
  have e1 : D.writeE i l = 0 := by unfold DD.writeE; rw [if_neg (fun h => h hi), if_neg (by omega), if_neg (by simp [hlit]), if_neg hf0]
  have e2 : D.writeS i l = D.put i l := by unfold DD.writeS; rw [if_neg (fun h => h hi), if_neg (by omega), if_neg (by simp [hlit]), if_neg hf0]
  rw [e1, e2]
  obtain ⟨hi0, hi1⟩ := hi
  have hf1 := h.fuse0
  have hfm := h.fuse1
  have hplt := h.lt.1
  have hbig : (∀ W D', (W = w ∧ D' = D ∧ D.fuse < 0) ∨ (W = w.setCell ⟨p, 3, none⟩ (.int .i64 (D.fuse - 1)) ∧ D' = { D with lit := true, fuse := D.fuse - 1 } ∧ 0 < D.fuse) →
      DocAt W base p r D' ∧ D'.did.length = D.did.length ∧ W.heap.size = w.heap.size ∧ Rd .u8 W (some x) l ∧ Kp (DocAt.S p r) w W ∧ D.put i l = { D' with did := D'.did ++ [(i, l)] } ∧ W.cell? ⟨p, 1, none⟩ = some (.slice A' D.did.length c')) := by
    rintro W D' (⟨rfl, rfl, hneg⟩ | ⟨rfl, rfl, hpos⟩)
    · exact ⟨h, rfl, rfl, hr, Kp.refl _ _, by unfold DD.put; rw [if_neg (by omega)], c1⟩
    · have hk : Kp (fun k => k = p) w (w.setCell ⟨p, 3, none⟩ (.int .i64 (D.fuse - 1))) := (Kp.refl _ w).set1 _
      refine ⟨h.turn _ _ hk (fun A' c' hc' => ?_) (by omega) (by omega), rfl, by simp [World.setCell], hr.kp hk (fun y hy => by cases hy; exact hxp), hk.mono (fun k hk _ => .inl hk), by unfold DD.put; rw [if_pos (by omega), hlit], ?_⟩
      · obtain ⟨A2, c2, vs2, hb, _⟩ := h.ex
        have := hb.set 3 (.int .i64 (D.fuse - 1))
        rw [hb.cell] at hc'
        simp at hc'
        obtain ⟨rfl, rfl⟩ := hc'
        rw [hlit] at this
        simpa using this
      · obtain ⟨A2, c2, vs2, hb, _⟩ := h.ex
        have := (hb.set 3 (.int .i64 (D.fuse - 1))).cell 1
        rw [this, ← c1, hb.cell]
        rfl
  have HP : ∀ W D', (W = w ∧ D' = D ∧ D.fuse < 0) ∨ (W = w.setCell ⟨p, 3, none⟩ (.int .i64 (D.fuse - 1)) ∧ D' = { D with lit := true, fuse := D.fuse - 1 } ∧ 0 < D.fuse) →
      ∃ A1 c1 w1 A2 c2 w2, (Builtin.append_ #[29, 29] 29 #[.slice none 0 0, .slice (some x) 64 c]).run Try.prog W.drew = .ok (.slice A1 64 c1) w1 ∧
      (Builtin.append_ #[58, 58] 58 #[.slice A' D.did.length c', .slice (some ⟨w1.heap.size, 0, none⟩) 1 1]).run Try.prog (w1.alloc (.cells #[.int .i64 i, .slice A1 64 c1] 71)) = .ok (.slice A2 (D.did.length + 1) c2) w2 ∧
      w1.cell? ⟨p, 1, none⟩ = some (.slice A' D.did.length c') ∧ w2.cell? ⟨p, 1, none⟩ = some (.slice A' D.did.length c') ∧ w2.frozen? ⟨p, 1, none⟩ = false ∧ p < w1.heap.size ∧
      Hid (∀ w3, w3 = w2.setCell ⟨p, 1, none⟩ (.slice A2 (D.did.length + 1) c2) → Kp (DocAt.S p r) w w3 ∧ ∃ r', DocAt w3 base p r' (D.put i l) ∧ (r' = r ∨ ∃ k, r' = some k ∧ w.heap.size ≤ k)) := by
    intro W D' hW
    obtain ⟨g1, g2, g3, g4, g5, g6, g7⟩ := hbig W D' hW
    rw [← g2] at g7 hlen
    obtain ⟨A1, c1, w1, A2, c2, w2, k1, k2, k3⟩ := put_run W base p r D' g1 (by omega) hlen i x c l hl g4 A' c' g7 29 58
    rw [← g2, g6]
    refine ⟨A1, c1, w1, A2, c2, w2, k1, k2, (k3.cell1 ⟨p, 1, none⟩ (by rw [g3]; exact hplt)).trans g7, k3.cell2, k3.froz2, World.block_lt_of_cell? w1 ⟨p, 1, none⟩ ((k3.cell1 ⟨p, 1, none⟩ (by rw [g3]; exact hplt)).trans g7), ?_⟩
    intro w3 hw3
    obtain ⟨q1, q2⟩ := k3.fin w3 hw3
    rw [← g3]
    exact ⟨g5.trans q1, q2⟩
  rw [hlit] at c2
  have HB := Lib.hid hbig
  clear h e1 e2 hlit hl hbig hr hlen
  by_cases hpos : 0 < D.fuse
  · obtain ⟨A1, k1, w1, A2, k2, w2, hr1, hr2, q1, q2, q3, q4, HF⟩ := HP _ _ (.inr ⟨rfl, rfl, hpos⟩)
    have hz : ((D.fuse == 0) = false) := by simp; omega
    have q0 : (w.setCell ⟨p, 3, none⟩ (.int .i64 (D.fuse - 1))).cell? ⟨p, 1, none⟩ = some (.slice A' D.did.length c') := (HB.out _ _ (.inr ⟨rfl, rfl, hpos⟩)).2.2.2.2.2.2
    clear HP hf0 HB
    go_enter Try.func26, Try.ntmps26
    go_wp2_with fail
    go_region_law (first | (refine step_append_run (by rfl) _ _ _ _ (by rfl) _ _ _ (by rfl) (by rfl) hr1 ?_) | (refine step_append_run (by rfl) _ _ _ _ (by rfl) _ _ _ (by rfl) (by rfl) hr2 ?_))
    all_goals
      go_wp2_with fail
      go_ret
      obtain ⟨h1, h2⟩ := HF.out _ rfl
      exact ⟨rfl, h1, h2⟩
  · have hneg : D.fuse < 0 := by omega
    obtain ⟨A1, k1, w1, A2, k2, w2, hr1, hr2, q1, q2, q3, q4, HF⟩ := HP _ _ (.inl ⟨rfl, rfl, hneg⟩)
    have hz : ((D.fuse == 0) = false) := by simp; omega
    clear HP hf0 HB
    go_enter Try.func26, Try.ntmps26
    go_wp2_with fail
    go_region_law (first | (refine step_append_run (by rfl) _ _ _ _ (by rfl) _ _ _ (by rfl) (by rfl) hr1 ?_) | (refine step_append_run (by rfl) _ _ _ _ (by rfl) _ _ _ (by rfl) (by rfl) hr2 ?_))
    all_goals
      go_wp2_with fail
      go_ret
      obtain ⟨h1, h2⟩ := HF.out _ rfl
      exact ⟨rfl, h1, h2⟩

/-- Whatever is written. -/
theorem docwrite_any (w : World) (base p : Nat) (r : Option Nat) (D : DD) (h : DocAt w base p r D) (i : Int) (x : Addr) (c : Nat) (l : List Int) (hr : Rd .u8 w (some x) l) (hxp : x.block ≠ p) (hl : l.length ≤ 9223372036854775807)
    (hbase : base ≤ w.heap.size) (hlen : (D.did.length + 1) * 32 ≤ 140737488355328) :
    Calls Try.prog 26 #[.pointer (some ⟨p, 0, none⟩), .int .i64 i, .slice (some x) l.length c] w (DocWrote w base p r (D.writeE i l) (D.writeS i l)) := by
  by_cases hbad : ¬ D.has i ∨ l.length ≠ 64 ∨ D.lit = false
  · exact docwrite_small w base p r D h i (some x) l.length c hl hbad l rfl
  · have h1 : D.has i := by
      by_cases e : D.has i
      · exact e
      · exact absurd (.inl e) hbad
    have h2 : l.length = 64 := by
      by_cases e : l.length = 64
      · exact e
      · exact absurd (.inr (.inl e)) hbad
    have h3 : D.lit = true := by
      cases e : D.lit
      · exact absurd (.inr (.inr e)) hbad
      · rfl
    rw [h2]
    by_cases hf : D.fuse = 0
    · exact docwrite_cut w base p r D h i h1 h3 hf (some x) c l h2
    · exact docwrite_put w base p r D h i h1 h3 hf x c l h2 hr hxp hbase hlen

end Go.Proofs.Ytdmkphalihdmlaa
