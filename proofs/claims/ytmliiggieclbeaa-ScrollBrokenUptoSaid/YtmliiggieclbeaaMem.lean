/- What a call may have turned, block by block; whole numbers read from memory. Plain lemmas over any world; no program. -/
import Derived.WalkKit
import Derived.WalkSpells
import Derived.WalkLawsBesides
import Derived.Deep.MidRow
import Derived.Lib.Hide
import Derived.Deep.Draws
import Derived.StillTailTactics
namespace Go.Proofs.Ytmliiggieclbeaa
open Go.RowKit

/-- From w to w' nothing has turned but blocks in S and new ones. -/
structure Kp (S : Nat → Prop) (w w' : World) : Prop where
  os : w'.os = w.os
  tape : w'.tape = w.tape
  output : w'.output = w.output
  size : w.heap.size ≤ w'.heap.size
  block : ∀ k, k < w.heap.size → ¬ S k → w'.heap[k]? = w.heap[k]?

theorem Kp.refl (S : Nat → Prop) (w : World) : Kp S w w := ⟨rfl, rfl, rfl, Nat.le_refl _, fun _ _ _ => rfl⟩
theorem Kp.trans {S : Nat → Prop} {a b c : World} (h : Kp S a b) (k : Kp S b c) : Kp S a c :=
  ⟨k.os.trans h.os, k.tape.trans h.tape, k.output.trans h.output, Nat.le_trans h.size k.size,
   fun i hi hs => (k.block i (Nat.lt_of_lt_of_le hi h.size) hs).trans (h.block i hi hs)⟩
theorem Kp.mono {S T : Nat → Prop} {a b : World} (h : Kp S a b) (hs : ∀ k, S k → k < a.heap.size → T k) : Kp T a b :=
  ⟨h.os, h.tape, h.output, h.size, fun i hi ht => h.block i hi (fun hk => ht (hs i hk hi))⟩
theorem Kp.drew {S : Nat → Prop} {a b : World} (h : Kp S a b) : Kp S a b.drew := ⟨h.os, h.tape, h.output, h.size, h.block⟩
theorem Kp.drewN {S : Nat → Prop} {a b : World} (h : Kp S a b) (n : Nat) : Kp S a (b.drewN n) := ⟨h.os, h.tape, h.output, h.size, h.block⟩
theorem Kp.alloc {S : Nat → Prop} {a b : World} (h : Kp S a b) (o : Obj) : Kp S a (b.alloc o) :=
  h.trans ⟨rfl, rfl, rfl, by simp, fun k hk _ => Below.heap_alloc _ _ _ hk⟩
theorem Kp.setCell {S : Nat → Prop} {a b : World} (h : Kp S a b) {p : Addr} (hp : S p.block) (u : Value) : Kp S a (b.setCell p u) :=
  h.trans ⟨rfl, rfl, rfl, by simp [World.setCell], fun k _ hk => Below.heap_setCell _ _ _ _ (fun e => hk (e ▸ hp))⟩
theorem Kp.set1 {d i : Nat} {a b : World} (h : Kp (fun k => k = d) a b) (u : Value) : Kp (fun k => k = d) a (b.setCell ⟨d, i, none⟩ u) := Kp.setCell (S := fun k => k = d) h (p := ⟨d, i, none⟩) rfl u
theorem Kp.setCells {S : Nat → Prop} {a : World} (bl : Nat) (hp : S bl) : ∀ (vs : List Value) (o : Nat) (b : World), Kp S a b → Kp S a (b.setCells bl o vs)
  | [], _, _, h => h
  | v :: r, o, b, h => by
    rw [World.setCells]
    exact Kp.setCells bl hp r (o + 1) _ (h.setCell (p := ⟨bl, o, none⟩) hp v)
theorem Kp.below {S : Nat → Prop} {a b : World} (h : Kp S a b) (hs : ∀ k, S k → a.heap.size ≤ k) : Below a.heap.size a b :=
  ⟨h.os, h.tape, h.output, h.size, fun k hk => h.block k hk (fun hS => by have := hs k hS; omega)⟩
theorem Kp.of_below {S : Nat → Prop} {a b : World} (h : Below a.heap.size a b) : Kp S a b :=
  ⟨h.os, h.tape, h.output, h.size, fun k hk _ => h.block k hk⟩
/-- Behind a step that turns blocks from B on alone. -/
theorem below_kp {B : Nat} {S : Nat → Prop} {w0 a b : World} (h : Below B w0 a) (k : Kp S a b) (hB : B ≤ a.heap.size) (hs : ∀ k, S k → B ≤ k) : Below B w0 b :=
  h.trans ⟨k.os, k.tape, k.output, k.size, fun i hi => k.block i (by omega) (fun hS => by have := hs i hS; omega)⟩
theorem bel_next {a b c : World} (h : Below a.heap.size a b) (k : Below b.heap.size b c) : Below a.heap.size a c := h.trans (k.mono h.size)
theorem bel_nextK {S : Nat → Prop} {a b c : World} (h : Below a.heap.size a b) (k : Kp S b c) (hs : ∀ k, S k → a.heap.size ≤ k) : Below a.heap.size a c := below_kp h k h.size hs
theorem Kp.cell {S : Nat → Prop} {a b : World} (h : Kp S a b) {p : Addr} (hp : p.block < a.heap.size) (hs : ¬ S p.block) : b.cell? p = a.cell? p := World.cell?_of_block (w := a) (h.block p.block hp hs)
theorem Kp.frozen {S : Nat → Prop} {a b : World} (h : Kp S a b) {p : Addr} (hp : p.block < a.heap.size) (hs : ¬ S p.block) : b.frozen? p = a.frozen? p := World.frozen?_of_block (w := a) (h.block p.block hp hs)

/-- The world is the old one, some orders having been drawn. -/
structure Drawn (w w' : World) : Prop where
  mk ::
  ex : ∃ n, w' = w.drewN n
theorem Drawn.refl (w : World) : Drawn w w := ⟨0, rfl⟩
theorem Drawn.drew {w w' : World} (h : Drawn w w') : Drawn w w'.drew := by
  obtain ⟨n, rfl⟩ := h.ex
  exact ⟨n + 1, rfl⟩
theorem Drawn.drewN {w w' : World} (h : Drawn w w') (m : Nat) : Drawn w (w'.drewN m) := by
  obtain ⟨n, rfl⟩ := h.ex
  exact ⟨n + m, World.drewN_drewN ..⟩
theorem Drawn.heap {w w' : World} (h : Drawn w w') : w'.heap = w.heap := by
  obtain ⟨n, rfl⟩ := h.ex
  rfl
theorem Drawn.kp {w w' : World} (h : Drawn w w') (S : Nat → Prop) : Kp S w w' := by
  obtain ⟨n, rfl⟩ := h.ex
  exact (Kp.refl S w).drewN n
theorem Drawn.below {w w' : World} (h : Drawn w w') (B : Nat) : Below B w w' := by
  obtain ⟨n, rfl⟩ := h.ex
  exact ⟨rfl, rfl, rfl, Nat.le_refl _, fun _ _ => rfl⟩

/-- Whole numbers of one kind, as values. -/
def ints (k : IntKind) (l : List Int) : List Value := l.map fun x => .int k x
theorem ints_length (k : IntKind) (l : List Int) : (ints k l).length = l.length := by simp [ints]
theorem ints_get (k : IntKind) (l : List Int) (j : Nat) (h : j < l.length) : (ints k l)[j]? = some (.int k (l.getD j 0)) := by
  simp [ints, List.getD_eq_getElem?_getD, List.getElem?_eq_getElem h]
theorem ints_one (k : IntKind) (l : List Int) : ∀ v ∈ ints k l, v.oneCell' = true := by
  intro v hv
  simp only [ints, List.mem_map] at hv
  obtain ⟨x, _, rfl⟩ := hv
  rfl

/-- A slice's cells: len whole numbers from the address on (nil where there is none). -/
structure Rd (k : IntKind) (w : World) (a : Option Addr) (l : List Int) : Prop where
  at_ : ∀ j, j < l.length → ∃ x, a = some x ∧ x.block < w.heap.size ∧ w.cell? (x.add j) = some (.int k (l.getD j 0))
theorem Rd.kp {k : IntKind} {S : Nat → Prop} {w w' : World} {a : Option Addr} {l : List Int} (h : Rd k w a l) (hk : Kp S w w') (hs : ∀ x, a = some x → ¬ S x.block) : Rd k w' a l :=
  ⟨fun j hj => by
    obtain ⟨x, rfl, hx, hc⟩ := h.at_ j hj
    have e : (x.add j).block = x.block := by unfold Addr.add; split <;> rfl
    exact ⟨x, rfl, Nat.lt_of_lt_of_le hx hk.size, (hk.cell (p := x.add j) (by rw [e]; exact hx) (by rw [e]; exact hs x rfl)).trans hc⟩⟩
theorem Rd.below {k : IntKind} {w w' : World} {a : Option Addr} {l : List Int} (h : Rd k w a l) (hb : Below w.heap.size w w') : Rd k w' a l :=
  h.kp (S := fun _ => False) (Kp.of_below hb) (fun _ _ h => h)
theorem Rd.drawn {k : IntKind} {w w' : World} {a : Option Addr} {l : List Int} (h : Rd k w a l) (hd : Drawn w w') : Rd k w' a l := h.kp (hd.kp (fun _ => False)) (fun _ _ h => h)
theorem Rd.nil (k : IntKind) (w : World) (a : Option Addr) : Rd k w a [] := ⟨fun j hj => absurd hj (by simp)⟩

/-- A block of cells that no string shares. -/
def Blk (w : World) (g : Nat) (cs : Array Value) (t : TypeId) : Prop := w.heap[g]? = some (.cells cs t (0, 0))
theorem Blk.kp {S : Nat → Prop} {w w' : World} {g : Nat} {cs : Array Value} {t : TypeId} (h : Blk w g cs t) (hk : Kp S w w') (hs : ¬ S g) : Blk w' g cs t :=
  (hk.block g (Array.getElem?_eq_some_iff.1 h).1 hs).trans h
theorem Blk.lt {w : World} {g : Nat} {cs : Array Value} {t : TypeId} (h : Blk w g cs t) : g < w.heap.size := (Array.getElem?_eq_some_iff.1 h).1
theorem Blk.cell {w : World} {g : Nat} {cs : Array Value} {t : TypeId} (h : Blk w g cs t) (j : Nat) : w.cell? ⟨g, j, none⟩ = cs[j]? := cell_of_row w g j cs t _ h
theorem Blk.frozen {w : World} {g : Nat} {cs : Array Value} {t : TypeId} (h : Blk w g cs t) (j : Nat) : w.frozen? ⟨g, j, none⟩ = false := frozen_of_row w g j cs t h
theorem Blk.new (w : World) (cs : Array Value) (t : TypeId) : Blk (w.alloc (.cells cs t)) w.heap.size cs t := heap_alloc_new w _
theorem Blk.alloc {w : World} {g : Nat} {cs : Array Value} {t : TypeId} (h : Blk w g cs t) (o : Obj) : Blk (w.alloc o) g cs t := (Below.heap_alloc w o g h.lt).trans h
theorem Blk.drew {w : World} {g : Nat} {cs : Array Value} {t : TypeId} (h : Blk w g cs t) : Blk w.drew g cs t := h
theorem Blk.set {w : World} {g : Nat} {cs : Array Value} {t : TypeId} (h : Blk w g cs t) (i : Nat) (v : Value) : Blk (w.setCell ⟨g, i, none⟩ v) g (cs.setIfInBounds i v) t := heap_setCell_same w g i cs t v h
theorem Blk.other {w : World} {g : Nat} {cs : Array Value} {t : TypeId} (h : Blk w g cs t) (p : Addr) (v : Value) (hp : g ≠ p.block) : Blk (w.setCell p v) g cs t := (Below.heap_setCell w p v g hp).trans h
theorem Blk.rd {k : IntKind} {w : World} {g : Nat} {cs : Array Value} {t : TypeId} {l : List Int} (h : Blk w g cs t) (o : Nat) (hc : ∀ j, j < l.length → cs[o + j]? = some (.int k (l.getD j 0))) : Rd k w (some ⟨g, o, none⟩) l :=
  ⟨fun j hj => ⟨_, rfl, h.lt, by rw [Addr.add_mid, h.cell]; exact hc j hj⟩⟩
/-- Many cells set. -/
def setMany (cs : Array Value) : Nat → List Value → Array Value
  | _, [] => cs
  | o, v :: r => setMany (cs.setIfInBounds o v) (o + 1) r
theorem setMany_size (cs : Array Value) (o : Nat) (vs : List Value) : (setMany cs o vs).size = cs.size := by
  induction vs generalizing cs o with
  | nil => rfl
  | cons v r ih => rw [setMany, ih]; simp
theorem setMany_get (vs : List Value) : ∀ (cs : Array Value) (o j : Nat), o + vs.length ≤ cs.size → (setMany cs o vs)[j]? = if o ≤ j ∧ j < o + vs.length then vs[j - o]? else cs[j]? := by
  induction vs with
  | nil => intro cs o j _; simp only [setMany, List.length_nil]; rw [if_neg (by omega)]
  | cons v r ih =>
    intro cs o j h
    simp only [List.length_cons] at h
    rw [setMany, ih _ _ _ (by simp; omega)]
    by_cases h1 : o + 1 ≤ j ∧ j < o + 1 + r.length
    · rw [if_pos h1, if_pos (by simp only [List.length_cons]; omega), show j - o = (j - (o + 1)) + 1 by omega, List.getElem?_cons_succ]
    · rw [if_neg h1]
      by_cases h2 : j = o
      · subst h2
        rw [if_pos (by simp only [List.length_cons]; omega), Array.getElem?_setIfInBounds]
        simp; omega
      · rw [if_neg (by simp only [List.length_cons]; omega), Array.getElem?_setIfInBounds, if_neg (fun e => h2 e.symm)]
theorem Blk.setCells {g : Nat} {t : TypeId} (vs : List Value) : ∀ {w : World} {cs : Array Value} (o : Nat), Blk w g cs t → Blk (w.setCells g o vs) g (setMany cs o vs) t := by
  induction vs with
  | nil => intro w cs o h; exact h
  | cons v r ih => intro w cs o h; rw [World.setCells, setMany]; exact ih _ (h.set o v)
theorem Blk.setCells_other {g b : Nat} {t : TypeId} {cs : Array Value} (hb : g ≠ b) (vs : List Value) : ∀ {w : World} (o : Nat), Blk w g cs t → Blk (w.setCells b o vs) g cs t := by
  induction vs with
  | nil => intro w o h; exact h
  | cons v r ih => intro w o h; rw [World.setCells]; exact ih _ (h.other _ v hb)
theorem size_setCells (b : Nat) (vs : List Value) : ∀ (o : Nat) (w : World), (w.setCells b o vs).heap.size = w.heap.size := by
  induction vs with
  | nil => intro o w; rfl
  | cons v r ih => intro o w; rw [World.setCells, ih]; simp [World.setCell]

/-- A whole array's load, in a region whose order is open. -/
theorem wpStill_load_mid {P : Program} {ops : Array Oper} {rest : List Oper} {op : Oper} {a : Act} {w : World} {Q : Act → Prop} (hgd : op.guard = none) (ty : TypeId) (x : Operand) (ho : op.op = .load ty x)
    (v : Value) (ad : Value) (hx : a.eval x = ad) (hr : (Instr.loadAt ty ad).run P w = .ok v w)
    (h : wpStill P ops w Q rest (a.put op.dst v)) : wpStill P ops w Q (op :: rest) a :=
  wpStill_step fun K hK => by
    simp only [Region.wanted, hgd, if_true]
    unfold Oper.still execOp
    simp only [ho, hx, Sem.run_bind, Sem.run_pure, Result.andThen_ok, hr, Oper.stillUpon_value]
    exact hK _ h

/-- A store whose run is known. -/
theorem wpList_store_run {P : Program} {ops : Array Oper} {rest : List Oper} {op : Oper} {a : Act} {w w' : World} {Q : Exit → Act → World → Prop} (hgd : op.guard = none) (ty : TypeId) (x y : Operand) (ho : op.op = .store ty x y)
    (ad v : Value) (hx : a.eval x = ad) (hy : a.eval y = v) (hr : (Instr.storeAt ty ad v).run P w = .ok () w')
    (h : wpList P ops Q rest (a.put op.dst undef) w') : wpList P ops Q (op :: rest) a w :=
  wpList_plain hgd fun _ hK => by
    unfold Oper.wp execOp
    simp only [ho, hx, hy, Sem.run_bind, Sem.run_pure, Result.andThen_ok, hr]
    exact hK _ _ h

/-- An append whose run is known. -/
theorem wpList_append_run {P : Program} {ops : Array Oper} {rest : List Oper} {op : Oper} {a : Act} {w w' : World} {Q : Exit → Act → World → Prop} (hgd : op.guard = none) (s x : Operand) (t t' : TypeId) (ho : op.op = .call { callee := .builtin .append, args := #[s, x], argTypes := #[t, t'] })
    (vs vx v : Value) (hs : a.eval s = vs) (hx : a.eval x = vx) (hr : (Builtin.append_ #[t, t'] op.type #[vs, vx]).run P w = .ok v w')
    (h : wpList P ops Q rest (a.put op.dst v) w') : wpList P ops Q (op :: rest) a w :=
  wpList_plain hgd fun _ hK => by
    unfold Oper.wp execOp
    simp only [ho, resolve, invoke, builtin, Sem.run_bind, Sem.run_pure, Result.andThen_ok, List.map_toArray, List.map_cons, List.map_nil, hs, hx, hr]
    exact hK _ _ h

/-- An argument that is a slice of whole numbers (the part up to its length). -/
structure ArgInts (k : IntKind) (w : World) (a : Option Addr) (len : Nat) (l : List Int) : Prop where
  length : l.length = len
  rd : Rd k w a l
  wf : ∀ x ∈ l, (Lit.int k x).wf = true
theorem ArgInts.below {k : IntKind} {w w' : World} {a : Option Addr} {len : Nat} {l : List Int} (h : ArgInts k w a len l) (hb : Below w.heap.size w w') : ArgInts k w' a len l := ⟨h.length, h.rd.below hb, h.wf⟩
theorem ArgInts.at_ {k : IntKind} {w : World} {a : Option Addr} {len : Nat} {l : List Int} (h : ArgInts k w a len l) (j : Nat) (hj : j < len) : ∃ x, a = some x ∧ w.cell? (x.add j) = some (.int k (l.getD j 0)) := by
  obtain ⟨x, hx, _, hc⟩ := h.rd.at_ j (by rw [h.length]; exact hj)
  exact ⟨x, hx, hc⟩
theorem ArgInts.cell {k : IntKind} {w : World} {x : Addr} {len : Nat} {l : List Int} (h : ArgInts k w (some x) len l) {j : Nat} (hj : j < len) {n : Int} (hn : Hid (l.getD j 0 = n)) : w.cell? (x.add j) = some (.int k n) := by
  obtain ⟨y, hy, hc⟩ := h.at_ j hj
  cases hy
  rw [hc, hn.out]
theorem wf_i64 {x : Int} (h : (Lit.int .i64 x).wf = true) : -9223372036854775808 ≤ x ∧ x ≤ 9223372036854775807 := by
  have h1 : IntKind.i64.min = -9223372036854775808 := by rfl
  have h2 : IntKind.i64.max = 9223372036854775807 := by rfl
  simp only [Lit.wf, h1, h2, Bool.and_eq_true, decide_eq_true_eq] at h
  exact h

theorem below_undrew {w w' : World} (h : Below w.drew.heap.size w.drew w') : Below w.heap.size w w' := ⟨h.os, h.tape, h.output, h.size, h.block⟩
theorem cell_keep {w w' : World} {p : Addr} {v : Value} (hb : Below w.heap.size w w') (hc : w.cell? p = some v) : w'.cell? p = some v := (hb.cell (World.block_lt_of_cell? w p hc)).trans hc

theorem bv {i : IntKind} {a b : Int} (h : a = b) : Ending.returned (.int i a) = .returned (.int i b) := by rw [h]
theorem bb {a b : Bool} (h : a = b) : Ending.returned (.bool a) = .returned (.bool b) := by rw [h]
theorem add_at (x : Addr) (j : Nat) : (x.add j).block = x.block := by unfold Addr.add; split <;> rfl
theorem add_zero (x : Addr) : x.add 0 = x := rfl

end Go.Proofs.Ytmliiggieclbeaa
