/- The document's said: a message under way. -/
import Derived.Test.YtmhcjkiaogimgaaDrF
import Derived.Test.YtmhcjkiaogimgaaRdK
namespace Go.Proofs.Ytmhcjkiaogimgaa
open Go.RowKit

/-- A message under way in block gm, what is left in block g1; the results' blocks ga, gb are zero yet. -/
structure SSt (w : World) (g1 gm ga gb : Nat) (A : Option Addr) (n c : Nat) (ok : Bool) (m : MsgD) (W : World) : Prop where
  bel : Below w.heap.size w W
  b1 : Blk W g1 #[.slice A n c, .bool ok] 99
  za : Blk W ga ((MsgD.new 0 0 0 0).cells NSL).toArray 34
  zb : Blk W gb #[.slice none 0 0, .bool false] 99
  ge1 : w.heap.size ≤ g1
  gem : w.heap.size ≤ gm
  gea : w.heap.size ≤ ga
  geb : w.heap.size ≤ gb
  nma : gm ≠ ga
  n1b : g1 ≠ gb
  ex : ∃ EA ec KA kc, Blk W gm (m.cells ⟨EA, ec, KA, kc⟩).toArray 34 ∧ W.ownsRow w.heap.size 47 7 (.slice EA m.entries.length ec) m.entries.length (m.entries.map EntryD.cells).flatten ∧
    W.ownsRow w.heap.size 43 2 (.slice KA m.keys.length kc) m.keys.length (m.keys.map KeyD.cells).flatten
section
variable {w W W' : World} {g1 gm ga gb : Nat} {A : Option Addr} {n c : Nat} {ok : Bool} {m : MsgD}
theorem SSt.next (h : SSt w g1 gm ga gb A n c ok m W) (b : Below W.heap.size W W') : SSt w g1 gm ga gb A n c ok m W' := by
  obtain ⟨EA, ec, KA, kc, bm, o1, o2⟩ := h.ex
  have hk : Kp (fun _ => False) W W' := Kp.of_below b
  exact ⟨bel_next h.bel b, h.b1.kp hk (fun h => h), h.za.kp hk (fun h => h), h.zb.kp hk (fun h => h), h.ge1, h.gem, h.gea, h.geb, h.nma, h.n1b, EA, ec, KA, kc, bm.kp hk (fun h => h), own_below o1 b, own_below o2 b⟩
theorem SSt.n1m (h : SSt w g1 gm ga gb A n c ok m W) : g1 ≠ gm := by
  obtain ⟨_, _, _, _, bm, _⟩ := h.ex
  rintro rfl
  exact absurd (blk_ty h.b1 bm) (by decide)
theorem SSt.n1a (h : SSt w g1 gm ga gb A n c ok m W) : g1 ≠ ga := by
  rintro rfl
  exact absurd (blk_ty h.b1 h.za) (by decide)
theorem SSt.nmb (h : SSt w g1 gm ga gb A n c ok m W) : gm ≠ gb := by
  obtain ⟨_, _, _, _, bm, _⟩ := h.ex
  rintro rfl
  exact absurd (blk_ty bm h.zb) (by decide)
theorem SSt.nab (h : SSt w g1 gm ga gb A n c ok m W) : ga ≠ gb := by
  rintro rfl
  exact absurd (blk_ty h.za h.zb) (by decide)
theorem own_set {W : World} {g : Nat} {cs : Array Value} {t e : TypeId} {base k size : Nat} {v : Value} {vs : List Value} (o : W.ownsRow base e size v k vs) (b : Blk W g cs t) (ht : t ≠ e) {W' : World} (hk : Kp (fun k => k = g) W W') : W'.ownsRow base e size v k vs :=
  own_kp o hk (fun i hi e => by
    obtain ⟨cs', hc⟩ := own_blk o i hi
    rw [e] at hc
    exact ht (blk_ty b hc))
theorem SSt.setIn (h : SSt w g1 gm ga gb A n c ok m W) (A' : Option Addr) (n' c' : Nat) (ok' : Bool) : SSt w g1 gm ga gb A' n' c' ok' m (W.setCells g1 0 [.slice A' n' c', .bool ok']) := by
  obtain ⟨EA, ec, KA, kc, bm, o1, o2⟩ := h.ex
  have hk : Kp (fun k => k = g1) W (W.setCells g1 0 [.slice A' n' c', .bool ok']) := Kp.setCells (S := fun k => k = g1) _ rfl _ _ _ (Kp.refl _ _)
  exact ⟨bel_sets h.bel h.ge1 _ _, h.b1.setCells [.slice A' n' c', .bool ok'] 0, h.za.kp hk (Ne.symm h.n1a), h.zb.kp hk (Ne.symm h.n1b), h.ge1, h.gem, h.gea, h.geb, h.nma, h.n1b, EA, ec, KA, kc, bm.kp hk (Ne.symm h.n1m), own_set o1 h.b1 (by decide) hk, own_set o2 h.b1 (by decide) hk⟩
theorem SSt.setM (h : SSt w g1 gm ga gb A n c ok m W) (o : Nat) (vs : List Value) (m' : MsgD) (hes : m'.entries = m.entries) (hks : m'.keys = m.keys) (hc : ∀ s, setMany (m.cells s).toArray o vs = (m'.cells s).toArray) : SSt w g1 gm ga gb A n c ok m' (W.setCells gm o vs) := by
  obtain ⟨EA, ec, KA, kc, bm, o1, o2⟩ := h.ex
  have hk : Kp (fun k => k = gm) W (W.setCells gm o vs) := Kp.setCells (S := fun k => k = gm) _ rfl _ _ _ (Kp.refl _ _)
  have hb := bm.setCells vs o
  rw [hc] at hb
  refine ⟨bel_sets h.bel h.gem _ _, h.b1.kp hk h.n1m, h.za.kp hk (Ne.symm h.nma), h.zb.kp hk (Ne.symm h.nmb), h.ge1, h.gem, h.gea, h.geb, h.nma, h.n1b, EA, ec, KA, kc, hb, ?_, ?_⟩
  · rw [hes]; exact own_set o1 bm (by decide) hk
  · rw [hks]; exact own_set o2 bm (by decide) hk
theorem cells_op (m : MsgD) (o : OpD) (s : Sls) : setMany (m.cells s).toArray 7 o.cells = (({ m with op := o } : MsgD).cells s).toArray := by
  simp [MsgD.cells, OpD.cells, setMany]
theorem SSt.setOp (h : SSt w g1 gm ga gb A n c ok m W) (o : OpD) : SSt w g1 gm ga gb A n c ok { m with op := o } (W.setCells gm 7 o.cells) := h.setM 7 o.cells _ rfl rfl (cells_op m o)
theorem SSt.fact (h : SSt w g1 gm ga gb A n c ok m W) (i : Nat) (hi : i < 16) : (∃ v, W.cell? ⟨gm, i, none⟩ = some v) ∧ W.frozen? ⟨gm, i, none⟩ = false := by
  obtain ⟨EA, ec, KA, kc, b, _⟩ := h.ex
  exact ⟨⟨_, (b.cell i).trans (Array.getElem?_eq_getElem (by exact hi))⟩, b.frozen i⟩
theorem SSt.there (h : SSt w g1 gm ga gb A n c ok m W) (o k : Nat) (hk : o + k ≤ 16) : W.there gm o k := fun j hj => by
  obtain ⟨EA, ec, KA, kc, b, _⟩ := h.ex
  refine ⟨?_, b.frozen _⟩
  rw [b.cell, Array.getElem?_eq_getElem (by show o + j < 16; omega)]
  rfl
theorem SSt.kind (h : SSt w g1 gm ga gb A n c ok m W) : W.cell? ⟨gm, 0, none⟩ = some (.int .i64 m.kind) := by
  obtain ⟨EA, ec, KA, kc, b, _⟩ := h.ex
  rw [b.cell]; rfl
/-- One entry more. -/
theorem SSt.pushE (h : SSt w g1 gm ga gb A n c ok m W) (x : EntryD) (hn : m.entries.length < 50) {EA : Option Addr} {ec : Nat} {KA : Option Addr} {kc : Nat}
    (b : Blk W gm (m.cells ⟨EA, ec, KA, kc⟩).toArray 34) (o1 : W.ownsRow w.heap.size 47 7 (.slice EA m.entries.length ec) m.entries.length (m.entries.map EntryD.cells).flatten)
    (o2 : W.ownsRow w.heap.size 43 2 (.slice KA m.keys.length kc) m.keys.length (m.keys.map KeyD.cells).flatten) :
    ∃ A2 c2 w', (Builtin.append_ #[24, 24] 24 #[.slice EA m.entries.length ec, .slice (some ⟨W.heap.size, 0, none⟩) 1 1]).run Try.prog (W.alloc (.cells x.cells.toArray 47)) = .ok (.slice A2 (m.entries.length + 1) c2) w' ∧
      (∃ v, w'.cell? ⟨gm, 14, none⟩ = some v) ∧ w'.frozen? ⟨gm, 14, none⟩ = false ∧
      ∀ V, V = w'.setCell ⟨gm, 14, none⟩ (.slice A2 (m.entries.length + 1) c2) → SSt w g1 gm ga gb A n c ok { m with entries := m.entries ++ [x] } V := by
  have hV : Below W.heap.size W (W.alloc (.cells x.cells.toArray 47)) := bel_al (Below.refl _ _) _
  have hM := h.next hV
  have bV := b.kp (S := fun _ => False) (Kp.of_below hV) (fun h => h)
  have p1 := own_below o1 hV
  have p2 := own_below o2 hV
  have hw0 : w.heap.size ≤ (W.alloc (.cells x.cells.toArray 47)).heap.size := Nat.le_trans h.bel.size hV.size
  obtain ⟨v2, w', hr, ho, hg, hat⟩ := append_run2 (base := w.heap.size) 24 Try.underlying24 einfo (by omega) p1 (news := x.cells) (a := ⟨W.heap.size, 0, none⟩) (m := 1) (c := 1) (by rfl) (fun j u hu => by
    rw [Addr.add_mid, Nat.zero_add, (Blk.new W _ _).cell, List.getElem?_toArray]; exact hu) (fun u hu => by
    simp [EntryD.cells] at hu
    rcases hu with rfl | rfl | rfl | rfl | rfl | rfl | rfl <;> rfl) (by omega) (by omega) hw0
  obtain ⟨A2, c2, rfl⟩ := own_form ho
  have hrow : ∀ k, (Value.slice EA m.entries.length ec).ownBlock = some k → w.heap.size ≤ k := own_ge p1
  have hk := Kp.of_grown hg
  have ne_ : ∀ {g : Nat} {cs : Array Value} {t : TypeId}, Blk (W.alloc (.cells x.cells.toArray 47)) g cs t → t ≠ 47 → ¬ (Value.slice EA m.entries.length ec).ownBlock = some g := fun hb ht e => by
    obtain ⟨cs, hc⟩ := own_blk p1 _ e
    exact ht (blk_ty hb hc)
  have bW := bV.kp hk (ne_ bV (by decide))
  have r1 := hM.b1.kp hk (ne_ hM.b1 (by decide))
  have ra := hM.za.kp hk (ne_ hM.za (by decide))
  have rb := hM.zb.kp hk (ne_ hM.zb (by decide))
  have oW := own_kp p2 hk (fun k hk' e => by
    obtain ⟨cs, hc⟩ := own_blk p2 k hk'
    obtain ⟨cs2, hc2⟩ := own_blk p1 k e
    exact absurd (blk_ty hc hc2) (by decide))
  have hB := below_kp hM.bel hk hw0 hrow
  refine ⟨A2, c2, w', hr, ⟨_, (bW.cell 14).trans rfl⟩, bW.frozen _, ?_⟩
  rintro V rfl
  have hS : Kp (fun k => k = gm) w' (w'.setCell ⟨gm, 14, none⟩ (.slice A2 (m.entries.length + 1) c2)) := Kp.setCell (S := fun k => k = gm) (Kp.refl _ _) (p := ⟨gm, 14, none⟩) rfl _
  refine ⟨below_kp hB hS hB.size (fun k hk => by have := h.gem; omega), r1.kp hS h.n1m, ra.kp hS (Ne.symm h.nma), rb.kp hS (Ne.symm h.nmb), h.ge1, h.gem, h.gea, h.geb, h.nma, h.n1b, A2, c2, KA, kc, ?_, ?_, own_set oW bW (by decide) hS⟩
  · have := bW.set 14 (.slice A2 (m.entries.length + 1) c2)
    rw [show m.entries.length + 1 = (m.entries ++ [x]).length by simp] at this
    have e : (m.cells ⟨EA, ec, KA, kc⟩).toArray.setIfInBounds 14 (.slice A2 (m.entries ++ [x]).length c2) = (({ m with entries := m.entries ++ [x] } : MsgD).cells ⟨A2, c2, KA, kc⟩).toArray := rfl
    rw [e] at this
    rw [show m.entries.length + 1 = (m.entries ++ [x]).length by simp]
    exact this
  · have := own_set ho bW (by decide) hS
    simp only [List.length_append, List.length_singleton, List.map_append, List.flatten_append, List.map_cons, List.map_nil, List.flatten_cons, List.flatten_nil, List.append_nil]
    exact this
/-- One key more. -/
theorem SSt.pushK (h : SSt w g1 gm ga gb A n c ok m W) (x : KeyD) (hn : m.keys.length < 50) {EA : Option Addr} {ec : Nat} {KA : Option Addr} {kc : Nat}
    (b : Blk W gm (m.cells ⟨EA, ec, KA, kc⟩).toArray 34) (o1 : W.ownsRow w.heap.size 47 7 (.slice EA m.entries.length ec) m.entries.length (m.entries.map EntryD.cells).flatten)
    (o2 : W.ownsRow w.heap.size 43 2 (.slice KA m.keys.length kc) m.keys.length (m.keys.map KeyD.cells).flatten) :
    ∃ A2 c2 w', (Builtin.append_ #[25, 25] 25 #[.slice KA m.keys.length kc, .slice (some ⟨W.heap.size, 0, none⟩) 1 1]).run Try.prog (W.alloc (.cells x.cells.toArray 43)) = .ok (.slice A2 (m.keys.length + 1) c2) w' ∧
      (∃ v, w'.cell? ⟨gm, 15, none⟩ = some v) ∧ w'.frozen? ⟨gm, 15, none⟩ = false ∧
      ∀ V, V = w'.setCell ⟨gm, 15, none⟩ (.slice A2 (m.keys.length + 1) c2) → SSt w g1 gm ga gb A n c ok { m with keys := m.keys ++ [x] } V := by
  have hV : Below W.heap.size W (W.alloc (.cells x.cells.toArray 43)) := bel_al (Below.refl _ _) _
  have hM := h.next hV
  have bV := b.kp (S := fun _ => False) (Kp.of_below hV) (fun h => h)
  have p1 := own_below o1 hV
  have p2 := own_below o2 hV
  have hw0 : w.heap.size ≤ (W.alloc (.cells x.cells.toArray 43)).heap.size := Nat.le_trans h.bel.size hV.size
  obtain ⟨v2, w', hr, ho, hg, hat⟩ := append_run2 (base := w.heap.size) 25 Try.underlying25 kinfo (by omega) p2 (news := x.cells) (a := ⟨W.heap.size, 0, none⟩) (m := 1) (c := 1) (by rfl) (fun j u hu => by
    rw [Addr.add_mid, Nat.zero_add, (Blk.new W _ _).cell, List.getElem?_toArray]; exact hu) (fun u hu => by
    simp [KeyD.cells] at hu
    rcases hu with rfl | rfl <;> rfl) (by omega) (by omega) hw0
  obtain ⟨A2, c2, rfl⟩ := own_form ho
  have hrow : ∀ k, (Value.slice KA m.keys.length kc).ownBlock = some k → w.heap.size ≤ k := own_ge p2
  have hk := Kp.of_grown hg
  have ne_ : ∀ {g : Nat} {cs : Array Value} {t : TypeId}, Blk (W.alloc (.cells x.cells.toArray 43)) g cs t → t ≠ 43 → ¬ (Value.slice KA m.keys.length kc).ownBlock = some g := fun hb ht e => by
    obtain ⟨cs, hc⟩ := own_blk p2 _ e
    exact ht (blk_ty hb hc)
  have bW := bV.kp hk (ne_ bV (by decide))
  have r1 := hM.b1.kp hk (ne_ hM.b1 (by decide))
  have ra := hM.za.kp hk (ne_ hM.za (by decide))
  have rb := hM.zb.kp hk (ne_ hM.zb (by decide))
  have oW := own_kp p1 hk (fun k hk' e => by
    obtain ⟨cs, hc⟩ := own_blk p1 k hk'
    obtain ⟨cs2, hc2⟩ := own_blk p2 k e
    exact absurd (blk_ty hc hc2) (by decide))
  have hB := below_kp hM.bel hk hw0 hrow
  refine ⟨A2, c2, w', hr, ⟨_, (bW.cell 15).trans rfl⟩, bW.frozen _, ?_⟩
  rintro V rfl
  have hS : Kp (fun k => k = gm) w' (w'.setCell ⟨gm, 15, none⟩ (.slice A2 (m.keys.length + 1) c2)) := Kp.setCell (S := fun k => k = gm) (Kp.refl _ _) (p := ⟨gm, 15, none⟩) rfl _
  refine ⟨below_kp hB hS hB.size (fun k hk => by have := h.gem; omega), r1.kp hS h.n1m, ra.kp hS (Ne.symm h.nma), rb.kp hS (Ne.symm h.nmb), h.ge1, h.gem, h.gea, h.geb, h.nma, h.n1b, EA, ec, A2, c2, ?_, own_set oW bW (by decide) hS, ?_⟩
  · have := bW.set 15 (.slice A2 (m.keys.length + 1) c2)
    rw [show m.keys.length + 1 = (m.keys ++ [x]).length by simp] at this
    have e : (m.cells ⟨EA, ec, KA, kc⟩).toArray.setIfInBounds 15 (.slice A2 (m.keys ++ [x]).length c2) = (({ m with keys := m.keys ++ [x] } : MsgD).cells ⟨EA, ec, A2, c2⟩).toArray := rfl
    rw [e] at this
    rw [show m.keys.length + 1 = (m.keys ++ [x]).length by simp]
    exact this
  · have := own_set ho bW (by decide) hS
    simp only [List.length_append, List.length_singleton, List.map_append, List.flatten_append, List.map_cons, List.map_nil, List.flatten_cons, List.flatten_nil, List.append_nil]
    exact this
end
/-- Many, read one by one. -/
theorem dcnt_rel {α : Type} {p : Prs α} {st st1 : Option (List Int)} {v : Int} (h : Read dnum st v st1) : ∀ (r : List α) (st' : Option (List Int)), Read (gmany p (min v.toNat 49)) st1 r st' → Read (gcnt dnum dcnt p) st r st' := fun r st' hr =>
  h.bind (f := fun n => match dcnt n with | some k => gmany p k | none => pfail) hr
def dmsgK (a b c d e f g h : Int) : Prs MD :=
  if a = 1 then pbind (gop dnum dtxt) fun o => pret ⟨a, b, c, d, e, f, g, h, o, [], []⟩
  else if a = 2 then pbind (gcnt dnum dcnt (gentry dnum dtxt)) fun l => pret ⟨a, b, c, d, e, f, g, h, OpD.zero, l, []⟩
  else if a = 3 then pbind (gcnt dnum dcnt (gkey dnum dtxt)) fun l => pret ⟨a, b, c, d, e, f, g, h, OpD.zero, [], l⟩
  else pret ⟨a, b, c, d, e, f, g, h, OpD.zero, [], []⟩

/-- A value and what is left behind it, in two new boxes. -/
structure Box2 (T : TypeId) (W : World) (cs0 : Array Value) (cs : List Value) (A : Option Addr) (n c : Nat) (ok : Bool) (X Y Z : World) : Prop where
  th : X.there W.heap.size 0 cs.length
  c0 : Y.cell? ⟨W.heap.size + 1, 0, none⟩ = some (.slice none 0 0)
  c1 : Y.cell? ⟨W.heap.size + 1, 1, none⟩ = some (.bool false)
  f0 : Y.frozen? ⟨W.heap.size + 1, 0, none⟩ = false
  f1 : Y.frozen? ⟨W.heap.size + 1, 1, none⟩ = false
  bel : Below W.heap.size W Z
  b : Blk Z W.heap.size cs.toArray T
  b' : Blk Z (W.heap.size + 1) #[.slice A n c, .bool ok] 99
theorem Box2.mk' (T : TypeId) (W : World) (cs0 : Array Value) (cs : List Value) (h : cs0.size = cs.length) (A : Option Addr) (n c : Nat) (ok : Bool) :
    Box2 T W cs0 cs A n c ok ((W.alloc (.cells cs0 T)).alloc (.cells #[.slice none 0 0, .bool false] 99)) (((W.alloc (.cells cs0 T)).alloc (.cells #[.slice none 0 0, .bool false] 99)).setCells W.heap.size 0 cs)
      ((((W.alloc (.cells cs0 T)).alloc (.cells #[.slice none 0 0, .bool false] 99)).setCells W.heap.size 0 cs).setCells (W.heap.size + 1) 0 [.slice A n c, .bool ok]) := by
  have k1 := (Blk.new W cs0 T).alloc (.cells #[.slice none 0 0, .bool false] 99)
  have k2 := Blk.new (W.alloc (.cells cs0 T)) #[.slice none 0 0, .bool false] 99
  rw [show (W.alloc (.cells cs0 T)).heap.size = W.heap.size + 1 by simp] at k2
  have hB := bel_al (bel_al (Below.refl W.heap.size W) (.cells cs0 T)) (.cells #[.slice none 0 0, .bool false] 99)
  generalize (W.alloc (.cells cs0 T)).alloc (.cells #[.slice none 0 0, .bool false] 99) = X at *
  have j1 := k1.setCells cs 0
  rw [setMany_whole _ _ h.symm] at j1
  have hk1 : Kp (fun k => k = W.heap.size) X (X.setCells W.heap.size 0 cs) := Kp.setCells (S := fun k => k = W.heap.size) _ rfl _ _ _ (Kp.refl _ _)
  have j2 := k2.kp hk1 (by show ¬ W.heap.size + 1 = W.heap.size; omega)
  have hk2 : Kp (fun k => k = W.heap.size + 1) (X.setCells W.heap.size 0 cs) ((X.setCells W.heap.size 0 cs).setCells (W.heap.size + 1) 0 [.slice A n c, .bool ok]) := Kp.setCells (S := fun k => k = W.heap.size + 1) _ rfl _ _ _ (Kp.refl _ _)
  exact ⟨fun j hj => by
    rw [Nat.zero_add]
    refine ⟨?_, k1.frozen _⟩
    rw [k1.cell, Array.getElem?_eq_getElem (by omega)]
    rfl, by rw [j2.cell]; rfl, by rw [j2.cell]; rfl, j2.frozen _, j2.frozen _, bel_sets (bel_sets hB (Nat.le_refl _) _ _) (by omega) _ _, j1.kp hk2 (by show ¬ W.heap.size = W.heap.size + 1; omega), j2.setCells [.slice A n c, .bool ok] 0⟩
theorem wpList_store_opc {ops : Array Oper} {rest : List Oper} {op : Oper} {a : Act} {w : World} {Q : Exit → Act → World → Prop} (hgd : op.guard = none) (x y : Operand) (ho : op.op = .store 23 x y) (b o : Nat) (m : OpD)
    (hx : a.eval x = .pointer (some ⟨b, o, none⟩)) (hy : a.eval y = .agg m.cells.toArray) (ht : w.there b o 7) (h : wpList Try.prog ops Q rest (a.put op.dst undef) (w.setCells b o m.cells)) : wpList Try.prog ops Q (op :: rest) a w :=
  wpList_store_mid hgd _ x y ho b o m.cells.toArray hx hy ht size_op (by simp [OpD.cells, Value.oneCell']) h
theorem wpList_store_ec {ops : Array Oper} {rest : List Oper} {op : Oper} {a : Act} {w : World} {Q : Exit → Act → World → Prop} (hgd : op.guard = none) (x y : Operand) (ho : op.op = .store 47 x y) (b o : Nat) (m : EntryD)
    (hx : a.eval x = .pointer (some ⟨b, o, none⟩)) (hy : a.eval y = .agg m.cells.toArray) (ht : w.there b o 7) (h : wpList Try.prog ops Q rest (a.put op.dst undef) (w.setCells b o m.cells)) : wpList Try.prog ops Q (op :: rest) a w :=
  wpList_store_mid hgd _ x y ho b o m.cells.toArray hx hy ht size_entry (by simp [EntryD.cells, Value.oneCell']) h
theorem wpList_load_ec {ops : Array Oper} {rest : List Oper} {op : Oper} {a : Act} {w : World} {Q : Exit → Act → World → Prop} (hgd : op.guard = none) (x : Operand) (ho : op.op = .load 47 x) (b o : Nat) (m : EntryD)
    (hx : a.eval x = .pointer (some ⟨b, o, none⟩)) (hb : w.rangeAt b o m.cells) (h : wpList Try.prog ops Q rest (a.put op.dst (.agg m.cells.toArray)) w) : wpList Try.prog ops Q (op :: rest) a w :=
  wpList_load_mid hgd _ x ho b o hx m.cells _ hb Try.underlying47 rfl size_entry h
theorem wpList_store_kc {ops : Array Oper} {rest : List Oper} {op : Oper} {a : Act} {w : World} {Q : Exit → Act → World → Prop} (hgd : op.guard = none) (x y : Operand) (ho : op.op = .store 43 x y) (b o : Nat) (m : KeyD)
    (hx : a.eval x = .pointer (some ⟨b, o, none⟩)) (hy : a.eval y = .agg m.cells.toArray) (ht : w.there b o 2) (h : wpList Try.prog ops Q rest (a.put op.dst undef) (w.setCells b o m.cells)) : wpList Try.prog ops Q (op :: rest) a w :=
  wpList_store_mid hgd _ x y ho b o m.cells.toArray hx hy ht size_key (by simp [KeyD.cells, Value.oneCell']) h
theorem wpList_load_kc {ops : Array Oper} {rest : List Oper} {op : Oper} {a : Act} {w : World} {Q : Exit → Act → World → Prop} (hgd : op.guard = none) (x : Operand) (ho : op.op = .load 43 x) (b o : Nat) (m : KeyD)
    (hx : a.eval x = .pointer (some ⟨b, o, none⟩)) (hb : w.rangeAt b o m.cells) (h : wpList Try.prog ops Q rest (a.put op.dst (.agg m.cells.toArray)) w) : wpList Try.prog ops Q (op :: rest) a w :=
  wpList_load_mid hgd _ x ho b o hx m.cells _ hb Try.underlying43 rfl size_key h
theorem box3 (T : TypeId) (W : World) (cs : Array Value) (A : Option Addr) (n c : Nat) (ok : Bool) : Below W.heap.size W ((W.alloc (.cells cs T)).alloc (.cells #[.slice A n c, .bool ok] 99)) ∧
    Blk ((W.alloc (.cells cs T)).alloc (.cells #[.slice A n c, .bool ok] 99)) W.heap.size cs T ∧ Blk ((W.alloc (.cells cs T)).alloc (.cells #[.slice A n c, .bool ok] 99)) (W.heap.size + 1) #[.slice A n c, .bool ok] 99 := by
  have k2 := Blk.new (W.alloc (.cells cs T)) #[.slice A n c, .bool ok] 99
  rw [show (W.alloc (.cells cs T)).heap.size = W.heap.size + 1 by simp] at k2
  exact ⟨bel_al (bel_al (Below.refl _ _) _) _, (Blk.new W cs T).alloc _, k2⟩
theorem wpList_load_el {ops : Array Oper} {rest : List Oper} {op : Oper} {a : Act} {w : World} {Q : Exit → Act → World → Prop} (hgd : op.guard = none) (x : Operand) (ho : op.op = .load 47 x) (b o : Nat) (cs : List Value)
    (hx : a.eval x = .pointer (some ⟨b, o, none⟩)) (hl : cs.length = 7) (hb : w.rangeAt b o cs) (h : wpList Try.prog ops Q rest (a.put op.dst (.agg cs.toArray)) w) : wpList Try.prog ops Q (op :: rest) a w :=
  wpList_load_mid hgd _ x ho b o hx cs _ hb Try.underlying47 rfl (by rw [hl]; exact size_entry) h
theorem wpList_load_kl {ops : Array Oper} {rest : List Oper} {op : Oper} {a : Act} {w : World} {Q : Exit → Act → World → Prop} (hgd : op.guard = none) (x : Operand) (ho : op.op = .load 43 x) (b o : Nat) (cs : List Value)
    (hx : a.eval x = .pointer (some ⟨b, o, none⟩)) (hl : cs.length = 2) (hb : w.rangeAt b o cs) (h : wpList Try.prog ops Q rest (a.put op.dst (.agg cs.toArray)) w) : wpList Try.prog ops Q (op :: rest) a w :=
  wpList_load_mid hgd _ x ho b o hx cs _ hb Try.underlying43 rfl (by rw [hl]; exact size_key) h
theorem if_wanted {o : Oper} {y : Nat → Option Bool} (hg : o.guard = none) {A B : Prop} (h : A) : if Region.wanted o y = true then A else B := by
  rw [if_pos (by unfold Region.wanted; rw [hg])]
  exact h
theorem range_blk {V : World} {g : Nat} {cs : List Value} {t : TypeId} (h : Blk V g cs.toArray t) : V.rangeAt g 0 cs := fun j v hj => by rw [h.cell, List.getElem?_toArray, Nat.zero_add]; exact hj

end Go.Proofs.Ytmhcjkiaogimgaa
