/- A message that is being read: the two closures of reader.message. -/
import Derived.Test.YtmhcjkiaogimgaaRdF
import Derived.Test.YtmhcjkiaogimgaaWirT
import Derived.Deep.RegionHeld3
namespace Go.Proofs.Ytmhcjkiaogimgaa
open Go.RowKit

/-- A message under way, in block gm; block gr holds the reader's address. -/
structure MSt (w0 : World) (q : Nat) (A : Option Addr) (c : Nat) (l : List Int) (gm gr : Nat) (m : MsgD) (st : Option (List Int)) (w : World) : Prop where
  rg : RG w0 q A c l st w
  gm0 : w0.heap.size ≤ gm
  gr0 : w0.heap.size ≤ gr
  ne : gm ≠ gr
  rb : Blk w gr #[.pointer (some ⟨q, 0, none⟩)] 95
  ex : ∃ EA ec KA kc, Blk w gm (m.cells ⟨EA, ec, KA, kc⟩).toArray 34 ∧ w.ownsRow w0.heap.size 47 7 (.slice EA m.entries.length ec) m.entries.length (m.entries.map EntryD.cells).flatten ∧
    w.ownsRow w0.heap.size 43 2 (.slice KA m.keys.length kc) m.keys.length (m.keys.map KeyD.cells).flatten
theorem MSt.next {w0 w w' : World} {q c gm gr : Nat} {A : Option Addr} {l : List Int} {m : MsgD} {st st' : Option (List Int)} (h : MSt w0 q A c l gm gr m st w) (hk : Kp (fun k => k = q) w w') (hr : RSt w' q A c l st') : MSt w0 q A c l gm gr m st' w' := by
  have hq := h.rg.lt
  have h1 := h.gm0
  have h2 := h.gr0
  obtain ⟨EA, ec, KA, kc, b, o1, o2⟩ := h.ex
  have g1 := own_ge o1
  have g2 := own_ge o2
  exact ⟨h.rg.next hk hr, h.gm0, h.gr0, h.ne, h.rb.kp hk (by omega), EA, ec, KA, kc, b.kp hk (by omega), own_kp o1 hk (fun k hk' e => by have := g1 k hk'; omega), own_kp o2 hk (fun k hk' e => by have := g2 k hk'; omega)⟩
theorem MSt.below {w0 w w' : World} {q c gm gr : Nat} {A : Option Addr} {l : List Int} {m : MsgD} {st : Option (List Int)} (h : MSt w0 q A c l gm gr m st w) (b : Below w.heap.size w w') : MSt w0 q A c l gm gr m st w' := h.next (Kp.of_below b) (h.rg.rst.below b)
theorem RG.grown {w0 w w' : World} {q c : Nat} {A : Option Addr} {l : List Int} {st : Option (List Int)} {row : Option Nat} (h : RG w0 q A c l st w) (hg : w.grownBy w' row) (hr : ∀ k, row = some k → w0.heap.size ≤ k) : RG w0 q A c l st w' := by
  have hk : Kp (fun k => k = q) w0 w' := ⟨hg.os.trans h.kp.os, hg.tape.trans h.kp.tape, hg.output.trans h.kp.output, Nat.le_trans h.kp.size hg.size, fun i hi hs =>
    (hg.block i (Nat.lt_of_lt_of_le hi h.kp.size) (fun e => by have := hr i e.symm; omega)).trans (h.kp.block i hi hs)⟩
  obtain ⟨k, bad, b, hl, he⟩ := h.rst.blk
  refine ⟨hk, ⟨h.rd0.kp hk (fun x hx => h.rst.ne x hx), h.rst.ne, h.rst.isb, h.rst.len, h.rst.cap, h.rst.lim, k, bad, b.kp (Kp.of_grown hg) (fun e => ?_), hl, he⟩, h.rd0, h.lt⟩
  have := hr _ e
  have := h.lt
  omega
theorem op_append_run {P : Program} {o : Oper} {a : Act} {w w' : World} {K : Act → World → Prop} {Q : Exit → Act → World → Prop} (s x : Operand) (t t' : TypeId)
    (ho : o.op = .call { callee := .builtin .append, args := #[s, x], argTypes := #[t, t'] }) (vs vx v : Value) (hs : a.eval s = vs) (hx : a.eval x = vx) (hr : (Builtin.append_ #[t, t'] o.type #[vs, vx]).run P w = .ok v w')
    (h : K (a.put o.dst v) w') : Oper.wp P o a w K Q := by
  unfold Oper.wp execOp
  simp only [ho, resolve, invoke, builtin, Sem.run_bind, Sem.run_pure, Result.andThen_ok, List.map_toArray, List.map_cons, List.map_nil, hs, hx, hr]
  exact h
/-- One more. -/
theorem MSt.pushEntry {w0 w : World} {q c gm gr : Nat} {A : Option Addr} {l : List Int} {m : MsgD} {st : Option (List Int)} (h : MSt w0 q A c l gm gr m st w) (x : EntryD) (hn : m.entries.length < 48) {EA : Option Addr} {ec : Nat} {KA : Option Addr} {kc : Nat}
    (b : Blk w gm (m.cells ⟨EA, ec, KA, kc⟩).toArray 34) (o1 : w.ownsRow w0.heap.size 47 7 (.slice EA m.entries.length ec) m.entries.length (m.entries.map EntryD.cells).flatten)
    (o2 : w.ownsRow w0.heap.size 43 2 (.slice KA m.keys.length kc) m.keys.length (m.keys.map KeyD.cells).flatten) :
    ∃ A2 c2 w', (Builtin.append_ #[24, 24] 24 #[.slice EA m.entries.length ec, .slice (some ⟨w.heap.size, 0, none⟩) 1 1]).run Try.prog (w.alloc (.cells x.cells.toArray 47)) = .ok (.slice A2 (m.entries.length + 1) c2) w' ∧
      w'.cell? ⟨gr, 0, none⟩ = some (.pointer (some ⟨q, 0, none⟩)) ∧ (∃ v, w'.cell? ⟨gm, 14, none⟩ = some v) ∧ w'.frozen? ⟨gm, 14, none⟩ = false ∧
      ∀ W, W = w'.setCell ⟨gm, 14, none⟩ (.slice A2 (m.entries.length + 1) c2) → MSt w0 q A c l gm gr { m with entries := m.entries ++ [x] } st W ∧ W.cell? ⟨gr, 0, none⟩ = some (.pointer (some ⟨q, 0, none⟩)) ∧ ∀ g cs, g ≠ gm → Blk w g cs 34 → Blk W g cs 34 := by
  have hV : Below w.heap.size w (w.alloc (.cells x.cells.toArray 47)) := bel_al (Below.refl _ _) _
  have hM := h.below hV
  have bV := b.kp (S := fun _ => False) (Kp.of_below hV) (fun h => h)
  have p1 := own_below o1 hV
  have p2 := own_below o2 hV
  have hw0 : w0.heap.size ≤ (w.alloc (.cells x.cells.toArray 47)).heap.size := Nat.le_trans h.rg.kp.size hV.size
  obtain ⟨v2, w', hr, ho, hg, hat⟩ := append_run2 (base := w0.heap.size) 24 Try.underlying24 einfo (by omega) p1 (news := x.cells) (a := ⟨w.heap.size, 0, none⟩) (m := 1) (c := 1) (by rfl) (fun j u hu => by
    rw [Addr.add_mid, Nat.zero_add, (Blk.new w _ _).cell, List.getElem?_toArray]; exact hu) (fun u hu => by
    simp [EntryD.cells] at hu
    rcases hu with rfl | rfl | rfl | rfl | rfl | rfl | rfl <;> rfl) (by omega) (by omega) hw0
  obtain ⟨A2, c2, rfl⟩ := own_form ho
  have hrow : ∀ k, (Value.slice EA m.entries.length ec).ownBlock = some k → w0.heap.size ≤ k := own_ge p1
  have hG := hM.rg.grown hg hrow
  have hk := Kp.of_grown hg
  have hgm : ¬ (Value.slice EA m.entries.length ec).ownBlock = some gm := fun e => by
    obtain ⟨cs, hc⟩ := own_blk p1 gm e
    exact absurd (blk_ty bV hc) (by decide)
  have hgr : ¬ (Value.slice EA m.entries.length ec).ownBlock = some gr := fun e => by
    obtain ⟨cs, hc⟩ := own_blk p1 gr e
    exact absurd (blk_ty hM.rb hc) (by decide)
  have bW := bV.kp hk hgm
  have rW := hM.rb.kp hk hgr
  have oW := own_kp p2 hk (fun k hk' e => by
    obtain ⟨cs, hc⟩ := own_blk p2 k hk'
    obtain ⟨cs2, hc2⟩ := own_blk p1 k e
    exact absurd (blk_ty hc hc2) (by decide))
  have hne := h.ne
  have hq := h.rg.lt
  have h1 := h.gm0
  have h2 := h.gr0
  refine ⟨A2, c2, w', hr, by rw [rW.cell]; rfl, ⟨_, (bW.cell 14).trans rfl⟩, bW.frozen _, ?_⟩
  rintro W rfl
  have hS : Kp (fun k => k = gm) w' (w'.setCell ⟨gm, 14, none⟩ (.slice A2 (m.entries.length + 1) c2)) := Kp.setCell (S := fun k => k = gm) (Kp.refl _ _) (p := ⟨gm, 14, none⟩) rfl _
  have rW2 := rW.kp hS (fun e => hne e.symm)
  refine ⟨⟨hG.set h1 14 _, h1, h2, hne, rW2, A2, c2, KA, kc, ?_, ?_, ?_⟩, by rw [rW2.cell]; rfl, fun g cs hgn hbg => ((hbg.kp (S := fun _ => False) (Kp.of_below hV) (fun h => h)).kp hk (fun e => ?_)).kp hS hgn⟩
  · have := bW.set 14 (.slice A2 (m.entries.length + 1) c2)
    rw [show m.entries.length + 1 = (m.entries ++ [x]).length by simp] at this
    have e : (m.cells ⟨EA, ec, KA, kc⟩).toArray.setIfInBounds 14 (.slice A2 (m.entries ++ [x]).length c2) = (({ m with entries := m.entries ++ [x] } : MsgD).cells ⟨A2, c2, KA, kc⟩).toArray := rfl
    rw [e] at this
    rw [show m.entries.length + 1 = (m.entries ++ [x]).length by simp]
    exact this
  · have := own_kp ho hS (fun k hk' e => by
      obtain ⟨cs, hc⟩ := own_blk ho k hk'
      rw [e] at hc
      exact absurd (blk_ty bW hc) (by decide))
    simp only [List.length_append, List.length_singleton, List.map_append, List.flatten_append, List.map_cons, List.map_nil, List.flatten_cons, List.flatten_nil, List.append_nil]
    exact this
  · exact own_kp oW hS (fun k hk' e => by
      obtain ⟨cs, hc⟩ := own_blk oW k hk'
      rw [e] at hc
      exact absurd (blk_ty bW hc) (by decide))
  · obtain ⟨cs2, hc2⟩ := own_blk p1 g e
    exact absurd (blk_ty (hbg.kp (S := fun _ => False) (Kp.of_below hV) (fun h => h)) hc2) (by decide)
/-- One more. -/
theorem MSt.pushKey {w0 w : World} {q c gm gr : Nat} {A : Option Addr} {l : List Int} {m : MsgD} {st : Option (List Int)} (h : MSt w0 q A c l gm gr m st w) (x : KeyD) (hn : m.keys.length < 48) {EA : Option Addr} {ec : Nat} {KA : Option Addr} {kc : Nat}
    (b : Blk w gm (m.cells ⟨EA, ec, KA, kc⟩).toArray 34) (o1 : w.ownsRow w0.heap.size 47 7 (.slice EA m.entries.length ec) m.entries.length (m.entries.map EntryD.cells).flatten)
    (o2 : w.ownsRow w0.heap.size 43 2 (.slice KA m.keys.length kc) m.keys.length (m.keys.map KeyD.cells).flatten) :
    ∃ A2 c2 w', (Builtin.append_ #[25, 25] 25 #[.slice KA m.keys.length kc, .slice (some ⟨w.heap.size, 0, none⟩) 1 1]).run Try.prog (w.alloc (.cells x.cells.toArray 43)) = .ok (.slice A2 (m.keys.length + 1) c2) w' ∧
      w'.cell? ⟨gr, 0, none⟩ = some (.pointer (some ⟨q, 0, none⟩)) ∧ (∃ v, w'.cell? ⟨gm, 15, none⟩ = some v) ∧ w'.frozen? ⟨gm, 15, none⟩ = false ∧
      ∀ W, W = w'.setCell ⟨gm, 15, none⟩ (.slice A2 (m.keys.length + 1) c2) → MSt w0 q A c l gm gr { m with keys := m.keys ++ [x] } st W ∧ W.cell? ⟨gr, 0, none⟩ = some (.pointer (some ⟨q, 0, none⟩)) ∧ ∀ g cs, g ≠ gm → Blk w g cs 34 → Blk W g cs 34 := by
  have hV : Below w.heap.size w (w.alloc (.cells x.cells.toArray 43)) := bel_al (Below.refl _ _) _
  have hM := h.below hV
  have bV := b.kp (S := fun _ => False) (Kp.of_below hV) (fun h => h)
  have p1 := own_below o1 hV
  have p2 := own_below o2 hV
  have hw0 : w0.heap.size ≤ (w.alloc (.cells x.cells.toArray 43)).heap.size := Nat.le_trans h.rg.kp.size hV.size
  obtain ⟨v2, w', hr, ho, hg, hat⟩ := append_run2 (base := w0.heap.size) 25 Try.underlying25 kinfo (by omega) p2 (news := x.cells) (a := ⟨w.heap.size, 0, none⟩) (m := 1) (c := 1) (by rfl) (fun j u hu => by
    rw [Addr.add_mid, Nat.zero_add, (Blk.new w _ _).cell, List.getElem?_toArray]; exact hu) (fun u hu => by
    simp [KeyD.cells] at hu
    rcases hu with rfl | rfl <;> rfl) (by omega) (by omega) hw0
  obtain ⟨A2, c2, rfl⟩ := own_form ho
  have hrow : ∀ k, (Value.slice KA m.keys.length kc).ownBlock = some k → w0.heap.size ≤ k := own_ge p2
  have hG := hM.rg.grown hg hrow
  have hk := Kp.of_grown hg
  have hgm : ¬ (Value.slice KA m.keys.length kc).ownBlock = some gm := fun e => by
    obtain ⟨cs, hc⟩ := own_blk p2 gm e
    exact absurd (blk_ty bV hc) (by decide)
  have hgr : ¬ (Value.slice KA m.keys.length kc).ownBlock = some gr := fun e => by
    obtain ⟨cs, hc⟩ := own_blk p2 gr e
    exact absurd (blk_ty hM.rb hc) (by decide)
  have bW := bV.kp hk hgm
  have rW := hM.rb.kp hk hgr
  have oW := own_kp p1 hk (fun k hk' e => by
    obtain ⟨cs, hc⟩ := own_blk p1 k hk'
    obtain ⟨cs2, hc2⟩ := own_blk p2 k e
    exact absurd (blk_ty hc hc2) (by decide))
  have hne := h.ne
  have hq := h.rg.lt
  have h1 := h.gm0
  have h2 := h.gr0
  refine ⟨A2, c2, w', hr, by rw [rW.cell]; rfl, ⟨_, (bW.cell 15).trans rfl⟩, bW.frozen _, ?_⟩
  rintro W rfl
  have hS : Kp (fun k => k = gm) w' (w'.setCell ⟨gm, 15, none⟩ (.slice A2 (m.keys.length + 1) c2)) := Kp.setCell (S := fun k => k = gm) (Kp.refl _ _) (p := ⟨gm, 15, none⟩) rfl _
  have rW2 := rW.kp hS (fun e => hne e.symm)
  refine ⟨⟨hG.set h1 15 _, h1, h2, hne, rW2, EA, ec, A2, c2, ?_, ?_, ?_⟩, by rw [rW2.cell]; rfl, fun g cs hgn hbg => ((hbg.kp (S := fun _ => False) (Kp.of_below hV) (fun h => h)).kp hk (fun e => ?_)).kp hS hgn⟩
  · have := bW.set 15 (.slice A2 (m.keys.length + 1) c2)
    rw [show m.keys.length + 1 = (m.keys ++ [x]).length by simp] at this
    have e : (m.cells ⟨EA, ec, KA, kc⟩).toArray.setIfInBounds 15 (.slice A2 (m.keys ++ [x]).length c2) = (({ m with keys := m.keys ++ [x] } : MsgD).cells ⟨EA, ec, A2, c2⟩).toArray := rfl
    rw [e] at this
    rw [show m.keys.length + 1 = (m.keys ++ [x]).length by simp]
    exact this
  · exact own_kp oW hS (fun k hk' e => by
      obtain ⟨cs, hc⟩ := own_blk oW k hk'
      rw [e] at hc
      exact absurd (blk_ty bW hc) (by decide))
  · have := own_kp ho hS (fun k hk' e => by
      obtain ⟨cs, hc⟩ := own_blk ho k hk'
      rw [e] at hc
      exact absurd (blk_ty bW hc) (by decide))
    simp only [List.length_append, List.length_singleton, List.map_append, List.flatten_append, List.map_cons, List.map_nil, List.flatten_cons, List.flatten_nil, List.append_nil]
    exact this
  · obtain ⟨cs2, hc2⟩ := own_blk p2 g e
    exact absurd (blk_ty (hbg.kp (S := fun _ => False) (Kp.of_below hV) (fun h => h)) hc2) (by decide)

set_option maxRecDepth 100000 in
set_option maxHeartbeats 8000000 in
theorem readE_any (w0 : World) (q : Nat) (A : Option Addr) (c : Nat) (l : List Int) (gm gr : Nat) (m : MsgD) (st : Option (List Int)) (w : World) (h : MSt w0 q A c l gm gr m st w) (hn : m.entries.length < 48) :
    Calls Try.prog 79 #[.pointer (some ⟨gm, 0, none⟩), .pointer (some ⟨gr, 0, none⟩)] w fun e w' => e = .returned (.tuple #[]) ∧ ∃ x st', Read (gentry pnum ptxt) st x st' ∧ MSt w0 q A c l gm gr { m with entries := m.entries ++ [x] } st' w' ∧ ∀ g cs, g ≠ gm → Blk w g cs 34 → Blk w' g cs 34 := by
  have hM : MSt w0 q A c l gm gr m st w.drew := h.below ((Drawn.refl w).drew.below _)
  obtain ⟨EA, ec, KA, kc, b, o1, o2⟩ := hM.ex
  have s0 : w.drew.cell? ⟨gr, 0, none⟩ = some (.pointer (some ⟨q, 0, none⟩)) := by rw [hM.rb.cell]; rfl
  have d0 : w.drew.cell? ⟨gm, 14, none⟩ = some (.slice EA m.entries.length ec) := by rw [b.cell]; rfl
  have HM := Lib.hid hM
  have HB := Lib.hid b
  have HO1 := Lib.hid o1
  have HO2 := Lib.hid o2
  have HN := Lib.hid hn
  have hq := hM.rg.lt
  have h1 := hM.gm0
  have h2 := hM.gr0
  have g1 := Lib.hid (own_ge o1)
  have g2 := Lib.hid (own_ge o2)
  clear h hM b o1 o2 hn
  go_enter Try.func79, Try.ntmps79
  refine wp_region_held_drew (S := fun w' => w'.cell? ⟨gr, 0, none⟩ = some (.pointer (some ⟨q, 0, none⟩))) (by kernel_rfl) s0 (fun hHeld => ?_)
  refine' wpAnyH_take (i := 0) (oi := { dst := some 2, op := Op.fieldAddr 34 (Operand.tmp 0) 8, type := 0, pos := "wire.go:227", after := #[], guard := none }) (v := ?v1) rfl (by kernel_rfl) (by kernel_rfl) (by kernel_rfl) (fun _ _ _ h => h) (Or.inl ⟨by rfl, ?hy1⟩) (by assumption) ?rest1
  case hy1 => (intro w hSw; go_simp; (try with_reducible rfl))
  simp only [Act.put, List.setIfInBounds_toArray, List.set_cons_zero, List.set_cons_succ]
  refine' wpAnyH_take (i := 2) (oi := { dst := some 4, op := Op.load 95 (Operand.tmp 1), type := 95, pos := "wire.go:227", after := #[], guard := none }) (v := ?v2) rfl (by kernel_rfl) (by kernel_rfl) (by kernel_rfl) (fun _ _ _ h => h) (Or.inl ⟨by rfl, ?hy2⟩) (by assumption) ?rest2
  case hy2 => (intro w hSw; go_simp; (try with_reducible rfl))
  simp only [Act.put, List.setIfInBounds_toArray, List.set_cons_zero, List.set_cons_succ]
  refine wpAnyH_ready (rs := [1, 3]) (by kernel_rfl) (by simp) ?_
  refine (AllReadyH.cons (o := { dst := some 3, op := Op.load 24 (Operand.tmp 2), type := 24, pos := "wire.go:227", after := #[{ on := 0, ground := Ground.data }], guard := none }) rfl (fun K hK => ?_) (AllReadyH.cons (o := { dst := some 5, op := Op.call { callee := Callee.value (Operand.func 56), args := #[Operand.tmp 4], argTypes := #[95] }, type := 47, pos := "wire.go:227", after := #[{ on := 2, ground := Ground.data }], guard := none }) rfl (fun K hK => ?_) AllReadyH.nil))
  · skip
    go_simp
    refine hK.out _ _ s0 (fun hHeld => ?_)
    clear hK K
    try simp only [Act.put, List.setIfInBounds_toArray, List.set_cons_zero, List.set_cons_succ]
    refine wpAnyH_ready (rs := [3]) (by kernel_rfl) (by simp) ?_
    refine (AllReadyH.cons (o := { dst := some 5, op := Op.call { callee := Callee.value (Operand.func 56), args := #[Operand.tmp 4], argTypes := #[95] }, type := 47, pos := "wire.go:227", after := #[{ on := 2, ground := Ground.data }], guard := none }) rfl (fun K hK => ?_) AllReadyH.nil)
    go_simp
    refine (rentry1_any w.drew q A c l st HM.out.rg.rst).mono ?_
    rintro e w3 ⟨⟨⟨kd, kn⟩, ng, ⟨nid, nk, nm, nt⟩⟩, st3, he, _, hk, hr, hrd⟩
    have he : e = .returned (.agg #[.int .i64 kd, .string kn, .bool ng, .int .i64 nid, .int .i64 nk, .int .i64 nm, .string nt]) := he
    subst he
    have M3 := HM.out.next hk hr
    have HFR : Hid (∀ g cs, Blk w g cs 34 → Blk w3 g cs 34) := fun g cs hb => Blk.kp (w := w.drew) hb hk (fun e => by subst e; obtain ⟨_, _, qb, _⟩ := HM.out.rg.rst.blk; exact absurd (blk_ty (w := w.drew) hb qb) (by decide))
    have b3 := HB.out.kp hk (by omega)
    have q1 := own_kp HO1.out hk (fun k hk' e => by have := g1.out k hk'; omega)
    have q2 := own_kp HO2.out hk (fun k hk' e => by have := g2.out k hk'; omega)
    have s3 : w3.cell? ⟨gr, 0, none⟩ = some (.pointer (some ⟨q, 0, none⟩)) := by rw [M3.rb.cell]; rfl
    have d3 : w3.cell? ⟨gm, 14, none⟩ = some (.slice EA m.entries.length ec) := by rw [b3.cell]; rfl
    obtain ⟨A2, c2, w4, hr4, s5, ⟨v14, d5⟩, fz, HF⟩ := M3.pushEntry ⟨⟨kd, kn⟩, ng, ⟨nid, nk, nm, nt⟩⟩ HN.out b3 q1 q2
    simp only [EntryD.cells] at hr4
    have HF := Lib.hid HF
    have HRD := Lib.hid hrd
    have s4 : (w3.alloc (.cells #[.int .i64 kd, .string kn, .bool ng, .int .i64 nid, .int .i64 nk, .int .i64 nm, .string nt] 47)).cell? ⟨gr, 0, none⟩ = some (.pointer (some ⟨q, 0, none⟩)) := (cell_keep (bel_al (Below.refl _ _) _) s3)
    have d4 : (w3.alloc (.cells #[.int .i64 kd, .string kn, .bool ng, .int .i64 nid, .int .i64 nk, .int .i64 nm, .string nt] 47)).cell? ⟨gm, 14, none⟩ = some (.slice EA m.entries.length ec) := (cell_keep (bel_al (Below.refl _ _) _) d3)
    clear M3 b3 q1 q2 hk hr hrd
    go_wp2_with fail
    refine hK.out _ _ s3 (fun hHeld => ?_)
    clear hK K
    try simp only [Act.put, List.setIfInBounds_toArray, List.set_cons_zero, List.set_cons_succ]
    refine wpAnyH_ready (rs := [4]) (by kernel_rfl) (by simp) ?_
    refine (AllReadyH.cons (o := { dst := some 6, op := Op.buildSlice 24 1 #[(0, Operand.tmp 5)], type := 24, pos := "wire.go:227", after := #[{ on := 3, ground := Ground.data }], guard := none }) rfl (fun K hK => ?_) AllReadyH.nil)
    go_simp
    refine hK.out _ _ s4 (fun hHeld => ?_)
    clear hK K
    try simp only [Act.put, List.setIfInBounds_toArray, List.set_cons_zero, List.set_cons_succ]
    refine wpAnyH_ready (rs := [5]) (by kernel_rfl) (by simp) ?_
    refine (AllReadyH.cons (o := { dst := some 7, op := Op.call { callee := Callee.builtin Builtin.append, args := #[Operand.tmp 3, Operand.tmp 6], argTypes := #[24, 24] }, type := 24, pos := "wire.go:227", after := #[{ on := 1, ground := Ground.data }, { on := 4, ground := Ground.data }, { on := 3, ground := Ground.chain }], guard := none }) rfl (fun K hK => ?_) AllReadyH.nil)
    refine op_append_run (.tmp 3) (.tmp 6) _ _ rfl _ _ _ rfl rfl hr4 ?_
    refine hK.out _ _ s5 (fun hHeld => ?_)
    clear hK K
    try simp only [Act.put, List.setIfInBounds_toArray, List.set_cons_zero, List.set_cons_succ]
    refine' wpAnyH_take (i := 6) (oi := { dst := some 8, op := Op.fieldAddr 34 (Operand.tmp 0) 8, type := 0, pos := "wire.go:227", after := #[{ on := 0, ground := Ground.phase }, { on := 1, ground := Ground.phase }, { on := 2, ground := Ground.phase }, { on := 3, ground := Ground.phase }, { on := 4, ground := Ground.phase }, { on := 5, ground := Ground.phase }], guard := none }) (v := ?v3) rfl (by kernel_rfl) (by kernel_rfl) (by kernel_rfl) (fun _ _ _ h => h) (Or.inl ⟨by rfl, ?hy3⟩) (by assumption) ?rest3
    case hy3 => (intro w hSw; go_simp; (try with_reducible rfl))
    simp only [Act.put, List.setIfInBounds_toArray, List.set_cons_zero, List.set_cons_succ]
    refine wpAnyH_ready (rs := [7]) (by kernel_rfl) (by simp) ?_
    refine (AllReadyH.cons (o := _) rfl (fun K hK => ?_) AllReadyH.nil)
    go_simp
    obtain ⟨g1, g2, g3⟩ := HF.out _ rfl
    have HGX := Lib.hid g3
    have G1 := Lib.hid g1
    clear g1 g3 HF
    refine hK.out _ _ g2 (fun hHeld => ?_)
    clear hK K
    try simp only [Act.put, List.setIfInBounds_toArray, List.set_cons_zero, List.set_cons_succ]
    refine wpAnyH_done (by kernel_rfl) ?_ _
    go_wp2_with fail
    go_end0
    exact ⟨rfl, ⟨⟨kd, kn⟩, ng, ⟨nid, nk, nm, nt⟩⟩, st3, HRD.out, G1.out, fun g cs hg hb => HGX.out g cs hg (HFR.out g cs hb)⟩
  · skip
    go_simp
    refine (rentry1_any w.drew q A c l st HM.out.rg.rst).mono ?_
    rintro e w3 ⟨⟨⟨kd, kn⟩, ng, ⟨nid, nk, nm, nt⟩⟩, st3, he, _, hk, hr, hrd⟩
    have he : e = .returned (.agg #[.int .i64 kd, .string kn, .bool ng, .int .i64 nid, .int .i64 nk, .int .i64 nm, .string nt]) := he
    subst he
    have M3 := HM.out.next hk hr
    have HFR : Hid (∀ g cs, Blk w g cs 34 → Blk w3 g cs 34) := fun g cs hb => Blk.kp (w := w.drew) hb hk (fun e => by subst e; obtain ⟨_, _, qb, _⟩ := HM.out.rg.rst.blk; exact absurd (blk_ty (w := w.drew) hb qb) (by decide))
    have b3 := HB.out.kp hk (by omega)
    have q1 := own_kp HO1.out hk (fun k hk' e => by have := g1.out k hk'; omega)
    have q2 := own_kp HO2.out hk (fun k hk' e => by have := g2.out k hk'; omega)
    have s3 : w3.cell? ⟨gr, 0, none⟩ = some (.pointer (some ⟨q, 0, none⟩)) := by rw [M3.rb.cell]; rfl
    have d3 : w3.cell? ⟨gm, 14, none⟩ = some (.slice EA m.entries.length ec) := by rw [b3.cell]; rfl
    obtain ⟨A2, c2, w4, hr4, s5, ⟨v14, d5⟩, fz, HF⟩ := M3.pushEntry ⟨⟨kd, kn⟩, ng, ⟨nid, nk, nm, nt⟩⟩ HN.out b3 q1 q2
    simp only [EntryD.cells] at hr4
    have HF := Lib.hid HF
    have HRD := Lib.hid hrd
    have s4 : (w3.alloc (.cells #[.int .i64 kd, .string kn, .bool ng, .int .i64 nid, .int .i64 nk, .int .i64 nm, .string nt] 47)).cell? ⟨gr, 0, none⟩ = some (.pointer (some ⟨q, 0, none⟩)) := (cell_keep (bel_al (Below.refl _ _) _) s3)
    have d4 : (w3.alloc (.cells #[.int .i64 kd, .string kn, .bool ng, .int .i64 nid, .int .i64 nk, .int .i64 nm, .string nt] 47)).cell? ⟨gm, 14, none⟩ = some (.slice EA m.entries.length ec) := (cell_keep (bel_al (Below.refl _ _) _) d3)
    clear M3 b3 q1 q2 hk hr hrd
    go_wp2_with fail
    refine hK.out _ _ s3 (fun hHeld => ?_)
    clear hK K
    try simp only [Act.put, List.setIfInBounds_toArray, List.set_cons_zero, List.set_cons_succ]
    refine wpAnyH_ready (rs := [1, 4]) (by kernel_rfl) (by simp) ?_
    refine (AllReadyH.cons (o := { dst := some 3, op := Op.load 24 (Operand.tmp 2), type := 24, pos := "wire.go:227", after := #[{ on := 0, ground := Ground.data }], guard := none }) rfl (fun K hK => ?_) (AllReadyH.cons (o := { dst := some 6, op := Op.buildSlice 24 1 #[(0, Operand.tmp 5)], type := 24, pos := "wire.go:227", after := #[{ on := 3, ground := Ground.data }], guard := none }) rfl (fun K hK => ?_) AllReadyH.nil))
    · skip
      go_simp
      refine hK.out _ _ s3 (fun hHeld => ?_)
      clear hK K
      try simp only [Act.put, List.setIfInBounds_toArray, List.set_cons_zero, List.set_cons_succ]
      refine wpAnyH_ready (rs := [4]) (by kernel_rfl) (by simp) ?_
      refine (AllReadyH.cons (o := { dst := some 6, op := Op.buildSlice 24 1 #[(0, Operand.tmp 5)], type := 24, pos := "wire.go:227", after := #[{ on := 3, ground := Ground.data }], guard := none }) rfl (fun K hK => ?_) AllReadyH.nil)
      go_simp
      refine hK.out _ _ s4 (fun hHeld => ?_)
      clear hK K
      try simp only [Act.put, List.setIfInBounds_toArray, List.set_cons_zero, List.set_cons_succ]
      refine wpAnyH_ready (rs := [5]) (by kernel_rfl) (by simp) ?_
      refine (AllReadyH.cons (o := { dst := some 7, op := Op.call { callee := Callee.builtin Builtin.append, args := #[Operand.tmp 3, Operand.tmp 6], argTypes := #[24, 24] }, type := 24, pos := "wire.go:227", after := #[{ on := 1, ground := Ground.data }, { on := 4, ground := Ground.data }, { on := 3, ground := Ground.chain }], guard := none }) rfl (fun K hK => ?_) AllReadyH.nil)
      refine op_append_run (.tmp 3) (.tmp 6) _ _ rfl _ _ _ rfl rfl hr4 ?_
      refine hK.out _ _ s5 (fun hHeld => ?_)
      clear hK K
      try simp only [Act.put, List.setIfInBounds_toArray, List.set_cons_zero, List.set_cons_succ]
      refine' wpAnyH_take (i := 6) (oi := { dst := some 8, op := Op.fieldAddr 34 (Operand.tmp 0) 8, type := 0, pos := "wire.go:227", after := #[{ on := 0, ground := Ground.phase }, { on := 1, ground := Ground.phase }, { on := 2, ground := Ground.phase }, { on := 3, ground := Ground.phase }, { on := 4, ground := Ground.phase }, { on := 5, ground := Ground.phase }], guard := none }) (v := ?v4) rfl (by kernel_rfl) (by kernel_rfl) (by kernel_rfl) (fun _ _ _ h => h) (Or.inl ⟨by rfl, ?hy4⟩) (by assumption) ?rest4
      case hy4 => (intro w hSw; go_simp; (try with_reducible rfl))
      simp only [Act.put, List.setIfInBounds_toArray, List.set_cons_zero, List.set_cons_succ]
      refine wpAnyH_ready (rs := [7]) (by kernel_rfl) (by simp) ?_
      refine (AllReadyH.cons (o := _) rfl (fun K hK => ?_) AllReadyH.nil)
      go_simp
      obtain ⟨g1, g2, g3⟩ := HF.out _ rfl
      have HGX := Lib.hid g3
      have G1 := Lib.hid g1
      clear g1 g3 HF
      refine hK.out _ _ g2 (fun hHeld => ?_)
      clear hK K
      try simp only [Act.put, List.setIfInBounds_toArray, List.set_cons_zero, List.set_cons_succ]
      refine wpAnyH_done (by kernel_rfl) ?_ _
      go_wp2_with fail
      go_end0
      exact ⟨rfl, ⟨⟨kd, kn⟩, ng, ⟨nid, nk, nm, nt⟩⟩, st3, HRD.out, G1.out, fun g cs hg hb => HGX.out g cs hg (HFR.out g cs hb)⟩
    · skip
      go_simp
      refine hK.out _ _ s4 (fun hHeld => ?_)
      clear hK K
      try simp only [Act.put, List.setIfInBounds_toArray, List.set_cons_zero, List.set_cons_succ]
      refine wpAnyH_ready (rs := [1]) (by kernel_rfl) (by simp) ?_
      refine (AllReadyH.cons (o := { dst := some 3, op := Op.load 24 (Operand.tmp 2), type := 24, pos := "wire.go:227", after := #[{ on := 0, ground := Ground.data }], guard := none }) rfl (fun K hK => ?_) AllReadyH.nil)
      go_simp
      refine hK.out _ _ s4 (fun hHeld => ?_)
      clear hK K
      try simp only [Act.put, List.setIfInBounds_toArray, List.set_cons_zero, List.set_cons_succ]
      refine wpAnyH_ready (rs := [5]) (by kernel_rfl) (by simp) ?_
      refine (AllReadyH.cons (o := { dst := some 7, op := Op.call { callee := Callee.builtin Builtin.append, args := #[Operand.tmp 3, Operand.tmp 6], argTypes := #[24, 24] }, type := 24, pos := "wire.go:227", after := #[{ on := 1, ground := Ground.data }, { on := 4, ground := Ground.data }, { on := 3, ground := Ground.chain }], guard := none }) rfl (fun K hK => ?_) AllReadyH.nil)
      refine op_append_run (.tmp 3) (.tmp 6) _ _ rfl _ _ _ rfl rfl hr4 ?_
      refine hK.out _ _ s5 (fun hHeld => ?_)
      clear hK K
      try simp only [Act.put, List.setIfInBounds_toArray, List.set_cons_zero, List.set_cons_succ]
      refine' wpAnyH_take (i := 6) (oi := { dst := some 8, op := Op.fieldAddr 34 (Operand.tmp 0) 8, type := 0, pos := "wire.go:227", after := #[{ on := 0, ground := Ground.phase }, { on := 1, ground := Ground.phase }, { on := 2, ground := Ground.phase }, { on := 3, ground := Ground.phase }, { on := 4, ground := Ground.phase }, { on := 5, ground := Ground.phase }], guard := none }) (v := ?v5) rfl (by kernel_rfl) (by kernel_rfl) (by kernel_rfl) (fun _ _ _ h => h) (Or.inl ⟨by rfl, ?hy5⟩) (by assumption) ?rest5
      case hy5 => (intro w hSw; go_simp; (try with_reducible rfl))
      simp only [Act.put, List.setIfInBounds_toArray, List.set_cons_zero, List.set_cons_succ]
      refine wpAnyH_ready (rs := [7]) (by kernel_rfl) (by simp) ?_
      refine (AllReadyH.cons (o := _) rfl (fun K hK => ?_) AllReadyH.nil)
      go_simp
      obtain ⟨g1, g2, g3⟩ := HF.out _ rfl
      have HGX := Lib.hid g3
      have G1 := Lib.hid g1
      clear g1 g3 HF
      refine hK.out _ _ g2 (fun hHeld => ?_)
      clear hK K
      try simp only [Act.put, List.setIfInBounds_toArray, List.set_cons_zero, List.set_cons_succ]
      refine wpAnyH_done (by kernel_rfl) ?_ _
      go_wp2_with fail
      go_end0
      exact ⟨rfl, ⟨⟨kd, kn⟩, ng, ⟨nid, nk, nm, nt⟩⟩, st3, HRD.out, G1.out, fun g cs hg hb => HGX.out g cs hg (HFR.out g cs hb)⟩

set_option maxRecDepth 100000 in
set_option maxHeartbeats 8000000 in
theorem readK_any (w0 : World) (q : Nat) (A : Option Addr) (c : Nat) (l : List Int) (gm gr : Nat) (m : MsgD) (st : Option (List Int)) (w : World) (h : MSt w0 q A c l gm gr m st w) (hn : m.keys.length < 48) :
    Calls Try.prog 80 #[.pointer (some ⟨gm, 0, none⟩), .pointer (some ⟨gr, 0, none⟩)] w fun e w' => e = .returned (.tuple #[]) ∧ ∃ x st', Read (gkey pnum ptxt) st x st' ∧ MSt w0 q A c l gm gr { m with keys := m.keys ++ [x] } st' w' ∧ ∀ g cs, g ≠ gm → Blk w g cs 34 → Blk w' g cs 34 := by
  have hM : MSt w0 q A c l gm gr m st w.drew := h.below ((Drawn.refl w).drew.below _)
  obtain ⟨EA, ec, KA, kc, b, o1, o2⟩ := hM.ex
  have s0 : w.drew.cell? ⟨gr, 0, none⟩ = some (.pointer (some ⟨q, 0, none⟩)) := by rw [hM.rb.cell]; rfl
  have d0 : w.drew.cell? ⟨gm, 15, none⟩ = some (.slice KA m.keys.length kc) := by rw [b.cell]; rfl
  have HM := Lib.hid hM
  have HB := Lib.hid b
  have HO1 := Lib.hid o1
  have HO2 := Lib.hid o2
  have HN := Lib.hid hn
  have hq := hM.rg.lt
  have h1 := hM.gm0
  have h2 := hM.gr0
  have g1 := Lib.hid (own_ge o1)
  have g2 := Lib.hid (own_ge o2)
  clear h hM b o1 o2 hn
  go_enter Try.func80, Try.ntmps80
  refine wp_region_held_drew (S := fun w' => w'.cell? ⟨gr, 0, none⟩ = some (.pointer (some ⟨q, 0, none⟩))) (by kernel_rfl) s0 (fun hHeld => ?_)
  refine' wpAnyH_take (i := 0) (oi := { dst := some 2, op := Op.fieldAddr 34 (Operand.tmp 0) 9, type := 0, pos := "wire.go:229", after := #[], guard := none }) (v := ?v6) rfl (by kernel_rfl) (by kernel_rfl) (by kernel_rfl) (fun _ _ _ h => h) (Or.inl ⟨by rfl, ?hy6⟩) (by assumption) ?rest6
  case hy6 => (intro w hSw; go_simp; (try with_reducible rfl))
  simp only [Act.put, List.setIfInBounds_toArray, List.set_cons_zero, List.set_cons_succ]
  refine' wpAnyH_take (i := 2) (oi := { dst := some 4, op := Op.load 95 (Operand.tmp 1), type := 95, pos := "wire.go:229", after := #[], guard := none }) (v := ?v7) rfl (by kernel_rfl) (by kernel_rfl) (by kernel_rfl) (fun _ _ _ h => h) (Or.inl ⟨by rfl, ?hy7⟩) (by assumption) ?rest7
  case hy7 => (intro w hSw; go_simp; (try with_reducible rfl))
  simp only [Act.put, List.setIfInBounds_toArray, List.set_cons_zero, List.set_cons_succ]
  refine wpAnyH_ready (rs := [1, 3]) (by kernel_rfl) (by simp) ?_
  refine (AllReadyH.cons (o := { dst := some 3, op := Op.load 25 (Operand.tmp 2), type := 25, pos := "wire.go:229", after := #[{ on := 0, ground := Ground.data }], guard := none }) rfl (fun K hK => ?_) (AllReadyH.cons (o := { dst := some 5, op := Op.call { callee := Callee.value (Operand.func 81), args := #[Operand.tmp 4], argTypes := #[95] }, type := 43, pos := "wire.go:229", after := #[{ on := 2, ground := Ground.data }], guard := none }) rfl (fun K hK => ?_) AllReadyH.nil))
  · skip
    go_simp
    refine hK.out _ _ s0 (fun hHeld => ?_)
    clear hK K
    try simp only [Act.put, List.setIfInBounds_toArray, List.set_cons_zero, List.set_cons_succ]
    refine wpAnyH_ready (rs := [3]) (by kernel_rfl) (by simp) ?_
    refine (AllReadyH.cons (o := { dst := some 5, op := Op.call { callee := Callee.value (Operand.func 81), args := #[Operand.tmp 4], argTypes := #[95] }, type := 43, pos := "wire.go:229", after := #[{ on := 2, ground := Ground.data }], guard := none }) rfl (fun K hK => ?_) AllReadyH.nil)
    go_simp
    refine (rkey1_any w.drew q A c l st HM.out.rg.rst).mono ?_
    rintro e w3 ⟨⟨kd, kn⟩, st3, he, _, hk, hr, hrd⟩
    have he : e = .returned (.agg #[.int .i64 kd, .string kn]) := he
    subst he
    have M3 := HM.out.next hk hr
    have HFR : Hid (∀ g cs, Blk w g cs 34 → Blk w3 g cs 34) := fun g cs hb => Blk.kp (w := w.drew) hb hk (fun e => by subst e; obtain ⟨_, _, qb, _⟩ := HM.out.rg.rst.blk; exact absurd (blk_ty (w := w.drew) hb qb) (by decide))
    have b3 := HB.out.kp hk (by omega)
    have q1 := own_kp HO1.out hk (fun k hk' e => by have := g1.out k hk'; omega)
    have q2 := own_kp HO2.out hk (fun k hk' e => by have := g2.out k hk'; omega)
    have s3 : w3.cell? ⟨gr, 0, none⟩ = some (.pointer (some ⟨q, 0, none⟩)) := by rw [M3.rb.cell]; rfl
    have d3 : w3.cell? ⟨gm, 15, none⟩ = some (.slice KA m.keys.length kc) := by rw [b3.cell]; rfl
    obtain ⟨A2, c2, w4, hr4, s5, ⟨v14, d5⟩, fz, HF⟩ := M3.pushKey ⟨kd, kn⟩ HN.out b3 q1 q2
    simp only [KeyD.cells] at hr4
    have HF := Lib.hid HF
    have HRD := Lib.hid hrd
    have s4 : (w3.alloc (.cells #[.int .i64 kd, .string kn] 43)).cell? ⟨gr, 0, none⟩ = some (.pointer (some ⟨q, 0, none⟩)) := (cell_keep (bel_al (Below.refl _ _) _) s3)
    have d4 : (w3.alloc (.cells #[.int .i64 kd, .string kn] 43)).cell? ⟨gm, 15, none⟩ = some (.slice KA m.keys.length kc) := (cell_keep (bel_al (Below.refl _ _) _) d3)
    clear M3 b3 q1 q2 hk hr hrd
    go_wp2_with fail
    refine hK.out _ _ s3 (fun hHeld => ?_)
    clear hK K
    try simp only [Act.put, List.setIfInBounds_toArray, List.set_cons_zero, List.set_cons_succ]
    refine wpAnyH_ready (rs := [4]) (by kernel_rfl) (by simp) ?_
    refine (AllReadyH.cons (o := { dst := some 6, op := Op.buildSlice 25 1 #[(0, Operand.tmp 5)], type := 25, pos := "wire.go:229", after := #[{ on := 3, ground := Ground.data }], guard := none }) rfl (fun K hK => ?_) AllReadyH.nil)
    go_simp
    refine hK.out _ _ s4 (fun hHeld => ?_)
    clear hK K
    try simp only [Act.put, List.setIfInBounds_toArray, List.set_cons_zero, List.set_cons_succ]
    refine wpAnyH_ready (rs := [5]) (by kernel_rfl) (by simp) ?_
    refine (AllReadyH.cons (o := { dst := some 7, op := Op.call { callee := Callee.builtin Builtin.append, args := #[Operand.tmp 3, Operand.tmp 6], argTypes := #[25, 25] }, type := 25, pos := "wire.go:229", after := #[{ on := 1, ground := Ground.data }, { on := 4, ground := Ground.data }, { on := 3, ground := Ground.chain }], guard := none }) rfl (fun K hK => ?_) AllReadyH.nil)
    refine op_append_run (.tmp 3) (.tmp 6) _ _ rfl _ _ _ rfl rfl hr4 ?_
    refine hK.out _ _ s5 (fun hHeld => ?_)
    clear hK K
    try simp only [Act.put, List.setIfInBounds_toArray, List.set_cons_zero, List.set_cons_succ]
    refine' wpAnyH_take (i := 6) (oi := { dst := some 8, op := Op.fieldAddr 34 (Operand.tmp 0) 9, type := 0, pos := "wire.go:229", after := #[{ on := 0, ground := Ground.phase }, { on := 1, ground := Ground.phase }, { on := 2, ground := Ground.phase }, { on := 3, ground := Ground.phase }, { on := 4, ground := Ground.phase }, { on := 5, ground := Ground.phase }], guard := none }) (v := ?v8) rfl (by kernel_rfl) (by kernel_rfl) (by kernel_rfl) (fun _ _ _ h => h) (Or.inl ⟨by rfl, ?hy8⟩) (by assumption) ?rest8
    case hy8 => (intro w hSw; go_simp; (try with_reducible rfl))
    simp only [Act.put, List.setIfInBounds_toArray, List.set_cons_zero, List.set_cons_succ]
    refine wpAnyH_ready (rs := [7]) (by kernel_rfl) (by simp) ?_
    refine (AllReadyH.cons (o := _) rfl (fun K hK => ?_) AllReadyH.nil)
    go_simp
    obtain ⟨g1, g2, g3⟩ := HF.out _ rfl
    have HGX := Lib.hid g3
    have G1 := Lib.hid g1
    clear g1 g3 HF
    refine hK.out _ _ g2 (fun hHeld => ?_)
    clear hK K
    try simp only [Act.put, List.setIfInBounds_toArray, List.set_cons_zero, List.set_cons_succ]
    refine wpAnyH_done (by kernel_rfl) ?_ _
    go_wp2_with fail
    go_end0
    exact ⟨rfl, ⟨kd, kn⟩, st3, HRD.out, G1.out, fun g cs hg hb => HGX.out g cs hg (HFR.out g cs hb)⟩
  · skip
    go_simp
    refine (rkey1_any w.drew q A c l st HM.out.rg.rst).mono ?_
    rintro e w3 ⟨⟨kd, kn⟩, st3, he, _, hk, hr, hrd⟩
    have he : e = .returned (.agg #[.int .i64 kd, .string kn]) := he
    subst he
    have M3 := HM.out.next hk hr
    have HFR : Hid (∀ g cs, Blk w g cs 34 → Blk w3 g cs 34) := fun g cs hb => Blk.kp (w := w.drew) hb hk (fun e => by subst e; obtain ⟨_, _, qb, _⟩ := HM.out.rg.rst.blk; exact absurd (blk_ty (w := w.drew) hb qb) (by decide))
    have b3 := HB.out.kp hk (by omega)
    have q1 := own_kp HO1.out hk (fun k hk' e => by have := g1.out k hk'; omega)
    have q2 := own_kp HO2.out hk (fun k hk' e => by have := g2.out k hk'; omega)
    have s3 : w3.cell? ⟨gr, 0, none⟩ = some (.pointer (some ⟨q, 0, none⟩)) := by rw [M3.rb.cell]; rfl
    have d3 : w3.cell? ⟨gm, 15, none⟩ = some (.slice KA m.keys.length kc) := by rw [b3.cell]; rfl
    obtain ⟨A2, c2, w4, hr4, s5, ⟨v14, d5⟩, fz, HF⟩ := M3.pushKey ⟨kd, kn⟩ HN.out b3 q1 q2
    simp only [KeyD.cells] at hr4
    have HF := Lib.hid HF
    have HRD := Lib.hid hrd
    have s4 : (w3.alloc (.cells #[.int .i64 kd, .string kn] 43)).cell? ⟨gr, 0, none⟩ = some (.pointer (some ⟨q, 0, none⟩)) := (cell_keep (bel_al (Below.refl _ _) _) s3)
    have d4 : (w3.alloc (.cells #[.int .i64 kd, .string kn] 43)).cell? ⟨gm, 15, none⟩ = some (.slice KA m.keys.length kc) := (cell_keep (bel_al (Below.refl _ _) _) d3)
    clear M3 b3 q1 q2 hk hr hrd
    go_wp2_with fail
    refine hK.out _ _ s3 (fun hHeld => ?_)
    clear hK K
    try simp only [Act.put, List.setIfInBounds_toArray, List.set_cons_zero, List.set_cons_succ]
    refine wpAnyH_ready (rs := [1, 4]) (by kernel_rfl) (by simp) ?_
    refine (AllReadyH.cons (o := { dst := some 3, op := Op.load 25 (Operand.tmp 2), type := 25, pos := "wire.go:229", after := #[{ on := 0, ground := Ground.data }], guard := none }) rfl (fun K hK => ?_) (AllReadyH.cons (o := { dst := some 6, op := Op.buildSlice 25 1 #[(0, Operand.tmp 5)], type := 25, pos := "wire.go:229", after := #[{ on := 3, ground := Ground.data }], guard := none }) rfl (fun K hK => ?_) AllReadyH.nil))
    · skip
      go_simp
      refine hK.out _ _ s3 (fun hHeld => ?_)
      clear hK K
      try simp only [Act.put, List.setIfInBounds_toArray, List.set_cons_zero, List.set_cons_succ]
      refine wpAnyH_ready (rs := [4]) (by kernel_rfl) (by simp) ?_
      refine (AllReadyH.cons (o := { dst := some 6, op := Op.buildSlice 25 1 #[(0, Operand.tmp 5)], type := 25, pos := "wire.go:229", after := #[{ on := 3, ground := Ground.data }], guard := none }) rfl (fun K hK => ?_) AllReadyH.nil)
      go_simp
      refine hK.out _ _ s4 (fun hHeld => ?_)
      clear hK K
      try simp only [Act.put, List.setIfInBounds_toArray, List.set_cons_zero, List.set_cons_succ]
      refine wpAnyH_ready (rs := [5]) (by kernel_rfl) (by simp) ?_
      refine (AllReadyH.cons (o := { dst := some 7, op := Op.call { callee := Callee.builtin Builtin.append, args := #[Operand.tmp 3, Operand.tmp 6], argTypes := #[25, 25] }, type := 25, pos := "wire.go:229", after := #[{ on := 1, ground := Ground.data }, { on := 4, ground := Ground.data }, { on := 3, ground := Ground.chain }], guard := none }) rfl (fun K hK => ?_) AllReadyH.nil)
      refine op_append_run (.tmp 3) (.tmp 6) _ _ rfl _ _ _ rfl rfl hr4 ?_
      refine hK.out _ _ s5 (fun hHeld => ?_)
      clear hK K
      try simp only [Act.put, List.setIfInBounds_toArray, List.set_cons_zero, List.set_cons_succ]
      refine' wpAnyH_take (i := 6) (oi := { dst := some 8, op := Op.fieldAddr 34 (Operand.tmp 0) 9, type := 0, pos := "wire.go:229", after := #[{ on := 0, ground := Ground.phase }, { on := 1, ground := Ground.phase }, { on := 2, ground := Ground.phase }, { on := 3, ground := Ground.phase }, { on := 4, ground := Ground.phase }, { on := 5, ground := Ground.phase }], guard := none }) (v := ?v9) rfl (by kernel_rfl) (by kernel_rfl) (by kernel_rfl) (fun _ _ _ h => h) (Or.inl ⟨by rfl, ?hy9⟩) (by assumption) ?rest9
      case hy9 => (intro w hSw; go_simp; (try with_reducible rfl))
      simp only [Act.put, List.setIfInBounds_toArray, List.set_cons_zero, List.set_cons_succ]
      refine wpAnyH_ready (rs := [7]) (by kernel_rfl) (by simp) ?_
      refine (AllReadyH.cons (o := _) rfl (fun K hK => ?_) AllReadyH.nil)
      go_simp
      obtain ⟨g1, g2, g3⟩ := HF.out _ rfl
      have HGX := Lib.hid g3
      have G1 := Lib.hid g1
      clear g1 g3 HF
      refine hK.out _ _ g2 (fun hHeld => ?_)
      clear hK K
      try simp only [Act.put, List.setIfInBounds_toArray, List.set_cons_zero, List.set_cons_succ]
      refine wpAnyH_done (by kernel_rfl) ?_ _
      go_wp2_with fail
      go_end0
      exact ⟨rfl, ⟨kd, kn⟩, st3, HRD.out, G1.out, fun g cs hg hb => HGX.out g cs hg (HFR.out g cs hb)⟩
    · skip
      go_simp
      refine hK.out _ _ s4 (fun hHeld => ?_)
      clear hK K
      try simp only [Act.put, List.setIfInBounds_toArray, List.set_cons_zero, List.set_cons_succ]
      refine wpAnyH_ready (rs := [1]) (by kernel_rfl) (by simp) ?_
      refine (AllReadyH.cons (o := { dst := some 3, op := Op.load 25 (Operand.tmp 2), type := 25, pos := "wire.go:229", after := #[{ on := 0, ground := Ground.data }], guard := none }) rfl (fun K hK => ?_) AllReadyH.nil)
      go_simp
      refine hK.out _ _ s4 (fun hHeld => ?_)
      clear hK K
      try simp only [Act.put, List.setIfInBounds_toArray, List.set_cons_zero, List.set_cons_succ]
      refine wpAnyH_ready (rs := [5]) (by kernel_rfl) (by simp) ?_
      refine (AllReadyH.cons (o := { dst := some 7, op := Op.call { callee := Callee.builtin Builtin.append, args := #[Operand.tmp 3, Operand.tmp 6], argTypes := #[25, 25] }, type := 25, pos := "wire.go:229", after := #[{ on := 1, ground := Ground.data }, { on := 4, ground := Ground.data }, { on := 3, ground := Ground.chain }], guard := none }) rfl (fun K hK => ?_) AllReadyH.nil)
      refine op_append_run (.tmp 3) (.tmp 6) _ _ rfl _ _ _ rfl rfl hr4 ?_
      refine hK.out _ _ s5 (fun hHeld => ?_)
      clear hK K
      try simp only [Act.put, List.setIfInBounds_toArray, List.set_cons_zero, List.set_cons_succ]
      refine' wpAnyH_take (i := 6) (oi := { dst := some 8, op := Op.fieldAddr 34 (Operand.tmp 0) 9, type := 0, pos := "wire.go:229", after := #[{ on := 0, ground := Ground.phase }, { on := 1, ground := Ground.phase }, { on := 2, ground := Ground.phase }, { on := 3, ground := Ground.phase }, { on := 4, ground := Ground.phase }, { on := 5, ground := Ground.phase }], guard := none }) (v := ?v10) rfl (by kernel_rfl) (by kernel_rfl) (by kernel_rfl) (fun _ _ _ h => h) (Or.inl ⟨by rfl, ?hy10⟩) (by assumption) ?rest10
      case hy10 => (intro w hSw; go_simp; (try with_reducible rfl))
      simp only [Act.put, List.setIfInBounds_toArray, List.set_cons_zero, List.set_cons_succ]
      refine wpAnyH_ready (rs := [7]) (by kernel_rfl) (by simp) ?_
      refine (AllReadyH.cons (o := _) rfl (fun K hK => ?_) AllReadyH.nil)
      go_simp
      obtain ⟨g1, g2, g3⟩ := HF.out _ rfl
      have HGX := Lib.hid g3
      have G1 := Lib.hid g1
      clear g1 g3 HF
      refine hK.out _ _ g2 (fun hHeld => ?_)
      clear hK K
      try simp only [Act.put, List.setIfInBounds_toArray, List.set_cons_zero, List.set_cons_succ]
      refine wpAnyH_done (by kernel_rfl) ?_ _
      go_wp2_with fail
      go_end0
      exact ⟨rfl, ⟨kd, kn⟩, st3, HRD.out, G1.out, fun g cs hg hb => HGX.out g cs hg (HFR.out g cs hb)⟩

end Go.Proofs.Ytmhcjkiaogimgaa
