/- The program's reader: key, entry, op. -/
import Derived.Test.YtmhcjkiaogimgaaRdD
namespace Go.Proofs.Ytmhcjkiaogimgaa
open Go.RowKit

theorem Kp.setNew {S : Nat → Prop} {a b : World} (h : Kp S a b) {p : Addr} (hp : a.heap.size ≤ p.block) (u : Value) : Kp S a (b.setCell p u) :=
  ⟨h.os, h.tape, h.output, by have := h.size; simpa [World.setCell] using this, fun k hk hs => (Below.heap_setCell _ _ _ _ (by omega)).trans (h.block k hk hs)⟩
theorem Kp.setsNew {S : Nat → Prop} {a : World} (g : Nat) (hp : a.heap.size ≤ g) : ∀ (vs : List Value) (o : Nat) (b : World), Kp S a b → Kp S a (b.setCells g o vs)
  | [], _, _, h => h
  | v :: r, o, b, h => by
    rw [World.setCells]
    exact Kp.setsNew g hp r (o + 1) _ (h.setNew (p := ⟨g, o, none⟩) hp v)
/-- Reading under way, since w0. -/
structure RG (w0 : World) (q : Nat) (A : Option Addr) (c : Nat) (l : List Int) (st : Option (List Int)) (w : World) : Prop where
  kp : Kp (fun k => k = q) w0 w
  rst : RSt w q A c l st
  rd0 : Rd .u8 w0 A l
  lt : q < w0.heap.size
theorem RSt.start {w : World} {q : Nat} {A : Option Addr} {c : Nat} {l : List Int} {st : Option (List Int)} (h : RSt w q A c l st) : RG w q A c l st w := ⟨Kp.refl _ _, h, h.rd, h.lt⟩
theorem RG.al {w0 w : World} {q : Nat} {A : Option Addr} {c : Nat} {l : List Int} {st : Option (List Int)} (h : RG w0 q A c l st w) (o : Obj) : RG w0 q A c l st (w.alloc o) := ⟨h.kp.alloc o, h.rst.below (bel_al (Below.refl _ _) _), h.rd0, h.lt⟩
theorem RG.drawn {w0 w w' : World} {q : Nat} {A : Option Addr} {c : Nat} {l : List Int} {st : Option (List Int)} (h : RG w0 q A c l st w) (hd : Drawn w w') : RG w0 q A c l st w' := ⟨h.kp.trans (hd.kp _), h.rst.below (hd.below _), h.rd0, h.lt⟩
theorem RG.next {w0 w w' : World} {q : Nat} {A : Option Addr} {c : Nat} {l : List Int} {st st' : Option (List Int)} (h : RG w0 q A c l st w) (hk : Kp (fun k => k = q) w w') (hr : RSt w' q A c l st') : RG w0 q A c l st' w' := ⟨h.kp.trans hk, hr, h.rd0, h.lt⟩
theorem RG.sets {w0 w : World} {q : Nat} {A : Option Addr} {c : Nat} {l : List Int} {st : Option (List Int)} (h : RG w0 q A c l st w) {g : Nat} (hg : w0.heap.size ≤ g) (o : Nat) (vs : List Value) : RG w0 q A c l st (w.setCells g o vs) := by
  have hk := Kp.setsNew g hg vs o w h.kp
  obtain ⟨k, bad, b, hl, he⟩ := h.rst.blk
  have hne : q ≠ g := by have := h.lt; omega
  exact ⟨hk, ⟨h.rd0.kp hk (fun x hx => h.rst.ne x hx), h.rst.ne, h.rst.isb, h.rst.len, h.rst.cap, h.rst.lim, k, bad, Blk.setCells_other hne _ _ b, hl, he⟩, h.rd0, h.lt⟩
theorem RG.set {w0 w : World} {q : Nat} {A : Option Addr} {c : Nat} {l : List Int} {st : Option (List Int)} (h : RG w0 q A c l st w) {g : Nat} (hg : w0.heap.size ≤ g) (o : Nat) (v : Value) : RG w0 q A c l st (w.setCell ⟨g, o, none⟩ v) := h.sets hg o [v]
theorem RG.fin {α : Type} {p : Prs α} {val : α → Value} {w0 w : World} {q : Nat} {A : Option Addr} {c : Nat} {l : List Int} {st st' : Option (List Int)} (h : RG w0 q A c l st' w) {v : α} {e : Ending} (he : e = .returned (val v)) (hr : Read p st v st') : Got p val (fun _ => True) q A c l st w0 e w :=
  ⟨v, st', he, trivial, h.kp, h.rst, hr⟩
/-- A box of one's own stays. -/
theorem box_keep {w w' : World} {q g : Nat} {cs : Array Value} {t : TypeId} (h : Blk w g cs t) (hk : Kp (fun k => k = q) w w') (hg : g ≠ q) : Blk w' g cs t := h.kp hk hg

/-- A result in a box of one's own, stored there whole. -/
theorem box_fin {fn : Func} {t : TypeId} {cs0 : Array Value} {w : World} {g : Nat} {Q : Ending → World → Prop} (hres : fn.results = #[.cell 2 t]) (hb : Blk w g cs0 t) (vs : List Value) (hl : vs.length = cs0.size) {d : TypeDesc} (hu : Try.prog.underlying t = some d) (hd : d.isRow = true)
    (hi : (Try.prog.info? t).map (·.size) = some vs.length) (hp : Q (.returned (.agg vs.toArray)) (w.setCells g 0 vs)) : ∀ tmps : Array Value, tmps.getD 2 undef = .pointer (some ⟨g, 0, none⟩) → bodyPost Try.prog fn Q Exit.ret { tmps := tmps, defers := [] } (w.setCells g 0 vs) := by
  intro tmps ht
  refine bodyPost_ret (results_cell hres tmps _ _ ht _ (run_loadVar_mid _ _ _ _ vs _ ?_ hu hd hi)) rfl hp
  have hset := hb.setCells vs 0
  rw [setMany_whole _ _ hl] at hset
  intro j v hj
  rw [hset.cell, List.getElem?_toArray, Nat.zero_add]; exact hj

set_option maxRecDepth 100000 in
set_option maxHeartbeats 2000000 in
theorem rkey1_any (w : World) (q : Nat) (A : Option Addr) (c : Nat) (l : List Int) (st : Option (List Int)) (h : RSt w q A c l st) :
    Calls Try.prog 81 #[.pointer (some ⟨q, 0, none⟩)] w (Got (gkey pnum ptxt) (fun k => .agg k.cells.toArray) (fun _ => True) q A c l st w) := by
  have hlt := h.lt
  have G0 : ∀ o, RG w q A c l st (w.alloc o) := fun o => h.start.al o
  have HB := Lib.hid (Blk.new w #[.int .i64 0, .string ⟨#[]⟩] 43)
  clear h
  go_enter Try.func81, Try.ntmps81
  go_wp2_with fail
  have G1 := G0 (.cells #[.int .i64 0, .string ⟨#[]⟩] 43)
  refine (rnum_any _ q A c l st G1.rst).mono ?_
  rintro e w1 ⟨d, st1, rfl, _, hk1, hr1, rd1⟩
  have G2 := G1.next hk1 hr1
  have B2 := box_keep HB.out hk1 (by omega)
  clear hk1 hr1 G1 G0 HB
  go_wp2_with fail
  refine (rtxt_any _ q A c l st1 G2.rst).mono ?_
  rintro e w2 ⟨s, st2, rfl, _, hk2, hr2, rd2⟩
  have G3 := G2.next hk2 hr2
  have B3 := box_keep B2 hk2 (by omega)
  have c0 : w2.cell? ⟨w.heap.size, 0, none⟩ = some (.int .i64 0) := by rw [B3.cell]; rfl
  have c1 : w2.cell? ⟨w.heap.size, 1, none⟩ = some (.string ⟨#[]⟩) := by rw [B3.cell]; rfl
  have f0 := B3.frozen 0
  have f1 := B3.frozen 1
  have HR : Hid (Read (gkey pnum ptxt) st ⟨d, s⟩ st2) := rd1.bind (rd2.bind (Read.ret _ _))
  clear hk2 hr2 G2 B2 rd1 rd2
  have HF := Lib.hid (box_fin (fn := Try.f81) rfl B3 [.int .i64 d, .string s] rfl Try.underlying43 rfl size_key ((G3.sets (Nat.le_refl _) 0 [.int .i64 d, .string s]).fin (p := gkey pnum ptxt) (val := fun k : KeyD => .agg k.cells.toArray) (v := ⟨d, s⟩) rfl HR.out))
  clear B3 G3
  go_wp2_with fail
  exact HF.out _ (by rfl)

end Go.Proofs.Ytmhcjkiaogimgaa
