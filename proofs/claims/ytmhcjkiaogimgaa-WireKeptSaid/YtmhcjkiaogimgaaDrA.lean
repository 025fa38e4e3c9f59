/- The document's reading: what is left; byte1. -/
import Derived.Test.YtmhcjkiaogimgaaRdE
import Derived.Deep.RegionHeld3
namespace Go.Proofs.Ytmhcjkiaogimgaa
open Go.RowKit

/-- Bytes that are left, in memory. -/
structure DS (w : World) (A : Option Addr) (c : Nat) (s : List Int) : Prop where
  rd : Rd .u8 w A s
  isb : isB s
  len : s.length ≤ 140737488355328
  cap : s.length ≤ c
  lim : c ≤ 9223372036854775807
theorem DS.below {w w' : World} {A : Option Addr} {c : Nat} {s : List Int} (h : DS w A c s) (b : Below w.heap.size w w') : DS w' A c s := ⟨h.rd.below b, h.isb, h.len, h.cap, h.lim⟩
theorem DS.nil (w : World) : DS w none 0 [] := ⟨Rd.nil _ _ _, (fun x hx => by cases hx), by decide, by decide, by decide⟩
def stOf (ok : Bool) (s : List Int) : Option (List Int) := if ok then some s else none
/-- What a reading of the document leaves. -/
def DGot {α : Type} (w0 : World) (p : Prs α) (val : α → Value) (okv : α → Prop) (st : Option (List Int)) (w : World) (e : Ending) (w' : World) : Prop :=
  ∃ v A s c ok, e = .returned (.tuple #[val v, .agg #[.slice A s.length c, .bool ok]]) ∧ okv v ∧ DS w0 A c s ∧ Below w.heap.size w w' ∧ Read p st v (stOf ok s)
/-- Results: a number or a text, and what is left. -/
theorem in_fin {fn : Func} {w : World} {g : Nat} {v x y : Value} {Q : Ending → World → Prop} (hres : fn.results = #[.tmp 2, .cell 3 99]) (h0 : w.cell? ⟨g, 0, none⟩ = some x) (h1 : w.cell? ⟨g, 1, none⟩ = some y) (hp : Q (.returned (.tuple #[v, .agg #[x, y]])) w) :
    ∀ tmps : Array Value, tmps.getD 2 undef = v → tmps.getD 3 undef = .pointer (some ⟨g, 0, none⟩) → bodyPost Try.prog fn Q Exit.ret { tmps := tmps, defers := [] } w := by
  intro tmps h2 h3
  have h2' : tmps[2]?.getD undef = v := by simpa using h2
  have h3' : tmps[3]?.getD undef = .pointer (some ⟨g, 0, none⟩) := by simpa using h3
  have hr := run_loadVar_mid (P := Try.prog) w g 0 99 [x, y] _ (fun j u hj => by
    rw [Nat.zero_add]
    match j, hj with
    | 0, hj => simp at hj; rw [← hj]; exact h0
    | 1, hj => simp at hj; rw [← hj]; exact h1) Try.underlying99 rfl (by kernel_rfl)
  refine bodyPost_ret (v := .tuple #[v, .agg #[x, y]]) ?_ rfl hp
  simp [results, hres, h2', h3', asAddr, hr]

theorem in_new {fn : Func} {w : World} {v x y : Value} {Q : Ending → World → Prop} (hres : fn.results = #[.tmp 2, .cell 3 99]) (o : Obj) (hp : Q (.returned (.tuple #[v, .agg #[x, y]])) ((w.alloc o).alloc (.cells #[x, y] 99))) :
    ∀ tmps : Array Value, tmps.getD 2 undef = v → tmps.getD 3 undef = .pointer (some ⟨w.heap.size + 1, 0, none⟩) → bodyPost Try.prog fn Q Exit.ret { tmps := tmps, defers := [] } ((w.alloc o).alloc (.cells #[x, y] 99)) := by
  have hb := Blk.new (w.alloc o) #[x, y] 99
  rw [show (w.alloc o).heap.size = w.heap.size + 1 by simp] at hb
  exact in_fin hres (by rw [hb.cell]; rfl) (by rw [hb.cell]; rfl) hp
theorem in_set {fn : Func} {w : World} {g : Nat} {cs : Array Value} {v x y : Value} {Q : Ending → World → Prop} (hres : fn.results = #[.tmp 2, .cell 3 99]) (hb : Blk w g cs 99) (hc : cs.size = 2) (hp : Q (.returned (.tuple #[v, .agg #[x, y]])) (w.setCells g 0 [x, y])) :
    ∀ tmps : Array Value, tmps.getD 2 undef = v → tmps.getD 3 undef = .pointer (some ⟨g, 0, none⟩) → bodyPost Try.prog fn Q Exit.ret { tmps := tmps, defers := [] } (w.setCells g 0 [x, y]) := by
  have hset := hb.setCells [x, y] 0
  rw [setMany_whole _ _ (by rw [hc]; rfl)] at hset
  exact in_fin hres (by rw [hset.cell]; rfl) (by rw [hset.cell]; rfl) hp
theorem DS.tail {w : World} {x : Addr} {c : Nat} {s : List Int} (h : DS w (some x) c s) (k : Nat) (hk : k ≤ s.length) (A' : Option Addr) (hA : c ≠ k → A' = some (x.add k)) : DS w A' (c - k) (s.drop k) := by
  have hl : (s.drop k).length = s.length - k := List.length_drop ..
  refine ⟨⟨fun j hj => ?_⟩, fun z hz => h.isb z (List.mem_of_mem_drop hz), by have := h.len; omega, by have := h.cap; omega, by have := h.lim; omega⟩
  rw [hl] at hj
  obtain ⟨y, hy, h1, h2⟩ := h.rd.at_ (k + j) (by omega)
  injection hy with hy
  subst hy
  have hcap := h.cap
  refine ⟨_, hA (by omega), by rw [add_at]; exact h1, ?_⟩
  rw [add_add, h2, List.getD_eq_getElem?_getD, List.getD_eq_getElem?_getD, List.getElem?_drop]

set_option maxRecDepth 100000 in
set_option maxHeartbeats 2000000 in
theorem dbyte_any (w0 w : World) (hw : Below w0.heap.size w0 w) (A : Option Addr) (c : Nat) (s : List Int) (ok : Bool) (h : DS w0 A c s) :
    Calls Try.prog 58 #[.agg #[.slice A s.length c, .bool ok]] w (DGot w0 pbyte (Value.int .i64) (fun v => 0 ≤ v ∧ v < 256) (stOf ok s) w) := by
  obtain ⟨n, hn⟩ : ∃ n, Hid (n = s.length) := ⟨_, rfl⟩
  have H0 := Lib.hid h
  have H := Lib.hid (h.below hw)
  have hlen := h.len
  have hcap := h.cap
  have hlim := h.lim
  clear h
  rw [← hn.out] at hlen hcap ⊢
  have HB : ∀ (x y : Value) (V : World), V = ((w.alloc (.cells #[.slice A n c, .bool ok] 99)).alloc (.cells #[x, y] 99)) → Below w.heap.size w V := by
    rintro x y V rfl
    exact bel_al (bel_al (Below.refl _ _) _) _
  cases ok with
  | false =>
    go_enter Try.func58, Try.ntmps58
    go_wp2_with fail
    exact in_new rfl _ ⟨0, none, [], 0, false, rfl, by omega, DS.nil _, HB _ _ _ rfl, rfl⟩ _ (by rfl) (by rfl)
  | true =>
    by_cases h0 : n = 0
    · subst h0
      go_enter Try.func58, Try.ntmps58
      go_wp2_with fail
      exact in_new rfl _ ⟨0, none, [], 0, false, rfl, by omega, DS.nil _, HB _ _ _ rfl, by rw [show s = [] from List.length_eq_zero_iff.1 hn.out.symm]; rfl⟩ _ (by rfl) (by rfl)
    · obtain ⟨x, hx, _, hc⟩ := H.out.rd.at_ 0 (by rw [← hn.out]; omega)
      subst hx
      have hx0 : x.add 0 = x := by simp [Addr.add]
      rw [hx0] at hc
      have i1 : (0 : Int) < (n : Int) := by omega
      have hbb := H.out.isb (s.getD 0 0) (List.mem_of_getElem? (l := s) (i := 0) (a := s.getD 0 0) (by rw [List.getD_eq_getElem?_getD, List.getElem?_eq_getElem (by rw [← hn.out]; omega)]; rfl))
      have HBB := Lib.hid hbb
      have e3 : IntKind.i64.wrap (s.getD 0 0) = s.getD 0 0 := wrap_id (by omega) (by omega)
      have HS := Lib.hid (drop_cons (l := s) (k := 0) (by rw [← hn.out]; omega))
      generalize s.getD 0 0 = b at *
      have hxb : x.block < w.heap.size := by have := World.block_lt_of_cell? w _ hc; exact this
      have hcV : ∀ (o1 o2 : Obj), ((w.alloc o1).alloc o2).cell? x = some (.int .u8 b) := fun o1 o2 => (bel_al (bel_al (Below.refl _ _) _) _).cell hxb |>.trans hc
      have hx1 : x.add 1 = { block := x.block, off := x.off + 1 } := by simp [Addr.add]
      have i5 : 1 ≤ n := by omega
      have hex : ∃ A' : Option Addr, Hid ((if c = 1 then some x else some { block := x.block, off := x.off + 1 }) = A') ∧ Hid (DS w0 A' (c - 1) (s.drop 1)) := by
        refine ⟨_, rfl, ?_⟩
        exact H0.out.tail 1 (by rw [← hn.out]; exact i5) _ (fun hc1 => by rw [if_neg hc1, hx1])
      obtain ⟨A', hA', HT⟩ := hex
      have HTL : Hid ((s.drop 1).length = n - 1) := by show _ = _; rw [List.length_drop, hn.out]
      clear hx1 i5
      clear hbb
      go_enter Try.func58, Try.ntmps58
      go_upto_region 3 with fail
      obtain ⟨V, hV⟩ : ∃ V, V = (w.alloc (.cells #[.slice (some x) n c, .bool true] 99)).alloc (.cells #[.slice none 0 0, .bool false] 99) := ⟨_, rfl⟩
      have b1 : Blk V w.heap.size #[.slice (some x) n c, .bool true] 99 := by rw [hV]; exact (Blk.new w _ _).alloc _
      have b3 : Blk V (w.heap.size + 1) #[.slice none 0 0, .bool false] 99 := by
        rw [hV]
        have := Blk.new (w.alloc (.cells #[.slice (some x) n c, .bool true] 99)) #[.slice none 0 0, .bool false] 99
        rwa [show (w.alloc (.cells #[.slice (some x) n c, .bool true] 99)).heap.size = w.heap.size + 1 by simp] at this
      have hBV := Lib.hid (HB _ _ V hV)
      have hcx : V.cell? x = some (.int .u8 b) := by rw [hV]; exact hcV _ _
      rw [← hV]
      clear hV HB hcV hc
      have s0 : V.drew.cell? ⟨w.heap.size, 0, none⟩ = some (.slice (some x) n c) ∧ V.drew.cell? x = some (.int .u8 b) := ⟨(b1.cell 0).trans rfl, hcx⟩
      have hb3 := Lib.hid b3.drew
      have e0 := b3.drew.cell 0
      have e1 := b3.drew.cell 1
      have f0 := b3.frozen 0
      have f1 := b3.frozen 1
      have e0 : V.cell? ⟨w.heap.size + 1, 0, none⟩ = some (.slice none 0 0) := e0.trans rfl
      have e1 : V.cell? ⟨w.heap.size + 1, 1, none⟩ = some (.bool false) := e1.trans rfl
      have i0 : 0 < n := by omega
      have i5 : 1 ≤ n := by omega
      have i2 : (1 : Int) ≤ (n : Int) := by omega
      have i3 : (n : Int) ≤ (c : Int) := by omega
      have i4 : (0 : Int) ≤ (1 : Int) := by omega
      have hgx : w.heap.size + 1 ≠ x.block := by omega
      refine wp_region_held_drew (S := fun w' => w'.cell? ⟨w.heap.size, 0, none⟩ = some (.slice (some x) n c) ∧ w'.cell? x = some (.int .u8 b)) (by kernel_rfl) s0 (fun hHeld => ?_)
      refine' wpAnyH_take (i := 0) (oi := _) (v := ?v0) rfl (by kernel_rfl) (by kernel_rfl) (by kernel_rfl) (fun _ _ _ h => h) (Or.inl ⟨by rfl, ?hy0⟩) (by assumption) ?rest0
      case hy0 => (intro w hSw; obtain ⟨s1, s2⟩ := hSw; go_simp; (try with_reducible rfl))
      simp only [Act.put, List.setIfInBounds_toArray, List.set_cons_zero, List.set_cons_succ]
      refine' wpAnyH_take (i := 1) (oi := _) (v := ?v1) rfl (by kernel_rfl) (by kernel_rfl) (by kernel_rfl) (fun _ _ _ h => h) (Or.inl ⟨by rfl, ?hy1⟩) (by assumption) ?rest1
      case hy1 => (intro w hSw; obtain ⟨s1, s2⟩ := hSw; go_simp; (try with_reducible rfl))
      simp only [Act.put, List.setIfInBounds_toArray, List.set_cons_zero, List.set_cons_succ]
      refine' wpAnyH_take (i := 2) (oi := _) (v := ?v2) rfl (by kernel_rfl) (by kernel_rfl) (by kernel_rfl) (fun _ _ _ h => h) (Or.inl ⟨by rfl, ?hy2⟩) (by assumption) ?rest2
      case hy2 => (intro w hSw; obtain ⟨s1, s2⟩ := hSw; go_simp; (try with_reducible rfl))
      simp only [Act.put, List.setIfInBounds_toArray, List.set_cons_zero, List.set_cons_succ]
      refine' wpAnyH_take (i := 3) (oi := _) (v := ?v3) rfl (by kernel_rfl) (by kernel_rfl) (by kernel_rfl) (fun _ _ _ h => h) (Or.inl ⟨by rfl, ?hy3⟩) (by assumption) ?rest3
      case hy3 => (intro w hSw; obtain ⟨s1, s2⟩ := hSw; go_simp; (try with_reducible rfl))
      simp only [Act.put, List.setIfInBounds_toArray, List.set_cons_zero, List.set_cons_succ]
      refine' wpAnyH_take (i := 4) (oi := _) (v := ?v4) rfl (by kernel_rfl) (by kernel_rfl) (by kernel_rfl) (fun _ _ _ h => h) (Or.inl ⟨by rfl, ?hy4⟩) (by assumption) ?rest4
      case hy4 => (intro w hSw; obtain ⟨s1, s2⟩ := hSw; go_simp; (try with_reducible rfl))
      simp only [Act.put, List.setIfInBounds_toArray, List.set_cons_zero, List.set_cons_succ]
      refine' wpAnyH_take (i := 5) (oi := _) (v := ?v5) rfl (by kernel_rfl) (by kernel_rfl) (by kernel_rfl) (fun _ _ _ h => h) (Or.inl ⟨by rfl, ?hy5⟩) (by assumption) ?rest5
      case hy5 => (intro w hSw; obtain ⟨s1, s2⟩ := hSw; go_simp; (try with_reducible rfl))
      simp only [Act.put, List.setIfInBounds_toArray, List.set_cons_zero, List.set_cons_succ]
      refine' wpAnyH_take (i := 6) (oi := _) (v := ?v6) rfl (by kernel_rfl) (by kernel_rfl) (by kernel_rfl) (fun _ _ _ h => h) (Or.inl ⟨by rfl, ?hy6⟩) (by assumption) ?rest6
      case hy6 => (intro w hSw; obtain ⟨s1, s2⟩ := hSw; go_simp; (try with_reducible rfl))
      simp only [Act.put, List.setIfInBounds_toArray, List.set_cons_zero, List.set_cons_succ]
      refine' wpAnyH_take (i := 7) (oi := _) (v := ?v7) rfl (by kernel_rfl) (by kernel_rfl) (by kernel_rfl) (fun _ _ _ h => h) (Or.inl ⟨by rfl, ?hy7⟩) (by assumption) ?rest7
      case hy7 => (intro w hSw; obtain ⟨s1, s2⟩ := hSw; go_simp; (try with_reducible rfl))
      simp only [Act.put, List.setIfInBounds_toArray, List.set_cons_zero, List.set_cons_succ]
      refine' wpAnyH_take (i := 8) (oi := _) (v := ?v8) rfl (by kernel_rfl) (by kernel_rfl) (by kernel_rfl) (fun _ _ _ h => h) (Or.inl ⟨by rfl, ?hy8⟩) (by assumption) ?rest8
      case hy8 => (intro w hSw; obtain ⟨s1, s2⟩ := hSw; go_simp; (try with_reducible rfl))
      simp only [Act.put, List.setIfInBounds_toArray, List.set_cons_zero, List.set_cons_succ]
      refine' wpAnyH_take (i := 9) (oi := _) (v := ?v9) rfl (by kernel_rfl) (by kernel_rfl) (by kernel_rfl) (fun _ _ _ h => h) (Or.inl ⟨by rfl, ?hy9⟩) (by assumption) ?rest9
      case hy9 => (intro w hSw; obtain ⟨s1, s2⟩ := hSw; go_simp; (try with_reducible rfl))
      simp only [Act.put, List.setIfInBounds_toArray, List.set_cons_zero, List.set_cons_succ]
      refine wpAnyH_ready (rs := [10]) (by kernel_rfl) (by simp) ?_
      refine AllReadyH.cons rfl (fun K hK => ?_) AllReadyH.nil
      have hA'' := hA'.out
      go_simp
      have hset := b3.setCells [.slice A' (n - 1) (c - 1), .bool true] 0
      rw [setMany_whole _ _ (by rfl)] at hset
      have hset := hset.drew
      have hkp : Kp (fun k => k = w.heap.size + 1) V (V.setCells (w.heap.size + 1) 0 [.slice A' (n - 1) (c - 1), .bool true]).drew := (Kp.setCells (S := fun k => k = w.heap.size + 1) _ rfl _ _ _ (Kp.refl _ _)).drew
      have hBW := Lib.hid (below_kp hBV.out hkp hBV.out.size (fun k hk => by omega))
      have s1 : (V.setCells (w.heap.size + 1) 0 [.slice A' (n - 1) (c - 1), .bool true]).drew.cell? ⟨w.heap.size, 0, none⟩ = some (.slice (some x) n c) ∧ (V.setCells (w.heap.size + 1) 0 [.slice A' (n - 1) (c - 1), .bool true]).drew.cell? x = some (.int .u8 b) := by
        refine ⟨?_, ?_⟩
        · rw [hkp.cell (p := ⟨w.heap.size, 0, none⟩) (b1.lt) (by show ¬ w.heap.size = w.heap.size + 1; omega)]; exact s0.1
        · rw [hkp.cell (p := x) (by have := hBV.out.size; exact Nat.lt_of_lt_of_le hxb this) (fun e => hgx e.symm)]; exact s0.2
      refine hK.out _ ((V.setCells (w.heap.size + 1) 0 [.slice A' (n - 1) (c - 1), .bool true]).drew) s1 (fun hHeld => ?_)
      clear hK K
      refine wpAnyH_done (by kernel_rfl) ?_ _
      have HF := Lib.hid (in_fin (fn := Try.f58) (w := (V.setCells (w.heap.size + 1) 0 [.slice A' (n - 1) (c - 1), .bool true]).drew) (g := w.heap.size + 1) (v := .int .i64 b) (x := .slice A' (n - 1) (c - 1)) (y := .bool true) (Q := DGot w0 pbyte (Value.int .i64) (fun v => 0 ≤ v ∧ v < 256) (stOf true s) w) rfl (by rw [hset.cell]; rfl) (by rw [hset.cell]; rfl) ⟨b, A', s.drop 1, c - 1, true, by rw [HTL.out], HBB.out, HT.out, hBW.out, by rw [show s = b :: s.drop 1 from by have := HS.out; rwa [List.drop_zero] at this]; exact Read.yes rfl⟩)
      clear hset hkp s1 s0
      go_wp2_with fail
      exact HF.out _ (by rfl) (by rfl)

end Go.Proofs.Ytmhcjkiaogimgaa
