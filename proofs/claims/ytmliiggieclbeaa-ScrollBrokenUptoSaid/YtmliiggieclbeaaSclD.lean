/- The scroll's header, and whether a block is one. -/
import Derived.Test.YtmliiggieclbeaaSclC
import Derived.Lib.LazyBuf
import Derived.Laws.BytesString
import Derived.Deep.RegionHeld3
import Derived.Deep.QuietTactic
import Derived.BigQuiet
import Derived.OwnWalk
namespace Go.Proofs.Ytmliiggieclbeaa
open Go.RowKit

theorem setMany_list (vs : List Value) : ∀ (cs : Array Value) (o : Nat), o + vs.length ≤ cs.size → (setMany cs o vs).toList = cs.toList.take o ++ (vs ++ cs.toList.drop (o + vs.length)) := by
  intro cs o h
  apply List.ext_getElem?
  intro j
  rw [Array.getElem?_toList, setMany_get _ _ _ _ h]
  have hl : (cs.toList.take o).length = o := by rw [List.length_take, Array.length_toList]; omega
  by_cases h1 : j < o
  · rw [if_neg (by omega), List.getElem?_append_left (by omega), List.getElem?_take, if_pos h1, Array.getElem?_toList]
  · rw [List.getElem?_append_right (by omega), hl]
    by_cases h2 : j < o + vs.length
    · rw [if_pos (by omega), List.getElem?_append_left (by omega)]
    · rw [if_neg (by omega), List.getElem?_append_right (by omega), List.getElem?_drop, Array.getElem?_toList]
      congr 1
      omega
theorem zeros64 : (madeCells #[.int .u8 0] 64).toList = List.replicate 64 (.int .u8 0) := by
  apply List.ext_getElem?
  intro j
  rw [Array.getElem?_toList, List.getElem?_replicate]
  unfold madeCells
  by_cases h : j < 64
  · simp [h, Nat.mod_one]
  · simp [h]
theorem hd_cells (g h : Int) : (setMany (setMany (madeCells #[.int .u8 0] 64) 0 (ints .u8 [83, 67, 82, 49])) 4 (ints .u8 (fourL g))).setIfInBounds 8 (.int .u8 (h % 256)) = (ints .u8 (hdL g h)).toArray := by
  show setMany (setMany (setMany (madeCells #[.int .u8 0] 64) 0 (ints .u8 [83, 67, 82, 49])) 4 (ints .u8 (fourL g))) 8 [.int .u8 (h % 256)] = _
  apply Array.toList_inj.1
  rw [setMany_list _ _ _ (by simp [setMany_size, size_madeCells]), setMany_list _ _ _ (by simp [setMany_size, size_madeCells, ints, fourL]), setMany_list _ _ _ (by simp [size_madeCells, ints]), zeros64]
  rfl

set_option maxHeartbeats 400000 in
theorem header_any (w : World) (g h : Int) :
    Calls Try.prog 49 #[.int .i64 g, .int .i64 h] w fun e w' => e = .returned (.slice (some ⟨w.heap.size, 0, none⟩) 64 64) ∧ Below w.heap.size w w' ∧ Blk w' w.heap.size (ints .u8 (hdL g h)).toArray 5 := by
  have hmk := make64
  have hN := Blk.new w (madeCells #[.int .u8 0] 64) 5
  obtain ⟨W1, hcp, hk1, hB1⟩ : ∃ W1, (Builtin.copy_ #[22, 9] 3 #[.slice (some ⟨w.heap.size, 0, none⟩) 64 64, .string ⟨#[83, 67, 82, 49]⟩]).run Try.prog (w.alloc (.cells (madeCells #[.int .u8 0] 64) 5)) = .ok (.int .i64 4) W1 ∧
      Below w.heap.size w W1 ∧ Blk W1 w.heap.size (setMany (madeCells #[.int .u8 0] 64) 0 (ints .u8 [83, 67, 82, 49])) 5 := by
    have := run_copy_string (P := Try.prog) (w.alloc (.cells (madeCells #[.int .u8 0] 64) 5)) 22 9 3 5 w.heap.size 0 64 64 ⟨#[83, 67, 82, 49]⟩ Try.underlying22 (fun w => by kernel_rfl) (by decide)
      (fun j hj => by rw [hN.cell, Array.getElem?_eq_getElem (by rw [size_madeCells]; have : j < 4 := hj; omega)]; rfl) (fun j _ => hN.frozen _)
    refine ⟨_, this, (Kp.setCells (S := fun k => k = w.heap.size) w.heap.size rfl _ _ _ ((Kp.refl _ w).alloc _)).below (fun k hk => by omega), ?_⟩
    exact hN.setCells _ 0
  have HB1 := Lib.hid hB1
  have HN := Lib.hid hN
  clear hB1 hN
  go_enter Try.func49, Try.ntmps49
  go_wp2_with fail
  refine (put4_any W1 w.heap.size 4 60 60 _ _ g HB1.out (by rw [setMany_size, size_madeCells]; omega) (by omega)).mono ?_
  rintro e w2 ⟨rfl, hk2, hB2⟩
  have hc : ∃ u, w2.cell? ⟨w.heap.size, 8, none⟩ = some u := ⟨_, by rw [hB2.cell, Array.getElem?_eq_getElem (by rw [setMany_size, setMany_size, size_madeCells]; omega)]⟩
  have hf := hB2.frozen 8
  obtain ⟨u, hu⟩ := hc
  have HB2 := Lib.hid hB2
  clear hB2
  go_wp2_with fail
  go_ret
  refine ⟨rfl, bel_nextK hk1 (hk2.setCell (p := ⟨w.heap.size, 8, none⟩) rfl _) (fun k hk => by omega), ?_⟩
  have := HB2.out.set 8 (.int .u8 (h % 256))
  rw [hd_cells] at this
  exact this

/-- A call that only reads, in a region whose order is drawn. -/
theorem quiet_left {P : Program} {f : FuncId} {args : Array Value} {w : World} {n : Nat} {v : Value}
    (h : Calls P f args (w.drewN n) fun e w' => e = .returned v ∧ w.drewN n = w') : Calls P f args (w.drewN n) fun e w'' => e = .returned v ∧ ∃ m, w'' = w.drewN m :=
  h.mono fun _ _ ⟨he, hm⟩ => ⟨he, n, hm.symm⟩
theorem quiet_drawn {P : Program} {f : FuncId} {args : Array Value} {w : World} {n : Nat} {v : Value}
    (h : Calls P f args (w.drewN n) fun e w' => e = .returned v ∧ Drawn (w.drewN n) w') : Calls P f args (w.drewN n) fun e w'' => e = .returned v ∧ ∃ m, w'' = w.drewN m :=
  h.mono fun _ _ ⟨he, hm⟩ => ⟨he, by obtain ⟨m, rfl⟩ := hm.ex; exact ⟨n + m, World.drewN_drewN ..⟩⟩
theorem DiskAt.drewN {w : World} {d g : Nat} {s : DS} (h : DiskAt w d g s) (n : Nat) : DiskAt (w.drewN n) d g s := h.kp ((Kp.refl (fun _ => False) w).drewN n) (fun h => h) (fun h => h)
theorem Blk.drewN {w : World} {g : Nat} {cs : Array Value} {t : TypeId} (h : Blk w g cs t) (n : Nat) : Blk (w.drewN n) g cs t := h

theorem str_beq (a b : ByteArray) : (a.toList == b.toList) = decide (a = b) := by
  rw [Bool.eq_iff_iff, beq_iff_eq, decide_eq_true_iff, ByteArray.toList_eq, ByteArray.toList_eq]
  constructor
  · intro h
    obtain ⟨x⟩ := a
    obtain ⟨y⟩ := b
    have := Array.toList_inj.1 h
    simp_all
  · rintro rfl; rfl
/-- Bytes as a string. -/
def strOf (ns : List Int) : ByteArray := ⟨(ns.map fun z => UInt8.ofNat z.toNat).toArray⟩
theorem strOf_inj {a b : List Int} (ha : isBy a) (hb : isBy b) : strOf a = strOf b ↔ a = b := by
  refine ⟨fun h => ?_, fun h => by rw [h]⟩
  have h : a.map (fun z => UInt8.ofNat z.toNat) = b.map (fun z => UInt8.ofNat z.toNat) := by
    have := congrArg ByteArray.data h
    simpa [strOf] using this
  have hl : a.length = b.length := by simpa using congrArg List.length h
  apply List.ext_getElem hl
  intro i h1 h2
  have := congrArg (fun l => l[i]?) h
  simp only [List.getElem?_map, List.getElem?_eq_getElem h1, List.getElem?_eq_getElem h2, Option.map_some, Option.some.injEq] at this
  have p := ha _ (List.getElem_mem h1)
  have q := hb _ (List.getElem_mem h2)
  have := congrArg UInt8.toNat this
  simp only [UInt8.toNat_ofNat'] at this
  omega
theorem fold_push : ∀ (ns : List Int) (s : ByteArray), ns.foldl (fun r n => r.push (UInt8.ofNat n.toNat)) s = ⟨s.data ++ (ns.map fun z => UInt8.ofNat z.toNat).toArray⟩
  | [], s => by simp
  | n :: ns, s => by
    rw [List.foldl_cons, fold_push ns]
    simp [ByteArray.push]
theorem conv_run (W : World) (b o j r : Nat) (ns : List Int) (hl : ns.length = j) (h : Rd .u8 W (some ⟨b, o, none⟩) ns) :
    (convert 22 9 (.slice (some ⟨b, o, none⟩) j r)).run Try.prog W = .ok (.string (strOf ns)) W := by
  rw [run_convert_bytes_string W _ _ 5 (some ⟨b, o, none⟩) j r Try.underlying22 Try.underlying5 Try.underlying9]
  have hr : (loadCells ⟨b, o, none⟩ j).run Try.prog W = .ok (ns.map (Value.int .u8)).toArray W := by
    have := run_loadCells_list (P := Try.prog) W ⟨b, o, none⟩ (ns.map (Value.int .u8)) (fun i v hv => by
      rw [List.getElem?_map] at hv
      cases hn : ns[i]? with
      | none => rw [hn] at hv; cases hv
      | some z =>
        rw [hn] at hv
        simp at hv
        subst hv
        obtain ⟨x, e, _, hc⟩ := h.at_ i (List.getElem?_eq_some_iff.1 hn).1
        cases e
        rw [List.getD_eq_getElem?_getD, hn] at hc
        exact hc)
    rwa [List.length_map, hl] at this
  rw [run_bytesToString W ⟨b, o, none⟩ j r ns hr, fold_push]
  simp [strOf]

set_option maxHeartbeats 400000 in
theorem equal_any (w : World) (a b n m ca cb : Nat) (la lb : List Int) (ha : Rd .u8 w (some ⟨a, 0, none⟩) la) (hb : Rd .u8 w (some ⟨b, 0, none⟩) lb) (h1 : isBy la) (h2 : isBy lb) (hn : la.length = n) (hm : lb.length = m) :
    Calls Try.prog 55 #[.slice (some ⟨a, 0, none⟩) n ca, .slice (some ⟨b, 0, none⟩) m cb] w fun e w' => e = .returned (.bool (decide (la = lb))) ∧ w = w' := by
  have c1 := conv_run w a 0 n ca la hn ha
  have c2 := conv_run w b 0 m cb lb hm hb
  have he : Hid (((strOf la).toList == (strOf lb).toList) = decide (la = lb)) := (str_beq _ _).trans (decide_eq_decide.2 (strOf_inj h1 h2))
  generalize strOf la = u at *
  generalize strOf lb = v at *
  go_enter Try.func55, Try.ntmps55
  go_wp2_with fail
  go_ret
  exact ⟨bb he.out, rfl⟩

/-- What is told of block 0. -/
inductive NamedOf (c : Nat → List Int) : Int → Int → Bool → Prop where
  | yes {g h : Nat} (hd : IsHd (c 0) g h) : NamedOf c g h true
  | no (hd : ∀ g h, ¬ IsHd (c 0) g h) : NamedOf c 0 0 false
def NamedPost (c : Nat → List Int) (w : World) (e : Ending) (w' : World) : Prop := ∃ G k b, e = .returned (.tuple #[.int .i64 G, .int .i64 k, .bool b]) ∧ NamedOf c G k b ∧ Below w.heap.size w w'
/-- A disk whose blocks are bytes. -/
def ByD (s : DS) : Prop := ∀ k, isBy (s.c k) ∧ (s.c k).length = 64

set_option maxRecDepth 100000 in
set_option maxHeartbeats 1000000 in
theorem named_any (w : World) (d g : Nat) (s : DS) (h : DiskAt w d g s) (hB : ByD s) :
    Calls Try.prog 41 #[.pointer (some ⟨d, 0, none⟩)] w (NamedPost s.c w) := by
  have hlow := h.low
  have hH := Lib.hid h
  have HB0 := Lib.hid (hB 0)
  clear h hB
  go_enter Try.func41, Try.ntmps41
  go_wp2_with fail
  refine (read_yes w d g s hH.out 0 (by omega) (by omega)).mono ?_
  rintro e w1 ⟨rfl, b1, k1⟩
  obtain ⟨l, hl⟩ : ∃ l, Hid (s.c 0 = l) := ⟨_, rfl⟩
  have k1 : Blk w1 w.heap.size (ints .u8 l).toArray 5 := hl.out ▸ k1
  have h64 : l.length = 64 := hl.out ▸ HB0.out.2
  have hby : isBy l := hl.out ▸ HB0.out.1
  have hr8 : w1.cell? ⟨w.heap.size, 8, none⟩ = some (.int .u8 (l.getD 8 0)) := by
    rw [k1.cell, List.getElem?_toArray, ints_get _ _ _ (by omega)]
  have w8 : IntKind.i64.wrap (l.getD 8 0) = l.getD 8 0 := by have := hby.get 8; rw [IntKind.wrap_i64]; omega
  have hrd : Rd .u8 w1 (some ⟨w.heap.size, 4, none⟩) (l.drop 4) := k1.rd 4 (fun j hj => by
    rw [List.length_drop] at hj
    rw [List.getElem?_toArray, ints_get _ _ _ (by omega)]
    simp [List.getD_eq_getElem?_getD])
  have hby4 : isBy (l.drop 4) := fun z hz => hby z (List.mem_of_mem_drop hz)
  have h4 : four (l.drop 4) 0 = four l 4 := by simp [four, List.getD_eq_getElem?_getD]
  have HY := Lib.hid (fun a1 a2 a3 a4 => named_yes hby a1 a2 a3 a4)
  have HN := Lib.hid (named_no (b := l))
  have hF := four_nat hby 4
  have h8 := hby.get 8
  have HRD := Lib.hid hrd
  have HK1 := Lib.hid k1
  have HGET : Hid (∀ n, Calls Try.prog 54 #[.slice (some ⟨w.heap.size, 4, none⟩) 60 60] (w1.drewN n) fun e w' => e = .returned (.int .i64 (four l 4)) ∧ Drawn (w1.drewN n) w') := fun n => by
    rw [← h4]
    exact get4_any _ _ _ _ _ _ (HRD.out.drawn ((Drawn.refl _).drewN _)) hby4 (by rw [List.length_drop]; omega) (by omega)
  have HBY := Lib.hid hby
  have HL0 : Hid (∀ g k, IsHd l g k → IsHd (s.c 0) g k) := fun g k h => by rw [hl.out]; exact h
  have HL1 : Hid (∀ g k, IsHd (s.c 0) g k → IsHd l g k) := fun g k h => by rw [hl.out] at h; exact h
  generalize l.getD 8 0 = p at *
  generalize four l 4 = G at *
  clear hrd k1 h4 hby4 hby
  go_wp2_with fail
  go_quiet (first | (go_at_call 54; exact quiet_drawn (HGET.out _)))
  have b1' : Below w.heap.size w (w1.drewN nq) := bel_next b1 (((Drawn.refl _).drewN nq).below _)
  have HK1' : Hid (Blk (w1.drewN nq) w.heap.size (ints .u8 l).toArray 5) := HK1.out.drewN _
  obtain ⟨W, hW⟩ : ∃ W, W = w1.drewN nq := ⟨_, rfl⟩
  rw [← hW] at b1' HK1' ⊢
  clear hW
  by_cases a1 : G < 1
  · go_wp2_with fail
    go_ret3
    exact ⟨_, _, _, rfl, .no (fun g k h => HN.out (by omega) g k (HL1.out g k h)), b1'⟩
  by_cases a2 : 1073741824 < G
  · go_wp2_with fail
    go_ret3
    exact ⟨_, _, _, rfl, .no (fun g k h => HN.out (by omega) g k (HL1.out g k h)), b1'⟩
  by_cases a3 : 1 < p
  · go_wp2_with fail
    go_ret3
    exact ⟨_, _, _, rfl, .no (fun g k h => HN.out (by omega) g k (HL1.out g k h)), b1'⟩
  go_wp2_with fail
  refine (header_any W G p).mono ?_
  rintro e w2 ⟨rfl, b2, k2⟩
  go_wp2_with fail
  refine (equal_any w2 _ _ 64 64 64 64 l (hdL G p) (HK1'.out.below b2).rdl k2.rdl HBY.out (hd_by _ _) h64 (hd_len _ _)).mono ?_
  rintro e w3 ⟨rfl, rfl⟩
  have b3 := bel_next b1' b2
  by_cases a4 : l = hdL G p
  · rw [decide_eq_true a4]
    have A4 := Lib.hid a4
    clear a4 k2
    go_wp2_with fail
    go_ret3
    have := HL0.out _ _ (HY.out (by omega) (by omega) (by omega) A4.out)
    refine ⟨_, _, _, rfl, ?_, b3⟩
    have := NamedOf.yes this
    rwa [Int.toNat_of_nonneg (by omega), Int.toNat_of_nonneg (by omega)] at this
  · rw [decide_eq_false a4]
    have A4 := Lib.hid a4
    clear a4 k2
    go_wp2_with fail
    go_ret3
    exact ⟨_, _, _, rfl, .no (fun g k h => HN.out (fun t => A4.out t.2.2.2) g k (HL1.out g k h)), b3⟩

end Go.Proofs.Ytmliiggieclbeaa
