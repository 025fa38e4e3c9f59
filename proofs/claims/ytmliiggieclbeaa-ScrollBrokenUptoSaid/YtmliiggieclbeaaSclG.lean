/- The scroll's read: one record, or none. -/
import Derived.Test.YtmliiggieclbeaaSclF
import Derived.Deep.Cut
namespace Go.Proofs.Ytmliiggieclbeaa
open Go.RowKit

theorem binfo : (Try.prog.info? 5).map (fun i => (i.zero.map (fun z => z.cells.size), i.size, i.bytes)) = some (some 1, 1, 1) := by kernel_rfl
theorem ints_app (k : IntKind) (a b : List Int) : ints k (a ++ b) = ints k a ++ ints k b := by simp [ints]
/-- What k pieces hold. -/
def flat (c : Nat → List Int) (st at' k : Nat) : List Int := ((List.range k).map (dataAt c st at')).flatten
theorem flat_succ (c : Nat → List Int) (st at' k : Nat) : flat c st at' (k + 1) = flat c st at' k ++ dataAt c st at' k := by simp [flat, List.range_succ]
def ReadPost (s : DS) (r : Scr) (w : World) (e : Ending) (w' : World) : Prop :=
  (∃ count A c, e = .returned (.tuple #[.slice A (recL s.c (startN s.n r.h) r.used count).length c, .bool true]) ∧ RecAt s.c (halfN s.n) (startN s.n r.h) r.gen r.used r.num count ∧
    w'.ownsRow w.heap.size 5 1 (.slice A (recL s.c (startN s.n r.h) r.used count).length c) (recL s.c (startN s.n r.h) r.used count).length (ints .u8 (recL s.c (startN s.n r.h) r.used count)) ∧ Below w.heap.size w w') ∨
  (e = .returned (.tuple #[.slice none 0 0, .bool false]) ∧ (∀ count, ¬ RecAt s.c (halfN s.n) (startN s.n r.h) r.gen r.used r.num count) ∧ Below w.heap.size w w')

/-- The state of the reading ahead of piece k. -/
structure RdSt (s : DS) (r : Scr) (w : World) (k : Nat) (A : Option Addr) (c L : Nat) (wr : World) : Prop where
  own : wr.ownsRow w.heap.size 5 1 (.slice A L c) L (ints .u8 (flat s.c (startN s.n r.h) r.used k))
  len : L ≤ 53 * k
  bel : Below w.heap.size w wr

/-- One piece more. -/
theorem RdSt.step {s : DS} {r : Scr} {w wr W : World} {k : Nat} {A : Option Addr} {c L : Nat} (h : RdSt s r w k A c L wr) (hk : k ≤ 8) (hb : Below wr.heap.size wr W) {b n : Nat} {l : List Int} {t : TypeId} (hB : Blk W b (ints .u8 l).toArray t) (hl : l.length = 64) (hls : s.c (startN s.n r.h + r.used + k) = l)
    (hn : l.getD 10 0 = (n : Int)) (h53 : n ≤ 53) :
    ∃ A' c' w2, (Builtin.append_ #[22, 22] 22 #[.slice A L c, .slice (some ⟨b, 11, none⟩) n 53]).run Try.prog W = .ok (.slice A' (L + n) c') w2 ∧ RdSt s r w (k + 1) A' c' (L + n) w2 := by
  have hd : dataAt s.c (startN s.n r.h) r.used k = (l.drop 11).take n := by unfold dataAt; rw [hls, hn]; rfl
  have hlen : ((l.drop 11).take n).length = n := by rw [List.length_take, List.length_drop]; omega
  have h8 := h.len
  have hsz := h.bel.size
  have hsz2 := hb.size
  obtain ⟨v', w2, hr, ho, hg⟩ := append_run (P := Try.prog) (w := W) 22 Try.underlying22 binfo (by omega) (own_below h.own hb)
    (news := ints .u8 ((l.drop 11).take n)) (a := ⟨b, 11, none⟩) (m := n) (c := 53) (by rw [ints_length, hlen, Nat.mul_one])
    (fun j u hu => by
      have hj : j < n := by have := (List.getElem?_eq_some_iff.1 hu).1; rwa [ints_length, hlen] at this
      rw [Addr.add_mid, hB.cell, List.getElem?_toArray, ints_get _ _ _ (by omega), ← hu, ints_get _ _ _ (by omega)]
      congr 2
      rw [List.getD_eq_getElem?_getD, List.getD_eq_getElem?_getD, List.getElem?_take, if_pos hj, List.getElem?_drop])
    (ints_one _ _) (by omega) (by omega) (by omega)
  obtain ⟨A2, c2, rfl⟩ := own_form ho
  refine ⟨A2, c2, w2, hr, ?_, by omega, grown_below (bel_next h.bel hb) hg (by omega) (own_ge h.own)⟩
  rw [flat_succ, ints_app, hd]
  exact ho
theorem piece_facts (l : List Int) (hby : isBy l) : ∃ n c9 p8 G N : Nat, l.getD 10 0 = n ∧ l.getD 9 0 = c9 ∧ l.getD 8 0 = p8 ∧ four l 0 = G ∧ four l 4 = N ∧ n < 256 ∧ c9 < 256 ∧ p8 < 256 ∧ G < 4294967296 ∧ N < 4294967296 := by
  have h0 := four_nat hby 0
  have h4 := four_nat hby 4
  have h8 := hby.get 8
  have h9 := hby.get 9
  have h10 := hby.get 10
  exact ⟨(l.getD 10 0).toNat, (l.getD 9 0).toNat, (l.getD 8 0).toNat, (four l 0).toNat, (four l 4).toNat, by omega, by omega, by omega, by omega, by omega, by omega, by omega, by omega, by omega, by omega⟩
theorem piece_cell {w : World} {b : Nat} {l : List Int} {t : TypeId} (h : Blk w b (ints .u8 l).toArray t) (h64 : l.length = 64) {j : Nat} (hj : j < 64) {n : Nat} (e : l.getD j 0 = (n : Int)) : w.cell? ⟨b, j, none⟩ = some (.int .u8 (n : Int)) := by
  rw [h.cell, List.getElem?_toArray, ints_get _ _ _ (by omega), e]
theorem get4_next {w1 : World} {b : Nat} {l : List Int} {t : TypeId} (k1 : Blk w1 b (ints .u8 l).toArray t) (hb : isBy l) (hl : l.length = 64) :
    Calls Try.prog 54 #[.slice (some ⟨b, 4, none⟩) 60 60] w1 fun e w' => e = .returned (.int .i64 (four l 4)) ∧ Drawn w1 w' := by
  have hrd : Rd .u8 w1 (some ⟨b, 4, none⟩) (l.drop 4) := k1.rd 4 (fun j hj => by
    rw [List.length_drop] at hj
    rw [List.getElem?_toArray, ints_get _ _ _ (by omega)]
    simp [List.getD_eq_getElem?_getD])
  have hby4 : isBy (l.drop 4) := fun z hz => hb z (List.mem_of_mem_drop hz)
  have h4 : four (l.drop 4) 0 = four l 4 := by simp [four, List.getD_eq_getElem?_getD]
  rw [← h4]
  exact get4_any w1 b 4 60 60 (l.drop 4) hrd hby4 (by rw [List.length_drop]; omega) (by omega)
theorem rec_of (s : DS) (r : Scr) {count : Nat} (h : RecAt s.c (halfN s.n) (startN s.n r.h) r.gen r.used r.num count) {k : Nat} (hk : k < count) : PartOk s.c (halfN s.n) (startN s.n r.h) r.gen r.used r.num count k := h.2.2 k hk

set_option maxRecDepth 100000 in
set_option maxHeartbeats 4000000 in
theorem read_rec (w : World) (p d g : Nat) (s : DS) (r : Scr) (h : DiskAt w d g s) (hB : ByD s) (hr : ScrAt w p d r) (hu : r.used ≤ halfN s.n) (hh : r.h ≤ 1) :
    Calls Try.prog 42 #[.pointer (some ⟨p, 0, none⟩)] w (ReadPost s r w) := by
  have hhi := h.high
  have hle := halfN_le s.n hhi
  have hst := startN_le s.n r.h hhi hh
  have HD : Hid (∀ W, Below w.heap.size w W → DiskAt W d g s ∧ ScrAt W p d r) := fun W hb => ⟨h.below hb, hr.below hb⟩
  have HB := Lib.hid hB
  clear h hr hB
  go_enter Try.func42, Try.ntmps42
  go_wp2_with fail
  go_loopw [4, 5, 6] (fun v4 v5 v6 wr => ∃ k cnt : Nat, v6 = .int .i64 k ∧ v5 = .int .i64 cnt ∧ (∃ A c L, v4 = .slice A L c ∧ RdSt s r w k A c L wr) ∧ k ≤ cnt ∧ cnt ≤ 8 ∧ ((k = 0 ∧ cnt = 1) ∨ (1 ≤ k ∧ Hid (∀ j, j < k → PartOk s.c (halfN s.n) (startN s.n r.h) r.gen r.used r.num cnt j)))) (fun _ _ v _ => 9 - (intOf v).toNat)
  case atStart => exact ⟨0, 1, rfl, rfl, ⟨none, 0, 0, rfl, ⟨own_none _ _ _ _, by omega, Below.refl _ _⟩⟩, by omega, by omega, .inl ⟨rfl, rfl⟩⟩
  case round =>
    obtain ⟨k, cnt, rfl, rfl, ⟨A, c, L, rfl, hS⟩, hkc, hc8, hst0⟩ := hrel
    have HS := Lib.hid hS
    have hbel := hS.bel
    clear hS
    rcases hst0 with ⟨rfl, rfl⟩ | ⟨hk1, HP⟩
    · obtain ⟨l, hl⟩ : ∃ l, Hid (s.c (startN s.n r.h + r.used + 0) = l) := ⟨_, rfl⟩
      have hl64 : l.length = 64 := by rw [← hl.out]; exact (HB.out _).2
      have hby : isBy l := by rw [← hl.out]; exact (HB.out _).1
      have HRP : Hid (∀ m, RecAt s.c (halfN s.n) (startN s.n r.h) r.gen r.used r.num m → PartOk s.c (halfN s.n) (startN s.n r.h) r.gen r.used r.num m 0 ) := fun m hm => by
        exact rec_of s r hm (by have := hm.1; omega)
      go_wp2_with fail
      refine (room_any wr p d g s r (HD.out wr hbel).1 (HD.out wr hbel).2 hu).mono ?_
      rintro e wa ⟨rfl, da⟩
      have hbela := bel_next hbel (da.below _)
      by_cases hroom : 0 < halfN s.n - r.used
      · have HI : Hid (startN s.n r.h + r.used + 0 < s.n) := by
          show _ < _
          have := (half_in (n := s.n) (h := r.h) (i := r.used + 0) hh (by omega)).1
          omega
        have HR : Hid (∀ w2, Below w.heap.size w w2 → Calls Try.prog 34 #[.pointer (some ⟨d, 0, none⟩), .int .i64 ((startN s.n r.h : Int) + (r.used : Int))] w2 fun e w' => e = .returned (.tuple #[.slice (some ⟨w2.heap.size, 0, none⟩) 64 64, .int .i64 0]) ∧ Below w2.heap.size w2 w' ∧ Blk w' w2.heap.size (ints .u8 l).toArray 5) := fun w2 hb2 => by
          have := read_ok w2 d g s (HD.out w2 hb2).1 (startN s.n r.h + r.used + 0) HI.out
          rw [hl.out] at this
          first | exact this | rwa [Int.natCast_add, Int.natCast_add] at this | rwa [Nat.add_zero, Int.natCast_add] at this
        have cA := (HD.out wa hbela).2.cells.1
        have bA : Below w.heap.size w wa.drew := bel_next hbela ((Drawn.refl wa).drew.below _)
        have hwI : IntKind.i64.wrap ((startN s.n r.h : Int) + (r.used : Int)) = (startN s.n r.h : Int) + (r.used : Int) := by rw [IntKind.wrap_i64]; omega
        have hwK : IntKind.i64.wrap ((startN s.n r.h : Int) + (r.used : Int)) = (startN s.n r.h : Int) + (r.used : Int) := by rw [IntKind.wrap_i64]; omega
        go_upto_region 8 with fail
        refine wp_region_held_drew (S := (fun w' => w'.cell? ⟨p, 0, none⟩ = some (.pointer (some ⟨d, 0, none⟩)))) (by kernel_rfl) cA (fun hHeld => ?_)
        refine' wpAnyH_take (i := 0) (oi := { dst := some 20, op := Op.move (Operand.tmp 0), type := 29, pos := "scroll.go:134", after := #[], guard := none }) (v := ?v1) rfl (by kernel_rfl) (by kernel_rfl) (by kernel_rfl) (fun _ _ _ h => h) (Or.inl ⟨by rfl, ?hy1⟩) hHeld ?rest1
        case hy1 => (intro w hSw; obtain k0 := hSw; go_simp; (try with_reducible rfl))
        simp only [Act.put, List.setIfInBounds_toArray, List.set_cons_zero, List.set_cons_succ]
        refine' wpAnyH_take (i := 1) (oi := { dst := some 21, op := Op.nilCheck (Operand.tmp 20), type := 0, pos := "scroll.go:134", after := #[{ on := 0, ground := Ground.data }], guard := none }) (v := ?v2) rfl (by kernel_rfl) (by kernel_rfl) (by kernel_rfl) (fun _ _ _ h => h) (Or.inl ⟨by rfl, ?hy2⟩) hHeld ?rest2
        case hy2 => (intro w hSw; obtain k0 := hSw; go_simp; (try with_reducible rfl))
        simp only [Act.put, List.setIfInBounds_toArray, List.set_cons_zero, List.set_cons_succ]
        refine' wpAnyH_take (i := 2) (oi := { dst := some 22, op := Op.fieldAddr 64 (Operand.tmp 21) 0, type := 0, pos := "scroll.go:134", after := #[{ on := 1, ground := Ground.data }], guard := none }) (v := ?v3) rfl (by kernel_rfl) (by kernel_rfl) (by kernel_rfl) (fun _ _ _ h => h) (Or.inl ⟨by rfl, ?hy3⟩) hHeld ?rest3
        case hy3 => (intro w hSw; obtain k0 := hSw; go_simp; (try with_reducible rfl))
        simp only [Act.put, List.setIfInBounds_toArray, List.set_cons_zero, List.set_cons_succ]
        refine' wpAnyH_take (i := 3) (oi := { dst := some 23, op := Op.load 28 (Operand.tmp 22), type := 28, pos := "scroll.go:134", after := #[{ on := 2, ground := Ground.data }], guard := none }) (v := ?v4) rfl (by kernel_rfl) (by kernel_rfl) (by kernel_rfl) (fun _ _ _ h => h) (Or.inl ⟨by rfl, ?hy4⟩) hHeld ?rest4
        case hy4 => (intro w hSw; obtain k0 := hSw; go_simp; (try with_reducible rfl))
        simp only [Act.put, List.setIfInBounds_toArray, List.set_cons_zero, List.set_cons_succ]
        refine' wpAnyH_take (i := 4) (oi := { dst := some 24, op := Op.move (Operand.tmp 0), type := 29, pos := "scroll.go:134", after := #[], guard := none }) (v := ?v5) rfl (by kernel_rfl) (by kernel_rfl) (by kernel_rfl) (fun _ _ _ h => h) (Or.inl ⟨by rfl, ?hy5⟩) hHeld ?rest5
        case hy5 => (intro w hSw; obtain k0 := hSw; go_simp; (try with_reducible rfl))
        simp only [Act.put, List.setIfInBounds_toArray, List.set_cons_zero, List.set_cons_succ]
        refine' wpAnyH_take (i := 6) (oi := { dst := some 26, op := Op.move (Operand.tmp 6), type := 3, pos := "scroll.go:134", after := #[], guard := none }) (v := ?v6) rfl (by kernel_rfl) (by kernel_rfl) (by kernel_rfl) (fun _ _ _ h => h) (Or.inl ⟨by rfl, ?hy6⟩) hHeld ?rest6
        case hy6 => (intro w hSw; obtain k0 := hSw; go_simp; (try with_reducible rfl))
        simp only [Act.put, List.setIfInBounds_toArray, List.set_cons_zero, List.set_cons_succ]
        refine wpAnyH_ready (rs := [5]) (by kernel_rfl) (by simp) ?_
        refine AllReadyH.cons (o := { dst := some 25, op := Op.call { callee := Callee.value (Operand.func 38), args := #[Operand.tmp 24], argTypes := #[29] }, type := 3, pos := "scroll.go:134", after := #[{ on := 4, ground := Ground.data }], guard := none }) rfl (fun K hK => ?_) AllReadyH.nil
        go_simp
        refine (free_any wa.drew p d g s r (HD.out wa.drew bA).1 (HD.out wa.drew bA).2 hu hh).mono ?_
        rintro e w2 ⟨rfl, d2⟩
        have b2 := bel_next bA (d2.below _)
        have cB := (HD.out w2 b2).2.cells.1
        go_wp2_with fail
        refine hK.out _ _ cB (fun hHeld => ?_)
        clear hK K
        try simp only [Act.put, List.setIfInBounds_toArray, List.set_cons_zero, List.set_cons_succ]
        refine' wpAnyH_take (i := 7) (oi := { dst := some 27, op := Op.binOp BinOp.add 3 (Operand.tmp 25) (Operand.tmp 26) 3, type := 3, pos := "scroll.go:134", after := #[{ on := 5, ground := Ground.data }, { on := 6, ground := Ground.data }], guard := none }) (v := ?v7) rfl (by kernel_rfl) (by kernel_rfl) (by kernel_rfl) (fun _ _ _ h => h) (Or.inl ⟨by rfl, ?hy7⟩) hHeld ?rest7
        case hy7 => (intro w hSw; obtain k0 := hSw; go_simp; (try with_reducible rfl))
        simp only [Act.put, List.setIfInBounds_toArray, List.set_cons_zero, List.set_cons_succ]
        refine wpAnyH_ready (rs := [8]) (by kernel_rfl) (by simp) ?_
        refine AllReadyH.cons (o := { dst := some 28, op := Op.call { callee := Callee.value (Operand.func 34), args := #[Operand.tmp 23, Operand.tmp 27], argTypes := #[28, 3] }, type := 60, pos := "scroll.go:134", after := #[{ on := 3, ground := Ground.data }, { on := 7, ground := Ground.data }, { on := 5, ground := Ground.chain }], guard := none }) rfl (fun K hK => ?_) AllReadyH.nil
        go_simp
        refine (HR.out w2 b2).mono ?_
        rintro e w3 ⟨rfl, b3', k3⟩
        have b3 := bel_next b2 b3'
        have cC := (HD.out w3 b3).2.cells.1
        go_wp2_with fail
        refine hK.out _ _ cC (fun hHeld => ?_)
        clear hK K
        try simp only [Act.put, List.setIfInBounds_toArray, List.set_cons_zero, List.set_cons_succ]
        refine' wpAnyH_take (i := 9) (oi := { dst := some 19, op := Op.move (Operand.tmp 28), type := 60, pos := "scroll.go:134", after := #[{ on := 8, ground := Ground.data }], guard := none }) (v := ?v8) rfl (by kernel_rfl) (by kernel_rfl) (by kernel_rfl) (fun _ _ _ h => h) (Or.inl ⟨by rfl, ?hy8⟩) hHeld ?rest8
        case hy8 => (intro w hSw; obtain k0 := hSw; go_simp; (try with_reducible rfl))
        simp only [Act.put, List.setIfInBounds_toArray, List.set_cons_zero, List.set_cons_succ]
        refine' wpAnyH_take (i := 10) (oi := { dst := some 29, op := Op.extract (Operand.tmp 19) 0, type := 22, pos := "scroll.go:134", after := #[{ on := 9, ground := Ground.data }], guard := none }) (v := ?v9) rfl (by kernel_rfl) (by kernel_rfl) (by kernel_rfl) (fun _ _ _ h => h) (Or.inl ⟨by rfl, ?hy9⟩) hHeld ?rest9
        case hy9 => (intro w hSw; obtain k0 := hSw; go_simp; (try with_reducible rfl))
        simp only [Act.put, List.setIfInBounds_toArray, List.set_cons_zero, List.set_cons_succ]
        refine' wpAnyH_take (i := 11) (oi := { dst := some 30, op := Op.extract (Operand.tmp 19) 1, type := 36, pos := "scroll.go:134", after := #[{ on := 9, ground := Ground.data }, { on := 12, ground := Ground.gcOnly Departure.lateStores }], guard := none }) (v := ?v10) rfl (by kernel_rfl) (by kernel_rfl) (by kernel_rfl) (fun _ _ _ h => h) (Or.inl ⟨by rfl, ?hy10⟩) hHeld ?rest10
        case hy10 => (intro w hSw; obtain k0 := hSw; go_simp; (try with_reducible rfl))
        simp only [Act.put, List.setIfInBounds_toArray, List.set_cons_zero, List.set_cons_succ]
        refine' wpAnyH_take (i := 12) (oi := { dst := some 7, op := Op.assign (Operand.tmp 29), type := 22, pos := "scroll.go:134", after := #[{ on := 10, ground := Ground.data }, { on := 8, ground := Ground.chain }, { on := 0, ground := Ground.phase }, { on := 1, ground := Ground.phase }, { on := 2, ground := Ground.phase }, { on := 3, ground := Ground.phase }, { on := 4, ground := Ground.phase }, { on := 5, ground := Ground.phase }, { on := 6, ground := Ground.phase }, { on := 7, ground := Ground.phase }, { on := 8, ground := Ground.phase }, { on := 9, ground := Ground.phase }, { on := 10, ground := Ground.phase }, { on := 11, ground := Ground.textOnly Departure.lateStores }], guard := none }) (v := ?v11) rfl (by kernel_rfl) (by kernel_rfl) (by kernel_rfl) (fun _ _ _ h => h) (Or.inl ⟨by rfl, ?hy11⟩) hHeld ?rest11
        case hy11 => (intro w hSw; obtain k0 := hSw; go_simp; (try with_reducible rfl))
        simp only [Act.put, List.setIfInBounds_toArray, List.set_cons_zero, List.set_cons_succ]
        refine' wpAnyH_take (i := 13) (oi := { dst := some 8, op := Op.assign (Operand.tmp 30), type := 36, pos := "scroll.go:134", after := #[{ on := 11, ground := Ground.data }, { on := 12, ground := Ground.chain }, { on := 0, ground := Ground.phase }, { on := 1, ground := Ground.phase }, { on := 2, ground := Ground.phase }, { on := 3, ground := Ground.phase }, { on := 4, ground := Ground.phase }, { on := 5, ground := Ground.phase }, { on := 6, ground := Ground.phase }, { on := 7, ground := Ground.phase }, { on := 8, ground := Ground.phase }, { on := 9, ground := Ground.phase }, { on := 10, ground := Ground.phase }, { on := 11, ground := Ground.phase }, { on := 12, ground := Ground.phase }], guard := none }) (v := ?v12) rfl (by kernel_rfl) (by kernel_rfl) (by kernel_rfl) (fun _ _ _ h => h) (Or.inl ⟨by rfl, ?hy12⟩) hHeld ?rest12
        case hy12 => (intro w hSw; obtain k0 := hSw; go_simp; (try with_reducible rfl))
        simp only [Act.put, List.setIfInBounds_toArray, List.set_cons_zero, List.set_cons_succ]
        refine wpAnyH_done (by kernel_rfl) ?_ _
        have K3 := Lib.hid k3
        have HB3 := Lib.hid b3
        obtain ⟨b, hb⟩ : ∃ b, Hid (w2.heap.size = b) := ⟨_, rfl⟩
        obtain ⟨n, c9, p8, G, N, e10, e9, e8, e0, e4, l10, l9, l8, l0, l4⟩ := piece_facts l hby
        have x10 : w3.cell? ⟨w2.heap.size, 10, none⟩ = some (.int .u8 (n : Int)) := piece_cell k3 hl64 (by omega) e10
        have x9 : w3.cell? ⟨w2.heap.size, 9, none⟩ = some (.int .u8 (c9 : Int)) := piece_cell k3 hl64 (by omega) e9
        have x8 : w3.cell? ⟨w2.heap.size, 8, none⟩ = some (.int .u8 (p8 : Int)) := piece_cell k3 hl64 (by omega) e8
        have y10 : IntKind.i64.wrap (n : Int) = n := by rw [IntKind.wrap_i64]; omega
        have y9 : IntKind.i64.wrap (c9 : Int) = c9 := by rw [IntKind.wrap_i64]; omega
        have y8 : IntKind.i64.wrap (p8 : Int) = p8 := by rw [IntKind.wrap_i64]; omega
        obtain ⟨_, _, z2, z3, z4, _⟩ := (HD.out w3 b3).2.cells
        have HX : Hid (∀ m, RecAt s.c (halfN s.n) (startN s.n r.h) r.gen r.used r.num m → G = r.gen ∧ N = r.num ∧ p8 = 0 ∧ c9 = c9 ∧ 1 ≤ c9 ∧ c9 ≤ 8 ∧ 1 ≤ n ∧ n ≤ 53 ∧ (0 + 1 < c9 → n = 53)) := fun m hm => by
          have pp := HRP.out m hm
          have q := hm.1
          have q' := hm.2.1
          have g1 := pp.gen
          have g2 := pp.nums
          have g3 := pp.part
          have g4 := pp.cnt
          have g5 := pp.n1
          have g6 := pp.n2
          have g7 := pp.full
          rw [hl.out] at g1 g2 g3 g4 g5 g6 g7
          exact ⟨by omega, by omega, by omega, by omega, by omega, by omega, by omega, by omega, fun h => by have := g7 (by omega); omega⟩
        have HOK : Hid (G = r.gen → N = r.num → p8 = 0 → c9 = c9 → 1 ≤ n → n ≤ 53 → (0 + 1 < c9 → n = 53) → PartOk s.c (halfN s.n) (startN s.n r.h) r.gen r.used r.num c9 0) := fun t1 t2 t3 t4 t5 t6 t7 =>
          ⟨by omega, by rw [hl.out]; omega, by rw [hl.out]; omega, by rw [hl.out]; omega, by rw [hl.out]; omega, by rw [hl.out]; omega, by rw [hl.out]; omega, fun h => by rw [hl.out]; have := t7 h; omega⟩
        have HG1 : Hid (∀ W b, Blk W b (ints .u8 l).toArray 5 → Calls Try.prog 54 #[.slice (some ⟨b, 0, none⟩) 64 64] W fun e w' => e = .returned (.int .i64 (G : Int)) ∧ Drawn W w') := fun W b hW => by
          rw [← e0]; exact get4_any W b 0 64 64 l hW.rdl hby hl64 (by omega)
        have HG2 : Hid (∀ W b, Blk W b (ints .u8 l).toArray 5 → Calls Try.prog 54 #[.slice (some ⟨b, 4, none⟩) 60 60] W fun e w' => e = .returned (.int .i64 (N : Int)) ∧ Drawn W w') := fun W b hW => by
          rw [← e4]; exact get4_next hW hby hl64
        have HN10 := Lib.hid e10
        have HSEP := Lib.hid b3'
        have hroomh := Lib.hid hroom
        clear e10 e9 e8 e0 e4 k3 hroom cA cB cC bA
        go_wp2_with fail
        go_quiet (first | (go_at_call 54; exact quiet_drawn (HG1.out _ _ (K3.out.drewN _))))
        by_cases q1 : G = r.gen
        · have HBW : Hid (Below w.heap.size w (w3.drewN nq)) := bel_next HB3.out (((Drawn.refl _).drewN _).below _)
          have HRW : Hid (Below wr.heap.size wr (w3.drewN nq)) := bel_next (bel_next (bel_next (bel_next (da.below _) ((Drawn.refl wa).drew.below _)) (d2.below _)) HSEP.out) (((Drawn.refl _).drewN _).below _)
          have KW : Hid (Blk (w3.drewN nq) w2.heap.size (ints .u8 l).toArray 5) := K3.out.drewN _
          have X8 : (w3.drewN nq).cell? ⟨w2.heap.size, 8, none⟩ = some (.int .u8 (p8 : Int)) := x8
          have X9 : (w3.drewN nq).cell? ⟨w2.heap.size, 9, none⟩ = some (.int .u8 (c9 : Int)) := x9
          have Z3 : (w3.drewN nq).cell? ⟨p, 3, none⟩ = some (.int .i64 r.num) := z3
          obtain ⟨W, hW⟩ : ∃ W, W = w3.drewN nq := ⟨_, rfl⟩
          rw [← hW] at HBW HRW KW X8 X9 Z3 ⊢
          clear hW x8 x9 x10 z2 z3 z4
          go_wp2_with fail
          go_quiet (first | (go_at_call 54; exact quiet_drawn (HG2.out _ _ (KW.out.drewN _))))
          by_cases q2 : N = r.num
          · by_cases q3 : p8 = 0
            · by_cases q4 : c9 = c9
              · by_cases q5 : c9 < 1
                · first
                  | (exfalso; first | omega | exact q4 rfl)
                  | (go_wp2_with fail
                     go_ret2
                     exact .inr ⟨rfl, fun m hm => absurd (HX.out m hm) (fun t => by omega), bel_next HBW.out (((Drawn.refl _).drewN _).below _)⟩)
                · by_cases q6 : 8 < c9
                  · first
                    | (exfalso; first | omega | exact q4 rfl)
                    | (go_wp2_with fail
                       go_ret2
                       exact .inr ⟨rfl, fun m hm => absurd (HX.out m hm) (fun t => by omega), bel_next HBW.out (((Drawn.refl _).drewN _).below _)⟩)
                  · by_cases q7 : n < 1
                    · first
                      | (exfalso; first | omega | exact q4 rfl)
                      | (go_wp2_with fail
                         go_ret2
                         exact .inr ⟨rfl, fun m hm => absurd (HX.out m hm) (fun t => by omega), bel_next HBW.out (((Drawn.refl _).drewN _).below _)⟩)
                    · by_cases q8 : 53 < n
                      · first
                        | (exfalso; first | omega | exact q4 rfl)
                        | (go_wp2_with fail
                           go_ret2
                           exact .inr ⟨rfl, fun m hm => absurd (HX.out m hm) (fun t => by omega), bel_next HBW.out (((Drawn.refl _).drewN _).below _)⟩)
                      · by_cases q9 : 0 + 1 < c9 ∧ n < 53
                        · first
                          | (exfalso; first | omega | exact q4 rfl)
                          | (go_wp2_with fail
                             go_ret2
                             exact .inr ⟨rfl, fun m hm => absurd (HX.out m hm) (fun t => by omega), bel_next HBW.out (((Drawn.refl _).drewN _).below _)⟩)
                        · have hbr : Below wr.heap.size wr (W.drewN nq) := bel_next HRW.out (((Drawn.refl _).drewN _).below _)
                          obtain ⟨A', c', w5, hr, hS'⟩ := RdSt.step HS.out (by omega) hbr (KW.out.drewN nq) hl64 hl.out HN10.out (by omega)
                          have HS' := Lib.hid hS'
                          have HPN : Hid (∀ j, j < 0 + 1 → PartOk s.c (halfN s.n) (startN s.n r.h) r.gen r.used r.num c9 j) := fun j hj => by
                            obtain rfl : j = 0 := by omega
                            exact HOK.out (by omega) (by omega) (by omega) (by first | trivial | rfl | omega) (by omega) (by omega) (fun h => by omega)
                          clear hS' hbr Z3
                          have hr' : (Builtin.append_ #[22, 22] 22 #[.slice A L c, .slice (some ⟨w2.heap.size, 11, none⟩) (11 + n - 11) 53]).run Try.prog (W.drewN nq) = .ok (.slice A' (L + n) c') w5 := by rw [Nat.add_sub_cancel_left]; exact hr
                          clear hr
                          go_wp2_with (first | (at_builtin; (with_reducible refine wpList_append_run rfl _ _ _ _ rfl _ _ _ ?_ ?_ hr' ?_); rfl; rfl))
                          all_goals
                            go_roundw
                            case rel => exact ⟨0 + 1, c9, by go_num, rfl, ⟨A', c', L + n, rfl, HS'.out⟩, by omega, by omega, .inr ⟨by omega, HPN⟩⟩
                            case measure => first | (simp [intOf]; done) | (simp [intOf]; omega)
              · first
                | (exfalso; first | omega | exact q4 rfl)
                | (go_wp2_with fail
                   go_ret2
                   exact .inr ⟨rfl, fun m hm => absurd (HX.out m hm) (fun t => by omega), bel_next HBW.out (((Drawn.refl _).drewN _).below _)⟩)
            · first
              | (exfalso; first | omega | exact q4 rfl)
              | (go_wp2_with fail
                 go_ret2
                 exact .inr ⟨rfl, fun m hm => absurd (HX.out m hm) (fun t => by omega), bel_next HBW.out (((Drawn.refl _).drewN _).below _)⟩)
          · first
            | (exfalso; first | omega | exact q4 rfl)
            | (go_wp2_with fail
               go_ret2
               exact .inr ⟨rfl, fun m hm => absurd (HX.out m hm) (fun t => by omega), bel_next HBW.out (((Drawn.refl _).drewN _).below _)⟩)
        · go_wp2_with fail
          go_ret2
          exact .inr ⟨rfl, fun m hm => q1 (HX.out m hm).1, bel_next HB3.out (((Drawn.refl _).drewN _).below _)⟩
      · go_wp2_with fail
        go_ret2
        exact .inr ⟨rfl, fun m hm => by have := (HRP.out m hm).room; omega, hbela⟩
    · by_cases hlt : k < cnt
      · obtain ⟨l, hl⟩ : ∃ l, Hid (s.c (startN s.n r.h + r.used + k) = l) := ⟨_, rfl⟩
        have hl64 : l.length = 64 := by rw [← hl.out]; exact (HB.out _).2
        have hby : isBy l := by rw [← hl.out]; exact (HB.out _).1
        have HRP : Hid (∀ m, RecAt s.c (halfN s.n) (startN s.n r.h) r.gen r.used r.num m → PartOk s.c (halfN s.n) (startN s.n r.h) r.gen r.used r.num m k ∧ m = cnt) := fun m hm => by
          have h0 := (rec_of s r hm (k := 0) (by have := hm.1; omega)).cnt
          have h1 := (HP.out 0 (by omega)).cnt
          have e : m = cnt := by omega
          exact ⟨rec_of s r hm (by omega), e⟩
        go_wp2_with fail
        refine (room_any wr p d g s r (HD.out wr hbel).1 (HD.out wr hbel).2 hu).mono ?_
        rintro e wa ⟨rfl, da⟩
        have hbela := bel_next hbel (da.below _)
        by_cases hroom : k < halfN s.n - r.used
        · have HI : Hid (startN s.n r.h + r.used + k < s.n) := by
            show _ < _
            have := (half_in (n := s.n) (h := r.h) (i := r.used + k) hh (by omega)).1
            omega
          have HR : Hid (∀ w2, Below w.heap.size w w2 → Calls Try.prog 34 #[.pointer (some ⟨d, 0, none⟩), .int .i64 ((startN s.n r.h : Int) + (r.used : Int) + (k : Int))] w2 fun e w' => e = .returned (.tuple #[.slice (some ⟨w2.heap.size, 0, none⟩) 64 64, .int .i64 0]) ∧ Below w2.heap.size w2 w' ∧ Blk w' w2.heap.size (ints .u8 l).toArray 5) := fun w2 hb2 => by
            have := read_ok w2 d g s (HD.out w2 hb2).1 (startN s.n r.h + r.used + k) HI.out
            rw [hl.out] at this
            first | exact this | rwa [Int.natCast_add, Int.natCast_add] at this | rwa [Nat.add_zero, Int.natCast_add] at this
          have cA := (HD.out wa hbela).2.cells.1
          have bA : Below w.heap.size w wa.drew := bel_next hbela ((Drawn.refl wa).drew.below _)
          have hwI : IntKind.i64.wrap ((startN s.n r.h : Int) + (r.used : Int)) = (startN s.n r.h : Int) + (r.used : Int) := by rw [IntKind.wrap_i64]; omega
          have hwK : IntKind.i64.wrap ((startN s.n r.h : Int) + (r.used : Int) + (k : Int)) = (startN s.n r.h : Int) + (r.used : Int) + (k : Int) := by rw [IntKind.wrap_i64]; omega
          go_upto_region 8 with fail
          refine wp_region_held_drew (S := (fun w' => w'.cell? ⟨p, 0, none⟩ = some (.pointer (some ⟨d, 0, none⟩)))) (by kernel_rfl) cA (fun hHeld => ?_)
          refine' wpAnyH_take (i := 0) (oi := { dst := some 20, op := Op.move (Operand.tmp 0), type := 29, pos := "scroll.go:134", after := #[], guard := none }) (v := ?v13) rfl (by kernel_rfl) (by kernel_rfl) (by kernel_rfl) (fun _ _ _ h => h) (Or.inl ⟨by rfl, ?hy13⟩) hHeld ?rest13
          case hy13 => (intro w hSw; obtain k0 := hSw; go_simp; (try with_reducible rfl))
          simp only [Act.put, List.setIfInBounds_toArray, List.set_cons_zero, List.set_cons_succ]
          refine' wpAnyH_take (i := 1) (oi := { dst := some 21, op := Op.nilCheck (Operand.tmp 20), type := 0, pos := "scroll.go:134", after := #[{ on := 0, ground := Ground.data }], guard := none }) (v := ?v14) rfl (by kernel_rfl) (by kernel_rfl) (by kernel_rfl) (fun _ _ _ h => h) (Or.inl ⟨by rfl, ?hy14⟩) hHeld ?rest14
          case hy14 => (intro w hSw; obtain k0 := hSw; go_simp; (try with_reducible rfl))
          simp only [Act.put, List.setIfInBounds_toArray, List.set_cons_zero, List.set_cons_succ]
          refine' wpAnyH_take (i := 2) (oi := { dst := some 22, op := Op.fieldAddr 64 (Operand.tmp 21) 0, type := 0, pos := "scroll.go:134", after := #[{ on := 1, ground := Ground.data }], guard := none }) (v := ?v15) rfl (by kernel_rfl) (by kernel_rfl) (by kernel_rfl) (fun _ _ _ h => h) (Or.inl ⟨by rfl, ?hy15⟩) hHeld ?rest15
          case hy15 => (intro w hSw; obtain k0 := hSw; go_simp; (try with_reducible rfl))
          simp only [Act.put, List.setIfInBounds_toArray, List.set_cons_zero, List.set_cons_succ]
          refine' wpAnyH_take (i := 3) (oi := { dst := some 23, op := Op.load 28 (Operand.tmp 22), type := 28, pos := "scroll.go:134", after := #[{ on := 2, ground := Ground.data }], guard := none }) (v := ?v16) rfl (by kernel_rfl) (by kernel_rfl) (by kernel_rfl) (fun _ _ _ h => h) (Or.inl ⟨by rfl, ?hy16⟩) hHeld ?rest16
          case hy16 => (intro w hSw; obtain k0 := hSw; go_simp; (try with_reducible rfl))
          simp only [Act.put, List.setIfInBounds_toArray, List.set_cons_zero, List.set_cons_succ]
          refine' wpAnyH_take (i := 4) (oi := { dst := some 24, op := Op.move (Operand.tmp 0), type := 29, pos := "scroll.go:134", after := #[], guard := none }) (v := ?v17) rfl (by kernel_rfl) (by kernel_rfl) (by kernel_rfl) (fun _ _ _ h => h) (Or.inl ⟨by rfl, ?hy17⟩) hHeld ?rest17
          case hy17 => (intro w hSw; obtain k0 := hSw; go_simp; (try with_reducible rfl))
          simp only [Act.put, List.setIfInBounds_toArray, List.set_cons_zero, List.set_cons_succ]
          refine' wpAnyH_take (i := 6) (oi := { dst := some 26, op := Op.move (Operand.tmp 6), type := 3, pos := "scroll.go:134", after := #[], guard := none }) (v := ?v18) rfl (by kernel_rfl) (by kernel_rfl) (by kernel_rfl) (fun _ _ _ h => h) (Or.inl ⟨by rfl, ?hy18⟩) hHeld ?rest18
          case hy18 => (intro w hSw; obtain k0 := hSw; go_simp; (try with_reducible rfl))
          simp only [Act.put, List.setIfInBounds_toArray, List.set_cons_zero, List.set_cons_succ]
          refine wpAnyH_ready (rs := [5]) (by kernel_rfl) (by simp) ?_
          refine AllReadyH.cons (o := { dst := some 25, op := Op.call { callee := Callee.value (Operand.func 38), args := #[Operand.tmp 24], argTypes := #[29] }, type := 3, pos := "scroll.go:134", after := #[{ on := 4, ground := Ground.data }], guard := none }) rfl (fun K hK => ?_) AllReadyH.nil
          go_simp
          refine (free_any wa.drew p d g s r (HD.out wa.drew bA).1 (HD.out wa.drew bA).2 hu hh).mono ?_
          rintro e w2 ⟨rfl, d2⟩
          have b2 := bel_next bA (d2.below _)
          have cB := (HD.out w2 b2).2.cells.1
          go_wp2_with fail
          refine hK.out _ _ cB (fun hHeld => ?_)
          clear hK K
          try simp only [Act.put, List.setIfInBounds_toArray, List.set_cons_zero, List.set_cons_succ]
          refine' wpAnyH_take (i := 7) (oi := { dst := some 27, op := Op.binOp BinOp.add 3 (Operand.tmp 25) (Operand.tmp 26) 3, type := 3, pos := "scroll.go:134", after := #[{ on := 5, ground := Ground.data }, { on := 6, ground := Ground.data }], guard := none }) (v := ?v19) rfl (by kernel_rfl) (by kernel_rfl) (by kernel_rfl) (fun _ _ _ h => h) (Or.inl ⟨by rfl, ?hy19⟩) hHeld ?rest19
          case hy19 => (intro w hSw; obtain k0 := hSw; go_simp; (try with_reducible rfl))
          simp only [Act.put, List.setIfInBounds_toArray, List.set_cons_zero, List.set_cons_succ]
          refine wpAnyH_ready (rs := [8]) (by kernel_rfl) (by simp) ?_
          refine AllReadyH.cons (o := { dst := some 28, op := Op.call { callee := Callee.value (Operand.func 34), args := #[Operand.tmp 23, Operand.tmp 27], argTypes := #[28, 3] }, type := 60, pos := "scroll.go:134", after := #[{ on := 3, ground := Ground.data }, { on := 7, ground := Ground.data }, { on := 5, ground := Ground.chain }], guard := none }) rfl (fun K hK => ?_) AllReadyH.nil
          go_simp
          refine (HR.out w2 b2).mono ?_
          rintro e w3 ⟨rfl, b3', k3⟩
          have b3 := bel_next b2 b3'
          have cC := (HD.out w3 b3).2.cells.1
          go_wp2_with fail
          refine hK.out _ _ cC (fun hHeld => ?_)
          clear hK K
          try simp only [Act.put, List.setIfInBounds_toArray, List.set_cons_zero, List.set_cons_succ]
          refine' wpAnyH_take (i := 9) (oi := { dst := some 19, op := Op.move (Operand.tmp 28), type := 60, pos := "scroll.go:134", after := #[{ on := 8, ground := Ground.data }], guard := none }) (v := ?v20) rfl (by kernel_rfl) (by kernel_rfl) (by kernel_rfl) (fun _ _ _ h => h) (Or.inl ⟨by rfl, ?hy20⟩) hHeld ?rest20
          case hy20 => (intro w hSw; obtain k0 := hSw; go_simp; (try with_reducible rfl))
          simp only [Act.put, List.setIfInBounds_toArray, List.set_cons_zero, List.set_cons_succ]
          refine' wpAnyH_take (i := 10) (oi := { dst := some 29, op := Op.extract (Operand.tmp 19) 0, type := 22, pos := "scroll.go:134", after := #[{ on := 9, ground := Ground.data }], guard := none }) (v := ?v21) rfl (by kernel_rfl) (by kernel_rfl) (by kernel_rfl) (fun _ _ _ h => h) (Or.inl ⟨by rfl, ?hy21⟩) hHeld ?rest21
          case hy21 => (intro w hSw; obtain k0 := hSw; go_simp; (try with_reducible rfl))
          simp only [Act.put, List.setIfInBounds_toArray, List.set_cons_zero, List.set_cons_succ]
          refine' wpAnyH_take (i := 11) (oi := { dst := some 30, op := Op.extract (Operand.tmp 19) 1, type := 36, pos := "scroll.go:134", after := #[{ on := 9, ground := Ground.data }, { on := 12, ground := Ground.gcOnly Departure.lateStores }], guard := none }) (v := ?v22) rfl (by kernel_rfl) (by kernel_rfl) (by kernel_rfl) (fun _ _ _ h => h) (Or.inl ⟨by rfl, ?hy22⟩) hHeld ?rest22
          case hy22 => (intro w hSw; obtain k0 := hSw; go_simp; (try with_reducible rfl))
          simp only [Act.put, List.setIfInBounds_toArray, List.set_cons_zero, List.set_cons_succ]
          refine' wpAnyH_take (i := 12) (oi := { dst := some 7, op := Op.assign (Operand.tmp 29), type := 22, pos := "scroll.go:134", after := #[{ on := 10, ground := Ground.data }, { on := 8, ground := Ground.chain }, { on := 0, ground := Ground.phase }, { on := 1, ground := Ground.phase }, { on := 2, ground := Ground.phase }, { on := 3, ground := Ground.phase }, { on := 4, ground := Ground.phase }, { on := 5, ground := Ground.phase }, { on := 6, ground := Ground.phase }, { on := 7, ground := Ground.phase }, { on := 8, ground := Ground.phase }, { on := 9, ground := Ground.phase }, { on := 10, ground := Ground.phase }, { on := 11, ground := Ground.textOnly Departure.lateStores }], guard := none }) (v := ?v23) rfl (by kernel_rfl) (by kernel_rfl) (by kernel_rfl) (fun _ _ _ h => h) (Or.inl ⟨by rfl, ?hy23⟩) hHeld ?rest23
          case hy23 => (intro w hSw; obtain k0 := hSw; go_simp; (try with_reducible rfl))
          simp only [Act.put, List.setIfInBounds_toArray, List.set_cons_zero, List.set_cons_succ]
          refine' wpAnyH_take (i := 13) (oi := { dst := some 8, op := Op.assign (Operand.tmp 30), type := 36, pos := "scroll.go:134", after := #[{ on := 11, ground := Ground.data }, { on := 12, ground := Ground.chain }, { on := 0, ground := Ground.phase }, { on := 1, ground := Ground.phase }, { on := 2, ground := Ground.phase }, { on := 3, ground := Ground.phase }, { on := 4, ground := Ground.phase }, { on := 5, ground := Ground.phase }, { on := 6, ground := Ground.phase }, { on := 7, ground := Ground.phase }, { on := 8, ground := Ground.phase }, { on := 9, ground := Ground.phase }, { on := 10, ground := Ground.phase }, { on := 11, ground := Ground.phase }, { on := 12, ground := Ground.phase }], guard := none }) (v := ?v24) rfl (by kernel_rfl) (by kernel_rfl) (by kernel_rfl) (fun _ _ _ h => h) (Or.inl ⟨by rfl, ?hy24⟩) hHeld ?rest24
          case hy24 => (intro w hSw; obtain k0 := hSw; go_simp; (try with_reducible rfl))
          simp only [Act.put, List.setIfInBounds_toArray, List.set_cons_zero, List.set_cons_succ]
          refine wpAnyH_done (by kernel_rfl) ?_ _
          have K3 := Lib.hid k3
          have HB3 := Lib.hid b3
          obtain ⟨b, hb⟩ : ∃ b, Hid (w2.heap.size = b) := ⟨_, rfl⟩
          obtain ⟨n, c9, p8, G, N, e10, e9, e8, e0, e4, l10, l9, l8, l0, l4⟩ := piece_facts l hby
          have x10 : w3.cell? ⟨w2.heap.size, 10, none⟩ = some (.int .u8 (n : Int)) := piece_cell k3 hl64 (by omega) e10
          have x9 : w3.cell? ⟨w2.heap.size, 9, none⟩ = some (.int .u8 (c9 : Int)) := piece_cell k3 hl64 (by omega) e9
          have x8 : w3.cell? ⟨w2.heap.size, 8, none⟩ = some (.int .u8 (p8 : Int)) := piece_cell k3 hl64 (by omega) e8
          have y10 : IntKind.i64.wrap (n : Int) = n := by rw [IntKind.wrap_i64]; omega
          have y9 : IntKind.i64.wrap (c9 : Int) = c9 := by rw [IntKind.wrap_i64]; omega
          have y8 : IntKind.i64.wrap (p8 : Int) = p8 := by rw [IntKind.wrap_i64]; omega
          obtain ⟨_, _, z2, z3, z4, _⟩ := (HD.out w3 b3).2.cells
          have HX : Hid (∀ m, RecAt s.c (halfN s.n) (startN s.n r.h) r.gen r.used r.num m → G = r.gen ∧ N = r.num ∧ p8 = k ∧ c9 = cnt ∧ 1 ≤ cnt ∧ cnt ≤ 8 ∧ 1 ≤ n ∧ n ≤ 53 ∧ (k + 1 < cnt → n = 53)) := fun m hm => by
            have pp := (HRP.out m hm).1
            have em := (HRP.out m hm).2
            have q := hm.1
            have q' := hm.2.1
            have g1 := pp.gen
            have g2 := pp.nums
            have g3 := pp.part
            have g4 := pp.cnt
            have g5 := pp.n1
            have g6 := pp.n2
            have g7 := pp.full
            rw [hl.out] at g1 g2 g3 g4 g5 g6 g7
            exact ⟨by omega, by omega, by omega, by omega, by omega, by omega, by omega, by omega, fun h => by have := g7 (by omega); omega⟩
          have HOK : Hid (G = r.gen → N = r.num → p8 = k → c9 = cnt → 1 ≤ n → n ≤ 53 → (k + 1 < cnt → n = 53) → PartOk s.c (halfN s.n) (startN s.n r.h) r.gen r.used r.num cnt k) := fun t1 t2 t3 t4 t5 t6 t7 =>
            ⟨by omega, by rw [hl.out]; omega, by rw [hl.out]; omega, by rw [hl.out]; omega, by rw [hl.out]; omega, by rw [hl.out]; omega, by rw [hl.out]; omega, fun h => by rw [hl.out]; have := t7 h; omega⟩
          have HG1 : Hid (∀ W b, Blk W b (ints .u8 l).toArray 5 → Calls Try.prog 54 #[.slice (some ⟨b, 0, none⟩) 64 64] W fun e w' => e = .returned (.int .i64 (G : Int)) ∧ Drawn W w') := fun W b hW => by
            rw [← e0]; exact get4_any W b 0 64 64 l hW.rdl hby hl64 (by omega)
          have HG2 : Hid (∀ W b, Blk W b (ints .u8 l).toArray 5 → Calls Try.prog 54 #[.slice (some ⟨b, 4, none⟩) 60 60] W fun e w' => e = .returned (.int .i64 (N : Int)) ∧ Drawn W w') := fun W b hW => by
            rw [← e4]; exact get4_next hW hby hl64
          have HN10 := Lib.hid e10
          have HSEP := Lib.hid b3'
          have hroomh := Lib.hid hroom
          clear e10 e9 e8 e0 e4 k3 hroom cA cB cC bA
          go_wp2_with fail
          go_quiet (first | (go_at_call 54; exact quiet_drawn (HG1.out _ _ (K3.out.drewN _))))
          by_cases q1 : G = r.gen
          · have HBW : Hid (Below w.heap.size w (w3.drewN nq)) := bel_next HB3.out (((Drawn.refl _).drewN _).below _)
            have HRW : Hid (Below wr.heap.size wr (w3.drewN nq)) := bel_next (bel_next (bel_next (bel_next (da.below _) ((Drawn.refl wa).drew.below _)) (d2.below _)) HSEP.out) (((Drawn.refl _).drewN _).below _)
            have KW : Hid (Blk (w3.drewN nq) w2.heap.size (ints .u8 l).toArray 5) := K3.out.drewN _
            have X8 : (w3.drewN nq).cell? ⟨w2.heap.size, 8, none⟩ = some (.int .u8 (p8 : Int)) := x8
            have X9 : (w3.drewN nq).cell? ⟨w2.heap.size, 9, none⟩ = some (.int .u8 (c9 : Int)) := x9
            have Z3 : (w3.drewN nq).cell? ⟨p, 3, none⟩ = some (.int .i64 r.num) := z3
            obtain ⟨W, hW⟩ : ∃ W, W = w3.drewN nq := ⟨_, rfl⟩
            rw [← hW] at HBW HRW KW X8 X9 Z3 ⊢
            clear hW x8 x9 x10 z2 z3 z4
            go_wp2_with fail
            go_quiet (first | (go_at_call 54; exact quiet_drawn (HG2.out _ _ (KW.out.drewN _))))
            by_cases q2 : N = r.num
            · by_cases q3 : p8 = k
              · by_cases q4 : c9 = cnt
                · by_cases q5 : cnt < 1
                  · first
                    | (exfalso; first | omega | exact q4 rfl)
                    | (go_wp2_with fail
                       go_ret2
                       exact .inr ⟨rfl, fun m hm => absurd (HX.out m hm) (fun t => by omega), bel_next HBW.out (((Drawn.refl _).drewN _).below _)⟩)
                  · by_cases q6 : 8 < cnt
                    · first
                      | (exfalso; first | omega | exact q4 rfl)
                      | (go_wp2_with fail
                         go_ret2
                         exact .inr ⟨rfl, fun m hm => absurd (HX.out m hm) (fun t => by omega), bel_next HBW.out (((Drawn.refl _).drewN _).below _)⟩)
                    · by_cases q7 : n < 1
                      · first
                        | (exfalso; first | omega | exact q4 rfl)
                        | (go_wp2_with fail
                           go_ret2
                           exact .inr ⟨rfl, fun m hm => absurd (HX.out m hm) (fun t => by omega), bel_next HBW.out (((Drawn.refl _).drewN _).below _)⟩)
                      · by_cases q8 : 53 < n
                        · first
                          | (exfalso; first | omega | exact q4 rfl)
                          | (go_wp2_with fail
                             go_ret2
                             exact .inr ⟨rfl, fun m hm => absurd (HX.out m hm) (fun t => by omega), bel_next HBW.out (((Drawn.refl _).drewN _).below _)⟩)
                        · by_cases q9 : k + 1 < cnt ∧ n < 53
                          · first
                            | (exfalso; first | omega | exact q4 rfl)
                            | (go_wp2_with fail
                               go_ret2
                               exact .inr ⟨rfl, fun m hm => absurd (HX.out m hm) (fun t => by omega), bel_next HBW.out (((Drawn.refl _).drewN _).below _)⟩)
                          · have hbr : Below wr.heap.size wr (W.drewN nq) := bel_next HRW.out (((Drawn.refl _).drewN _).below _)
                            obtain ⟨A', c', w5, hr, hS'⟩ := RdSt.step HS.out (by omega) hbr (KW.out.drewN nq) hl64 hl.out HN10.out (by omega)
                            have HS' := Lib.hid hS'
                            have HPN : Hid (∀ j, j < k + 1 → PartOk s.c (halfN s.n) (startN s.n r.h) r.gen r.used r.num cnt j) := fun j hj => by
                              rcases Nat.lt_or_ge j k with h | h
                              · exact HP.out j h
                              · obtain rfl : j = k := by omega
                                exact HOK.out (by omega) (by omega) (by omega) (by first | trivial | rfl | omega) (by omega) (by omega) (fun h => by omega)
                            clear hS' hbr Z3
                            have hr' : (Builtin.append_ #[22, 22] 22 #[.slice A L c, .slice (some ⟨w2.heap.size, 11, none⟩) (11 + n - 11) 53]).run Try.prog (W.drewN nq) = .ok (.slice A' (L + n) c') w5 := by rw [Nat.add_sub_cancel_left]; exact hr
                            clear hr
                            go_wp2_with (first | (at_builtin; (with_reducible refine wpList_append_run rfl _ _ _ _ rfl _ _ _ ?_ ?_ hr' ?_); rfl; rfl))
                            all_goals
                              go_roundw
                              case rel => exact ⟨k + 1, cnt, by go_num, rfl, ⟨A', c', L + n, rfl, HS'.out⟩, by omega, by omega, .inr ⟨by omega, HPN⟩⟩
                              case measure => first | (simp [intOf]; done) | (simp [intOf]; omega)
                · first
                  | (exfalso; first | omega | exact q4 rfl)
                  | (go_wp2_with fail
                     go_ret2
                     exact .inr ⟨rfl, fun m hm => absurd (HX.out m hm) (fun t => by omega), bel_next HBW.out (((Drawn.refl _).drewN _).below _)⟩)
              · first
                | (exfalso; first | omega | exact q4 rfl)
                | (go_wp2_with fail
                   go_ret2
                   exact .inr ⟨rfl, fun m hm => absurd (HX.out m hm) (fun t => by omega), bel_next HBW.out (((Drawn.refl _).drewN _).below _)⟩)
            · first
              | (exfalso; first | omega | exact q4 rfl)
              | (go_wp2_with fail
                 go_ret2
                 exact .inr ⟨rfl, fun m hm => absurd (HX.out m hm) (fun t => by omega), bel_next HBW.out (((Drawn.refl _).drewN _).below _)⟩)
          · go_wp2_with fail
            go_ret2
            exact .inr ⟨rfl, fun m hm => q1 (HX.out m hm).1, bel_next HB3.out (((Drawn.refl _).drewN _).below _)⟩
        · go_wp2_with fail
          go_ret2
          exact .inr ⟨rfl, fun m hm => by have := (HRP.out m hm).1.room; omega, hbela⟩
      · obtain rfl : k = cnt := by omega
        have hl := HS.out.own.1
        rw [ints_length, Nat.mul_one] at hl
        subst hl
        have HSS := HS
        clear HS
        go_wp2_with fail
        go_ret2
        rw [show decide (0 < k) = true from decide_eq_true hk1]
        exact .inl ⟨k, A, c, rfl, ⟨hk1, hc8, HP.out⟩, HSS.out.own, HSS.out.bel⟩


end Go.Proofs.Ytmliiggieclbeaa
