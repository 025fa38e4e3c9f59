/- WireKept: bytes lent and looked at again; memory that is handed in, and grows. -/
import Derived.Test.YtmhcjkiaogimgaaWirU
import Derived.Test.YtmhcjkiaogimgaaDrI
import Derived.Test.YtmhcjkiaogimgaaLwA
import Derived.Deep.QuietTactic
import Derived.BigQuiet
namespace Go.Proofs.Ytmhcjkiaogimgaa
open Go.RowKit

theorem own_some {w : World} {base n c : Nat} {e : TypeId} {size : Nat} {A : Option Addr} {vs : List Value} (h : w.ownsRow base e size (.slice A n c) n vs) (hn : 0 < n) : ∃ g, A = some ⟨g, 0, none⟩ ∧ n ≤ c := by
  obtain ⟨hl, hv⟩ := h
  rcases hv with ⟨he, h0⟩ | ⟨g, cap, cur, he, _, _, h2, _⟩
  · injection he with h1 h2 h3; omega
  · injection he with h1 h3 h4
    subst h1; subst h4
    exact ⟨g, rfl, by omega⟩
/-- The marks behind lent bytes. -/
def marks70 (i : Nat) : List Int := (List.range i).map fun (j : Nat) => (101 : Int) + (j : Int)
theorem marks70_length (i : Nat) : (marks70 i).length = i := by simp [marks70]
theorem marks70_snoc (i : Nat) : marks70 (i + 1) = marks70 i ++ [101 + (i : Int)] := by simp [marks70, List.range_succ]
def LendB (w : World) (l : List Int) (r : Ending) (w' : World) : Prop :=
  ∃ g c, r = .returned (.tuple #[.slice (some ⟨g, 0, none⟩) l.length c, .slice (some ⟨g, 0, none⟩) (l.length + 70) c]) ∧ w'.ownsRow w.heap.size 5 1 (.slice (some ⟨g, 0, none⟩) (l.length + 70) c) (l.length + 70) (bvals (l ++ marks70 70)) ∧ Below w.heap.size w w'

set_option maxRecDepth 100000 in
set_option maxHeartbeats 2000000 in
theorem lendB_any (A : Option Addr) (cap : Nat) (l : List Int) (w : World) (h : Rd .u8 w A l) (hl : l.length ≤ 140737488351232) :
    Calls Try.prog 25 #[.slice A l.length cap] w (LendB w l) := by
  go_enter Try.func25, Try.ntmps25
  go_wp2_with fail
  refine (copyB_any A cap l w h hl).mono ?_
  rintro r w1 ⟨A1, c1, rfl, o1, b1⟩
  obtain ⟨L, hL⟩ : ∃ L, L = l.length := ⟨_, rfl⟩
  rw [← hL] at o1 hl
  rw [← hL]
  have HL := Lib.hid hL
  have HLL := Lib.hid hl
  clear hL h hl
  go_wp2_with fail
  go_loopw [4, 5] (fun v4 v5 wr => ∃ i n : Nat, i ≤ 70 ∧ Hid (n = L + i) ∧ v5 = .int .i64 i ∧ ∃ A' c', v4 = .slice A' n c' ∧ wr.ownsRow w.heap.size 5 1 (.slice A' n c') n (bvals (l ++ marks70 i)) ∧ Below w.heap.size w wr) (fun _ v _ => 70 - (intOf v).toNat)
  case atStart => exact ⟨0, L, by omega, Lib.hid rfl, rfl, A1, c1, rfl, by rw [show marks70 0 = [] from rfl, List.append_nil]; exact o1, b1⟩
  case round =>
    obtain ⟨i, n, hi, hn, rfl, A', c', rfl, hown, hb⟩ := hrel
    by_cases hlt : i < 70
    · have hzz := hb.size
      have hnn : n ≤ 140737488351302 := by have := hn.out; have := HLL.out; omega
      have hwr : IntKind.u8.wrap (101 + (i : Int)) = 101 + (i : Int) := by
        unfold IntKind.wrap
        simp [IntKind.signed, IntKind.bits]
        omega
      obtain ⟨v', w2, hr, ho, hgr⟩ := append_run (P := Try.prog) (w := wr.alloc (.cells #[.int .u8 (101 + (i : Int))] 5)) 28 Try.underlying28 binfo (by omega) (own_below hown ((Below.refl _ _).alloc (Nat.le_refl _) _))
        (news := [.int .u8 (101 + (i : Int))]) (a := ⟨wr.heap.size, 0, none⟩) (m := 1) (c := 1) rfl
        (fun j u hu => by
          rw [Addr.add_mid, Nat.zero_add, (Blk.new wr _ _).cell]
          simpa using hu)
        (fun u hu => by simp at hu; subst hu; rfl) (by omega) (by omega) (by simp; omega)
      obtain ⟨A2, c2, rfl⟩ := own_form ho
      have hB2 : Below w.heap.size w w2 := (hb.alloc (by omega) _).grown hgr (by simp; omega) (own_ge hown)
      have hO2 : w2.ownsRow w.heap.size 5 1 (.slice A2 (n + 1) c2) (n + 1) (bvals (l ++ marks70 (i + 1))) := by
        rw [marks70_snoc, ← List.append_assoc, bvals_append]; exact ho
      have HO := Lib.hid hO2
      clear ho hO2 hown hgr hzz hb hnn
      go_wp2_with (at_builtin; refine wpList_append_run rfl _ _ _ _ rfl _ _ _ rfl rfl hr ?_)
      go_roundw
      case rel => exact ⟨i + 1, n + 1, by omega, Lib.hid (by rw [hn.out, Nat.add_assoc]), by go_num, A2, c2, rfl, HO.out, hB2⟩
      case measure => simp [intOf]; omega
    · obtain rfl : i = 70 := by omega
      obtain ⟨g, rfl, hcap⟩ := own_some hown (by have := hn.out; omega)
      have hLc : L ≤ c' := by have := hn.out; omega
      have HO := Lib.hid hown
      clear hown hcap
      go_wp2_with fail
      go_ret2
      have e0 := HL.out
      subst e0
      have e1 := hn.out
      subst e1
      exact ⟨g, c', rfl, HO.out, hb⟩

set_option maxRecDepth 100000 in
set_option maxHeartbeats 2000000 in
theorem backB_any (A : Option Addr) (g c c2 n : Nat) (l : List Int) (w : World) (hl : l.length = n) (hn : n ≤ 140737488351232) (h1 : Rd .u8 w A l) (h2 : Rd .u8 w (some ⟨g, 0, none⟩) (l ++ marks70 70)) :
    Calls Try.prog 26 #[.slice A n c, .slice (some ⟨g, 0, none⟩) (n + 70) c2] w fun r w' => r = .returned (.bool true) ∧ Drawn w w' := by
  have H1 := Lib.hid h1
  have k2' : ∀ j, j < n → w.cell? ⟨g, j, none⟩ = some (.int .u8 (l.getD j 0)) := fun j hj => by
    obtain ⟨x, hx, _, hc⟩ := h2.at_ j (by rw [List.length_append]; omega)
    injection hx with hx
    subst hx
    rw [Addr.add_mid, Nat.zero_add] at hc
    rw [hc, List.getD_eq_getElem?_getD, List.getD_eq_getElem?_getD, List.getElem?_append_left (by omega)]
  have k3' : ∀ j, j < 70 → w.cell? ⟨g, n + j, none⟩ = some (.int .u8 (101 + (j : Int))) := fun j hj => by
    obtain ⟨x, hx, _, hc⟩ := h2.at_ (n + j) (by rw [List.length_append, marks70_length]; omega)
    injection hx with hx
    subst hx
    rw [Addr.add_mid, Nat.zero_add] at hc
    rw [hc, List.getD_eq_getElem?_getD, List.getElem?_append_right (by omega), show n + j - l.length = j by omega]
    simp [marks70, hj]
  have H2 := Lib.hid k2'
  have H3 := Lib.hid k3'
  have HL := Lib.hid hl
  clear h1 h2 k2' k3' hl
  go_enter Try.func26, Try.ntmps26
  go_wp2_with fail
  go_loopw [5] (fun v wr => ∃ i : Nat, i ≤ n + 70 ∧ v = .int .i64 i ∧ Drawn w wr) (fun v _ => n + 70 - (intOf v).toNat)
  case atStart => exact ⟨0, by omega, rfl, Drawn.refl _⟩
  case round =>
    obtain ⟨i, hi, rfl, hd⟩ := hrel
    by_cases hlt : i < n + 70
    · by_cases hin : i < n
      · obtain ⟨x, rfl, _, hx⟩ := (H1.out.drawn hd).at_ i (by rw [HL.out]; exact hin)
        have k2 := H2.out i hin
        have d2 : decide (n ≤ i) = false := decide_eq_false (by omega)
        have k4 : wr.cell? ⟨g, i, none⟩ = some (.int .u8 (l.getD i 0)) := by obtain ⟨m, rfl⟩ := hd.ex; exact k2
        clear k2
        generalize l.getD i 0 = v at *
        go_wp2_with fail
        go_quiet (fail)
        go_wp2_with fail
        go_roundw
        case rel => exact ⟨i + 1, by omega, by go_num, hd.drewN _⟩
        case measure => simp [intOf]; omega
      · have k2 := H3.out (i - n) (by omega)
        have k4 : wr.cell? ⟨g, i, none⟩ = some (.int .u8 (101 + (i : Int) - (n : Int))) := by
          rw [show n + (i - n) = i by omega, show (101 : Int) + ((i - n : Nat) : Int) = 101 + (i : Int) - (n : Int) by omega] at k2
          obtain ⟨m, rfl⟩ := hd.ex; exact k2
        clear k2
        have d1 : decide (i < n) = false := decide_eq_false (by omega)
        have d2 : decide (n ≤ i) = true := decide_eq_true (by omega)
        have hwr : IntKind.u8.wrap (101 + (i : Int) - (n : Int)) = 101 + (i : Int) - (n : Int) := by
          unfold IntKind.wrap
          simp [IntKind.signed, IntKind.bits]
          omega
        go_wp2_with fail
        go_quiet (fail)
        go_wp2_with fail
        go_roundw
        case rel => exact ⟨i + 1, by omega, by go_num, hd.drewN _⟩
        case measure => simp [intOf]; omega
    · go_wp2_with fail
      go_ret
      exact ⟨rfl, hd⟩

/-- A block of bytes, whatever they are, up to a place. -/
structure Bytes (w : World) (g m : Nat) : Prop where
  ex : ∃ (cs : Array Value) (t : TypeId), Blk w g cs t ∧ ∀ j, j < m → ∃ v : Int, cs[j]? = some (.int .u8 v)
theorem Bytes.cell {w : World} {g m : Nat} (h : Bytes w g m) (j : Nat) (hj : j < m) : ∃ v : Int, w.cell? ⟨g, j, none⟩ = some (.int .u8 v) := by
  obtain ⟨cs, t, hb, hc⟩ := h.ex
  obtain ⟨v, hv⟩ := hc j hj
  exact ⟨v, by rw [hb.cell]; exact hv⟩
theorem Bytes.frozen {w : World} {g m : Nat} (h : Bytes w g m) (j : Nat) : w.frozen? ⟨g, j, none⟩ = false := by
  obtain ⟨cs, t, hb, _⟩ := h.ex
  exact hb.frozen j
theorem Bytes.set {w : World} {g m : Nat} (h : Bytes w g m) (i : Nat) (v : Int) : Bytes (w.setCell ⟨g, i, none⟩ (.int .u8 v)) g m := by
  obtain ⟨cs, t, hb, hc⟩ := h.ex
  refine ⟨_, t, hb.set i _, fun j hj => ?_⟩
  obtain ⟨u, hu⟩ := hc j hj
  by_cases hij : i = j
  · subst hij
    exact ⟨v, by rw [Array.getElem?_setIfInBounds_self_of_lt (Array.getElem?_eq_some_iff.1 hu).1]⟩
  · exact ⟨u, by rw [Array.getElem?_setIfInBounds_ne hij]; exact hu⟩
theorem Bytes.kp {w w' : World} {S : Nat → Prop} {g m : Nat} (h : Bytes w g m) (hk : Kp S w w') (hs : ¬ S g) : Bytes w' g m := by
  obtain ⟨cs, t, hb, hc⟩ := h.ex
  exact ⟨cs, t, hb.kp hk hs, hc⟩
theorem own_bytes {w : World} {base n c g : Nat} {l : List Int} (h : w.ownsRow base 5 1 (.slice (some ⟨g, 0, none⟩) n c) n (bvals l)) : Bytes w g l.length := by
  obtain ⟨_, hv⟩ := h
  rcases hv with ⟨he, _⟩ | ⟨g', cap, cur, he, _, hb, _, _, _, ht⟩
  · cases he
  · injection he with h1 _ _
    injection h1 with h1
    injection h1 with h1 _ _
    subst h1
    refine ⟨cur, _, hb, fun j hj => ⟨l.getD j 0, ?_⟩⟩
    have := bvals_get l j hj
    rw [← ht, List.getElem?_take] at this
    split at this
    · rwa [← Array.getElem?_toList]
    · cases this
/-- What is put behind a message's rows. -/
def negE : EntryD := ⟨⟨0, ⟨#[]⟩⟩, true, ⟨0, 0, 0, ⟨#[]⟩⟩⟩
def negK : KeyD := ⟨-4, ⟨#[]⟩⟩
def more (m : MsgD) (i j : Nat) : MsgD := { m with entries := m.entries ++ List.replicate i negE, keys := m.keys ++ List.replicate j negK }
theorem more_el (m : MsgD) (i j : Nat) : (more m i j).entries.length = m.entries.length + i := by simp [more]
theorem more_kl (m : MsgD) (i j : Nat) : (more m i j).keys.length = m.keys.length + j := by simp [more]
theorem more_e (m : MsgD) (i j : Nat) : (more m (i + 1) j).entries = (more m i j).entries ++ [negE] := by simp [more, List.replicate_succ']
theorem more_k (m : MsgD) (i j : Nat) : (more m i (j + 1)).keys = (more m i j).keys ++ [negK] := by simp [more, List.replicate_succ']
/-- The message, with i entries and j keys put behind. -/
structure YSt (w : World) (gy : Nat) (m : MsgD) (i j : Nat) (s : Sls) (W : World) : Prop where
  bel : Below w.heap.size w W
  gey : w.heap.size ≤ gy
  blk : Blk W gy ((more m i j).cells s).toArray 34
  oe : W.ownsRow w.heap.size 47 7 (.slice s.ea (more m i j).entries.length s.ec) (more m i j).entries.length ((more m i j).entries.map EntryD.cells).flatten
  ok : W.ownsRow w.heap.size 43 2 (.slice s.ka (more m i j).keys.length s.kc) (more m i j).keys.length ((more m i j).keys.map KeyD.cells).flatten
/-- Blocks of other types stand. -/
def KeptT (gy : Nat) (W V : World) : Prop := ∀ g cs t, Blk W g cs t → t ≠ 47 → t ≠ 43 → g ≠ gy → Blk V g cs t
theorem KeptT.refl (gy : Nat) (W : World) : KeptT gy W W := fun _ _ _ h _ _ _ => h
theorem KeptT.trans {gy : Nat} {W V X : World} (h : KeptT gy W V) (k : KeptT gy V X) : KeptT gy W X := fun g cs t hb h1 h2 h3 => k g cs t (h g cs t hb h1 h2 h3) h1 h2 h3
section
variable {w W : World} {gy i j : Nat} {m : MsgD} {s : Sls}
theorem YSt.pushE (h : YSt w gy m i j s W) (hn : (m.entries.length + i + 1) * 72 ≤ 140737488355328) :
    ∃ A2 c2 w', (Builtin.append_ #[24, 24] 24 #[.slice s.ea (more m i j).entries.length s.ec, .slice (some ⟨W.heap.size, 0, none⟩) 1 1]).run Try.prog (W.alloc (.cells negE.cells.toArray 47)) = .ok (.slice A2 ((more m i j).entries.length + 1) c2) w' ∧
      (∃ v, w'.cell? ⟨gy, 14, none⟩ = some v) ∧ w'.frozen? ⟨gy, 14, none⟩ = false ∧
      ∀ V, V = w'.setCell ⟨gy, 14, none⟩ (.slice A2 ((more m i j).entries.length + 1) c2) → YSt w gy m (i + 1) j { s with ea := A2, ec := c2 } V ∧ KeptT gy W V := by
  have hV : Below W.heap.size W (W.alloc (.cells negE.cells.toArray 47)) := bel_al (Below.refl _ _) _
  have bV := h.blk.kp (S := fun _ => False) (Kp.of_below hV) (fun h => h)
  have p1 := own_below h.oe hV
  have p2 := own_below h.ok hV
  have hw0 : w.heap.size ≤ (W.alloc (.cells negE.cells.toArray 47)).heap.size := Nat.le_trans h.bel.size hV.size
  obtain ⟨v2, w', hr, ho, hg, hat⟩ := append_run2 (base := w.heap.size) 24 Try.underlying24 einfo (by omega) p1 (news := negE.cells) (a := ⟨W.heap.size, 0, none⟩) (m := 1) (c := 1) (by rfl) (fun j u hu => by
    rw [Addr.add_mid, Nat.zero_add, (Blk.new W _ _).cell, List.getElem?_toArray]; exact hu) (fun u hu => by
    simp [negE, EntryD.cells] at hu
    rcases hu with rfl | rfl | rfl | rfl | rfl | rfl | rfl <;> rfl) (by rw [more_el]; omega) (by rw [more_el]; exact hn) hw0
  obtain ⟨A2, c2, rfl⟩ := own_form ho
  have hrow := own_ge p1
  have hk := Kp.of_grown hg
  have ne_ : ∀ {g : Nat} {cs : Array Value} {t : TypeId}, Blk (W.alloc (.cells negE.cells.toArray 47)) g cs t → t ≠ 47 → ¬ (Value.slice s.ea (more m i j).entries.length s.ec).ownBlock = some g := fun hb ht e => by
    obtain ⟨cs, hc⟩ := own_blk p1 _ e
    exact ht (blk_ty hb hc)
  have bW := bV.kp hk (ne_ bV (by decide))
  have oW := own_kp p2 hk (fun k hk' e => by
    obtain ⟨cs, hc⟩ := own_blk p2 k hk'
    obtain ⟨cs2, hc2⟩ := own_blk p1 k e
    exact absurd (blk_ty hc hc2) (by decide))
  have hB := below_kp (bel_next h.bel hV) hk hw0 hrow
  refine ⟨A2, c2, w', hr, ⟨_, (bW.cell 14).trans rfl⟩, bW.frozen _, ?_⟩
  rintro V rfl
  have hS : Kp (fun k => k = gy) w' (w'.setCell ⟨gy, 14, none⟩ (.slice A2 ((more m i j).entries.length + 1) c2)) := Kp.setCell (S := fun k => k = gy) (Kp.refl _ _) (p := ⟨gy, 14, none⟩) rfl _
  have hlen : (more m i j).entries.length + 1 = (more m (i + 1) j).entries.length := by rw [more_e]; simp
  refine ⟨⟨below_kp hB hS hB.size (fun k hk => by have := h.gey; omega), h.gey, ?_, ?_, ?_⟩, fun g cs t hb h1 h2 h3 => ((hb.kp (S := fun _ => False) (Kp.of_below hV) (fun h => h)).kp hk (ne_ (hb.kp (S := fun _ => False) (Kp.of_below hV) (fun h => h)) h1)).kp hS h3⟩
  · have := bW.set 14 (.slice A2 ((more m i j).entries.length + 1) c2)
    rw [hlen] at this ⊢
    exact this
  · have := own_set ho bW (by decide) hS
    rw [← hlen, more_e, List.map_append, List.flatten_append]
    simpa using this
  · exact own_set oW bW (by decide) hS
theorem YSt.pushK (h : YSt w gy m i j s W) (hn : (m.keys.length + j + 1) * 24 ≤ 140737488355328) :
    ∃ A2 c2 w', (Builtin.append_ #[25, 25] 25 #[.slice s.ka (more m i j).keys.length s.kc, .slice (some ⟨W.heap.size, 0, none⟩) 1 1]).run Try.prog (W.alloc (.cells negK.cells.toArray 43)) = .ok (.slice A2 ((more m i j).keys.length + 1) c2) w' ∧
      (∃ v, w'.cell? ⟨gy, 15, none⟩ = some v) ∧ w'.frozen? ⟨gy, 15, none⟩ = false ∧
      ∀ V, V = w'.setCell ⟨gy, 15, none⟩ (.slice A2 ((more m i j).keys.length + 1) c2) → YSt w gy m i (j + 1) { s with ka := A2, kc := c2 } V ∧ KeptT gy W V := by
  have hV : Below W.heap.size W (W.alloc (.cells negK.cells.toArray 43)) := bel_al (Below.refl _ _) _
  have bV := h.blk.kp (S := fun _ => False) (Kp.of_below hV) (fun h => h)
  have p1 := own_below h.oe hV
  have p2 := own_below h.ok hV
  have hw0 : w.heap.size ≤ (W.alloc (.cells negK.cells.toArray 43)).heap.size := Nat.le_trans h.bel.size hV.size
  obtain ⟨v2, w', hr, ho, hg, hat⟩ := append_run2 (base := w.heap.size) 25 Try.underlying25 kinfo (by omega) p2 (news := negK.cells) (a := ⟨W.heap.size, 0, none⟩) (m := 1) (c := 1) (by rfl) (fun j u hu => by
    rw [Addr.add_mid, Nat.zero_add, (Blk.new W _ _).cell, List.getElem?_toArray]; exact hu) (fun u hu => by
    simp [negK, KeyD.cells] at hu
    rcases hu with rfl | rfl <;> rfl) (by rw [more_kl]; omega) (by rw [more_kl]; exact hn) hw0
  obtain ⟨A2, c2, rfl⟩ := own_form ho
  have hrow := own_ge p2
  have hk := Kp.of_grown hg
  have ne_ : ∀ {g : Nat} {cs : Array Value} {t : TypeId}, Blk (W.alloc (.cells negK.cells.toArray 43)) g cs t → t ≠ 43 → ¬ (Value.slice s.ka (more m i j).keys.length s.kc).ownBlock = some g := fun hb ht e => by
    obtain ⟨cs, hc⟩ := own_blk p2 _ e
    exact ht (blk_ty hb hc)
  have bW := bV.kp hk (ne_ bV (by decide))
  have oW := own_kp p1 hk (fun k hk' e => by
    obtain ⟨cs, hc⟩ := own_blk p1 k hk'
    obtain ⟨cs2, hc2⟩ := own_blk p2 k e
    exact absurd (blk_ty hc hc2) (by decide))
  have hB := below_kp (bel_next h.bel hV) hk hw0 hrow
  refine ⟨A2, c2, w', hr, ⟨_, (bW.cell 15).trans rfl⟩, bW.frozen _, ?_⟩
  rintro V rfl
  have hS : Kp (fun k => k = gy) w' (w'.setCell ⟨gy, 15, none⟩ (.slice A2 ((more m i j).keys.length + 1) c2)) := Kp.setCell (S := fun k => k = gy) (Kp.refl _ _) (p := ⟨gy, 15, none⟩) rfl _
  have hlen : (more m i j).keys.length + 1 = (more m i (j + 1)).keys.length := by rw [more_k]; simp
  refine ⟨⟨below_kp hB hS hB.size (fun k hk => by have := h.gey; omega), h.gey, ?_, ?_, ?_⟩, fun g cs t hb h1 h2 h3 => ((hb.kp (S := fun _ => False) (Kp.of_below hV) (fun h => h)).kp hk (ne_ (hb.kp (S := fun _ => False) (Kp.of_below hV) (fun h => h)) h2)).kp hS h3⟩
  · have := bW.set 15 (.slice A2 ((more m i j).keys.length + 1) c2)
    rw [hlen] at this ⊢
    exact this
  · exact own_set oW bW (by decide) hS
  · have := own_set ho bW (by decide) hS
    rw [← hlen, more_k, List.map_append, List.flatten_append]
    simpa using this
theorem rows_pre {W : World} {A : Option Addr} {k : Nat} {a b : List (List Value)} (h : RowsAt W A k (a ++ b)) : RowsAt W A k a :=
  ⟨fun i cs hi => h.at_ i cs (by rw [List.getElem?_append_left (List.getElem?_eq_some_iff.1 hi).1]; exact hi)⟩
theorem YSt.rowsE (h : YSt w gy m i j s W) : RowsAt W s.ea 7 (m.entries.map EntryD.cells ++ List.replicate i negE.cells) := by
  have := rows_own h.oe (fun r hr => by obtain ⟨x, _, rfl⟩ := List.mem_map.1 hr; rfl) (by omega)
  simpa [more] using this
theorem YSt.rowsK (h : YSt w gy m i j s W) : RowsAt W s.ka 2 (m.keys.map KeyD.cells ++ List.replicate j negK.cells) := by
  have := rows_own h.ok (fun r hr => by obtain ⟨x, _, rfl⟩ := List.mem_map.1 hr; rfl) (by omega)
  simpa [more] using this
end

end Go.Proofs.Ytmhcjkiaogimgaa
