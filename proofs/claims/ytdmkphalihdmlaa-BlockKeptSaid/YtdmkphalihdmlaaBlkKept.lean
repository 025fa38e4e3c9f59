/- BlockKept: the walk (in work). -/
import Derived.Test.YtdmkphalihdmlaaBlkF
namespace Go.Proofs.Ytdmkphalihdmlaa
open Go.RowKit

theorem bvals_get (l : List Int) (j : Nat) (h : j < l.length) : (bvals l)[j]? = some (.int .u8 (l.getD j 0)) := ints_get .u8 l j h
/-- An owned row of bytes, cell by cell. -/
theorem own_cell {w : World} {base n c g : Nat} {l : List Int} (h : w.ownsRow base 5 1 (.slice (some ⟨g, 0, none⟩) n c) n (bvals l)) (j : Nat) (hj : j < l.length) : g < w.heap.size ∧ w.cell? ⟨g, 0 + j, none⟩ = some (.int .u8 (l.getD j 0)) := by
  obtain ⟨x, hx, hlt, hc⟩ := (RdV.of_own h).at_ j _ (bvals_get l j hj)
  injection hx with hx
  subst hx
  rw [Addr.add_mid] at hc
  exact ⟨hlt, hc⟩

/-- A block of bytes, whatever they are, up to a place. -/
structure Bytes (w : World) (g m : Nat) : Prop where
  ex : ∃ (cs : Array Value) (t : TypeId), Blk w g cs t ∧ ∀ j, j < m → ∃ v : Int, cs[j]? = some (.int .u8 v)
theorem Bytes.cell {w : World} {g m : Nat} (h : Bytes w g m) (j : Nat) (hj : j < m) : ∃ v : Int, w.cell? ⟨g, j, none⟩ = some (.int .u8 v) := by
  obtain ⟨cs, t, hb, hc⟩ := h.ex
  obtain ⟨v, hv⟩ := hc j hj
  exact ⟨v, by rw [hb.cell]; exact hv⟩
theorem Bytes.frozen {w : World} {g m : Nat} (h : Bytes w g m) (j : Nat) : w.frozen? ⟨g, j, none⟩ = false := by
  obtain ⟨cs, t, hb, _⟩ := h.ex
  exact hb.frozen j
theorem Bytes.set {w : World} {g m : Nat} (h : Bytes w g m) (i : Nat) (v : Int) : Bytes (w.setCell ⟨g, i, none⟩ (.int .u8 v)) g m := by
  obtain ⟨cs, t, hb, hc⟩ := h.ex
  refine ⟨_, t, hb.set i _, fun j hj => ?_⟩
  obtain ⟨u, hu⟩ := hc j hj
  by_cases hij : i = j
  · subst hij
    exact ⟨v, by rw [Array.getElem?_setIfInBounds_self_of_lt (Array.getElem?_eq_some_iff.1 hu).1]⟩
  · exact ⟨u, by rw [Array.getElem?_setIfInBounds_ne hij]; exact hu⟩

theorem own_bytes {w : World} {base n c g : Nat} {l : List Int} (h : w.ownsRow base 5 1 (.slice (some ⟨g, 0, none⟩) n c) n (bvals l)) : Bytes w g l.length := by
  obtain ⟨_, hv⟩ := h
  rcases hv with ⟨he, _⟩ | ⟨g', cap, cur, he, _, hb, _, _, _, ht⟩
  · cases he
  · injection he with h1 _ _
    injection h1 with h1
    injection h1 with h1 _ _
    subst h1
    refine ⟨cur, _, hb, fun j hj => ⟨l.getD j 0, ?_⟩⟩
    have := bvals_get l j hj
    rw [← ht, List.getElem?_take] at this
    split at this
    · rwa [← Array.getElem?_toList]
    · cases this

/-- A block of just so many bytes. -/
structure Bytes2 (w : World) (g m : Nat) : Prop where
  ex : ∃ (cs : Array Value), Blk w g cs 5 ∧ cs.size = m ∧ ∀ j, j < m → ∃ v : Int, cs[j]? = some (.int .u8 v)
theorem Bytes2.bytes {w : World} {g m : Nat} (h : Bytes2 w g m) : Bytes w g m := by
  obtain ⟨cs, hb, _, hc⟩ := h.ex
  exact ⟨cs, _, hb, hc⟩
theorem Bytes2.set {w : World} {g m : Nat} (h : Bytes2 w g m) (i : Nat) (v : Int) : Bytes2 (w.setCell ⟨g, i, none⟩ (.int .u8 v)) g m := by
  obtain ⟨cs, hb, hz, hc⟩ := h.ex
  refine ⟨_, hb.set i _, by simp [hz], fun j hj => ?_⟩
  obtain ⟨u, hu⟩ := hc j hj
  by_cases hij : i = j
  · subst hij
    exact ⟨v, by rw [Array.getElem?_setIfInBounds_self_of_lt (Array.getElem?_eq_some_iff.1 hu).1]⟩
  · exact ⟨u, by rw [Array.getElem?_setIfInBounds_ne hij]; exact hu⟩
theorem Bytes2.own {w : World} {g m : Nat} (h : Bytes2 w g m) (hm : m ≤ maxLen) : ∃ vs, w.ownsRow g 5 1 (.slice (some ⟨g, 0, none⟩) m m) m vs := by
  obtain ⟨cs, hb, hz, _⟩ := h.ex
  exact ⟨cs.toList, by simp [hz], .inr ⟨g, m, cs, rfl, Nat.le_refl _, hb, Nat.le_refl _, hm, by simp [hz], by rw [List.take_of_length_le]; simp [hz]⟩⟩
/-- What stands while x grows. -/
structure KInv (w wr : World) (d g : Nat) (s : DS) (y : Nat) (l : List Int) (x h : Nat) : Prop where
  bel : Below w.heap.size w wr
  disk : DiskAt wr d g s
  blk : Blk wr y (ints .u8 l).toArray 5
  size : h ≤ wr.heap.size
theorem KInv.kp {w wr wr' : World} {d g : Nat} {s : DS} {y : Nat} {l : List Int} {x h : Nat} {S : Nat → Prop} (h0 : KInv w wr d g s y l x h) (hk : Kp S wr wr') (hs : ∀ k, S k → k = x ∨ h ≤ k)
    (hx : w.heap.size ≤ x) (hh : w.heap.size ≤ h) (h1 : d < h) (h2 : g < h) (h3 : y < h) (n1 : d ≠ x) (n2 : g ≠ x) (n3 : y ≠ x) : KInv w wr' d g s y l x h :=
  ⟨bel_nextK h0.bel hk (fun k hS => by rcases hs k hS with h | h <;> omega), h0.disk.kp hk (fun hS => by rcases hs _ hS with h | h <;> omega) (fun hS => by rcases hs _ hS with h | h <;> omega),
   h0.blk.kp hk (fun hS => by rcases hs _ hS with h | h <;> omega), Nat.le_trans h0.size hk.size⟩

set_option maxRecDepth 100000 in
set_option maxHeartbeats 2000000 in
theorem kept_yes (n at' fill : Int) (w : World) (h1 : 1 ≤ n) (h2 : n ≤ 1024) :
    Calls Try.prog 4 #[.int .i64 n, .int .i64 at', .int .i64 fill] w fun e w' => e = .returned (.bool true) ∧ Below w.heap.size w w' := by
  go_enter Try.func4, Try.ntmps4
  go_wp2_with fail
  refine (new_yes n w h1 h2).mono ?_
  rintro e w1 ⟨rfl, b1, d1⟩
  go_wp2_with fail
  refine (place_any at' n w1 (by omega) (by omega)).mono ?_
  rintro e w2 ⟨rfl, rfl⟩
  have hk0 := Int.emod_nonneg at' (show n ≠ 0 by omega)
  have hk1 := Int.emod_lt_of_pos at' (show 0 < n by omega)
  generalize at' % n = k at *
  go_wp2_with fail
  refine (bytes64 fill w1).mono ?_
  rintro e w2 ⟨rfl, b2, k2⟩
  go_wp2_with fail
  have hlen := bytes64_length fill
  have LD := lend_any ⟨w1.heap.size, 0, none⟩ 64 (bytesL 64 fill) w2 (fun j u hu => by
    rw [Addr.add_mid, Nat.zero_add, k2.cell, ← Array.getElem?_toList]
    exact hu) (by omega)
  rw [hlen] at LD
  refine LD.mono ?_
  rintro e w3 ⟨A, c, rfl, o3, b3⟩
  rw [hlen] at o3
  obtain ⟨g, rfl, hcap⟩ := own_some o3 (by omega)
  have hg := own_ge o3 g rfl
  have hget1 : ∀ j, j < 64 → (bytesL 64 fill ++ marks70 70).getD j 0 = (bytesL 64 fill).getD j 0 := fun j hj => by
    simp [List.getD_eq_getElem?_getD, List.getElem?_append_left (show j < (bytesL 64 fill).length by omega)]
  have hget2 : ∀ j, j < 70 → (bytesL 64 fill ++ marks70 70).getD (64 + j) 0 = 101 + (j : Int) := fun j hj => by
    rw [List.getD_eq_getElem?_getD, List.getElem?_append_right (by omega), hlen, show 64 + j - 64 = j by omega]
    simp [marks70, hj]
  have hall : (bytesL 64 fill ++ marks70 70).length = 134 := by rw [List.length_append, hlen, marks70_length]
  have z1 := d1.lt
  have z2 := b2.size
  have z3 := b3.size
  have hrd : Rd .u8 w3 (some ⟨g, 0, none⟩) (bytesL 64 fill) := ⟨fun j hj => by
    obtain ⟨h3, h4⟩ := own_cell o3 j (by omega)
    exact ⟨_, rfl, h3, by rw [Addr.add_mid, h4, hget1 j (by omega)]⟩⟩
  have hkn : (DS.new n.toNat).n = n.toNat := rfl
  obtain ⟨kk, rfl⟩ := Int.eq_ofNat_of_zero_le hk0
  rw [hlen]
  go_wp2_with fail
  refine (write_good w3 _ _ _ ((d1.below b2).below (b3.mono (Nat.le_refl _))) kk (by rw [hkn]; omega) g 0 c _ hlen hrd (by omega) rfl (by show (-1 : Int) ≠ 0; decide) (by show (0 : Int) + 1 ≤ _; decide)).mono ?_
  rintro e w4 ⟨rfl, kp4, d4⟩
  go_wp2_with fail
  refine (bytes64 fill w4).mono ?_
  rintro e w5 ⟨rfl, b5, k5⟩
  have z4 := kp4.size
  have o5 := own_below (own_kp o3 kp4 (fun k hk => by have : g = k := by injection hk
                                                      omega)) b5
  have d5 := d4.below b5
  have B5 : Below w.heap.size w w5 := bel_next (bel_nextK (bel_next (bel_next b1 b2) b3) kp4 (fun k hk => by omega)) b5
  have BK := back_any w4.heap.size 0 64 g 0 c 64 (bytesL 64 fill) w5 hlen (by omega)
    (fun j hj => by rw [k5.cell, ← Array.getElem?_toList, Nat.zero_add]; exact bvals_get _ j (by omega))
    (fun j hj => by rw [(own_cell o5 j (by omega)).2, hget1 j hj])
    (fun j hj => by rw [(own_cell o5 (64 + j) (by omega)).2, hget2 j hj])
  go_wp2_with fail
  refine BK.mono ?_
  rintro e w6 ⟨rfl, e6⟩
  have Y5 := own_bytes o5
  rw [hall] at Y5
  have Y6 : Bytes w6 g 134 := by obtain ⟨q, rfl⟩ := e6.ex; exact ⟨Y5.ex⟩
  have d6 := d5.below (e6.below _)
  have B6 := bel_next B5 (e6.below _)
  have z5 := b5.size
  have z6 := B6.size
  have hg6 : w.heap.size + 1 < g := by omega
  have hg7 : g < w6.heap.size := by
    obtain ⟨v, hv⟩ := Y6.cell 0 (by omega)
    exact World.block_lt_of_cell? w6 ⟨g, 0, none⟩ hv
  clear BK k5 o5 Y5 d5 B5 z4 z5 kp4 d4 b5 LD k2 o3 hrd hget1 hget2 hall e6 hcap
  go_wp2_with fail
  go_loopw [12] (fun v wr => ∃ i : Nat, i ≤ 134 ∧ v = .int .i64 i ∧ Bytes wr g 134 ∧ Kp (fun k => k = g) w6 wr) (fun v _ => 134 - (intOf v).toNat)
  case atStart => exact ⟨0, by omega, rfl, Y6, Kp.refl _ _⟩
  case round =>
    obtain ⟨i, hi, rfl, hy, hkp⟩ := hrel
    by_cases hlt : i < 134
    · obtain ⟨v, hv⟩ := hy.cell i hlt
      have hfz := hy.frozen i
      go_wp2_with fail
      go_roundw
      case rel => exact ⟨i + 1, by omega, by go_num, hy.set i _, hkp.set1 _⟩
      case measure => simp [intOf]; omega
    · obtain ⟨W1, rfl⟩ : ∃ W1, W1 = wr := ⟨_, rfl⟩
      have z7 := hkp.size
      have d7 := d6.kp hkp (by show ¬ (_ = g); omega) (by show ¬ (_ = g); omega)
      have B7 := bel_nextK B6 hkp (fun k hk => by omega)
      have hsn : ((DS.new n.toNat).put (↑kk) (bytesL 64 fill)).n = n.toNat := rfl
      have hsc : Hid (((DS.new n.toNat).put (↑kk) (bytesL 64 fill)).c kk = bytesL 64 fill) := by
        show (if kk = ((kk : Int)).toNat then _ else _) = _
        rw [if_pos (by omega)]
      have hkn2 : (kk : Int) < ((DS.new n.toNat).put (↑kk) (bytesL 64 fill)).n := by rw [hsn]; omega
      generalize (DS.new n.toNat).put (↑kk) (bytesL 64 fill) = s at *
      obtain rfl : i = 134 := by omega
      clear hy d6 B6 Y6 hsn hkn hkp hi hlt
      go_wp2_with fail
      refine (read_yes W1 _ _ _ d7 kk hk0 hkn2).mono ?_
      rintro e w7 ⟨rfl, b7, k7⟩
      rw [Int.toNat_natCast, hsc.out] at k7
      go_wp2_with fail
      have d8 := d7.below b7
      refine (read_yes w7 _ _ _ d8 kk hk0 hkn2).mono ?_
      rintro e w8 ⟨rfl, b8, k8⟩
      rw [Int.toNat_natCast, hsc.out] at k8
      go_wp2_with fail
      refine (bytes64 fill w8).mono ?_
      rintro e w9 ⟨rfl, b9, k9⟩
      go_wp2_with fail
      have k7' := (k7.below b8).below b9
      refine (same_yes _ _ (bytesL 64 fill) _ _ w9 k7' k9 hlen).mono ?_
      rintro e w10 ⟨rfl, e10⟩
      go_wp2_with fail
      refine (bytes64 fill w10).mono ?_
      rintro e w11 ⟨rfl, b11, k11⟩
      have b10 := e10.below w9.heap.size
      go_wp2_with fail
      have k8' := ((k8.below b9).below b10).below b11
      refine (same_yes _ _ (bytesL 64 fill) _ _ w11 k8' k11 hlen).mono ?_
      rintro e w12 ⟨rfl, e12⟩
      have b12 := e12.below w11.heap.size
      have y1 := b7.size
      have y2 := b8.size
      have y3 := b9.size
      have y4 := b10.size
      have y5 := b11.size
      have y6 := b12.size
      have q7 := k7.lt
      have q8 := k8.lt
      have D12 := (((d8.below b8).below b9).below b10).below (b11.trans (b12.mono y5))
      have B12 := bel_next (bel_next (bel_next (bel_next (bel_next (bel_next B7 b7) b8) b9) b10) b11) b12
      have K12 := k8'.below b12
      have Y12 : Bytes2 w12 W1.heap.size 64 := ⟨_, ((k7'.below b10).below b11).below b12, by simp [ints_length, hlen], fun j hj => ⟨_, by rw [List.getElem?_toArray]; exact ints_get .u8 (bytesL 64 fill) j (by omega)⟩⟩
      have z12 := K12.lt
      have hd7 := d7.lt
      clear k7 k8 k9 k11 k7' k8' b7 b8 b9 b10 b11 b12 e10 e12 d7 d8 B7 y1 y2 y3 y4 y5 y6 z7
      go_wp2_with fail
      go_loopw [17] (fun v W1' => ∃ i : Nat, i ≤ 64 ∧ v = .int .i64 i ∧ Bytes2 W1' W1.heap.size 64 ∧ Kp (fun k => k = W1.heap.size) w12 W1') (fun v _ => 64 - (intOf v).toNat)
      case atStart => exact ⟨0, by omega, rfl, Y12, Kp.refl _ _⟩
      case round =>
        obtain ⟨i2, hi2, rfl, hy, hkp⟩ := hrel
        by_cases hlt2 : i2 < 64
        · obtain ⟨v, hv⟩ := hy.bytes.cell i2 hlt2
          have hfz := hy.bytes.frozen i2
          go_wp2_with fail
          go_roundw
          case rel => exact ⟨i2 + 1, by omega, by go_num, hy.set i2 _, hkp.set1 _⟩
          case measure => simp [intOf]; omega
        · obtain ⟨W2, rfl⟩ : ∃ W2, W2 = wr := ⟨_, rfl⟩
          obtain rfl : i2 = 64 := by omega
          rw [show ((64 : Nat) : Int) = 64 from rfl]
          have z13 := hkp.size
          have KI : KInv w W2 (w.heap.size + 1) w.heap.size s w7.heap.size (bytesL 64 fill) W1.heap.size W2.heap.size :=
            ⟨bel_nextK B12 hkp (fun k hk => by omega), D12.kp hkp (by show ¬ (_ = W1.heap.size); omega) (by show ¬ (_ = W1.heap.size); omega), K12.kp hkp (by show ¬ (_ = W1.heap.size); omega), Nat.le_refl _⟩
          obtain ⟨vs, hvs⟩ := hy.own (by unfold maxLen; omega)
          obtain ⟨X, hX⟩ : ∃ X, Hid (X = W1.heap.size) := ⟨_, rfl⟩
          obtain ⟨N, hN⟩ : ∃ N, Hid (N = W2.heap.size) := ⟨_, rfl⟩
          clear D12 K12 B12 Y12 hkp hy hi2 hlt2
          go_wp2_with fail
          go_loopw [13, 18] (fun v x W1' => ∃ i m : Nat, i ≤ 70 ∧ Hid (m = 64 + i) ∧ x = .int .i64 i ∧ ∃ A' c', v = .slice A' m c' ∧ (∃ vs, W1'.ownsRow W1.heap.size 5 1 (.slice A' m c') m vs) ∧ (∀ k, (Value.slice A' m c').ownBlock = some k → k = W1.heap.size ∨ W2.heap.size ≤ k) ∧ KInv w W1' (w.heap.size + 1) w.heap.size s w7.heap.size (bytesL 64 fill) W1.heap.size W2.heap.size) (fun _ v _ => 70 - (intOf v).toNat)
          case atStart => exact ⟨0, 64, by omega, Lib.hid rfl, rfl, _, _, rfl, ⟨vs, hvs⟩, fun k hk => .inl (by injection hk with hk; exact hk.symm), KI⟩
          case round =>
            obtain ⟨i3, m, hi3, hm, rfl, A', c', rfl, ⟨vs3, hown⟩, hrow, hKI⟩ := hrel
            by_cases hlt3 : i3 < 70
            · have hmm : m ≤ 134 := by have := hm.out; omega
              have hz3 := hKI.size
              obtain ⟨v', w2, hr, ho, hgr, hat⟩ := append_run2 (P := Try.prog) (w := wr.alloc (.cells #[.int .u8 9] 5)) 29 Try.underlying29 binfo (by omega) (own_below hown ((Below.refl _ _).alloc (Nat.le_refl _) _))
                (news := [.int .u8 9]) (a := ⟨wr.heap.size, 0, none⟩) (m := 1) (c := 1) rfl
                (fun j u hu => by
                  rw [Addr.add_mid, Nat.zero_add, (Blk.new wr _ _).cell]
                  simpa using hu)
                (fun u hu => by simp at hu; subst hu; rfl) (by omega) (by omega) (by simp; omega)
              obtain ⟨A2, c2, rfl⟩ := own_form ho
              have hKI2 := hKI.kp (((Kp.refl _ wr).alloc (.cells #[.int .u8 9] 5)).trans (Kp.of_grown hgr)) hrow (by omega) (by omega) (by omega) (by omega) (by omega) (by omega) (by omega) (by omega)
              have hrow2 : Hid (∀ k, (Value.slice A2 (m + 1) c2).ownBlock = some k → k = W1.heap.size ∨ W2.heap.size ≤ k) := fun k hk => by
                rcases hat with hat | hat
                · exact hrow k (hat.symm.trans hk)
                · rw [hat] at hk
                  injection hk with hk
                  simp at hk
                  omega
              have HO := Lib.hid ho
              clear ho hgr hat hrow hown hKI hz3
              go_wp2_with (at_builtin; refine wpList_append_run rfl _ _ _ _ rfl _ _ _ rfl rfl hr ?_)
              go_roundw
              case rel => exact ⟨i3 + 1, m + 1, by omega, Lib.hid (by rw [hm.out, Nat.add_assoc]), by go_num, A2, c2, rfl, ⟨_, HO.out⟩, hrow2.out, hKI2⟩
              case measure => simp [intOf]; omega
            · obtain rfl : i3 = 70 := by omega
              have hm' := hm.out
              subst hm'
              clear hown hrow
              go_wp2_with fail
              refine (read_yes wr _ _ _ hKI.disk kk hk0 hkn2).mono ?_
              rintro e w4 ⟨rfl, b4, k4⟩
              rw [Int.toNat_natCast, hsc.out] at k4
              go_wp2_with fail
              refine (bytes64 fill w4).mono ?_
              rintro e w5 ⟨rfl, b5, k5⟩
              go_wp2_with fail
              have y5 := (hKI.blk.below b4).below b5
              refine (same_yes _ _ (bytesL 64 fill) _ _ w5 y5 k5 hlen).mono ?_
              rintro e w6 ⟨rfl, e6⟩
              go_wp2_with fail
              refine (bytes64 fill w6).mono ?_
              rintro e w7 ⟨rfl, b7, k7⟩
              have b6 := e6.below w5.heap.size
              go_wp2_with fail
              have k4' := ((k4.below b5).below b6).below b7
              refine (same_yes _ _ (bytesL 64 fill) _ _ w7 k4' k7 hlen).mono ?_
              rintro e w8 ⟨rfl, e8⟩
              go_wp2_with fail
              refine (awake_any w8).mono ?_
              rintro e w9 ⟨rfl, b9⟩
              go_wp2_with fail
              go_ret
              exact ⟨rfl, bel_next (bel_next (bel_next (bel_next (bel_next (bel_next hKI.bel b4) b5) b6) b7) (e8.below _)) b9⟩

set_option maxRecDepth 100000 in
set_option maxHeartbeats 2000000 in
theorem kept_no (n at' fill : Int) (w : World) (h : n < 1 ∨ 1024 < n) :
    Calls Try.prog 4 #[.int .i64 n, .int .i64 at', .int .i64 fill] w fun e w' => e = .returned (.bool true) ∧ Below w.heap.size w w' := by
  rcases h with h | h
  all_goals
    go_enter Try.func4, Try.ntmps4
    go_wp2_with fail
    refine (new_bad n w (by omega)).mono ?_
    rintro e w1 ⟨rfl, rfl⟩
    go_wp2_with fail
    refine (awake_any w).mono ?_
    rintro e w4 ⟨rfl, b4⟩
    go_wp2_with fail
    go_ret
    exact ⟨rfl, b4⟩

/-- As the row hands it over. -/
theorem kept_law (n : Int) (_ : (Lit.int .i64 n).wf = true) (at' : Int) (_ : (Lit.int .i64 at').wf = true) (fill : Int) (_ : (Lit.int .i64 fill).wf = true) {W : World} :
    Calls Try.prog 4 #[.int .i64 n, .int .i64 at', .int .i64 fill] W fun e w' => e = .returned (.bool true) ∧ Below W.heap.size W w' := by
  by_cases h : n < 1 ∨ 1024 < n
  · exact kept_no n at' fill W h
  · exact kept_yes n at' fill W (by omega) (by omega)

end Go.Proofs.Ytdmkphalihdmlaa
