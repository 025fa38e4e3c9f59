/- The writer: what it has laid down; its byte, numbers, text, key, entry, op. -/
import Derived.Test.YtmhcjkiaogimgaaWirB
import Derived.Deep.RegionLaw
import Derived.Lib.AppendStr
namespace Go.Proofs.Ytmhcjkiaogimgaa
open Go.RowKit

theorem binfo : (Try.prog.info? 5).map (fun i => (i.zero.map (fun z => z.cells.size), i.size, i.bytes)) = some (some 1, 1, 1) := by kernel_rfl

/-- Block q is a writer; l: the bytes that it has laid down, in block r. -/
structure WAt (w : World) (base q : Nat) (r : Option Nat) (l : List Int) : Prop where
  ex : ∃ A c, Blk w q #[.slice A l.length c] 77 ∧ w.ownsRow base 5 1 (.slice A l.length c) l.length (bvals l) ∧ (Value.slice A l.length c).ownBlock = r
def WS (q : Nat) (r : Option Nat) : Nat → Prop := fun k => k = q ∨ r = some k
theorem blk_ty {w : World} {k : Nat} {cs cs' : Array Value} {t t' : TypeId} (h : Blk w k cs t) (h' : Blk w k cs' t') : t = t' := by
  unfold Blk at h h'
  rw [h] at h'
  injection h' with h'
  injection h' with _ h'
theorem own_blk {w : World} {base n : Nat} {e : TypeId} {size : Nat} {v : Value} {vs : List Value} (h : w.ownsRow base e size v n vs) : ∀ k, v.ownBlock = some k → ∃ cs, Blk w k cs e := by
  intro k hk
  obtain ⟨_, ⟨rfl, _⟩ | ⟨g, cap, cur, rfl, _, hb, _⟩⟩ := h
  · cases hk
  · injection hk with hk
    have hk : g = k := hk
    subst hk
    exact ⟨cur, hb⟩
theorem WAt.ne {w : World} {base q : Nat} {r : Option Nat} {l : List Int} (h : WAt w base q r l) : ∀ k, r = some k → k ≠ q ∧ k < w.heap.size ∧ base ≤ k := by
  obtain ⟨A, c, hb, ho, hr⟩ := h.ex
  intro k hk
  obtain ⟨cs, hc⟩ := own_blk ho k (hr.trans hk)
  refine ⟨fun e => ?_, hc.lt, own_ge ho k (hr.trans hk)⟩
  subst e
  exact absurd (blk_ty hb hc) (by decide)
theorem WAt.kp {S : Nat → Prop} {w w' : World} {base q : Nat} {r : Option Nat} {l : List Int} (h : WAt w base q r l) (hk : Kp S w w') (h1 : ¬ S q) (h2 : ∀ k, r = some k → ¬ S k) : WAt w' base q r l := by
  obtain ⟨A, c, hb, ho, hr⟩ := h.ex
  exact ⟨A, c, hb.kp hk h1, own_kp ho hk (fun k hk' => h2 k (hr ▸ hk')), hr⟩
theorem WAt.below {w w' : World} {base q : Nat} {r : Option Nat} {l : List Int} (h : WAt w base q r l) (hb : Below w.heap.size w w') : WAt w' base q r l :=
  h.kp (S := fun _ => False) (Kp.of_below hb) (fun h => h) (fun _ _ h => h)
theorem WAt.lt {w : World} {base q : Nat} {r : Option Nat} {l : List Int} (h : WAt w base q r l) : q < w.heap.size := by
  obtain ⟨A, c, hb, _⟩ := h.ex
  exact hb.lt
/-- From w to w' the writer has gone on. -/
structure WTo (q : Nat) (w : World) (r : Option Nat) (w' : World) (r' : Option Nat) : Prop where
  kp : Kp (WS q r) w w'
  row : r' = r ∨ ∃ k, r' = some k ∧ w.heap.size ≤ k
theorem WTo.refl (q : Nat) (w : World) (r : Option Nat) : WTo q w r w r := ⟨Kp.refl _ _, .inl rfl⟩
theorem WTo.below {q : Nat} {w w' : World} {r : Option Nat} (h : Below w.heap.size w w') : WTo q w r w' r := ⟨Kp.of_below h, .inl rfl⟩
theorem WTo.trans {q : Nat} {a b c : World} {r s t : Option Nat} (h : WTo q a r b s) (k : WTo q b s c t) : WTo q a r c t := by
  refine ⟨⟨k.kp.os.trans h.kp.os, k.kp.tape.trans h.kp.tape, k.kp.output.trans h.kp.output, Nat.le_trans h.kp.size k.kp.size, fun i hi hs => ?_⟩, ?_⟩
  · refine (k.kp.block i (Nat.lt_of_lt_of_le hi h.kp.size) (fun hS => ?_)).trans (h.kp.block i hi hs)
    rcases hS with e | e
    · exact hs (.inl e)
    · rcases h.row with e' | ⟨k', e', hge⟩
      · exact hs (.inr (by rw [← e']; exact e))
      · rw [e'] at e
        injection e with e
        omega
  · rcases k.row with e | ⟨k', e, hge⟩
    · rcases h.row with e' | ⟨k', e', hge⟩
      · exact .inl (e.trans e')
      · exact .inr ⟨k', e.trans e', hge⟩
    · exact .inr ⟨k', e, Nat.le_trans h.kp.size hge⟩
/-- A block that is not the writer's stands. -/
theorem WTo.blk {q : Nat} {w w' : World} {r r' : Option Nat} (h : WTo q w r w' r') {g : Nat} {cs : Array Value} {t : TypeId} (hb : Blk w g cs t) (h1 : g ≠ q) (h2 : r ≠ some g) : Blk w' g cs t := hb.kp h.kp (fun hS => by rcases hS with e | e; exact h1 e; exact h2 e)
theorem WTo.below_of {q base : Nat} {w0 w w' : World} {r r' : Option Nat} (h : WTo q w r w' r') (hb : Below base w0 w) (hB : base ≤ w.heap.size) (hq : base ≤ q) (hr : ∀ k, r = some k → base ≤ k) : Below base w0 w' :=
  below_kp hb h.kp hB (fun k hS => by rcases hS with e | e; omega; exact hr k e)

/-- What a call of the writer leaves. -/
def Wrote (base q : Nat) (w : World) (r : Option Nat) (l : List Int) (e : Ending) (w' : World) : Prop := e = .returned (.tuple #[]) ∧ ∃ r', WTo q w r w' r' ∧ WAt w' base q r' l

/-- The writer's row grows: the run of the append, and the world behind the store. -/
theorem grow_run (w : World) (base q : Nat) (r : Option Nat) (l : List Int) (h : WAt w base q r l) (hbase : base ≤ w.heap.size) (news : List Int) (a : Addr) (m c : Nat) (hm : news.length = m)
    (hc : ∀ j u, (bvals news)[j]? = some u → w.cell? (a.add j) = some u) (hlen : l.length + m ≤ 140737488355328) (A : Option Addr) (k : Nat) (hA : w.cell? ⟨q, 0, none⟩ = some (.slice A l.length k)) (ty : TypeId) :
    ∃ A2 c2 w2, (Builtin.append_ #[28, 28] ty #[.slice A l.length k, .slice (some a) m c]).run Try.prog w = .ok (.slice A2 (l.length + m) c2) w2 ∧ w2.cell? ⟨q, 0, none⟩ = some (.slice A l.length k) ∧ w2.frozen? ⟨q, 0, none⟩ = false ∧
      Hid (∀ w3, w3 = w2.setCell ⟨q, 0, none⟩ (.slice A2 (l.length + m) c2) → ∃ r', WTo q w r w3 r' ∧ WAt w3 base q r' (l ++ news)) := by
  have hne := h.ne
  have hq := h.lt
  obtain ⟨A', c', hb, ho, hr⟩ := h.ex
  have e : w.cell? ⟨q, 0, none⟩ = some (.slice A' l.length c') := by rw [hb.cell]; rfl
  rw [hA] at e
  injection e with e
  injection e with e1 _ e2
  subst e1; subst e2
  obtain ⟨v2, w2, hr2, ho2, hg2, hat2⟩ := append_run2 (P := Try.prog) (w := w) (base := base) ty Try.underlying28 binfo (by omega) ho (news := bvals news) (a := a) (m := m) (c := c) (by rw [bvals_length, hm, Nat.mul_one]) hc (bvals_one _) (by omega) (by omega) hbase
  obtain ⟨A2, c2, rfl⟩ := own_form ho2
  have hk2 := Kp.of_grown hg2
  have hrow : ∀ i, (Value.slice A l.length k).ownBlock = some i → i ≠ q := fun i hi => (hne i (hr ▸ hi)).1
  have hb2 : Blk w2 q #[.slice A l.length k] 77 := hb.kp hk2 (fun hi => hrow q hi rfl)
  refine ⟨A2, c2, w2, hr2, by rw [hb2.cell]; rfl, hb2.frozen _, ?_⟩
  rintro w3 rfl
  have hk3 : Kp (WS q r) w (w2.setCell ⟨q, 0, none⟩ (.slice A2 (l.length + m) c2)) := (hk2.mono (fun i hi _ => .inr (hr ▸ hi))).setCell (p := ⟨q, 0, none⟩) (.inl rfl) _
  have hrow2 : ∀ i, (Value.slice A2 (l.length + m) c2).ownBlock = some i → i ≠ q := fun i hi => by
    rcases hat2 with e | e
    · exact hrow i (e ▸ hi)
    · rw [e] at hi
      injection hi with hi
      omega
  refine ⟨(Value.slice A2 (l.length + m) c2).ownBlock, ⟨hk3, ?_⟩, ⟨A2, c2, ?_, ?_, ?_⟩⟩
  · rcases hat2 with e | e
    · exact .inl (e.trans hr)
    · exact .inr ⟨_, e, Nat.le_refl _⟩
  · have := hb2.set 0 (.slice A2 (l.length + m) c2)
    simpa [hm] using this
  · have := own_kp ho2 ((Kp.refl (fun i => i = q) w2).setCell (p := ⟨q, 0, none⟩) rfl (.slice A2 (l.length + m) c2)) hrow2
    rw [List.length_append, hm, bvals_append]
    exact this
  · rw [List.length_append, hm]

theorem u8_wrap (x : Int) : IntKind.u8.wrap x = x % 256 := by
  unfold IntKind.wrap
  simp [IntKind.signed, IntKind.bits]
set_option maxHeartbeats 1000000 in
theorem wbyte_any (w : World) (base q : Nat) (r : Option Nat) (l : List Int) (h : WAt w base q r l) (hbase : base ≤ w.heap.size) (hlen : l.length + 1 ≤ 140737488355328) (x : Int) :
    Calls Try.prog 31 #[.pointer (some ⟨q, 0, none⟩), .int .i64 x] w (Wrote base q w r (l ++ [x % 256])) := by
  have hq := h.lt
  obtain ⟨A, k, hb, _⟩ := h.ex
  have hA : w.cell? ⟨q, 0, none⟩ = some (.slice A l.length k) := by rw [hb.cell]; rfl
  have hB : Below w.heap.size w (w.alloc (.cells #[.int .u8 (x % 256)] 5)) := bel_al (Below.refl _ _) _
  obtain ⟨A2, c2, w2, hr, q1, q2, HF⟩ := grow_run _ base q r l (h.below hB) (Nat.le_trans hbase hB.size) [x % 256] ⟨w.heap.size, 0, none⟩ 1 1 rfl (fun j u hu => by
    rw [Addr.add_mid, Nat.zero_add, (Blk.new w _ _).cell]; simpa [bvals] using hu) hlen A k ((hB.cell hq).trans hA) 28
  have HB := Lib.hid hB
  clear hb h hB
  go_enter Try.func31, Try.ntmps31
  go_wp2_with (at_builtin; refine wpList_append_run rfl _ _ _ _ rfl _ _ _ rfl rfl hr ?_)
  go_end0
  obtain ⟨r', t1, t2⟩ := HF.out _ rfl
  exact ⟨rfl, r', (WTo.below HB.out).trans t1, t2⟩

theorem ofInt_i64 (a : Nat) (ha : a < 9223372036854775808) : (BitVec.ofInt 64 (a : Int)).toNat = a := by
  rw [BitVec.ofInt_natCast, BitVec.toNat_ofNat]; exact Nat.mod_eq_of_lt (by omega)
theorem i64_and_nat (a b : Nat) (ha : a < 9223372036854775808) (hb : b < 9223372036854775808) : bits .and .i64 (a : Int) (b : Int) = ((a &&& b : Nat) : Int) := by
  have hx : a &&& b < 2 ^ 63 := Nat.and_lt_two_pow _ (by omega)
  show IntKind.i64.wrap ((BitVec.ofInt 64 (a : Int) &&& BitVec.ofInt 64 (b : Int)).toNat : Int) = _
  rw [BitVec.toNat_and, ofInt_i64 a ha, ofInt_i64 b hb, IntKind.wrap_i64]
  omega
theorem i64_or_nat (a b : Nat) (ha : a < 9223372036854775808) (hb : b < 9223372036854775808) : bits .or .i64 (a : Int) (b : Int) = ((a ||| b : Nat) : Int) := by
  have hx : a ||| b < 2 ^ 63 := Nat.or_lt_two_pow (by omega) (by omega)
  show IntKind.i64.wrap ((BitVec.ofInt 64 (a : Int) ||| BitVec.ofInt 64 (b : Int)).toNat : Int) = _
  rw [BitVec.toNat_or, ofInt_i64 a ha, ofInt_i64 b hb, IntKind.wrap_i64]
  omega
theorem and_127 (x : Int) (h0 : 0 ≤ x) (h : x ≤ 9223372036854775807) : bits .and .i64 x 127 = x % 128 := by
  obtain ⟨a, rfl⟩ := Int.eq_ofNat_of_zero_le h0
  have := i64_and_nat a 127 (by omega) (by omega)
  rw [show a &&& 127 = a % 128 from Nat.and_two_pow_sub_one_eq_mod a 7] at this
  exact this
theorem or_128 (x : Int) (h0 : 0 ≤ x) (h : x < 128) : bits .or .i64 x 128 = x + 128 := by
  obtain ⟨a, rfl⟩ := Int.eq_ofNat_of_zero_le h0
  have := i64_or_nat a 128 (by omega) (by omega)
  have h2 := Nat.two_pow_add_eq_or_of_lt (i := 7) (b := a) (show a < 2 ^ 7 by omega) 1
  rw [Nat.or_comm, show (128 : Nat) = 2 ^ 7 * 1 from rfl, ← h2] at this
  rw [show (2 ^ 7 * 1 : Nat) = 128 from rfl, show ((128 : Nat) : Int) = 128 from rfl] at this
  rw [this]
  omega

def vbs (zs : List Int) : List Int := (zs.map vb).flatten
theorem vbs_snoc (zs : List Int) (z : Int) : vbs (zs ++ [z]) = vbs zs ++ vb z := by simp [vbs]
theorem vbs_length (zs : List Int) (h : ∀ z ∈ zs, z ≤ 9223372036854775807) : (vbs zs).length ≤ 9 * zs.length := by
  induction zs with
  | nil => simp [vbs]
  | cons z r ih =>
    have h1 := vb_length_i64 (h z (by simp))
    have h2 := ih (fun x hx => h x (by simp [hx]))
    have : vbs (z :: r) = vb z ++ vbs r := by simp [vbs]
    rw [this, List.length_append, List.length_cons]
    omega

set_option maxHeartbeats 2000000 in
theorem wnumbers_any (w : World) (base q : Nat) (r : Option Nat) (l : List Int) (h : WAt w base q r l) (hbase : base ≤ w.heap.size) (g n : Nat) (zs : List Int) (t : TypeId) (hz : Blk w g (ints .i64 zs).toArray t) (hn : zs.length = n) (hl : n ≤ 1000) (hgq : g ≠ q) (hgr : r ≠ some g)
    (hzs : ∀ z ∈ zs, 0 ≤ z ∧ z ≤ 9223372036854775807) (hlen : l.length ≤ 1000000000) :
    Calls Try.prog 32 #[.pointer (some ⟨q, 0, none⟩), .slice (some ⟨g, 0, none⟩) n n] w (Wrote base q w r (l ++ vbs zs)) := by
  have H := Lib.hid h
  have HZ := Lib.hid hz
  have HN := Lib.hid hn
  have HB := Lib.hid hzs
  clear h hz hn hzs
  go_enter Try.func32, Try.ntmps32
  go_wp2_with fail
  go_loopw [8] (fun v wr => ∃ k : Nat, k ≤ n ∧ v = .int .i64 k ∧ ∃ r', WTo q w r wr r' ∧ WAt wr base q r' (l ++ vbs (zs.take k))) (fun v _ => n - (intOf v).toNat)
  case atStart => exact ⟨0, Nat.zero_le _, rfl, r, WTo.refl _ _ _, by simpa [vbs] using H.out⟩
  case round =>
    obtain ⟨k, hk, rfl, r', hto, hat⟩ := hrel
    by_cases hlt : k < n
    · have hz := hto.blk HZ.out hgq hgr
      have hc := hz.cell k
      rw [List.getElem?_toArray, ints_get _ _ _ (by rw [HN.out]; exact hlt)] at hc
      have hx : Hid (zs.take (k + 1) = zs.take k ++ [zs.getD k 0]) := by
        show _ = _
        rw [List.take_succ_eq_append_getElem (by rw [HN.out]; exact hlt)]
        simp [List.getD_eq_getElem?_getD, HN.out, hlt]
      have hxb := HB.out (zs.getD k 0) (by rw [List.getD_eq_getElem?_getD, List.getElem?_eq_getElem (by rw [HN.out]; exact hlt)]; exact List.getElem_mem _)
      have hls : (vbs (zs.take k)).length ≤ 9000 := by
        have := vbs_length (zs.take k) (fun z hz => (HB.out z (List.mem_of_mem_take hz)).2)
        rw [List.length_take] at this
        omega
      generalize zs.getD k 0 = x0 at *
      have HX := Lib.hid hxb
      have hin : (0 : Int) ≤ (k : Int) := by omega
      clear hz
      go_wp2_with fail
      go_loopw [5] (fun v wr' => ∃ (x : Int) (r2 : Option Nat) (l2 : List Int), 0 ≤ x ∧ x ≤ 9223372036854775807 ∧ v = .int .i64 x ∧ WTo q w r wr' r2 ∧ WAt wr' base q r2 (l ++ vbs (zs.take k) ++ l2) ∧ Hid (vb x0 = l2 ++ vb x)) (fun v _ => (intOf v).toNat)
      case atStart => exact ⟨x0, r', [], HX.out.1, HX.out.2, rfl, hto, by simpa using hat, by show _ = _; simp⟩
      case round =>
        clear hto hat
        obtain ⟨x, r2, l2, hx0, hx1, rfl, hto, hat, hvb⟩ := hrel
        by_cases hbig : 127 < x
        · have e1 := and_127 x hx0 hx1
          have e2 := or_128 (x % 128) (by omega) (by omega)
          go_wp2_with fail
          have hll : (l ++ vbs (zs.take k) ++ l2).length + 1 ≤ 140737488355328 := by
            have h1 := congrArg List.length hvb.out
            rw [List.length_append] at h1
            have h2 := vb_length_i64 (z := x0) HX.out.2
            rw [List.length_append, List.length_append]
            omega
          refine (wbyte_any wr base q r2 _ hat (Nat.le_trans hbase hto.kp.size) hll (x % 128 + 128)).mono ?_
          rintro e w2 ⟨rfl, r3, t3, a3⟩
          have hvb2 : Hid (vb x0 = (l2 ++ [x % 128 + 128]) ++ vb (x / 128)) := by
            show _ = _
            rw [hvb.out, vb_big hbig]; simp
          have hm : (x % 128 + 128) % 256 = x % 128 + 128 := by omega
          rw [hm] at a3
          have hto2 := hto.trans t3
          clear hto t3 e1 e2 hm hvb hat hll
          go_wp2_with fail
          go_roundw
          case rel => exact ⟨x / 128, r3, l2 ++ [x % 128 + 128], by omega, by omega, rfl, hto2, by rw [← List.append_assoc]; exact a3, hvb2⟩
          case measure => simp [intOf]; omega
        · have hll : (l ++ vbs (zs.take k) ++ l2).length + 1 ≤ 140737488355328 := by
            have h1 := congrArg List.length hvb.out
            rw [List.length_append] at h1
            have h2 := vb_length_i64 (z := x0) HX.out.2
            rw [List.length_append, List.length_append]
            omega
          go_wp2_with fail
          refine (wbyte_any wr base q r2 _ hat (Nat.le_trans hbase hto.kp.size) hll x).mono ?_
          rintro e w2 ⟨rfl, r3, t3, a3⟩
          have hvb2 : Hid (l ++ vbs (zs.take (k + 1)) = l ++ vbs (zs.take k) ++ l2 ++ [x % 256]) := by
            show _ = _
            rw [hx.out, vbs_snoc, hvb.out, vb_small (by omega)]; simp
          have hto2 := hto.trans t3
          clear hto t3 hvb hat hll
          go_wp2_with fail
          go_roundw
          case rel => exact ⟨k + 1, by omega, by go_num, r3, hto2, by rw [hvb2.out]; exact a3⟩
          case measure => simp [intOf]; omega
    · obtain rfl : k = n := by omega
      go_wp2_with fail
      go_end0
      refine ⟨rfl, r', hto, ?_⟩
      rwa [List.take_of_length_le (by rw [HN.out]; exact Nat.le_refl _)] at hat

/-- .. of numbers that were just laid. -/
theorem wnumbers_lit (w : World) (base q : Nat) (r : Option Nat) (l : List Int) (h : WAt w base q r l) (hbase : base ≤ w.heap.size) (H n : Nat) (zs : List Int) (cs : Array Value) (hH : w.heap.size = H) (hcs : cs = (ints .i64 zs).toArray) (hn : zs.length = n) (hl : n ≤ 1000)
    (hzs : ∀ z ∈ zs, 0 ≤ z ∧ z ≤ 9223372036854775807) (hlen : l.length ≤ 1000000000) :
    Calls Try.prog 32 #[.pointer (some ⟨q, 0, none⟩), .slice (some ⟨H, 0, none⟩) n n] (w.alloc (.cells cs 3)) (Wrote base q w r (l ++ vbs zs)) := by
  subst hH; subst hcs
  have hq := h.lt
  have hB : Below w.heap.size w (w.alloc (.cells (ints .i64 zs).toArray 3)) := bel_al (Below.refl _ _) _
  refine (wnumbers_any _ base q r l (h.below hB) (Nat.le_trans hbase hB.size) w.heap.size n zs _ (Blk.new _ _ _) hn hl (by omega) (fun e => by have := (h.ne _ e).2.1; omega) hzs hlen).mono ?_
  rintro e w' ⟨he, r', t1, t2⟩
  exact ⟨he, r', (WTo.below hB).trans t1, t2⟩

theorem strCells_eq (s : ByteArray) : Lib.strCells s = bvals (strB s) := by simp [Lib.strCells, bvals, strB]
theorem sinfo : (Try.prog.info? 5).map (fun i => (i.zero, i.size, i.bytes)) = some (some (.int .u8 0), 1, 1) := by kernel_rfl
/-- append(b, s...) on a row of one's own: its run, and where the row lies behind it. -/
theorem append_str_run {w : World} {base n : Nat} {v : Value} {vs : List Value} (ty : TypeId) (s : ByteArray) (hown : w.ownsRow base 5 1 v n vs) (hlen : n + s.size ≤ 140737488355328) (hbase : base ≤ w.heap.size) :
    ∃ v' w', (Builtin.append_ #[28, 9] ty #[v, .string s]).run Try.prog w = .ok v' w' ∧ w'.ownsRow base 5 1 v' (n + s.size) (vs ++ bvals (strB s)) ∧ w.grownBy w' v.ownBlock ∧ (v'.ownBlock = v.ownBlock ∨ v'.ownBlock = some w.heap.size) := by
  obtain ⟨i, hi, hzz⟩ := Option.map_eq_some_iff.1 sinfo
  simp only [Prod.mk.injEq] at hzz
  obtain ⟨hz, hsize, hby⟩ := hzz
  have hu : Try.prog.underlying 9 = some .string := Try.underlying9
  obtain ⟨v', w', hr, h2, h3, h4⟩ := Lib.run_append_own_string (P := Try.prog) w base 28 9 ty 5 i Try.underlying28 hu hi hz hsize hby v n vs hown s (by unfold maxLen; omega) hlen hbase
  rw [strCells_eq] at h2
  refine ⟨v', w', hr, h2, h3, ?_⟩
  rcases hown.2 with ⟨rfl, rfl⟩ | ⟨g, cap, cur, rfl, hbg, hg, hnc, hcm, hcs, htake⟩
  · by_cases hm : s.size = 0
    · rw [h4.2 ⟨rfl, hm⟩]; exact .inl rfl
    · have hr2 := run_append_nil_string (P := Try.prog) w 28 9 ty 5 i (.int .u8 0) Try.underlying28 hu hi hz s (by omega) (by omega) (by rw [hby]; omega)
      rw [hr] at hr2
      injection hr2 with hr2 _
      rw [hr2]
      exact .inr rfl
  · by_cases hroom : n + s.size ≤ cap
    · have hr2 := Lib.run_append_room_string (P := Try.prog) w 28 9 ty 5 i Try.underlying28 hu hi hsize g n cap cur hg s hroom (by omega)
      rw [hr] at hr2
      injection hr2 with hr2 _
      rw [hr2]
      exact .inl rfl
    · have holds : ∀ j u, vs[j]? = some u → w.cell? ((⟨g, 0, none⟩ : Addr).add j) = some u := hown.cells (g := g) rfl
      have hvl : vs.length = n := by simpa using hown.1
      have hr2 := Lib.run_append_grow_string (P := Try.prog) w 28 9 ty 5 i (.int .u8 0) Try.underlying28 hu hi hz ⟨g, 0, none⟩ n cap vs (by rw [hsize]; simpa using hvl) holds s (by omega) (by omega) (by rw [hby]; exact growslice_fits (by omega) (by omega))
      rw [hr] at hr2
      injection hr2 with hr2 _
      rw [hr2]
      exact .inr rfl

/-- The writer's row grows by a string. -/
theorem grow_str (w : World) (base q : Nat) (r : Option Nat) (l : List Int) (h : WAt w base q r l) (hbase : base ≤ w.heap.size) (s : ByteArray) (hlen : l.length + s.size ≤ 140737488355328) (A : Option Addr) (k : Nat) (hA : w.cell? ⟨q, 0, none⟩ = some (.slice A l.length k)) (ty : TypeId) :
    ∃ A2 c2 w2, (Builtin.append_ #[28, 9] ty #[.slice A l.length k, .string s]).run Try.prog w = .ok (.slice A2 (l.length + s.size) c2) w2 ∧ w2.cell? ⟨q, 0, none⟩ = some (.slice A l.length k) ∧ w2.frozen? ⟨q, 0, none⟩ = false ∧
      Hid (∀ w3, w3 = w2.setCell ⟨q, 0, none⟩ (.slice A2 (l.length + s.size) c2) → ∃ r', WTo q w r w3 r' ∧ WAt w3 base q r' (l ++ strB s)) := by
  have hne := h.ne
  have hq := h.lt
  obtain ⟨A', c', hb, ho, hr⟩ := h.ex
  have e : w.cell? ⟨q, 0, none⟩ = some (.slice A' l.length c') := by rw [hb.cell]; rfl
  rw [hA] at e
  injection e with e
  injection e with e1 _ e2
  subst e1; subst e2
  obtain ⟨v2, w2, hr2, ho2, hg2, hat2⟩ := append_str_run ty s ho hlen hbase
  obtain ⟨A2, c2, rfl⟩ := own_form ho2
  have hk2 := Kp.of_grown hg2
  have hrow : ∀ i, (Value.slice A l.length k).ownBlock = some i → i ≠ q := fun i hi => (hne i (hr ▸ hi)).1
  have hb2 : Blk w2 q #[.slice A l.length k] 77 := hb.kp hk2 (fun hi => hrow q hi rfl)
  refine ⟨A2, c2, w2, hr2, by rw [hb2.cell]; rfl, hb2.frozen _, ?_⟩
  rintro w3 rfl
  have hk3 : Kp (WS q r) w (w2.setCell ⟨q, 0, none⟩ (.slice A2 (l.length + s.size) c2)) := (hk2.mono (fun i hi _ => .inr (hr ▸ hi))).setCell (p := ⟨q, 0, none⟩) (.inl rfl) _
  have hrow2 : ∀ i, (Value.slice A2 (l.length + s.size) c2).ownBlock = some i → i ≠ q := fun i hi => by
    rcases hat2 with e | e
    · exact hrow i (e ▸ hi)
    · rw [e] at hi
      injection hi with hi
      omega
  refine ⟨(Value.slice A2 (l.length + s.size) c2).ownBlock, ⟨hk3, ?_⟩, ⟨A2, c2, ?_, ?_, ?_⟩⟩
  · rcases hat2 with e | e
    · exact .inl (e.trans hr)
    · exact .inr ⟨_, e, Nat.le_refl _⟩
  · have := hb2.set 0 (.slice A2 (l.length + s.size) c2)
    simpa [strB_length] using this
  · have := own_kp ho2 ((Kp.refl (fun i => i = q) w2).setCell (p := ⟨q, 0, none⟩) rfl (.slice A2 (l.length + s.size) c2)) hrow2
    rw [List.length_append, strB_length, bvals_append]
    exact this
  · rw [List.length_append, strB_length]

set_option maxHeartbeats 1000000 in
theorem wtext_any (w : World) (base q : Nat) (r : Option Nat) (l : List Int) (h : WAt w base q r l) (hbase : base ≤ w.heap.size) (s : ByteArray) (hs : s.size ≤ 1000000000) (hlen : l.length ≤ 1000000000) :
    Calls Try.prog 68 #[.pointer (some ⟨q, 0, none⟩), .string s] w (Wrote base q w r (l ++ tb s)) := by
  go_enter Try.func68, Try.ntmps68
  go_wp2_with fail
  refine (wnumbers_lit w base q r l h hbase _ 1 [(s.size : Int)] _ rfl rfl rfl (by omega) (by simp; omega) hlen).mono ?_
  rintro e w1 ⟨rfl, r1, t1, a1⟩
  obtain ⟨A, k, hb, _⟩ := a1.ex
  have hA : w1.cell? ⟨q, 0, none⟩ = some (.slice A (l ++ vbs [(s.size : Int)]).length k) := by rw [hb.cell]; rfl
  have hll : (l ++ vbs [(s.size : Int)]).length ≤ 1000000009 := by
    have := vbs_length [(s.size : Int)] (by simp; omega)
    simp only [List.length_append, List.length_singleton] at this ⊢
    omega
  obtain ⟨A2, c2, w2, hr, q1, q2, HF⟩ := grow_str w1 base q r1 _ a1 (Nat.le_trans hbase t1.kp.size) s (by omega) A k hA 28
  have HT := Lib.hid t1
  generalize (l ++ vbs [(s.size : Int)]).length = n at *
  clear hb a1 t1 h
  go_wp2_with (at_builtin; refine wpList_append_run rfl _ _ _ _ rfl _ _ _ rfl rfl hr ?_)
  go_end0
  obtain ⟨r', t2, a2⟩ := HF.out _ rfl
  refine ⟨rfl, r', HT.out.trans t2, ?_⟩
  have e : l ++ vbs [(s.size : Int)] ++ strB s = l ++ tb s := by simp [vbs, tb]
  rwa [e] at a2

end Go.Proofs.Ytmhcjkiaogimgaa
