/- Reading as plain functions on lists of bytes: what is read is what was written. No program. -/
import Derived.Test.YtmhcjkiaogimgaaWirT
namespace Go.Proofs.Ytmhcjkiaogimgaa
open Go.RowKit

/-- A way to read: what is read, and what is left. -/
abbrev Prs (α : Type) := List Int → Option (α × List Int)
def pret {α : Type} (x : α) : Prs α := fun s => some (x, s)
def pbind {α β : Type} (p : Prs α) (f : α → Prs β) : Prs β := fun s => match p s with | some (x, t) => f x t | none => none
theorem pbind_some {α β : Type} {p : Prs α} {f : α → Prs β} {s t : List Int} {x : α} (h : p s = some (x, t)) : pbind p f s = f x t := by rw [pbind, h]
theorem pbind_none {α β : Type} {p : Prs α} {f : α → Prs β} {s : List Int} (h : p s = none) : pbind p f s = none := by rw [pbind, h]
theorem pbind_inv {α β : Type} {p : Prs α} {f : α → Prs β} {s t : List Int} {y : β} (h : pbind p f s = some (y, t)) : ∃ x r, p s = some (x, r) ∧ f x r = some (y, t) := by
  rw [pbind] at h
  split at h
  · rename_i x r hx; exact ⟨x, r, hx, h⟩
  · cases h
def pfail {α : Type} : Prs α := fun _ => none

def isB (s : List Int) : Prop := ∀ z ∈ s, 0 ≤ z ∧ z < 256
theorem isB.right {s t : List Int} (h : isB (s ++ t)) : isB t := fun z hz => h z (List.mem_append_right _ hz)
theorem isB.tail {x : Int} {t : List Int} (h : isB (x :: t)) : isB t := fun z hz => h z (List.mem_cons_of_mem _ hz)

/-- The string of some bytes. -/
def strOf (l : List Int) : ByteArray := ⟨(l.map fun z => UInt8.ofNat z.toNat).toArray⟩
theorem strB_of {l : List Int} (h : isB l) : strB (strOf l) = l := by
  unfold strB strOf
  simp only [List.map_map]
  refine (List.map_congr_left (g := id) fun z hz => ?_).trans (List.map_id _)
  have := h z hz
  simp only [Function.comp, id]
  rw [UInt8.toNat_ofNat_of_lt' (by
    show z.toNat < 256
    omega)]
  omega
theorem strOf_size (l : List Int) : (strOf l).size = l.length := by simp [strOf, ByteArray.size]
theorem strOf_B (s : ByteArray) : strOf (strB s) = s := by
  cases s with
  | mk d =>
    unfold strB strOf
    simp only [List.map_map]
    congr 1
    have : d.toList.map ((fun z : Int => UInt8.ofNat z.toNat) ∘ fun b => (b.toNat : Int)) = d.toList := by
      refine (List.map_congr_left (g := id) fun b _ => ?_).trans (List.map_id _)
      simp
    rw [this]

def pbyte : Prs Int
  | [] => none
  | x :: t => some (x, t)
/-- The program's number. -/
def pn : Nat → Int → Int → Prs Int
  | 0, _, _, _ => none
  | _ + 1, _, _, [] => none
  | j + 1, x, u, c :: t => if c = 0 ∧ 1 < u then none else if 127 < c then pn j (x + c % 128 * u) (u * 128) t else if x + c % 128 * u ≤ 1099511627776 then some (x + c % 128 * u, t) else none
def pnum : Prs Int := pn 6 0 1
/-- The document's number. -/
def dn : Nat → Int → Int → Prs Int
  | 0, _, _, _ => none
  | _ + 1, _, _, [] => none
  | j + 1, x, u, c :: t => if c < 128 then some (x + c % 128 * u, t) else dn j (x + c % 128 * u) (u * 128) t
def dnum : Prs Int := dn 6 0 1

theorem pn_inv : ∀ (j : Nat) (x u : Int) (s : List Int) (v : Int) (t : List Int), isB s → 1 ≤ u → 0 ≤ x → pn j x u s = some (v, t) → ∃ y, 0 ≤ y ∧ v = x + y * u ∧ s = vb y ++ t ∧ v ≤ 1099511627776 ∧ (1 < u → 0 < y)
  | 0, _, _, _, _, _, _, _, _, h => by simp [pn] at h
  | _ + 1, _, _, [], _, _, _, _, _, h => by simp [pn] at h
  | j + 1, x, u, c :: s, v, t, hb, hu, hx, h => by
    have hc := hb c (by simp)
    rw [pn] at h
    split at h
    · cases h
    · rename_i h0
      split at h
      · rename_i h1
        obtain ⟨y, hy, hv, hs, hm, hp⟩ := pn_inv j (x + c % 128 * u) (u * 128) s v t hb.tail (by omega) (by
          have := Int.mul_nonneg (show (0:Int) ≤ c % 128 by omega) (show 0 ≤ u by omega)
          omega) h
        have hy1 := hp (by omega)
        refine ⟨c % 128 + y * 128, by omega, ?_, ?_, hm, fun _ => by omega⟩
        · rw [hv, Int.add_mul, Int.mul_assoc y 128 u, Int.mul_comm 128 u]; omega
        · rw [vb_big (by omega), show (c % 128 + y * 128) % 128 + 128 = c by omega, show (c % 128 + y * 128) / 128 = y by omega, hs]; rfl
      · split at h
        · rename_i h1 h2
          simp only [Option.some.injEq, Prod.mk.injEq] at h
          obtain ⟨rfl, rfl⟩ := h
          have e : c % 128 = c := by omega
          rw [e] at h2 ⊢
          refine ⟨c, by omega, rfl, ?_, h2, fun hu1 => ?_⟩
          · rw [vb_small (by omega), show c % 256 = c by omega]; rfl
          · have : c ≠ 0 := fun hc0 => h0 ⟨hc0, hu1⟩
            omega
        · cases h
theorem pnum_inv {s t : List Int} {v : Int} (hb : isB s) (h : pnum s = some (v, t)) : s = vb v ++ t ∧ 0 ≤ v ∧ v ≤ 1099511627776 := by
  obtain ⟨y, hy, hv, hs, hm, _⟩ := pn_inv 6 0 1 s v t hb (by omega) (by omega) h
  have : v = y := by omega
  subst this
  exact ⟨hs, hy, hm⟩

theorem pn_yes : ∀ (j : Nat) (x u y : Int) (t : List Int), 0 ≤ y → y < 128 ^ (j + 1) → x + y * u ≤ 1099511627776 → (1 < u → 0 < y) → 1 ≤ u → pn (j + 1) x u (vb y ++ t) = some (x + y * u, t)
  | j, x, u, y, t, hy, hlt, hm, hp, hu => by
    by_cases h : 127 < y
    · rw [vb_big h, List.cons_append, pn, if_neg (by omega), if_pos (by omega), show (y % 128 + 128) % 128 = y % 128 by omega]
      cases j with
      | zero => omega
      | succ j =>
        have hd : y / 128 < 128 ^ (j + 1) := by
          have : (128 : Int) ^ (j + 1 + 1) = 128 ^ (j + 1) * 128 := Int.pow_succ ..
          omega
        have e : x + y % 128 * u + y / 128 * (u * 128) = x + y * u := by
          have e1 : y / 128 * (u * 128) = y / 128 * 128 * u := by rw [Int.mul_comm u 128, Int.mul_assoc]
          rw [e1, Int.add_assoc, ← Int.add_mul, show y % 128 + y / 128 * 128 = y by omega]
        rw [pn_yes j (x + y % 128 * u) (u * 128) (y / 128) t (by omega) hd (by rw [e]; exact hm) (fun _ => by omega) (by omega), e]
    · rw [vb_small (by omega), show y % 256 = y by omega, List.singleton_append, pn, if_neg (fun hc => by have := hp hc.2; omega), if_neg (by omega), show y % 128 = y by omega, if_pos hm]
theorem pnum_yes {y : Int} (t : List Int) (h0 : 0 ≤ y) (h : y ≤ 1099511627776) : pnum (vb y ++ t) = some (y, t) := by
  have := pn_yes 5 0 1 y t h0 (by omega) (by omega) (fun h => by omega) (by omega)
  rw [pnum, this]
  simp
theorem dn_yes : ∀ (j : Nat) (x u y : Int) (t : List Int), 0 ≤ y → y < 128 ^ (j + 1) → dn (j + 1) x u (vb y ++ t) = some (x + y * u, t)
  | j, x, u, y, t, hy, hlt => by
    by_cases h : 127 < y
    · rw [vb_big h, List.cons_append, dn, if_neg (by omega), show (y % 128 + 128) % 128 = y % 128 by omega]
      cases j with
      | zero => omega
      | succ j =>
        have hd : y / 128 < 128 ^ (j + 1) := by
          have : (128 : Int) ^ (j + 1 + 1) = 128 ^ (j + 1) * 128 := Int.pow_succ ..
          omega
        have e : x + y % 128 * u + y / 128 * (u * 128) = x + y * u := by
          have e1 : y / 128 * (u * 128) = y / 128 * 128 * u := by rw [Int.mul_comm u 128, Int.mul_assoc]
          rw [e1, Int.add_assoc, ← Int.add_mul, show y % 128 + y / 128 * 128 = y by omega]
        rw [dn_yes j (x + y % 128 * u) (u * 128) (y / 128) t (by omega) hd, e]
    · rw [vb_small (by omega), show y % 256 = y by omega, List.singleton_append, dn, if_pos (by omega), show y % 128 = y by omega]
theorem dnum_yes {y : Int} (t : List Int) (h0 : 0 ≤ y) (h : y ≤ 1099511627776) : dnum (vb y ++ t) = some (y, t) := by
  have := dn_yes 5 0 1 y t h0 (by omega)
  rw [dnum, this]
  simp

def gtxt (num : Prs Int) (lim : Int) : Prs ByteArray := pbind num fun n t => if n ≤ lim ∧ n ≤ t.length then some (strOf (t.take n.toNat), t.drop n.toNat) else none
def ptxt : Prs ByteArray := gtxt pnum 96
def dtxt : Prs ByteArray := gtxt dnum 9223372036854775807

theorem ptxt_inv {s t : List Int} {v : ByteArray} (hb : isB s) (h : ptxt s = some (v, t)) : s = tb v ++ t ∧ v.size ≤ 96 := by
  obtain ⟨n, r, h1, h2⟩ := pbind_inv h
  obtain ⟨hs, h0, hm⟩ := pnum_inv hb h1
  split at h2
  · rename_i hc
    simp only [Option.some.injEq, Prod.mk.injEq] at h2
    obtain ⟨rfl, rfl⟩ := h2
    have hl : (r.take n.toNat).length = n.toNat := by rw [List.length_take]; omega
    have hbr : isB r := by rw [hs] at hb; exact hb.right
    refine ⟨?_, by rw [strOf_size, hl]; omega⟩
    rw [tb, strOf_size, hl, strB_of (fun z hz => hbr z (List.mem_of_mem_take hz)), show ((n.toNat : Nat) : Int) = n by omega, List.append_assoc, List.take_append_drop]
    exact hs
  · cases h2
theorem gtxt_yes {num : Prs Int} {lim : Int} {v : ByteArray} (t : List Int) (hn : num (tb v ++ t) = some ((v.size : Int), strB v ++ t)) (h : (v.size : Int) ≤ lim) : gtxt num lim (tb v ++ t) = some (v, t) := by
  rw [gtxt, pbind_some hn, if_pos ⟨h, by rw [List.length_append, strB_length]; omega⟩, Int.toNat_natCast, List.take_left' (strB_length v), List.drop_left' (strB_length v), strOf_B]

/-- Two ways to read that read what is written. -/
structure Reads (num : Prs Int) (txt : Prs ByteArray) : Prop where
  n : ∀ y t, okN y = true → num (vb y ++ t) = some (y, t)
  t : ∀ v t, okT v = true → txt (tb v ++ t) = some (v, t)
theorem reads_p : Reads pnum ptxt := by
  refine ⟨fun y t h => ?_, fun v t h => ?_⟩
  · have := okN_le h
    exact pnum_yes t this.1 this.2
  · simp [okT] at h
    refine gtxt_yes t ?_ (by omega)
    rw [tb, List.append_assoc]
    exact pnum_yes _ (by omega) (by omega)
theorem reads_d : Reads dnum dtxt := by
  refine ⟨fun y t h => ?_, fun v t h => ?_⟩
  · have := okN_le h
    exact dnum_yes t this.1 this.2
  · simp [okT] at h
    refine gtxt_yes t ?_ (by omega)
    rw [tb, List.append_assoc]
    exact dnum_yes _ (by omega) (by omega)

section
variable (num : Prs Int) (txt : Prs ByteArray)
def gkey : Prs KeyD := pbind num fun d => pbind txt fun s => pret ⟨d, s⟩
def gnode : Prs NodeD := pbind num fun a => pbind pbyte fun b => pbind num fun c => pbind txt fun s => pret ⟨a, b, c, s⟩
def gentry : Prs EntryD := pbind (gkey num txt) fun k => pbind pbyte fun f => if f = 1 then pret ⟨k, true, NodeD.zero⟩ else pbind (gnode num txt) fun n => if f = 0 then pret ⟨k, false, n⟩ else pfail
def gop : Prs OpD := pbind pbyte fun a => pbind num fun b => pbind txt fun c => pbind num fun d => pbind txt fun e => pbind num fun f => pbind txt fun g => pret ⟨a, b, c, d, e, f, g⟩
def gmany {α : Type} (p : Prs α) : Nat → Prs (List α)
  | 0 => pret []
  | n + 1 => pbind p fun x => pbind (gmany p n) fun l => pret (x :: l)
def ghead : Prs (List Int) := pbind pbyte fun a => pbind num fun b => pbind num fun c => pbind num fun d => pbind num fun e => pbind num fun f => pbind num fun g => pbind num fun h => pret [a, b, c, d, e, f, g, h]
def gcnt {α : Type} (cnt : Int → Option Nat) (p : Prs α) : Prs (List α) := pbind num fun n => match cnt n with | some k => gmany p k | none => pfail
/-- A message. -/
def gmsg (cnt : Int → Option Nat) : Prs MD := pbind pbyte fun a => pbind num fun b => pbind num fun c => pbind num fun d => pbind num fun e => pbind num fun f => pbind num fun g => pbind num fun h =>
  if a = 1 then pbind (gop num txt) fun o => pret ⟨a, b, c, d, e, f, g, h, o, [], []⟩
  else if a = 2 then pbind (gcnt num cnt (gentry num txt)) fun l => pret ⟨a, b, c, d, e, f, g, h, OpD.zero, l, []⟩
  else if a = 3 then pbind (gcnt num cnt (gkey num txt)) fun l => pret ⟨a, b, c, d, e, f, g, h, OpD.zero, [], l⟩
  else pret ⟨a, b, c, d, e, f, g, h, OpD.zero, [], []⟩
/-- A note. -/
def gnote : Prs NoteD := pbind pbyte fun a =>
  if a = 1 then pbind num fun b => pret ⟨a, b, 0, 0, 0, EntryD.zero, SeenD.zero, OpD.zero⟩
  else if a = 2 then pbind num fun b => pbind num fun c => pbind num fun d => pret ⟨a, b, c, d, 0, EntryD.zero, SeenD.zero, OpD.zero⟩
  else if a = 3 then pbind (gentry num txt) fun x => pret ⟨a, 0, 0, 0, 0, x, SeenD.zero, OpD.zero⟩
  else if a = 4 ∨ a = 5 then pbind num fun b => pbind num fun c => pbind num fun d => pbind num fun e => if a = 5 then pbind (gop num txt) fun o => pret ⟨a, 0, 0, 0, b, EntryD.zero, ⟨c, d, e⟩, o⟩ else pret ⟨a, 0, 0, 0, b, EntryD.zero, ⟨c, d, e⟩, OpD.zero⟩
  else pret ⟨a, 0, 0, 0, 0, EntryD.zero, SeenD.zero, OpD.zero⟩
end

section
variable {num : Prs Int} {txt : Prs ByteArray}
theorem Reads.key (R : Reads num txt) (k : KeyD) (t : List Int) (h : k.ok = true) : gkey num txt (k.enc ++ t) = some (k, t) := by
  simp only [KeyD.ok, Bool.and_eq_true] at h
  rw [gkey, KeyD.enc, List.append_assoc, pbind_some (R.n _ _ h.1), pbind_some (R.t _ _ h.2)]
  rfl
theorem Reads.node (R : Reads num txt) (n : NodeD) (t : List Int) (h1 : okN n.id = true) (h2 : okN n.mode = true) (h3 : okIn n.kind 1 3 = true) (h4 : okT n.target = true) : gnode num txt (vb n.id ++ ([n.kind % 256] ++ (vb n.mode ++ (tb n.target ++ t)))) = some (n, t) := by
  simp only [okIn, decide_eq_true_eq] at h3
  rw [gnode, pbind_some (R.n _ _ h1), List.singleton_append, pbind_some (x := n.kind) (by rw [pbyte, show n.kind % 256 = n.kind by omega]), pbind_some (R.n _ _ h2), pbind_some (R.t _ _ h4)]
  rfl
theorem Reads.entry (R : Reads num txt) (x : EntryD) (t : List Int) (h : x.ok = true) : gentry num txt (x.enc ++ t) = some (x, t) := by
  simp only [EntryD.ok, Bool.and_eq_true] at h
  obtain ⟨hk, hn⟩ := h
  rw [gentry, EntryD.enc, List.append_assoc, pbind_some (R.key _ _ hk)]
  obtain ⟨k, ng, n⟩ := x
  cases ng with
  | true =>
    simp only [if_true, decide_eq_true_eq] at hn ⊢
    rw [List.singleton_append, pbind_some (x := 1) rfl, if_pos rfl, hn]
    rfl
  | false =>
    simp only [Bool.false_eq_true, if_false, Bool.and_eq_true] at hn ⊢
    obtain ⟨⟨⟨h1, h2⟩, h3⟩, h4⟩ := hn
    simp only [List.append_assoc]
    rw [List.singleton_append, pbind_some (x := 0) rfl, if_neg (by decide), pbind_some (R.node n t h1 h2 h3 h4), if_pos rfl]
    rfl
theorem Reads.op (R : Reads num txt) (o : OpD) (t : List Int) (h : o.ok = true) : gop num txt (o.enc ++ t) = some (o, t) := by
  simp only [OpD.ok, okIn, Bool.and_eq_true, decide_eq_true_eq] at h
  obtain ⟨⟨h1, ⟨h2, h3⟩, h4⟩, ⟨h5, h6⟩, h7⟩ := h
  rw [gop, OpD.enc]
  simp only [List.append_assoc]
  rw [List.singleton_append, pbind_some (x := o.kind) (by rw [pbyte, show o.kind % 256 = o.kind by omega]), pbind_some (R.n _ _ h2), pbind_some (R.t _ _ h5), pbind_some (R.n _ _ h3), pbind_some (R.t _ _ h6), pbind_some (R.n _ _ h4), pbind_some (R.t _ _ h7)]
  rfl
theorem many_yes {α : Type} {p : Prs α} {enc : α → List Int} : ∀ (l : List α) (t : List Int), (∀ x ∈ l, ∀ t, p (enc x ++ t) = some (x, t)) → gmany p l.length ((l.map enc).flatten ++ t) = some (l, t)
  | [], t, _ => rfl
  | x :: l, t, h => by
    rw [List.length_cons, gmany, List.map_cons, List.flatten_cons, List.append_assoc, pbind_some (h x (by simp) _), pbind_some (many_yes l t (fun y hy => h y (by simp [hy])))]
    rfl
end

/-- What is written of an argument M. -/
def MD.enc (m : MD) : List Int := [m.kind % 256] ++ vbs [m.client, m.life, m.seq, m.epoch, m.number, m.version, m.err] ++ m.msg.rest
theorem md_enc (m : MD) (e n : Nat) (he : m.epoch = e) (hn : m.number = n) : m.msg.enc e n = m.enc := by
  rw [MsgD.enc, MD.enc, he, hn]; rfl
def Cnt (cnt : Int → Option Nat) : Prop := ∀ k : Nat, k ≤ 48 → cnt k = some k
def pcnt (n : Int) : Option Nat := if n ≤ 48 then some n.toNat else none
def dcnt (n : Int) : Option Nat := some (min n.toNat 49)
theorem pcnt_ok : Cnt pcnt := fun k hk => by rw [pcnt, if_pos (by omega)]; simp
theorem dcnt_ok : Cnt dcnt := fun k hk => by rw [dcnt, Int.toNat_natCast, Nat.min_eq_left (by omega)]

def MD.rest (m : MD) : List Int := if m.kind = 1 then m.op.enc else if m.kind = 2 then vb m.entries.length ++ (m.entries.map EntryD.enc).flatten else if m.kind = 3 then vb m.keys.length ++ (m.keys.map KeyD.enc).flatten else []
theorem md_rest (m : MD) : m.msg.rest = m.rest := rfl
theorem md_r1 {a b c d e f g i : Int} {o : OpD} {es : List EntryD} {ks : List KeyD} (h : a = 1) : MD.rest ⟨a, b, c, d, e, f, g, i, o, es, ks⟩ = o.enc := if_pos h
theorem md_r2 {a b c d e f g i : Int} {o : OpD} {es : List EntryD} {ks : List KeyD} (h1 : ¬ a = 1) (h : a = 2) : MD.rest ⟨a, b, c, d, e, f, g, i, o, es, ks⟩ = vb es.length ++ (es.map EntryD.enc).flatten := (if_neg h1).trans (if_pos h)
theorem md_r3 {a b c d e f g i : Int} {o : OpD} {es : List EntryD} {ks : List KeyD} (h1 : ¬ a = 1) (h2 : ¬ a = 2) (h : a = 3) : MD.rest ⟨a, b, c, d, e, f, g, i, o, es, ks⟩ = vb ks.length ++ (ks.map KeyD.enc).flatten := (if_neg h1).trans ((if_neg h2).trans (if_pos h))
theorem md_r4 {a b c d e f g i : Int} {o : OpD} {es : List EntryD} {ks : List KeyD} (h1 : ¬ a = 1) (h2 : ¬ a = 2) (h : ¬ a = 3) : MD.rest ⟨a, b, c, d, e, f, g, i, o, es, ks⟩ = [] := (if_neg h1).trans ((if_neg h2).trans (if_neg h))
theorem okN_vbs (m : MD) (t : List Int) : m.enc ++ t = m.kind % 256 :: (vb m.client ++ (vb m.life ++ (vb m.seq ++ (vb m.epoch ++ (vb m.number ++ (vb m.version ++ (vb m.err ++ (m.rest ++ t)))))))) := by simp [MD.enc, vbs, md_rest]
theorem len0 {α : Type} {l : List α} (h : l.length = 0) : l = [] := List.length_eq_zero_iff.1 h
theorem Reads.msg {num : Prs Int} {txt : Prs ByteArray} {cnt : Int → Option Nat} (R : Reads num txt) (C : Cnt cnt) (m : MD) (t : List Int) (h : m.msg.ok = true) (he : okN m.epoch = true) (hn : okN m.number = true) :
    gmsg num txt cnt (m.enc ++ t) = some (m, t) := by
  obtain ⟨⟨k1, k2⟩, ⟨h1, h2, h3, h4, h5⟩, p1, p2, p3, p4, p5, p6, p7, p8⟩ := MsgD.ok_parts h
  obtain ⟨a, b, c, d, e, f, g, i, o, es, ks⟩ := m
  simp only [MD.msg] at *
  have ha : a % 256 = a := by omega
  rw [okN_vbs, gmsg]
  simp only
  rw [pbind_some (x := a) (by rw [pbyte]; show some (a % 256, _) = some (a, _); rw [ha]), pbind_some (R.n _ _ h1), pbind_some (R.n _ _ h2), pbind_some (R.n _ _ h3), pbind_some (R.n _ _ he), pbind_some (R.n _ _ hn), pbind_some (R.n _ _ h4), pbind_some (R.n _ _ h5)]
  have nok : ∀ k : Nat, k ≤ 48 → okN (k : Int) = true := fun k hk => by simp [okN]; omega
  by_cases q1 : a = 1
  · have z1 := len0 (p3 (by omega))
    have z2 : ks = [] := len0 (by
      rcases Nat.eq_zero_or_pos ks.length with hz | hz
      · exact hz
      · have := p5.2 hz; omega)
    rw [if_pos q1, md_r1 q1, pbind_some (R.op o t (p1 q1)), z1, z2]
    rfl
  · have zo := p2 q1
    by_cases q2 : a = 2
    · have z2 : ks = [] := len0 (by
        rcases Nat.eq_zero_or_pos ks.length with hz | hz
        · exact hz
        · have := p5.2 hz; omega)
      rw [if_neg q1, if_pos q2, md_r2 q1 q2, List.append_assoc, pbind_some (x := es) (t := t) (by
        rw [gcnt, pbind_some (R.n _ _ (nok _ p4)), C _ p4]
        exact many_yes es t (fun x hx t => R.entry x t (p7 x hx))), zo, z2]
      rfl
    · have z1 := len0 (p3 q2)
      by_cases q3 : a = 3
      · rw [if_neg q1, if_neg q2, if_pos q3, md_r3 q1 q2 q3, List.append_assoc]
        rw [pbind_some (x := ks) (t := t) (by
          rw [gcnt, pbind_some (R.n _ _ (nok _ p6)), C _ p6]
          exact many_yes ks t (fun x hx t => R.key x t (p8 x hx))), zo, z1]
        rfl
      · have z2 : ks = [] := len0 (by
          rcases Nat.eq_zero_or_pos ks.length with hz | hz
          · exact hz
          · have := p5.2 hz; omega)
        rw [if_neg q1, if_neg q2, if_neg q3, md_r4 q1 q2 q3, List.nil_append, zo, z1, z2]
        rfl

theorem Reads.note {num : Prs Int} {txt : Prs ByteArray} (R : Reads num txt) (n : NoteD) (t : List Int) (h : n.ok = true) : gnote num txt (n.enc ++ t) = some (n, t) := by
  obtain ⟨⟨k1, k2⟩, hn, ⟨h1, h2, h3, h4, h5, h6, h7⟩, p1, p2⟩ := NoteD.ok_parts h
  obtain ⟨a, b, c, d, e, x, ⟨s1, s2, s3⟩, o⟩ := n
  simp only at *
  have hp : pbyte (a % 256 :: ([] : List Int)) = some (a, []) := by rw [pbyte]; simp only [Option.some.injEq, Prod.mk.injEq, and_true]; omega
  have hb : ∀ r, pbyte (a % 256 :: r) = some (a, r) := fun r => by rw [pbyte]; simp only [Option.some.injEq, Prod.mk.injEq, and_true]; omega
  rw [NoteD.enc, gnote]
  simp only [List.append_assoc, List.cons_append, List.nil_append]
  rw [pbind_some (hb _)]
  clear h hp
  by_cases q1 : a = 1
  · simp only [if_pos q1, NoteD.named] at hn ⊢
    rw [pbind_some (R.n _ _ h1), hn]; rfl
  by_cases q2 : a = 2
  · simp only [if_neg q1, if_pos q2, NoteD.named] at hn ⊢
    simp only [List.append_assoc]
    rw [pbind_some (R.n _ _ h1), pbind_some (R.n _ _ h2), pbind_some (R.n _ _ h3), hn]; rfl
  by_cases q3 : a = 3
  · simp only [if_neg q1, if_neg q2, if_pos q3, NoteD.named] at hn ⊢
    rw [pbind_some (R.entry x _ (p1 q3).2), hn]; rfl
  have q45 : a = 4 ∨ a = 5 := by omega
  simp only [if_neg q1, if_neg q2, if_neg q3, if_pos q45, List.append_assoc]
  rw [pbind_some (R.n _ _ h4), pbind_some (R.n _ _ h5), pbind_some (R.n _ _ h6), pbind_some (R.n _ _ h7)]
  by_cases q5 : a = 5
  · simp only [if_pos q5, NoteD.named, if_neg q1, if_neg q2, if_neg q3, show ¬ a = 4 by omega, if_false] at hn ⊢
    rw [pbind_some (R.op o t (p2 q5)), hn]; rfl
  · have q4 : a = 4 := by omega
    simp only [if_neg q5, NoteD.named, if_neg q1, if_neg q2, if_neg q3, if_pos q4] at hn ⊢
    rw [hn]; rfl

/-- What is read has just these bytes. -/
def Writes {α : Type} (p : Prs α) (enc : α → List Int) : Prop := ∀ s t x, isB s → p s = some (x, t) → s = enc x ++ t
theorem writes_n : Writes pnum vb := fun _ _ _ hb h => (pnum_inv hb h).1
theorem writes_t : Writes ptxt tb := fun _ _ _ hb h => (ptxt_inv hb h).1
theorem writes_b {s t : List Int} {x : Int} (hb : isB s) (h : pbyte s = some (x, t)) : s = (x % 256) :: t ∧ 0 ≤ x ∧ x < 256 := by
  cases s with
  | nil => cases h
  | cons c r =>
    have hc := hb c (by simp)
    simp only [pbyte, Option.some.injEq, Prod.mk.injEq] at h
    obtain ⟨rfl, rfl⟩ := h
    exact ⟨by rw [show c % 256 = c by omega], hc⟩
theorem writes_k : Writes (gkey pnum ptxt) KeyD.enc := by
  intro s t x hb h
  obtain ⟨d, r1, h1, hN⟩ := pbind_inv h
  clear h
  have h := hN
  clear hN
  obtain ⟨n, r2, h2, hN⟩ := pbind_inv h
  clear h
  have h := hN
  clear hN
  simp only [pret, Option.some.injEq, Prod.mk.injEq] at h
  obtain ⟨rfl, rfl⟩ := h
  have e1 := writes_n _ _ _ hb h1
  subst e1
  have e2 := writes_t _ _ _ hb.right h2
  subst e2
  simp [KeyD.enc]
theorem writes_e : Writes (gentry pnum ptxt) EntryD.enc := by
  intro s t x hb h
  obtain ⟨k, r1, h1, hN⟩ := pbind_inv h
  clear h
  have h := hN
  clear hN
  have e1 := writes_k _ _ _ hb h1
  subst e1
  have hb := hb.right
  obtain ⟨f, r2, h2, hN⟩ := pbind_inv h
  clear h
  have h := hN
  clear hN
  obtain ⟨e2, f0, f1⟩ := writes_b hb h2
  subst e2
  have hb := hb.tail
  split at h
  · rename_i hf
    simp only [pret, Option.some.injEq, Prod.mk.injEq] at h
    obtain ⟨rfl, rfl⟩ := h
    subst hf
    simp [EntryD.enc]
  · obtain ⟨n, r3, h3, hN⟩ := pbind_inv h
    clear h
    have h := hN
    clear hN
    obtain ⟨a, q1, g1, hN⟩ := pbind_inv h3
    clear h3
    have h3 := hN
    clear hN
    have e3 := writes_n _ _ _ hb g1
    subst e3
    have hb := hb.right
    obtain ⟨b, q2, g2, hN⟩ := pbind_inv h3
    clear h3
    have h3 := hN
    clear hN
    obtain ⟨e4, b0, b1⟩ := writes_b hb g2
    subst e4
    have hb := hb.tail
    obtain ⟨c, q3, g3, hN⟩ := pbind_inv h3
    clear h3
    have h3 := hN
    clear hN
    have e5 := writes_n _ _ _ hb g3
    subst e5
    have hb := hb.right
    obtain ⟨v, q4, g4, hN⟩ := pbind_inv h3
    clear h3
    have h3 := hN
    clear hN
    have e6 := writes_t _ _ _ hb g4
    subst e6
    simp only [pret, Option.some.injEq, Prod.mk.injEq] at h3
    obtain ⟨rfl, rfl⟩ := h3
    split at h
    · rename_i hf
      simp only [pret, Option.some.injEq, Prod.mk.injEq] at h
      obtain ⟨rfl, rfl⟩ := h
      subst hf
      simp [EntryD.enc]
    · cases h
theorem writes_o : Writes (gop pnum ptxt) OpD.enc := by
  intro s t x hb h
  obtain ⟨a, q1, g1, hN⟩ := pbind_inv h
  clear h
  have h := hN
  clear hN
  obtain ⟨e, _, _⟩ := writes_b hb g1
  subst e
  have hb := hb.tail
  obtain ⟨b, q2, g2, hN⟩ := pbind_inv h
  clear h
  have h := hN
  clear hN
  have e := writes_n _ _ _ hb g2
  subst e
  have hb := hb.right
  obtain ⟨c, q3, g3, hN⟩ := pbind_inv h
  clear h
  have h := hN
  clear hN
  have e := writes_t _ _ _ hb g3
  subst e
  have hb := hb.right
  obtain ⟨d, q4, g4, hN⟩ := pbind_inv h
  clear h
  have h := hN
  clear hN
  have e := writes_n _ _ _ hb g4
  subst e
  have hb := hb.right
  obtain ⟨f, q5, g5, hN⟩ := pbind_inv h
  clear h
  have h := hN
  clear hN
  have e := writes_t _ _ _ hb g5
  subst e
  have hb := hb.right
  obtain ⟨g, q6, g6, hN⟩ := pbind_inv h
  clear h
  have h := hN
  clear hN
  have e := writes_n _ _ _ hb g6
  subst e
  have hb := hb.right
  obtain ⟨i, q7, g7, hN⟩ := pbind_inv h
  clear h
  have h := hN
  clear hN
  have e := writes_t _ _ _ hb g7
  subst e
  simp only [pret, Option.some.injEq, Prod.mk.injEq] at h
  obtain ⟨rfl, rfl⟩ := h
  simp [OpD.enc]
theorem writes_m {α : Type} {p : Prs α} {enc : α → List Int} (W : Writes p enc) : ∀ (n : Nat) (s t : List Int) (l : List α), isB s → gmany p n s = some (l, t) → l.length = n ∧ s = (l.map enc).flatten ++ t
  | 0, s, t, l, _, h => by
    simp only [gmany, pret, Option.some.injEq, Prod.mk.injEq] at h
    obtain ⟨rfl, rfl⟩ := h
    exact ⟨rfl, rfl⟩
  | n + 1, s, t, l, hb, h => by
    rw [gmany] at h
    obtain ⟨x, r, h1, hN⟩ := pbind_inv h
    clear h
    have h := hN
    clear hN
    have e := W _ _ _ hb h1
    subst e
    obtain ⟨k, r2, h2, hN⟩ := pbind_inv h
    clear h
    have h := hN
    clear hN
    obtain ⟨hl, e⟩ := writes_m W n r r2 k hb.right h2
    subst e
    simp only [pret, Option.some.injEq, Prod.mk.injEq] at h
    obtain ⟨rfl, rfl⟩ := h
    exact ⟨by rw [List.length_cons, hl], by simp⟩
theorem writes_c {α : Type} {p : Prs α} {enc : α → List Int} (W : Writes p enc) {s t : List Int} {l : List α} (hb : isB s) (h : gcnt pnum pcnt p s = some (l, t)) : s = vb l.length ++ (l.map enc).flatten ++ t := by
  obtain ⟨n, r, h1, h2⟩ := pbind_inv h
  obtain ⟨e, n0, _⟩ := pnum_inv hb h1
  subst e
  cases hk : pcnt n with
  | none => rw [hk] at h2; cases h2
  | some k =>
    rw [hk] at h2
    rw [pcnt] at hk
    split at hk
    · simp only [Option.some.injEq] at hk
      obtain ⟨hl, e⟩ := writes_m W k r t l hb.right h2
      subst e
      rw [show ((l.length : Nat) : Int) = n by omega, List.append_assoc]
    · cases hk
theorem num_okN {s t : List Int} {v : Int} (hb : isB s) (h : pnum s = some (v, t)) : okN v = true := by
  have := pnum_inv hb h
  simp [okN]
  omega

theorem writes_msg {s t : List Int} {m : MD} (hb : isB s) (h : gmsg pnum ptxt pcnt s = some (m, t)) : s = m.enc ++ t ∧ okN m.epoch = true ∧ okN m.number = true := by
  obtain ⟨a, q1, g1, hN⟩ := pbind_inv h
  clear h
  have h := hN
  clear hN
  obtain ⟨e, _, _⟩ := writes_b hb g1
  subst e
  have hb := hb.tail
  obtain ⟨b, q2, g2, hN⟩ := pbind_inv h
  clear h
  have h := hN
  clear hN
  have e := writes_n _ _ _ hb g2
  subst e
  have hb := hb.right
  obtain ⟨c, q3, g3, hN⟩ := pbind_inv h
  clear h
  have h := hN
  clear hN
  have e := writes_n _ _ _ hb g3
  subst e
  have hb := hb.right
  obtain ⟨d, q4, g4, hN⟩ := pbind_inv h
  clear h
  have h := hN
  clear hN
  have e := writes_n _ _ _ hb g4
  subst e
  have hb := hb.right
  obtain ⟨ep, q5, g5, hN⟩ := pbind_inv h
  clear h
  have h := hN
  clear hN
  have e := writes_n _ _ _ hb g5
  have ok1 := num_okN hb g5
  subst e
  have hb := hb.right
  obtain ⟨nu, q6, g6, hN⟩ := pbind_inv h
  clear h
  have h := hN
  clear hN
  have e := writes_n _ _ _ hb g6
  have ok2 := num_okN hb g6
  subst e
  have hb := hb.right
  obtain ⟨ve, q7, g7, hN⟩ := pbind_inv h
  clear h
  have h := hN
  clear hN
  have e := writes_n _ _ _ hb g7
  subst e
  have hb := hb.right
  obtain ⟨er, q8, g8, hN⟩ := pbind_inv h
  clear h
  have h := hN
  clear hN
  have e := writes_n _ _ _ hb g8
  subst e
  have hb := hb.right
  clear g1 g2 g3 g4 g5 g6 g7 g8
  split at h
  · rename_i ha
    obtain ⟨o, r, h1, hN⟩ := pbind_inv h
    clear h
    have h := hN
    clear hN
    have e := writes_o _ _ _ hb h1
    subst e
    simp only [pret, Option.some.injEq, Prod.mk.injEq] at h
    obtain ⟨rfl, rfl⟩ := h
    refine ⟨?_, ok1, ok2⟩
    rw [okN_vbs, md_r1 ha]
  · rename_i ha
    split at h
    · rename_i ha2
      obtain ⟨o, r, h1, hN⟩ := pbind_inv h
      clear h
      have h := hN
      clear hN
      have e := writes_c writes_e hb h1
      subst e
      simp only [pret, Option.some.injEq, Prod.mk.injEq] at h
      obtain ⟨rfl, rfl⟩ := h
      refine ⟨?_, ok1, ok2⟩
      rw [okN_vbs, md_r2 ha ha2]
    · rename_i ha2
      split at h
      · rename_i ha3
        obtain ⟨o, r, h1, hN⟩ := pbind_inv h
        clear h
        have h := hN
        clear hN
        have e := writes_c writes_k hb h1
        subst e
        simp only [pret, Option.some.injEq, Prod.mk.injEq] at h
        obtain ⟨rfl, rfl⟩ := h
        refine ⟨?_, ok1, ok2⟩
        rw [okN_vbs, md_r3 ha ha2 ha3]
      · rename_i ha3
        simp only [pret, Option.some.injEq, Prod.mk.injEq] at h
        obtain ⟨rfl, rfl⟩ := h
        refine ⟨?_, ok1, ok2⟩
        rw [okN_vbs, md_r4 ha ha2 ha3, List.nil_append]

theorem writes_note {s t : List Int} {n : NoteD} (hb : isB s) (h : gnote pnum ptxt s = some (n, t)) (hk : 1 ≤ n.kind) (hk5 : n.kind ≤ 5) : s = n.enc ++ t := by
  obtain ⟨a, q1, g1, hN⟩ := pbind_inv h
  clear h
  have h := hN
  clear hN
  obtain ⟨e, a0, a1⟩ := writes_b hb g1
  subst e
  have hb := hb.tail
  split at h
  · rename_i ha
    obtain ⟨b, r, h1, hN⟩ := pbind_inv h
    clear h
    have h := hN
    clear hN
    have e := writes_n _ _ _ hb h1
    subst e
    simp only [pret, Option.some.injEq, Prod.mk.injEq] at h
    obtain ⟨rfl, rfl⟩ := h
    simp [NoteD.enc, ha]
  · rename_i ha
    split at h
    · rename_i ha2
      obtain ⟨b, r, h1, hN⟩ := pbind_inv h
      clear h
      have h := hN
      clear hN
      have e := writes_n _ _ _ hb h1
      subst e
      have hb := hb.right
      obtain ⟨c, r2, h2, hN⟩ := pbind_inv h
      clear h
      have h := hN
      clear hN
      have e := writes_n _ _ _ hb h2
      subst e
      have hb := hb.right
      obtain ⟨d, r3, h3, hN⟩ := pbind_inv h
      clear h
      have h := hN
      clear hN
      have e := writes_n _ _ _ hb h3
      subst e
      simp only [pret, Option.some.injEq, Prod.mk.injEq] at h
      obtain ⟨rfl, rfl⟩ := h
      simp [NoteD.enc, ha2]
    · rename_i ha2
      split at h
      · rename_i ha3
        obtain ⟨b, r, h1, hN⟩ := pbind_inv h
        clear h
        have h := hN
        clear hN
        have e := writes_e _ _ _ hb h1
        subst e
        simp only [pret, Option.some.injEq, Prod.mk.injEq] at h
        obtain ⟨rfl, rfl⟩ := h
        simp [NoteD.enc, ha3]
      · rename_i ha3
        split at h
        · rename_i ha4
          obtain ⟨b, r, h1, hN⟩ := pbind_inv h
          clear h
          have h := hN
          clear hN
          have e := writes_n _ _ _ hb h1
          subst e
          have hb := hb.right
          obtain ⟨c, r2, h2, hN⟩ := pbind_inv h
          clear h
          have h := hN
          clear hN
          have e := writes_n _ _ _ hb h2
          subst e
          have hb := hb.right
          obtain ⟨d, r3, h3, hN⟩ := pbind_inv h
          clear h
          have h := hN
          clear hN
          have e := writes_n _ _ _ hb h3
          subst e
          have hb := hb.right
          obtain ⟨f, r4, h4, hN⟩ := pbind_inv h
          clear h
          have h := hN
          clear hN
          have e := writes_n _ _ _ hb h4
          subst e
          have hb := hb.right
          split at h
          · rename_i ha5
            obtain ⟨o, r5, h5, hN⟩ := pbind_inv h
            clear h
            have h := hN
            clear hN
            have e := writes_o _ _ _ hb h5
            subst e
            simp only [pret, Option.some.injEq, Prod.mk.injEq] at h
            obtain ⟨rfl, rfl⟩ := h
            simp [NoteD.enc, ha5]
          · rename_i ha5
            simp only [pret, Option.some.injEq, Prod.mk.injEq] at h
            obtain ⟨rfl, rfl⟩ := h
            simp [NoteD.enc, ha, ha2, ha3, ha5]
        · rename_i ha4
          simp only [pret, Option.some.injEq, Prod.mk.injEq] at h
          obtain ⟨rfl, rfl⟩ := h
          simp only at hk hk5
          omega

end Go.Proofs.Ytmhcjkiaogimgaa
