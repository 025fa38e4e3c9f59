/- CopyEntries, CopyKeys, Mark: what M.Msg calls. -/
import Derived.Test.YtmhcjkiaogimgaaWirR
import Derived.Test.YtmhcjkiaogimgaaWirO
namespace Go.Proofs.Ytmhcjkiaogimgaa
open Go.RowKit

theorem range_flat {w : World} {g k : Nat} : ∀ (rows : List (List Value)) (o : Nat), (∀ r ∈ rows, r.length = k) → (∀ i cs, rows[i]? = some cs → w.rangeAt g (o + i * k) cs) → w.rangeAt g o rows.flatten
  | [], o, _, _ => fun j v hj => by simp at hj
  | r :: rs, o, hl, h => fun j v hj => by
    have hr := hl r (by simp)
    rw [List.flatten_cons] at hj
    by_cases hjk : j < r.length
    · rw [List.getElem?_append_left hjk] at hj
      have := h 0 r rfl j v hj
      simpa using this
    · rw [List.getElem?_append_right (by omega)] at hj
      have := range_flat rs (o + k) (fun x hx => hl x (by simp [hx])) (fun i cs hi => by
        have := h (i + 1) cs (by simpa using hi)
        rwa [show o + (i + 1) * k = o + k + i * k by rw [Nat.add_mul]; omega] at this) (j - r.length) v hj
      rwa [show o + k + (j - r.length) = o + j by omega] at this
theorem flat_range {w : World} {g k : Nat} : ∀ (rows : List (List Value)) (o : Nat), (∀ r ∈ rows, r.length = k) → w.rangeAt g o rows.flatten → ∀ i cs, rows[i]? = some cs → w.rangeAt g (o + i * k) cs
  | [], o, _, _ => fun i cs hi => by simp at hi
  | r :: rs, o, hl, h => fun i cs hi => by
    have hr := hl r (by simp)
    cases i with
    | zero =>
      simp at hi
      subst hi
      intro j v hj
      have := h j v (by rw [List.flatten_cons, List.getElem?_append_left (List.getElem?_eq_some_iff.1 hj).1]; exact hj)
      simpa using this
    | succ i =>
      have h2 : w.rangeAt g (o + k) rs.flatten := fun j v hj => by
        have := h (k + j) v (by rw [List.flatten_cons, List.getElem?_append_right (by omega), hr, show k + j - k = j by omega]; exact hj)
        rwa [← Nat.add_assoc] at this
      have := flat_range rs (o + k) (fun x hx => hl x (by simp [hx])) h2 i cs (by simpa using hi)
      rwa [show o + (i + 1) * k = o + k + i * k by rw [Nat.add_mul]; omega]

theorem einfo : (Try.prog.info? 47).map (fun i => (i.zero.map (fun z => z.cells.size), i.size, i.bytes)) = some (some 7, 7, 72) := by kernel_rfl
theorem kinfo : (Try.prog.info? 43).map (fun i => (i.zero.map (fun z => z.cells.size), i.size, i.bytes)) = some (some 2, 2, 24) := by kernel_rfl

/-- A copy of rows: append to nothing. -/
theorem copy_run {P : Program} {t e : TypeId} {size bytes : Nat} (ty : TypeId) (ht : P.underlying t = some (.slice e)) (hinfo : (P.info? e).map (fun i => (i.zero.map (fun z => z.cells.size), i.size, i.bytes)) = some (some size, size, bytes)) (hsz : 0 < size)
    (w : World) (A : Option Addr) (rows : List (List Value)) (n cap : Nat) (hn : rows.length = n) (hl : ∀ r ∈ rows, r.length = size) (h1 : ∀ r ∈ rows, ∀ u ∈ r, u.oneCell' = true) (h : RowsAt w A size rows) (hb : n * bytes ≤ 140737488355328) (h63 : n ≤ 9223372036854775807) :
    ∃ A2 c2 w2, (Builtin.append_ #[t, t] ty #[.slice none 0 0, .slice A n cap]).run P w = .ok (.slice A2 n c2) w2 ∧ w2.ownsRow w.heap.size e size (.slice A2 n c2) n rows.flatten ∧ Below w.heap.size w w2 := by
  have hlen : rows.flatten.length = n * size := by
    clear h h1 hb h63
    subst hn
    induction rows with
    | nil => simp
    | cons r rs ih =>
      rw [List.flatten_cons, List.length_append, ih (fun x hx => hl x (by simp [hx])), hl r (by simp), List.length_cons, Nat.add_mul]
      omega
  have hone : ∀ u ∈ rows.flatten, u.oneCell' = true := fun u hu => by
    obtain ⟨r, hr, hu⟩ := List.mem_flatten.1 hu
    exact h1 r hr u hu
  have hfin : ∀ (a : Addr), A = some a → ∃ A2 c2 w2, (Builtin.append_ #[t, t] ty #[.slice none 0 0, .slice A n cap]).run P w = .ok (.slice A2 n c2) w2 ∧ w2.ownsRow w.heap.size e size (.slice A2 n c2) n rows.flatten ∧ Below w.heap.size w w2 := by
    rintro a rfl
    obtain ⟨v2, w2, hr, ho, hg, _⟩ := append_run2 (base := w.heap.size) ty ht hinfo hsz (own_none w w.heap.size e size) (news := rows.flatten) (a := a) (m := n) (c := cap) hlen (fun j u hu => by
      have hne : 0 < rows.length := by
        rcases Nat.eq_zero_or_pos rows.length with h0 | h0
        · rw [List.length_eq_zero_iff.1 h0] at hu; simp at hu
        · exact h0
      obtain ⟨g, o, ha, hgl, _⟩ := h.at_ 0 _ (List.getElem?_eq_getElem hne)
      injection ha with ha
      subst ha
      rw [Addr.add_mid]
      exact range_flat rows o hl (fun i cs hi => by
        obtain ⟨g', o', e, _, hr⟩ := h.at_ i cs hi
        injection e with e
        injection e with e1 e2
        subst e1; subst e2
        exact hr) j u hu) hone (by omega) (by rw [Nat.zero_add]; exact hb) (Nat.le_refl _)
    rw [Nat.zero_add, List.nil_append] at ho
    obtain ⟨A2, c2, rfl⟩ := own_form ho
    exact ⟨A2, c2, w2, hr, ho, (Below.refl _ _).grown hg (Nat.le_refl _) (fun k hk => by cases hk)⟩
  cases A with
  | some a => exact hfin a rfl
  | none =>
    have h0 : rows = [] := by
      cases rows with
      | nil => rfl
      | cons r rs =>
        obtain ⟨g, o, ha, _⟩ := h.at_ 0 r rfl
        cases ha
    subst h0
    subst hn
    obtain ⟨i, hi, _⟩ := Option.map_eq_some_iff.1 hinfo
    have hr : (Builtin.append_ #[t, t] ty #[.slice none 0 0, .slice none 0 cap]).run P w = .ok (.slice none 0 0) w := by
      simp [Builtin.append_, run_underlying ht, sizeOf, typeInfo, hi, Builtin.lenOf, Builtin.firstCells]
    exact ⟨none, 0, w, hr, own_none _ _ _ _, Below.refl _ _⟩

/-- What a copy of rows leaves. -/
def CopyTo (t : TypeId) (size n : Nat) (rows : List (List Value)) (w : World) (e : Ending) (w' : World) : Prop :=
  ∃ A2 c2, e = .returned (.slice A2 n c2) ∧ w'.ownsRow w.heap.size t size (.slice A2 n c2) n rows.flatten ∧ Below w.heap.size w w'
theorem copyE_any (es : List EntryD) (A : Option Addr) (cap : Nat) (w : World) (h : RowsAt w A 7 (es.map EntryD.cells)) (hb : es.length * 72 ≤ 140737488355328) :
    Calls Try.prog 39 #[.slice A es.length cap] w (CopyTo 47 7 es.length (es.map EntryD.cells) w) := by
  obtain ⟨A2, c2, w2, hr, ho, b2⟩ := copy_run 24 Try.underlying24 einfo (by omega) w A (es.map EntryD.cells) es.length cap (by simp) (fun r hr => by
    obtain ⟨x, _, rfl⟩ := List.mem_map.1 hr; rfl) (fun r hr u hu => by
    obtain ⟨x, _, rfl⟩ := List.mem_map.1 hr
    simp [EntryD.cells] at hu
    rcases hu with rfl | rfl | rfl | rfl | rfl | rfl | rfl <;> rfl) h hb (by omega)
  have HO := Lib.hid ho
  clear ho h
  generalize es.length = n at *
  go_enter Try.func39, Try.ntmps39
  go_wp2_with (at_builtin; refine wpList_append_run rfl _ _ _ _ rfl _ _ _ rfl rfl hr ?_)
  go_ret
  exact ⟨A2, c2, rfl, HO.out, b2⟩
theorem copyK_any (es : List KeyD) (A : Option Addr) (cap : Nat) (w : World) (h : RowsAt w A 2 (es.map KeyD.cells)) (hb : es.length * 24 ≤ 140737488355328) :
    Calls Try.prog 40 #[.slice A es.length cap] w (CopyTo 43 2 es.length (es.map KeyD.cells) w) := by
  obtain ⟨A2, c2, w2, hr, ho, b2⟩ := copy_run 25 Try.underlying25 kinfo (by omega) w A (es.map KeyD.cells) es.length cap (by simp) (fun r hr => by
    obtain ⟨x, _, rfl⟩ := List.mem_map.1 hr; rfl) (fun r hr u hu => by
    obtain ⟨x, _, rfl⟩ := List.mem_map.1 hr
    simp [KeyD.cells] at hu
    rcases hu with rfl | rfl <;> rfl) h hb (by omega)
  have HO := Lib.hid ho
  clear ho h
  generalize es.length = n at *
  go_enter Try.func40, Try.ntmps40
  go_wp2_with (at_builtin; refine wpList_append_run rfl _ _ _ _ rfl _ _ _ rfl rfl hr ?_)
  go_ret
  exact ⟨A2, c2, rfl, HO.out, b2⟩

end Go.Proofs.Ytmhcjkiaogimgaa
