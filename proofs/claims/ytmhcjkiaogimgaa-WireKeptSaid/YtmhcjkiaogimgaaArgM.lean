/- An argument M: a struct with two slices of structs, opened. -/
import Derived.Test.YtmhcjkiaogimgaaArgN
import Derived.Test.YtmhcjkiaogimgaaWirT
namespace Go.Proofs.Ytmhcjkiaogimgaa
open Go.ChangeShapes Go.WideShapes Go.ChangeAt Go.RowKit Go.Deep

theorem list_of {D : Type} {P : Nat → D → Prop} : ∀ n, (∀ i, i < n → ∃ d, P i d) → ∃ l : List D, l.length = n ∧ ∀ i d, l[i]? = some d → P i d
  | 0, _ => ⟨[], rfl, fun i d h => by cases h⟩
  | n + 1, h => by
    obtain ⟨l, hl, hp⟩ := list_of n (fun i hi => h i (by omega))
    obtain ⟨d, hd⟩ := h n (by omega)
    refine ⟨l ++ [d], by simp [hl], fun i x hx => ?_⟩
    rcases Nat.lt_or_ge i l.length with hi | hi
    · rw [List.getElem?_append_left hi] at hx
      exact hp i x hx
    · rw [List.getElem?_append_right hi] at hx
      have : i - l.length = 0 := by
        rcases Nat.eq_zero_or_pos (i - l.length) with h0 | h0
        · exact h0
        · rw [List.getElem?_eq_none (by simp; omega)] at hx; cases hx
      rw [this] at hx
      simp at hx
      subst hx
      rw [show i = n by omega]
      exact hd

section
variable {H : Type} {enc : TypeId × Value → H} {w : World} {base : Nat} {spare : Nat → Bool} {held : Bool}
/-- One field of a struct that is walked over, and what is told of it. -/
theorem trod_part {P : Program} {t : TypeId} {fs : Array Field} {fuel : Nat} {cs : List Value} {x : DataW H × List MemPlace} (he : P.underlying t = some (.struct fs)) (h : DataW.trod enc P w base spare held fuel t cs = some x)
    (j : Nat) {f : Field} (hj : fs[j]? = some f) {ty : TypeId} {o c : Nat} (hty : f.type = ty) (ho : f.offset = o) (hc : P.cellsOf ty = c) : ∃ n y parts, DataW.trod enc P w base spare held n ty ((cs.drop o).take c) = some y ∧ x.1 = .agg parts ∧ parts[j]? = some y.1 := by
  obtain ⟨ys, n', hn', hy, hlen, hyl, hf⟩ := DataW.trod_struct he h
  have h1 := hf j f hj
  have hjl : j < ys.length := by
    have := (Array.getElem?_eq_some_iff.1 hj).1
    omega
  subst hty; subst ho; subst hc
  exact ⟨n', ys[j], ys.map (·.1), h1.trans (List.getElem?_eq_getElem hjl), congrArg Prod.fst hy, by rw [List.getElem?_map, List.getElem?_eq_getElem hjl]; rfl⟩

/-- A slice of structs: its rows. -/
theorem rows_of {P : Program} {t e : TypeId} {k : Nat} {D : Type} (cells : D → List Value) (hcl : ∀ d, (cells d).length = k) (hk0 : 0 < k) (ht : P.underlying t = some (.slice e)) (hk : P.cellsOf e = k)
    (each : ∀ {fuel : Nat} {cs : List Value} {x : DataW H × List MemPlace}, DataW.trod enc P w base spare held fuel e cs = some x → ∃ d : D, Has cs 0 (cells d))
    {fuel : Nat} {cs : List Value} {x : DataW H × List MemPlace} (h : DataW.trod enc P w base spare held fuel t cs = some x) :
    ∃ (A : Option Addr) (l : List D) (c : Nat), cs = [.slice A l.length c] ∧ RowsAt w A k (l.map cells) ∧ (l = [] ∨ ∃ es sp, x.1 = .slice es sp ∧ es.length = l.length) := by
  rcases open_slice ht h with ⟨h0, _⟩ | ⟨a, len, cap, m, n, D', Pl, hcs, hb, hl, hm, hmm, hx, hi⟩
  · exact ⟨none, [], 0, h0, RowsAt.nil _ _ _, Or.inl rfl⟩
  · have hlm : len ≤ m := by rw [hmm]; split <;> omega
    obtain ⟨l, hlen, hp⟩ := list_of (P := fun i d => ∀ j v, (cells d)[j]? = some v → w.cell? (a.add (i * k + j)) = some v) len (fun i hil => by
      obtain ⟨cs', hc, htr⟩ := hi i (by omega)
      rw [hk] at hc
      obtain ⟨d, hd⟩ := each htr
      obtain ⟨_, hcl', hat⟩ := World.cells?_some hc
      refine ⟨d, fun j v hj => ?_⟩
      have hjk : j < k := by
        have := (List.getElem?_eq_some_iff.1 hj).1
        rw [hcl d] at this
        exact this
      have := hd j v hj
      rw [Nat.zero_add] at this
      rw [← Go.Deep.add_add, hat j hjk, this])
    subst hlen
    refine ⟨some a, l, cap, hcs, ⟨fun i cs' hcs' => ?_⟩, Or.inr ⟨_, _, congrArg Prod.fst hx, by simp⟩⟩
    rw [List.getElem?_map] at hcs'
    cases hd : l[i]? with
    | none => rw [hd] at hcs'; cases hcs'
    | some d =>
      rw [hd] at hcs'
      simp at hcs'
      subst hcs'
      have h0 := hp i d hd
      have hj0 : (cells d)[0]? = some ((cells d)[0]'(by rw [hcl d]; exact hk0)) := List.getElem?_eq_getElem _
      have hc0 := h0 0 _ hj0
      have hbl := World.block_lt_of_cell? w _ hc0
      rw [add_at] at hbl
      have hi0 : 0 < l.length := by have := (List.getElem?_eq_some_iff.1 hd).1; omega
      have hc00 := hp 0 _ (List.getElem?_eq_getElem hi0) 0 _ (List.getElem?_eq_getElem (by rw [hcl]; exact hk0))
      rw [Nat.zero_mul] at hc00
      have hs := World.cell?_spot hc00
      obtain ⟨b, o, s⟩ := a
      have hs' : s = none := by
        unfold Addr.add at hs
        simpa using hs
      subst hs'
      refine ⟨b, o, rfl, hbl, fun j v hj => ?_⟩
      have := h0 j v hj
      rw [Addr.add_mid] at this
      rwa [Nat.add_assoc]

theorem m_of {fuel : Nat} {cs : List Value} {x : DataW H × List MemPlace} (h : DataW.trod enc Try.prog w base spare held fuel 27 cs = some x) :
    ∃ (m : MD) (s : Sls), Has cs 0 (m.cells s) ∧ RowsAt w s.ea 7 (m.entries.map EntryD.cells) ∧ RowsAt w s.ka 2 (m.keys.map KeyD.cells) ∧
      (m.entries = [] ∨ ∃ parts es sp, x.1 = .agg parts ∧ parts[9]? = some (.slice es sp) ∧ es.length = m.entries.length) ∧ (m.keys = [] ∨ ∃ parts es sp, x.1 = .agg parts ∧ parts[10]? = some (.slice es sp) ∧ es.length = m.keys.length) := by
  obtain ⟨a, ha, _⟩ := f_int Try.underlying27 h 0 rfl rfl (k := .i64) (by kernel_rfl)
  obtain ⟨b, hb, _⟩ := f_int Try.underlying27 h 1 rfl rfl (k := .i64) (by kernel_rfl)
  obtain ⟨c, hc, _⟩ := f_int Try.underlying27 h 2 rfl rfl (k := .i64) (by kernel_rfl)
  obtain ⟨d, hd, _⟩ := f_int Try.underlying27 h 3 rfl rfl (k := .i64) (by kernel_rfl)
  obtain ⟨e, he, _⟩ := f_int Try.underlying27 h 4 rfl rfl (k := .i64) (by kernel_rfl)
  obtain ⟨f, hf, _⟩ := f_int Try.underlying27 h 5 rfl rfl (k := .i64) (by kernel_rfl)
  obtain ⟨g, hg, _⟩ := f_int Try.underlying27 h 6 rfl rfl (k := .i64) (by kernel_rfl)
  obtain ⟨i, hi, _⟩ := f_int Try.underlying27 h 7 rfl rfl (k := .i64) (by kernel_rfl)
  obtain ⟨_, _, h1⟩ := trod_field Try.underlying27 h 8 rfl (ty := 23) (o := 8) (c := 7) rfl rfl (by kernel_rfl)
  obtain ⟨o, ho⟩ := op_of h1
  obtain ⟨_, y9, p9, h2, hx9, hp9⟩ := trod_part Try.underlying27 h 9 rfl (ty := 24) (o := 15) (c := 1) rfl rfl (by kernel_rfl)
  obtain ⟨_, y10, p10, h3, hx10, hp10⟩ := trod_part Try.underlying27 h 10 rfl (ty := 25) (o := 16) (c := 1) rfl rfl (by kernel_rfl)
  obtain ⟨ea, es, ec, hes, hra, hsa⟩ := rows_of EntryD.cells (k := 7) (fun _ => rfl) (by omega) Try.underlying24 (by unfold Program.cellsOf; kernel_rfl) (fun hh => entry_of hh) h2
  obtain ⟨ka, ks, kc, hks, hrk, hsk⟩ := rows_of KeyD.cells (k := 2) (fun _ => rfl) (by omega) Try.underlying25 (by unfold Program.cellsOf; kernel_rfl) (fun hh => key_of hh) h3
  refine ⟨⟨a, b, c, d, e, f, g, i, o, es, ks⟩, ⟨ea, ec, ka, kc⟩, has_cons ha (has_cons hb (has_cons hc (has_cons hd (has_cons he (has_cons hf (has_cons hg (has_cons hi (has_app (n := 7) ho.up rfl (has_cons (get_sub (i := 0) (get_one hes)) (has_cons (get_sub (i := 0) (get_one hks)) has_nil)))))))))), hra, hrk, ?_, ?_⟩
  · rcases hsa with h0 | ⟨l, sp, hy, hl⟩
    · exact Or.inl h0
    · exact Or.inr ⟨p9, l, sp, hx9, by rw [hp9, hy], hl⟩
  · rcases hsk with h0 | ⟨l, sp, hy, hl⟩
    · exact Or.inl h0
    · exact Or.inr ⟨p10, l, sp, hx10, by rw [hp10, hy], hl⟩
end

/-- A slice inside a struct: its size. -/
theorem sized_part {H : Type} {P : Program} {ts : List TypeId} {ds : List (DataW H)} (h : (DataW.weightsEach P ts ds).all (· ≤ reachBytes) = true) {j i B : Nat} {t t2 e : TypeId} {fs : Array Field} {parts es sp : List (DataW H)}
    (ht : ts[j]? = some t) (hd : ds[j]? = some (.agg parts)) (hu : P.underlying t = some (.struct fs)) (hi : (fs.toList.map (·.type))[i]? = some t2) (hp : parts[i]? = some (.slice es sp)) (hu2 : P.underlying t2 = some (.slice e)) (hB : P.bytesOf e = B) : es.length * B ≤ reachBytes := by
  have h2 : (es.length + sp.length) * P.bytesOf e ≤ reachBytes := by
    refine of_decide_eq_true (List.all_eq_true.1 h _ (DataW.weights_mem_each ht hd _ ?_))
    simp only [DataW.weights, hu]
    exact DataW.weights_mem_each hi hp _ (by simp [DataW.weights, hu2])
  rw [hB] at h2
  exact Nat.le_trans (Nat.mul_le_mul_right _ (by omega)) h2

theorem cells_m : Try.prog.cellsOf 27 = 17 := by unfold Program.cellsOf; kernel_rfl
theorem m_len (m : MD) (s : Sls) : (m.cells s).length = 17 := rfl
set_option maxRecDepth 100000 in
theorem arg_m {H : Type} {enc : TypeId × Value → H} {W : World} {base b0 : Nat} {r : Reach} {spare : Nat → Bool} {held : Bool} {v : Value} {d : DataW H} {ps : List MemPlace} {ts : List TypeId} {ds : List (DataW H)} {j : Nat}
    (hsz : (DataW.weightsEach Try.prog ts ds).all (· ≤ reachBytes) = true) (ht : ts[j]? = some 27) (hd : ds[j]? = some d)
    (hv : Value.okWide Try.prog W r b0 27 v) (h : DataW.Trod enc Try.prog W base spare held 27 v d ps) : ∃ (m : MD) (s : Sls) (xs : Array Value), MArg W xs m s ∧ v = .agg xs := by
  obtain ⟨cs, rfl, hszc⟩ := okWide_struct Try.underlying27 hv
  rw [cells_m] at hszc
  obtain ⟨fuel, hf⟩ := h
  obtain ⟨m, s, hn, h1, h2, h3, h4⟩ := m_of hf
  have e : Value.cells (.agg cs) = cs := by simp [Value.cells]
  rw [e] at hn
  have he : cs.toList = m.cells s := hn.eq (by rw [Array.length_toList, hszc, m_len])
  refine ⟨m, s, cs, ⟨by rw [← he], h1, h2, ?_, ?_⟩, rfl⟩
  · rcases h3 with h0 | ⟨parts, es, sp, hx, hp, hl⟩
    · rw [h0]; exact Nat.zero_le _
    · rw [show d = .agg parts from hx] at hd
      have := sized_part hsz ht hd Try.underlying27 (i := 9) (t2 := 24) rfl hp Try.underlying24 (B := 72) (by unfold Program.bytesOf; kernel_rfl)
      rw [hl] at this
      exact Nat.le_trans this (by decide)
  · rcases h4 with h0 | ⟨parts, es, sp, hx, hp, hl⟩
    · rw [h0]; exact Nat.zero_le _
    · rw [show d = .agg parts from hx] at hd
      have := sized_part hsz ht hd Try.underlying27 (i := 10) (t2 := 25) rfl hp Try.underlying25 (B := 24) (by unfold Program.bytesOf; kernel_rfl)
      rw [hl] at this
      exact Nat.le_trans this (by decide)

end Go.Proofs.Ytmhcjkiaogimgaa
