/- The scroll's Open. -/
import Derived.Test.YtmliiggieclbeaaSclG
import Derived.ScopeJumps
namespace Go.Proofs.Ytmliiggieclbeaa
open Go.RowKit

/-- As Q; by a goto to label l: J l. -/
def jumps (J : Nat → Act → World → Prop) (Q : Exit → Act → World → Prop) : Exit → Act → World → Prop
  | .goto l, a, w => J l a w
  | e, a, w => Q e a w
theorem wp_scope_jumps2 {P : Program} {a : Act} {w : World} {Q : Exit → Act → World → Prop} {c : Code} (rest : Nat → Code) (J : Nat → Act → World → Prop) (μ : Nat → Act → World → Nat) (hf : ∀ l a w, J l a w → findLabel c l = some (rest l))
    (first : c.wp P (jumps J Q) a w)
    (pass : ∀ l a w, J l a w → (rest l).wp P (jumps (fun l' a' w' => J l' a' w' ∧ μ l' a' w' < μ l a w) Q) a w) : (Code.scope c).wp P Q a w := by
  intro b k cs
  have hg : ∀ l a w, J l a w → gotoIn l (.inScope c :: k) = some (.code (rest l) :: .inScope c :: k) := fun l a w h => by simp [gotoIn, hf l a w h]
  have key : ∀ n l a w, μ l a w = n → J l a w → ∃ e a' w', Q e a' w' ∧ Arrives P (lone (b.at a (.code (rest l) :: .inScope c :: k)) cs w) b k cs e a' w' := by
    intro n
    induction n using Nat.strongRecOn with
    | _ n ih =>
      intro l a w hn hJ
      obtain ⟨e, a₁, w₁, hq, harr⟩ := pass l a w hJ b (.inScope c :: k) cs
      cases e with
      | normal => exact ⟨.normal, a₁, w₁, hq, Steps.trans harr (.one step_inScope)⟩
      | exit id => exact ⟨.exit id, a₁, w₁, hq, fun k' hk => harr k' (by simp [exitTo, hk])⟩
      | goto l' =>
        obtain ⟨hJ', hlt⟩ := hq
        obtain ⟨e₂, a₂, w₂, hq₂, harr₂⟩ := ih _ (by omega) l' a₁ w₁ rfl hJ'
        exact ⟨e₂, a₂, w₂, hq₂, .of_steps (harr _ (hg _ _ _ hJ')) harr₂⟩
      | ret => exact ⟨_, a₁, w₁, hq, harr⟩
      | panic ch => exact ⟨_, a₁, w₁, hq, harr⟩
      | outgrown => exact ⟨_, a₁, w₁, hq, harr⟩
  obtain ⟨e, a₁, w₁, hq, harr⟩ := first b (.inScope c :: k) cs
  cases e with
  | normal => exact ⟨.normal, a₁, w₁, hq, .head step_scope (Steps.trans harr (.one step_inScope))⟩
  | exit id => exact ⟨.exit id, a₁, w₁, hq, fun k' hk => .head step_scope (harr k' (by simp [exitTo, hk]))⟩
  | goto l' =>
    have hJ' : J l' a₁ w₁ := hq
    obtain ⟨e₂, a₂, w₂, hq₂, harr₂⟩ := key _ l' a₁ w₁ rfl hJ'
    exact ⟨e₂, a₂, w₂, hq₂, .of_steps (.head step_scope (harr _ (hg _ _ _ hJ'))) harr₂⟩
  | ret => exact ⟨_, a₁, w₁, hq, .of_steps (.one step_scope) harr⟩
  | panic ch => exact ⟨_, a₁, w₁, hq, .of_steps (.one step_scope) harr⟩
  | outgrown => exact ⟨_, a₁, w₁, hq, .of_steps (.one step_scope) harr⟩

/-- As Q; by a goto to label 1: J1; to label 0: J0; by any other: no way out. -/
def jumps2 (J1 J0 : Act → World → Prop) (Q : Exit → Act → World → Prop) : Exit → Act → World → Prop := jumps (fun l a w => match l with | 1 => J1 a w | 0 => J0 a w | _ => False) Q
theorem jumps2_0 {J0 J1 : Act → World → Prop} {Q : Exit → Act → World → Prop} {a : Act} {w : World} (h : J0 a w) : jumps2 J1 J0 Q (.goto 0) a w := h
theorem jumps2_1 {J0 J1 : Act → World → Prop} {Q : Exit → Act → World → Prop} {a : Act} {w : World} (h : J1 a w) : jumps2 J1 J0 Q (.goto 1) a w := h
theorem jumps2_ret {J0 J1 : Act → World → Prop} {Q : Exit → Act → World → Prop} {a : Act} {w : World} (h : Q .ret a w) : jumps2 J1 J0 Q .ret a w := h
theorem jumps2_mono {J0 J1 J1' : Act → World → Prop} {Q : Exit → Act → World → Prop} (h1 : ∀ a w, J1' a w → J1 a w) : ∀ e a w, jumps2 J1' J0 Q e a w → jumps2 J1 J0 Q e a w := by
  intro e a' w' h
  cases e with
  | goto l =>
    match l, h with
    | 0, h => exact h
    | 1, h => exact h1 _ _ h
  | _ => exact h
/-- A scope with a loop at label 1 and an end at label 0; the walk ahead of the loop ends at label 1. -/
theorem wp_scope_loop {P : Program} {a : Act} {w : World} {Q : Exit → Act → World → Prop} {c rest r0 : Code} (J1 J0 : Act → World → Prop) (μ : Act → World → Nat) (h1 : findLabel c 1 = some (.seq .skip rest)) (h0 : findLabel c 0 = some r0)
    (pass1 : ∀ a w, J1 a w → rest.wp P (jumps2 (fun a' w' => J1 a' w' ∧ μ a' w' < μ a w) J0 Q) a w)
    (pass0 : ∀ a w, J0 a w → r0.wp P (jumps2 (fun _ _ => False) (fun _ _ => False) Q) a w)
    (first : (∀ a w, J1 a w → rest.wp P (jumps2 J1 J0 Q) a w) → c.wp P (jumps2 J1 J0 Q) a w) : (Code.scope c).wp P Q a w := by
  refine wp_scope_jumps2 (fun l => match l with | 1 => .seq .skip rest | _ => r0) (fun l a w => match l with | 1 => J1 a w | 0 => J0 a w | _ => False) (fun l a w => match l with | 1 => μ a w + 1 | _ => 0) ?_ ?_ ?_
  · intro l a w h
    match l, h with
    | 1, _ => exact h1
    | 0, _ => exact h0
  · exact first (fun a w h => Code.wp_mono (jumps2_mono (fun _ _ h => h.1)) (pass1 a w h))
  · intro l a w h
    match l, h with
    | 1, h =>
      refine wp_seq (wp_skip ?_)
      refine Code.wp_mono ?_ (pass1 a w h)
      intro e a' w' h
      cases e with
      | goto l =>
        match l, h with
        | 1, h => exact ⟨And.left h, Nat.succ_lt_succ (And.right h)⟩
        | 0, h => exact ⟨h, Nat.succ_pos _⟩
      | _ => exact h
    | 0, h =>
      refine Code.wp_mono ?_ (pass0 a w h)
      intro e a' w' h
      cases e with
      | goto l =>
        match l, h with
        | 0, h => exact False.elim h
        | 1, h => exact False.elim h
      | _ => exact h

theorem blk_ty {w : World} {g : Nat} {cs cs' : Array Value} {t t' : TypeId} (h : Blk w g cs t) (k : Blk w g cs' t') : t = t' := by
  have e := h.symm.trans k
  injection e with e
  injection e
/-- A row of bytes that begins block g. -/
structure RowB (w : World) (g : Nat) (r : List Int) : Prop where
  ex : ∃ cs, Blk w g cs 5 ∧ ∀ i, i < r.length → cs[i]? = some (Value.int .u8 (r.getD i 0))
theorem RowB.rd {w : World} {g : Nat} {r : List Int} (h : RowB w g r) : Rd .u8 w (some ⟨g, 0, none⟩) r := by
  obtain ⟨cs, hb, hc⟩ := h.ex
  exact hb.rd 0 (fun j hj => by rw [Nat.zero_add]; exact hc j hj)
theorem RowB.lt {w : World} {g : Nat} {r : List Int} (h : RowB w g r) : g < w.heap.size := by
  obtain ⟨cs, hb, _⟩ := h.ex
  exact hb.lt
theorem RowB.kp {T : Nat → Prop} {w w' : World} {g : Nat} {r : List Int} (h : RowB w g r) (hk : Kp T w w') (hT : ∀ k cs, T k → ¬ Blk w k cs 5) : RowB w' g r := by
  obtain ⟨cs, hb, hc⟩ := h.ex
  exact ⟨cs, hb.kp hk (fun hg => hT g cs hg hb), hc⟩
theorem RowB.below {w w' : World} {g : Nat} {r : List Int} (h : RowB w g r) (hb : Below w.heap.size w w') : RowB w' g r := h.kp (T := fun _ => False) (Kp.of_below hb) (fun _ _ h => h.elim)
theorem RowB.of_blk {w : World} {g : Nat} {r : List Int} (h : Blk w g (ints .u8 r).toArray 5) : RowB w g r := ⟨_, h, fun i hi => by rw [List.getElem?_toArray, ints_get _ _ _ hi]⟩
theorem RowB.of_own {w : World} {base n c g : Nat} {r : List Int} (h : w.ownsRow base 5 1 (.slice (some ⟨g, 0, none⟩) n c) n (ints .u8 r)) : RowB w g r := by
  obtain ⟨_, hv⟩ := h
  rcases hv with ⟨he, _⟩ | ⟨g', cap, cur, he, _, hb, _, _, _, ht⟩
  · cases he
  · injection he with h1 _ _
    injection h1 with h1
    injection h1 with h1 _ _
    subst h1
    refine ⟨cur, hb, fun i hi => ?_⟩
    have := ints_get .u8 r i hi
    rw [← ht, List.getElem?_take] at this
    split at this
    · rwa [← Array.getElem?_toList]
    · cases this
/-- Rows in memory: each cell is a slice that begins a block of bytes in S. -/
structure Rws (S : Nat → Prop) (w : World) (vs : List Value) (rs : List (List Int)) : Prop where
  len : vs.length = rs.length
  at_ : ∀ (j : Nat) (r : List Int), rs[j]? = some r → ∃ g c : Nat, vs[j]? = some (Value.slice (some ⟨g, 0, none⟩) r.length c) ∧ r.length ≤ c ∧ S g ∧ RowB w g r
theorem Rws.nil (S : Nat → Prop) (w : World) : Rws S w [] [] := ⟨rfl, fun j r h => by simp at h⟩
theorem Rws.kp {S T U : Nat → Prop} {w w' : World} {vs : List Value} {rs : List (List Int)} (h : Rws S w vs rs) (hk : Kp T w w') (hT : ∀ k cs, T k → ¬ Blk w k cs 5) (hU : ∀ k, S k → U k) : Rws U w' vs rs :=
  ⟨h.len, fun j r hj => by
    obtain ⟨g, c, h1, h2, h3, h4⟩ := h.at_ j r hj
    exact ⟨g, c, h1, h2, hU g h3, h4.kp hk hT⟩⟩
theorem Rws.below {S : Nat → Prop} {w w' : World} {vs : List Value} {rs : List (List Int)} (h : Rws S w vs rs) (hb : Below w.heap.size w w') : Rws S w' vs rs := h.kp (T := fun _ => False) (Kp.of_below hb) (fun _ _ h => h.elim) (fun _ h => h)
theorem Rws.push {S : Nat → Prop} {w : World} {vs : List Value} {rs : List (List Int)} (h : Rws S w vs rs) {g c : Nat} {r : List Int} (hr : RowB w g r) (hc : r.length ≤ c) (hS : S g) : Rws S w (vs ++ [Value.slice (some ⟨g, 0, none⟩) r.length c]) (rs ++ [r]) :=
  ⟨by simp [h.len], fun j x hj => by
    by_cases hlt : j < rs.length
    · rw [List.getElem?_append_left hlt] at hj
      obtain ⟨g', c', h1, h2⟩ := h.at_ j x hj
      exact ⟨g', c', by rw [List.getElem?_append_left (by rw [h.len]; exact hlt)]; exact h1, h2⟩
    · rw [List.getElem?_append_right (by omega)] at hj
      have hj0 : j - rs.length = 0 := by
        have := (List.getElem?_eq_some_iff.1 hj).1
        simp at this; omega
      rw [hj0] at hj
      simp at hj
      subst hj
      exact ⟨g, c, by rw [List.getElem?_append_right (by rw [h.len]; omega), h.len, hj0]; rfl, hc, hS, hr⟩⟩
theorem own_ty {w : World} {base n : Nat} {e : TypeId} {size : Nat} {v : Value} {vs : List Value} (h : w.ownsRow base e size v n vs) {k : Nat} (hk : v.ownBlock = some k) {cs : Array Value} {t : TypeId} (hb : Blk w k cs t) : t = e := by
  obtain ⟨_, ⟨rfl, _⟩ | ⟨g, cap, cur, rfl, _, hc, _⟩⟩ := h
  · cases hk
  · injection hk with hk
    have hk : g = k := hk
    subst hk
    exact blk_ty hb hc
theorem sinfo : (Try.prog.info? 22).map (fun i => (i.zero.map (fun z => z.cells.size), i.size, i.bytes)) = some (some 1, 1, 24) := by kernel_rfl

end Go.Proofs.Ytmliiggieclbeaa
