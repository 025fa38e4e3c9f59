/- Values read from memory, row by row. Plain lemmas over any world; no program. -/
import Derived.Test.YtmliiggieclbeaaMem
import Derived.Maps.AppendAt
namespace Go.Proofs.Ytmliiggieclbeaa
open Go.RowKit

theorem add_add (x : Addr) (a b : Nat) : (x.add a).add b = x.add (a + b) := by
  unfold Addr.add
  by_cases h1 : a = 0 <;> by_cases h2 : b = 0 <;> simp [h1, h2, Nat.add_assoc]

/-- A slice's cells: these values from the address on (nil where there is none). -/
structure RdV (w : World) (a : Option Addr) (vs : List Value) : Prop where
  at_ : ∀ j v, vs[j]? = some v → ∃ x, a = some x ∧ x.block < w.heap.size ∧ w.cell? (x.add j) = some v
theorem RdV.kp {S : Nat → Prop} {w w' : World} {a : Option Addr} {l : List Value} (h : RdV w a l) (hk : Kp S w w') (hs : ∀ x, a = some x → ¬ S x.block) : RdV w' a l :=
  ⟨fun j v hj => by
    obtain ⟨x, rfl, hx, hc⟩ := h.at_ j v hj
    exact ⟨x, rfl, Nat.lt_of_lt_of_le hx hk.size, (hk.cell (p := x.add j) (by rw [add_at]; exact hx) (by rw [add_at]; exact hs x rfl)).trans hc⟩⟩
theorem RdV.below {w w' : World} {a : Option Addr} {l : List Value} (h : RdV w a l) (hb : Below w.heap.size w w') : RdV w' a l :=
  h.kp (S := fun _ => False) (Kp.of_below hb) (fun _ _ h => h)
theorem RdV.drawn {w w' : World} {a : Option Addr} {l : List Value} (h : RdV w a l) (hd : Drawn w w') : RdV w' a l := h.kp (hd.kp (fun _ => False)) (fun _ _ h => h)
theorem RdV.nil (w : World) (a : Option Addr) : RdV w a [] := ⟨fun j v hj => by simp at hj⟩
theorem RdV.of_own {w : World} {base n c : Nat} {e : TypeId} {size : Nat} {A : Option Addr} {vs : List Value} (h : w.ownsRow base e size (.slice A n c) n vs) : RdV w A vs := by
  obtain ⟨hl, hv⟩ := h
  refine ⟨fun j v hj => ?_⟩
  have hjl : j < vs.length := (List.getElem?_eq_some_iff.1 hj).1
  rcases hv with ⟨_, h0⟩ | ⟨g, cap, cur, he, _, hb, _, _, _, ht⟩
  · subst h0; omega
  · injection he with he _ _
    subst he
    refine ⟨_, rfl, (Array.getElem?_eq_some_iff.1 hb).1, ?_⟩
    rw [Addr.add_mid, Nat.zero_add, cell_of_row w g j cur e _ hb, ← Array.getElem?_toList]
    rw [← ht] at hj
    rw [List.getElem?_take] at hj
    split at hj
    · exact hj
    · cases hj
/-- The value of an owned row, as the walk wants it. -/
theorem own_form {w : World} {base n : Nat} {e : TypeId} {size : Nat} {v : Value} {vs : List Value} (h : w.ownsRow base e size v n vs) : ∃ A c, v = .slice A n c := by
  obtain ⟨_, ⟨rfl, rfl⟩ | ⟨g, cap, cur, rfl, _⟩⟩ := h
  · exact ⟨none, 0, rfl⟩
  · exact ⟨_, cap, rfl⟩
theorem own_kp {w w' : World} {S : Nat → Prop} {base n : Nat} {e : TypeId} {size : Nat} {v : Value} {vs : List Value} (h : w.ownsRow base e size v n vs) (hk : Kp S w w') (hs : ∀ k, v.ownBlock = some k → ¬ S k) : w'.ownsRow base e size v n vs := by
  obtain ⟨hl, hv⟩ := h
  refine ⟨hl, ?_⟩
  rcases hv with hv | ⟨g, cap, cur, rfl, h1, hb, h2⟩
  · exact .inl hv
  · exact .inr ⟨g, cap, cur, rfl, h1, (hk.block g (Array.getElem?_eq_some_iff.1 hb).1 (hs g rfl)).trans hb, h2⟩
theorem own_below {w w' : World} {base n : Nat} {e : TypeId} {size : Nat} {v : Value} {vs : List Value} (h : w.ownsRow base e size v n vs) (hb : Below w.heap.size w w') : w'.ownsRow base e size v n vs :=
  own_kp (S := fun _ => False) h (Kp.of_below hb) (fun _ _ h => h)
theorem own_none (w : World) (base : Nat) (e : TypeId) (size : Nat) : w.ownsRow base e size (.slice none 0 0) 0 [] := ⟨by simp, .inl ⟨rfl, rfl⟩⟩
theorem own_ge {w : World} {base n : Nat} {e : TypeId} {size : Nat} {v : Value} {vs : List Value} (h : w.ownsRow base e size v n vs) : ∀ k, v.ownBlock = some k → base ≤ k := by
  intro k hk
  obtain ⟨_, ⟨rfl, _⟩ | ⟨g, cap, cur, rfl, h1, _⟩⟩ := h
  · cases hk
  · injection hk with hk
    show base ≤ k
    have : g = k := hk
    omega

/-- append(v, x...) on a row of one's own: its run; x: m elements that lie at an address. -/
theorem append_run {P : Program} {w : World} {base n : Nat} {t e : TypeId} {size bytes : Nat} {v : Value} {vs news : List Value} {a : Addr} {m c : Nat} (ty : TypeId)
    (ht : P.underlying t = some (.slice e)) (hinfo : (P.info? e).map (fun i => (i.zero.map (fun z => z.cells.size), i.size, i.bytes)) = some (some size, size, bytes)) (hsz : 0 < size)
    (hown : w.ownsRow base e size v n vs) (hl : news.length = m * size) (hn : ∀ j u, news[j]? = some u → w.cell? (a.add j) = some u) (h1 : ∀ u ∈ news, u.oneCell' = true)
    (h63 : n + m ≤ 9223372036854775807) (hbytes : (n + m) * bytes ≤ 140737488355328) (hbase : base ≤ w.heap.size) :
    ∃ v' w', (Builtin.append_ #[t, t] ty #[v, .slice (some a) m c]).run P w = .ok v' w' ∧ w'.ownsRow base e size v' (n + m) (vs ++ news) ∧ w.grownBy w' v.ownBlock := by
  obtain ⟨i, hi, hzz⟩ := Option.map_eq_some_iff.1 hinfo
  simp only [Prod.mk.injEq] at hzz
  obtain ⟨hz, hsize, hby⟩ := hzz
  obtain ⟨z, hz1, hz2⟩ := Option.map_eq_some_iff.1 hz
  obtain ⟨v', w', hr, ho, hg, _⟩ := run_append_own_at (P := P) w base t ty e i z size bytes ht hi hz1 hsize hby hz2 hsz v n vs hown a m c news hl hn h1 (by simp only [maxLen]; omega) hbytes hbase
  exact ⟨v', w', hr, ho, hg⟩
/-- .. and where the row lies behind it. -/
theorem append_run2 {P : Program} {w : World} {base n : Nat} {t e : TypeId} {size bytes : Nat} {v : Value} {vs news : List Value} {a : Addr} {m c : Nat} (ty : TypeId)
    (ht : P.underlying t = some (.slice e)) (hinfo : (P.info? e).map (fun i => (i.zero.map (fun z => z.cells.size), i.size, i.bytes)) = some (some size, size, bytes)) (hsz : 0 < size)
    (hown : w.ownsRow base e size v n vs) (hl : news.length = m * size) (hn : ∀ j u, news[j]? = some u → w.cell? (a.add j) = some u) (h1 : ∀ u ∈ news, u.oneCell' = true)
    (h63 : n + m ≤ 9223372036854775807) (hbytes : (n + m) * bytes ≤ 140737488355328) (hbase : base ≤ w.heap.size) :
    ∃ v' w', (Builtin.append_ #[t, t] ty #[v, .slice (some a) m c]).run P w = .ok v' w' ∧ w'.ownsRow base e size v' (n + m) (vs ++ news) ∧ w.grownBy w' v.ownBlock ∧ (v'.ownBlock = v.ownBlock ∨ v'.ownBlock = some w.heap.size) := by
  obtain ⟨i, hi, hzz⟩ := Option.map_eq_some_iff.1 hinfo
  simp only [Prod.mk.injEq] at hzz
  obtain ⟨hz, hsize, hby⟩ := hzz
  obtain ⟨z, hz1, hz2⟩ := Option.map_eq_some_iff.1 hz
  obtain ⟨v', w', hr, ho, hg, _, hat⟩ := run_append_own_at (P := P) w base t ty e i z size bytes ht hi hz1 hsize hby hz2 hsz v n vs hown a m c news hl hn h1 (by simp only [maxLen]; omega) hbytes hbase
  exact ⟨v', w', hr, ho, hg, hat⟩
theorem Kp.of_grown {w w' : World} {row : Option Nat} (h : w.grownBy w' row) : Kp (fun k => row = some k) w w' :=
  ⟨h.os, h.tape, h.output, h.size, fun k hk hr => h.block k hk (fun e => hr e.symm)⟩
theorem grown_below {w0 w w' : World} {base : Nat} {row : Option Nat} (h : Below base w0 w) (hg : w.grownBy w' row) (hB : base ≤ w.heap.size) (hr : ∀ k, row = some k → base ≤ k) : Below base w0 w' := h.grown hg hB hr

end Go.Proofs.Ytmliiggieclbeaa
