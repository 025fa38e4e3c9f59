/- The scroll's Turn as plain data: how its pieces come onto the disk. -/
import Derived.Test.YtmliiggieclbeaaSclO
namespace Go.Proofs.Ytmliiggieclbeaa
open Go.RowKit

/-- From disk s to disk s' a Turn's records 'done' have been laid into half K under generation G. -/
structure TurnSt (s s' : DS) (K G : Nat) (done : List (List Int)) : Prop where
  n : s'.n = s.n
  byd : ByD s'
  diff : ∀ k, s'.c k ≠ s.c k → ∃ j, j < halfN s.n ∧ k = startN s.n K + j
  half : HalfAt s'.c (halfN s.n) (startN s.n K) G done
  wr : s'.writes ≤ s.writes + 8 * (done.length : Int)
  gens : ∀ M, G ≤ M → M < 4294967296 → GensTo s.c s.n M → GensTo s'.c s.n M
  pow : (done = [] ∧ s' = s) ∨ (s.off = false ∧ s'.off = false ∧ ((s.fuse = -1 ∧ s'.fuse = -1) ∨ (0 ≤ s'.fuse ∧ s.fuse = s'.fuse + total done)))
theorem TurnSt.start {s : DS} {K G : Nat} (hB : ByD s) (hh : HalfAt s.c (halfN s.n) (startN s.n K) G []) : TurnSt s s K G [] :=
  ⟨rfl, hB, fun k hk => absurd rfl hk, hh, by simp, fun _ _ _ h => h, .inl ⟨rfl, rfl⟩⟩
/-- The power was lost on the way. -/
structure TurnCut (s s' : DS) (K G : Nat) (done : List (List Int)) : Prop where
  n : s'.n = s.n
  byd : ByD s'
  diff : ∀ k, s'.c k ≠ s.c k → ∃ j, j < halfN s.n ∧ k = startN s.n K + j
  wr : s'.writes ≤ s.writes + 8 * (done.length : Int) + 8
  gens : ∀ M, G ≤ M → M < 4294967296 → GensTo s.c s.n M → GensTo s'.c s.n M
  off : s'.off = true
  pow : s.off = true ∨ (0 ≤ s.fuse ∧ s.fuse ≠ -1)
theorem TurnSt.app {s s' s2 : DS} {K G : Nat} {done : List (List Int)} {r : List Int} {E : Int} (h : TurnSt s s' K G done) (hf : -1 ≤ s'.fuse) (hr : isBy r) (hg : goodR r) (hu : total done + blks r ≤ halfN s.n)
    (he : AppEnd s' (startN s.n K) G done.length (total done) r E s2) : (E = 0 ∧ TurnSt s s2 K G (done ++ [r])) ∨ (E = 21 ∧ TurnCut s s2 K G done) := by
  have hb8 := good_blks hg
  have hdiff : ∀ m, m ≤ blks r → ∀ k, laying s'.c (startN s.n K) G done.length (total done) r m k ≠ s.c k → ∃ j, j < halfN s.n ∧ k = startN s.n K + j := fun m hm k hk => by
    by_cases e : laying s'.c (startN s.n K) G done.length (total done) r m k = s'.c k
    · rw [e] at hk; exact h.diff k hk
    · exact laying_other (by omega) k e
  cases he with
  | ok ho hfu =>
    refine .inl ⟨rfl, h.n, fun k => ⟨laying_by hr (fun k => (h.byd k).1) k, laying_len (fun k => (h.byd k).2) k⟩, hdiff _ (Nat.le_refl _), h.half.push hg hu, ?_, fun M h1 h2 h3 => gens_laying (h.gens M h1 h2 h3) h1 h2, .inr ?_⟩
    · show s'.writes + (blks r : Int) ≤ _
      have := h.wr
      rw [List.length_append, List.length_singleton]
      omega
    · have hT : total (done ++ [r]) = total done + blks r := by rw [total_app, total_one]
      have hfu2 : (s'.lay (startN s.n K) G done.length (total done) r (blks r)).fuse = if s'.fuse = -1 then -1 else s'.fuse - (blks r : Int) := rfl
      rw [hT, hfu2]
      rcases h.pow with ⟨rfl, rfl⟩ | ⟨p1, p2, p3⟩
      · refine ⟨ho, ho, ?_⟩
        rw [total_nil]
        by_cases e : s'.fuse = -1
        · exact .inl ⟨e, by rw [if_pos e]⟩
        · exact .inr ⟨by rw [if_neg e]; omega, by rw [if_neg e]; omega⟩
      · refine ⟨p1, p2, ?_⟩
        rcases p3 with ⟨q1, q2⟩ | ⟨q1, q2⟩
        · exact .inl ⟨q1, by rw [if_pos q2]⟩
        · exact .inr ⟨by rw [if_neg (by omega)]; omega, by rw [if_neg (by omega)]; omega⟩
  | off ho =>
    have hs : s' = s := by
      rcases h.pow with ⟨_, e⟩ | ⟨_, p, _⟩
      · exact e
      · rw [p] at ho; cases ho
    refine .inr ⟨rfl, h.n, h.byd, h.diff, by have := h.wr; omega, h.gens, ho, .inl (by rw [← hs]; exact ho)⟩
  | cut m ho hfu hm =>
    refine .inr ⟨rfl, h.n, fun k => ⟨laying_by hr (fun k => (h.byd k).1) k, laying_len (fun k => (h.byd k).2) k⟩, hdiff m (by omega), ?_, fun M h1 h2 h3 => gens_laying (h.gens M h1 h2 h3) h1 h2, rfl, ?_⟩
    · show s'.writes + (m : Int) ≤ _
      have := h.wr
      omega
    · rcases h.pow with ⟨rfl, rfl⟩ | ⟨p1, p2, p3⟩
      · exact .inr ⟨by omega, by omega⟩
      · rcases p3 with ⟨q1, q2⟩ | ⟨q1, q2⟩
        · omega
        · exact .inr ⟨by omega, by omega⟩
/-- The header is laid. -/
theorem TurnSt.laidHead {s s' : DS} {K G : Nat} {done : List (List Int)} (h : TurnSt s s' K G done) (h1 : 1 ≤ G) (h2 : G ≤ 1073741824) (h3 : K ≤ 1) :
    ByD (s'.put 0 (hdL G K)) ∧ ScrollAt (s'.put 0 (hdL G K)).c s.n G K done ∧ (∀ M, G ≤ M → M < 4294967296 → GensTo s.c s.n M → GensTo (s'.put 0 (hdL G K)).c s.n M) := by
  have e : (s'.put 0 (hdL G K)).c = headed s'.c G K := by
    funext k
    show (if k = (0 : Int).toNat then hdL G K else s'.c k) = _
    unfold headed
    rfl
  rw [e]
  refine ⟨fun k => ?_, ScrollAt.turned h1 h2 h3 h.half, fun M q1 q2 q3 => gens_headed (h.gens M q1 q2 q3)⟩
  show isBy ((s'.put 0 (hdL G K)).c k) ∧ ((s'.put 0 (hdL G K)).c k).length = 64
  rw [e]
  exact ⟨headed_by (fun k => (h.byd k).1) _ _ _, headed_len (fun k => (h.byd k).2) _ _ _⟩
/-- How a Turn ends. -/
inductive TurnEnd (d g p : Nat) (s : DS) (gen h : Nat) (old rs : List (List Int)) (w' : World) : Int → DS → Prop where
  | bad (hb : ∃ r ∈ rs, ¬ goodR r) (l : Live w' d g p s gen h old) : TurnEnd d g p s gen h old rs w' 61 s
  | full (hg : ∀ r ∈ rs, goodR r) (hf : halfN s.n < total rs) (l : Live w' d g p s gen h old) : TurnEnd d g p s gen h old rs w' 2 s
  | high (hg : ∀ r ∈ rs, goodR r) (hf : total rs ≤ halfN s.n) (hh : ∀ M, gen ≤ M → GensTo s.c s.n M → 1073741824 ≤ M) (l : Live w' d g p s gen h old) : TurnEnd d g p s gen h old rs w' 60 s
  | ok (s' : DS) (G : Nat) (hg : ∀ r ∈ rs, goodR r) (hf : total rs ≤ halfN s.n) (l : Live w' d g p s' G (1 - h) rs) (hG : gen < G) (ho : s.off = false) (ho' : s'.off = false) (hfu : s.fuse = -1 ∨ (total rs : Int) + 1 ≤ s.fuse) (hfu' : s.fuse = -1 → s'.fuse = -1)
      (hn : s'.n = s.n) (hw : s'.writes ≤ s.writes + 5000) (hgens : ∀ M, gen ≤ M → M + 1 < 4294967296 → GensTo s.c s.n M → G ≤ M + 1 ∧ GensTo s'.c s.n (M + 1)) : TurnEnd d g p s gen h old rs w' 0 s'
  | cut (s' : DS) (hg : ∀ r ∈ rs, goodR r) (hf : total rs ≤ halfN s.n) (l : Live w' d g p s' gen h old) (ho' : s'.off = true) (hp : s.off = true ∨ 0 ≤ s.fuse)
      (hn : s'.n = s.n) (hw : s'.writes ≤ s.writes + 5000) (hgens : ∀ M, gen ≤ M → M + 1 < 4294967296 → GensTo s.c s.n M → GensTo s'.c s.n (M + 1)) : TurnEnd d g p s gen h old rs w' 21 s'

end Go.Proofs.Ytmliiggieclbeaa
