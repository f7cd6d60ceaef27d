/- Plain laws: numbered terms. -/
import Derived.Test.YteebkkipeiggcaaVars
set_option linter.unusedVariables false
set_option linter.unusedSimpArgs false
namespace Go.Proofs.Yteebkkipeiggcaa
open Go Go.Vm

/-- 0, 1, and so on. -/
def rng (m : Nat) : List Int := (List.range m).map fun (i : Nat) => (i : Int)
@[simp] theorem rng_length (m : Nat) : (rng m).length = m := by simp [rng]
theorem rng_succ (m : Nat) : rng (m + 1) = rng m ++ [(m : Int)] := by simp [rng, List.range_succ]
theorem rng_mem (m k : Nat) : (k : Int) ∈ rng m ↔ k < m := by
  simp only [rng, List.mem_map, List.mem_range]
  constructor
  · rintro ⟨a, h, e⟩; omega
  · intro h; exact ⟨k, h, rfl⟩
theorem rng_idx : ∀ (m k : Nat), k < m → (rng m).idxOf (k : Int) = k
  | 0, k, h => by omega
  | m + 1, k, h => by
    rw [rng_succ, List.idxOf_append]
    by_cases hk : k < m
    · rw [if_pos ((rng_mem m k).2 hk)]; exact rng_idx m k hk
    · have : k = m := by omega
      subst this
      rw [if_neg (by rw [rng_mem]; omega)]; simp

theorem num_num (t : Tm) : ∀ vs : List Int, varsT (numT t vs) (rng vs.length) = rng (varsT t vs).length ∧ numT (numT t vs) (rng vs.length) = numT t vs := by
  induction t using Tm.ind with | _ t ih
  intro vs
  have hl : ∀ l : List Tm, (∀ u ∈ l, u ∈ t.args) → ∀ ws : List Int, varsL (numL l ws) (rng ws.length) = rng (varsL l ws).length ∧ numL (numL l ws) (rng ws.length) = numL l ws := by
    intro l
    induction l with
    | nil => intro _ ws; simp [varsL, numL]
    | cons u l ihl =>
      intro hm ws
      obtain ⟨a1, a2⟩ := ih u (hm u (by simp)) ws
      obtain ⟨b1, b2⟩ := ihl (fun v hv => hm v (by simp [hv])) (varsT u ws)
      simp only [varsL, numL, a1, a2, b1, b2]
      exact ⟨trivial, trivial⟩
  have key : addV (rng vs.length) (if t.kind = 1 then ((addV vs t.n).idxOf t.n : Nat) else t.n) = rng (addV vs t.n).length ∧ ((rng (addV vs t.n).length).idxOf (((addV vs t.n).idxOf t.n : Nat) : Int)) = (addV vs t.n).idxOf t.n ∨ t.kind ≠ 1 := by
    by_cases hk : t.kind = 1
    · left
      simp only [hk, if_true]
      by_cases hn : t.n ∈ vs
      · have e : addV vs t.n = vs := by simp [addV, hn]
        have hi : vs.idxOf t.n < vs.length := List.idxOf_lt_length_iff.2 hn
        rw [e]
        exact ⟨by unfold addV; rw [if_pos ((rng_mem _ _).2 hi)], rng_idx _ _ hi⟩
      · have e : addV vs t.n = vs ++ [t.n] := by simp [addV, hn]
        have hi : (vs ++ [t.n]).idxOf t.n = vs.length := by rw [List.idxOf_append]; simp [hn]
        rw [e, hi]
        simp only [List.length_append, List.length_cons, List.length_nil]
        exact ⟨by unfold addV; rw [if_neg (by rw [rng_mem]; omega)]; rw [rng_succ], rng_idx _ _ (by omega)⟩
    · exact .inr hk
  rw [numT_eq t vs, varsT_eq t vs, varsT_eq, numT_eq]
  rcases key with ⟨k1, k2⟩ | hk
  · by_cases hk : t.kind = 1
    · simp only [hk, if_true] at k1 ⊢
      obtain ⟨c1, c2⟩ := hl t.args (fun u h => h) (addV vs t.n)
      rw [k1, k2, c1, c2]
      exact ⟨rfl, rfl⟩
    · simp only [hk, if_false]
      obtain ⟨c1, c2⟩ := hl t.args (fun u h => h) vs
      rw [c1, c2]
      exact ⟨rfl, rfl⟩
  · simp only [hk, if_false]
    obtain ⟨c1, c2⟩ := hl t.args (fun u h => h) vs
    rw [c1, c2]
    exact ⟨rfl, rfl⟩

theorem num_size (t : Tm) : ∀ vs : List Int, (numT t vs).size = t.size ∧ (numT t vs).deep = t.deep := by
  induction t using Tm.ind with | _ t ih
  intro vs
  have hl : ∀ l : List Tm, (∀ u ∈ l, u ∈ t.args) → ∀ ws : List Int, sizes (numL l ws) = sizes l ∧ deeps (numL l ws) = deeps l := by
    intro l
    induction l with
    | nil => intro _ ws; simp [numL]
    | cons u l ihl =>
      intro hm ws
      obtain ⟨a1, a2⟩ := ih u (hm u (by simp)) ws
      obtain ⟨b1, b2⟩ := ihl (fun v hv => hm v (by simp [hv])) (varsT u ws)
      simp [numL, a1, a2, b1, b2]
  rw [numT_eq]
  obtain ⟨c1, c2⟩ := hl t.args (fun u h => h) (if t.kind = 1 then addV vs t.n else vs)
  rw [Tm.size_eq, Tm.size_eq t, Tm.deep_eq, Tm.deep_eq t]
  exact ⟨by simp only [c1], by simp only [c2]⟩

end Go.Proofs.Yteebkkipeiggcaa
