/- The abstract machine, part 26: the temporaries as a tree: quick to look at and to write. -/
import Derived.Test.YteebkkipeiggcaaVm25
set_option linter.unusedVariables false
set_option linter.unusedSimpArgs false
namespace Go.Vm
open Go

inductive Tr where
  | e (d : AV)
  | n (v : AV) (l r : Tr)

def Tr.get : Tr → Nat → AV
  | .e d, _ => d
  | .n v l r, k => if k = 0 then v else if k % 2 = 1 then l.get (k / 2) else r.get (k / 2 - 1)

def Tr.set (t : Tr) (k : Nat) (x : AV) : Tr :=
  match t with
  | .e d => if k = 0 then .n x (.e d) (.e d) else if k % 2 = 1 then .n d ((Tr.e d).set (k / 2) x) (.e d) else .n d (.e d) ((Tr.e d).set (k / 2 - 1) x)
  | .n v l r => if k = 0 then .n x l r else if k % 2 = 1 then .n v (l.set (k / 2) x) r else .n v l (r.set (k / 2 - 1) x)
termination_by k
decreasing_by all_goals omega

theorem Tr.get_set : ∀ (k : Nat) (t : Tr) (x : AV) (j : Nat), (t.set k x).get j = if j = k then x else t.get j := by
  intro k
  induction k using Nat.strongRecOn with
  | ind k ih =>
    intro t x j
    rw [Tr.set.eq_def]
    cases t with
    | e d =>
      simp only
      by_cases h0 : k = 0
      · subst h0
        simp only [if_true, Tr.get]
        by_cases hj : j = 0 <;> simp [hj]
      · rw [if_neg h0]
        by_cases h1 : k % 2 = 1
        · rw [if_pos h1]
          simp only [Tr.get]
          by_cases hj : j = 0
          · subst hj; simp [Ne.symm h0]
          · rw [if_neg hj]
            by_cases hj1 : j % 2 = 1
            · rw [if_pos hj1, ih (k / 2) (by omega)]
              simp only [Tr.get]
              by_cases hjk : j = k
              · subst hjk; simp
              · rw [if_neg hjk, if_neg (by omega)]
            · rw [if_neg hj1, if_neg (by omega)]
        · rw [if_neg h1]
          simp only [Tr.get]
          by_cases hj : j = 0
          · subst hj; simp [Ne.symm h0]
          · rw [if_neg hj]
            by_cases hj1 : j % 2 = 1
            · rw [if_pos hj1, if_neg (by omega)]
            · rw [if_neg hj1, ih (k / 2 - 1) (by omega)]
              simp only [Tr.get]
              by_cases hjk : j = k
              · subst hjk; simp
              · rw [if_neg hjk, if_neg (by omega)]
    | n v l r =>
      simp only
      by_cases h0 : k = 0
      · subst h0
        simp only [if_true, Tr.get]
        by_cases hj : j = 0 <;> simp [hj]
      · rw [if_neg h0]
        by_cases h1 : k % 2 = 1
        · rw [if_pos h1]
          simp only [Tr.get]
          by_cases hj : j = 0
          · subst hj; simp [Ne.symm h0]
          · rw [if_neg hj]
            by_cases hj1 : j % 2 = 1
            · rw [if_pos hj1, ih (k / 2) (by omega)]
              by_cases hjk : j = k
              · subst hjk; simp
              · rw [if_neg hjk, if_neg (by omega)]
                simp [hj, hj1]
            · rw [if_neg hj1, if_neg (by omega)]
              simp [hj, hj1]
        · rw [if_neg h1]
          simp only [Tr.get]
          by_cases hj : j = 0
          · subst hj; simp [Ne.symm h0]
          · rw [if_neg hj]
            by_cases hj1 : j % 2 = 1
            · rw [if_pos hj1, if_neg (by omega)]
              simp [hj, hj1]
            · rw [if_neg hj1, ih (k / 2 - 1) (by omega)]
              by_cases hjk : j = k
              · subst hjk; simp
              · rw [if_neg hjk, if_neg (by omega)]
                simp [hj, hj1]

def Tr.map (f : AV → AV) : Tr → Tr
  | .e d => .e (f d)
  | .n v l r => .n (f v) (l.map f) (r.map f)

theorem Tr.get_map (f : AV → AV) : ∀ (t : Tr) (k : Nat), (t.map f).get k = f (t.get k)
  | .e d, k => by simp [Tr.map, Tr.get]
  | .n v l r, k => by
    simp only [Tr.map, Tr.get]
    split
    · rfl
    · split
      · exact Tr.get_map f l _
      · exact Tr.get_map f r _

/-- The list that a tree stands for. -/
def toL (n : Nat) (t : Tr) : List AV := (List.range n).map t.get

theorem toL_length (n : Nat) (t : Tr) : (toL n t).length = n := by simp [toL]

theorem toL_get (n : Nat) (t : Tr) (k : Nat) : (toL n t)[k]? = if k < n then some (t.get k) else none := by
  unfold toL
  rw [List.getElem?_map]
  split
  · rename_i h; rw [List.getElem?_range h]; rfl
  · rename_i h; rw [List.getElem?_eq_none (by simpa using h)]; rfl

theorem toL_set (n : Nat) (t : Tr) (k : Nat) (x : AV) : (toL n t).set k x = toL n (t.set k x) := by
  apply List.ext_getElem?
  intro j
  rw [toL_get, List.getElem?_set, toL_length, toL_get, Tr.get_set]
  by_cases h : k = j
  · subst h; simp
  · rw [if_neg h, if_neg (Ne.symm h)]

theorem toL_map (n : Nat) (t : Tr) (f : AV → AV) : (toL n t).map f = toL n (t.map f) := by
  apply List.ext_getElem?
  intro j
  rw [List.getElem?_map, toL_get, toL_get, Tr.get_map]
  split <;> rfl

theorem ev_toL (n : Nat) (t : Tr) (k : Tmp) : ev (toL n t) (.tmp k) = if k < n then t.get k else .undef := by
  simp only [ev, List.getD_eq_getElem?_getD, toL_get]
  split <;> rfl

theorem put_toL (n : Nat) (t : Tr) (ds : List ADef) (k : Tmp) (x : AV) : AAct.put ⟨toL n t, ds⟩ (some k) x = ⟨toL n (t.set k x), ds⟩ := by
  simp only [AAct.put, toL_set]

def ofL : List AV → Nat → Tr → Tr
  | [], _, t => t
  | x :: l, k, t => ofL l (k + 1) (t.set k x)

theorem ofL_get : ∀ (l : List AV) (k : Nat) (t : Tr) (j : Nat), (ofL l k t).get j = if j < k then t.get j else (l[j - k]?).getD (t.get j)
  | [], k, t, j => by simp [ofL]
  | x :: l, k, t, j => by
    simp only [ofL]
    rw [ofL_get l (k + 1) (t.set k x) j, Tr.get_set]
    by_cases h1 : j < k
    · rw [if_pos (by omega), if_pos h1, if_neg (by omega)]
    · rw [if_neg h1]
      by_cases h2 : j = k
      · subst h2; simp
      · rw [if_neg (by omega), if_neg h2]
        rw [show j - k = (j - (k + 1)) + 1 by omega]
        simp

theorem toL_args {args : List AV} {n : Nat} (h : args.length ≤ n) : args ++ List.replicate (n - args.length) AV.undef = toL n (ofL args 0 (.e .undef)) := by
  apply List.ext_getElem?
  intro j
  rw [toL_get, ofL_get]
  simp only [Nat.not_lt_zero, if_false, Nat.sub_zero, Tr.get]
  rcases Nat.lt_or_ge j args.length with hj | hj
  · rw [List.getElem?_append_left hj, if_pos (by omega), List.getElem?_eq_getElem hj]; rfl
  · rw [List.getElem?_append_right hj, List.getElem?_replicate]
    by_cases hn : j < n
    · rw [if_pos (by omega), if_pos hn, List.getElem?_eq_none hj]; rfl
    · rw [if_neg (by omega), if_neg hn]

/-- A call, by the function's own code; the temporaries as a tree. -/
theorem calls_tree {P : Program} (n : Nat) {f : FuncId} {fi : FnI} (hf : fnOf P f = some fi) {args : List AV} {h : AH} {K : ARes → AH → Prop} (hl : args.length ≤ fi.ntmps)
    (hh : run P (tabOf P) (fnOf P) h (EndsV (tabOf P) fi.results K) n [.code fi.body] ⟨toL fi.ntmps (ofL args 0 (.e .undef)), []⟩ h) : ACalls P f args h K :=
  calls_run n hf (by rw [toL_args hl]; exact hh)

/-- The temporaries that are looked at again. -/
def pickT (t : Tr) : List Nat → Tr → Tr
  | [], u => u
  | k :: l, u => pickT t l (u.set k (t.get k))

theorem pickT_get (t : Tr) : ∀ (l : List Nat) (u : Tr) (j : Nat), (pickT t l u).get j = t.get j ∨ (pickT t l u).get j = u.get j
  | [], u, j => .inr rfl
  | k :: l, u, j => by
    simp only [pickT]
    rcases pickT_get t l (u.set k (t.get k)) j with h | h
    · exact .inl h
    · rw [Tr.get_set] at h
      split at h
      · rename_i e; subst e; exact .inl h
      · exact .inr h

theorem AStk.liveT {P : Program} {h0 : AH} {k : List It} {K : AExit → AAct → AH → Prop} (live : List Nat) {n : Nat} {t : Tr} {ds : List ADef} {h : AH} (hh : AStk P h0 k ⟨toL n (pickT t live (.e .any)), ds⟩ h K) : AStk P h0 k ⟨toL n t, ds⟩ h K := by
  refine AStk.wk (ts := toL n (pickT t live (.e .any))) ⟨by simp [toL_length], fun i x y a b => ?_⟩ hh
  rw [toL_get] at a b
  split at a
  · rename_i hi
    rw [if_pos hi] at b
    cases a; cases b
    rcases pickT_get t live (.e .any) i with h | h
    · rw [h]; exact AV.Wk.refl _
    · rw [h]; exact AV.Wk.any _
  · cases a

def mkT : List (Nat × AV) → Tr → Tr
  | [], u => u
  | (k, x) :: l, u => mkT l (u.set k x)

theorem yieldA_toL (all : Array Oper) (n : Nat) (t : Tr) (j : Nat) : yieldA all (toL n t) j = match (all[j]?).bind (·.dst) with
    | some d => (match if d < n then t.get d else .undef with
      | .bool b => some (some b)
      | .undef => some none
      | _ => none)
    | none => some none := by
  unfold yieldA
  cases (all[j]?).bind (·.dst) with
  | none => rfl
  | some d =>
    simp only [toL_get]
    by_cases h : d < n
    · rw [if_pos h, if_pos h]
      cases t.get d <;> rfl
    · rw [if_neg h, if_neg h]

theorem qop_mono {P : Program} {T : Tab} {F : FTab} (hT : T.OK P) {o : Oper} {R R' : AAct → AH → Prop} (hr : ∀ a h, R a h → R' a h) {a : AAct} {h : AH} (hq : qop P T F o R a h) : qop P T F o R' a h := by
  unfold qop at hq ⊢
  split at hq
  · rename_i hc
    rw [if_pos hc]
    obtain ⟨b, nk, hb, h1, h2, _⟩ := aop_new hT (rowOp_new hc) hq
    obtain ⟨sz, es, rfl, rfl, q1, q2⟩ := QRowK.spec h1
    exact h2 [] _ ⟨rfl, q1, hr _ _ q2⟩
  rename_i hc
  rw [if_neg hc]
  split at hq
  · rename_i hc
    rw [if_pos hc]
    rw [Bool.or_eq_true] at hc
    rcases hc with hc | hc
    · obtain ⟨x, h1, h2⟩ := aop_quiet hc hq
      exact h2 _ (hr _ _ h1)
    · obtain ⟨b, nk, hb, h1, h2, _⟩ := aop_new hT hc hq
      exact h2 h _ (hr _ _ h1)
  · rename_i hc
    rw [if_neg hc]
    split at hq
    · obtain ⟨x, q1, q2, q3, q4⟩ := hq
      exact ⟨x, q1, q2, q3, hr _ _ q4⟩
    · exact hq.elim

/-- What comes later ('simp' must not look into it). -/
def LaterQ (P : Program) (T : Tab) (F : FTab) (all : Array Oper) (K : AAct → AH → Prop) (l : List Oper) (a : AAct) (h : AH) : Prop := qrun P T F all K l a h

theorem qrun_split {P : Program} {T : Tab} {F : FTab} (hT : T.OK P) {all : Array Oper} {K : AAct → AH → Prop} : ∀ (m : Nat) (l : List Oper) (a : AAct) (h : AH),
    qrun P T F all (LaterQ P T F all K (l.drop m)) (l.take m) a h → qrun P T F all K l a h
  | 0, l, a, h, hh => hh
  | m + 1, [], a, h, hh => hh
  | m + 1, o :: l, a, h, hh => by
    simp only [List.take_succ_cons, List.drop_succ_cons, qrun] at hh ⊢
    have ih := fun a h => qrun_split hT (K := K) (all := all) (F := F) m l a h
    split at hh
    · exact qop_mono hT ih hh
    · split at hh
      · split at hh
        · rename_i hb; rw [if_pos hb]; exact qop_mono hT ih hh
        · rename_i hb; rw [if_neg hb]; exact ih _ _ hh
      · exact ih _ _ hh
      · exact hh.elim

end Go.Vm
