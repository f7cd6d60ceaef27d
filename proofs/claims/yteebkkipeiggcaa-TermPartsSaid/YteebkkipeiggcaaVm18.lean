/- The abstract machine, part 18: regions that draw their order: what is asked of the text, and the run in the text's order. -/
import Derived.Test.YteebkkipeiggcaaVm17
set_option linter.unusedVariables false
set_option linter.unusedSimpArgs false
namespace Go.Vm
open Go

/-- What must have been done ahead of operation 'o', by the text's own edges. -/
def depsOf (o : Oper) : List Nat := (o.after.toList.filter (Region.binds .any)).map (·.on)

/-- For each operation the set (as bits) of all that must have been done ahead of it. -/
def masks : List Oper → List Nat → List Nat
  | [], acc => acc
  | o :: l, acc => masks l (acc ++ [(depsOf o).foldl (fun m d => m ||| 2 ^ d ||| acc.getD d 0) 0])

def lexOK (all : Array Oper) (p : Nat) : Bool :=
  let ms := masks all.toList []
  let n := all.size
  let bef := fun i j => (ms.getD j 0).testBit i
  decide (p ≤ n) &&
  (List.range n).all (fun i => (depsOf (all.getD i default)).all (· < i)) &&
  (List.range n).all (fun j => j < p || (List.range j).all fun i => bef i j) &&
  (List.range p).all (fun i => (List.range p).all fun j => i == j ||
    (match (all.getD j default).dst with
     | some d => (!((all.getD i default).looksAt all).contains d || (if j < i then bef j i else bef i j)) && (all.getD i default).dst != some d
     | none => true))

/-- 'i' must have been done ahead of 'j'. -/
inductive Anc (all : Array Oper) : Nat → Nat → Prop
  | base {i j o} (ho : all[j]? = some o) (hd : i ∈ depsOf o) : Anc all i j
  | step {i m j o} (ho : all[j]? = some o) (hd : m ∈ depsOf o) (h : Anc all i m) : Anc all i j

theorem foldl_or_testBit (ds : List Nat) (acc : List Nat) : ∀ (m i : Nat), (ds.foldl (fun m d => m ||| 2 ^ d ||| acc.getD d 0) m).testBit i = true → m.testBit i = true ∨ ∃ d ∈ ds, i = d ∨ (acc.getD d 0).testBit i = true := by
  induction ds with
  | nil => intro m i h; exact .inl h
  | cons d ds ih =>
    intro m i h
    simp only [List.foldl_cons] at h
    rcases ih _ i h with h' | ⟨d', h1, h2⟩
    · rw [Nat.testBit_or, Nat.testBit_or, Bool.or_eq_true, Bool.or_eq_true, Nat.testBit_two_pow] at h'
      rcases h' with (h' | h') | h'
      · exact .inl h'
      · exact .inr ⟨d, List.mem_cons_self .., .inl (by simpa using (of_decide_eq_true h').symm)⟩
      · exact .inr ⟨d, List.mem_cons_self .., .inr h'⟩
    · exact .inr ⟨d', List.mem_cons_of_mem _ h1, h2⟩

theorem masks_sound (all : Array Oper) : ∀ (l : List Oper) (acc : List Nat), (∀ j, l[j]? = all[acc.length + j]?) → (∀ i j, (acc.getD j 0).testBit i = true → Anc all i j) → ∀ i j, ((masks l acc).getD j 0).testBit i = true → Anc all i j := by
  intro l
  induction l with
  | nil => intro acc _ h i j hb; exact h i j hb
  | cons o l ih =>
    intro acc hl h i j hb
    refine ih _ (fun j => ?_) (fun i j hb => ?_) i j hb
    · have := hl (j + 1)
      simpa [Nat.add_assoc, Nat.add_comm 1 j] using this
    · rcases Nat.lt_trichotomy j acc.length with hj | hj | hj
      · refine h i j ?_
        simp only [List.getD_eq_getElem?_getD] at hb ⊢
        rwa [List.getElem?_append_left hj] at hb
      · subst hj
        have ho : all[acc.length]? = some o := by have := hl 0; simpa using this.symm
        simp only [List.getD_eq_getElem?_getD] at hb
        rw [List.getElem?_append_right (Nat.le_refl _), Nat.sub_self] at hb
        simp only [List.getElem?_cons_zero, Option.getD_some] at hb
        rcases foldl_or_testBit (depsOf o) acc 0 i (by simpa only [List.getD_eq_getElem?_getD] using hb) with h' | ⟨d, h1, rfl | h2⟩
        · simp at h'
        · exact .base ho h1
        · exact .step ho h1 (h i d h2)
      · simp only [List.getD_eq_getElem?_getD] at hb
        rw [List.getElem?_append_right (by omega)] at hb
        rw [List.getElem?_eq_none (by simp; omega)] at hb
        simp at hb

/-- What 'lexOK' says. -/
structure Lex (all : Array Oper) (p : Nat) : Prop where
  le : p ≤ all.size
  edge : ∀ (i : Nat) (o : Oper), all[i]? = some o → ∀ d ∈ depsOf o, d < i
  tail : ∀ i j, p ≤ j → j < all.size → i < j → Anc all i j
  looks : ∀ (i j : Nat) (x y : Oper) (d : Tmp), i < p → j < p → i ≠ j → all[i]? = some x → all[j]? = some y → y.dst = some d → d ∈ x.looksAt all → (j < i → Anc all j i) ∧ (i < j → Anc all i j)
  once : ∀ (i j : Nat) (x y : Oper) (d : Tmp), i < p → j < p → i ≠ j → all[i]? = some x → all[j]? = some y → y.dst = some d → x.dst ≠ some d

theorem lexOK_spec {all : Array Oper} {p : Nat} (h : lexOK all p = true) : Lex all p := by
  have hm := masks_sound all all.toList [] (by simp) (by simp)
  simp only [lexOK, Bool.and_eq_true, decide_eq_true_eq, List.all_eq_true, List.mem_range, Bool.or_eq_true] at h
  obtain ⟨⟨⟨h1, h2⟩, h3⟩, h4⟩ := h
  have hget : ∀ (i : Nat) (o : Oper), all[i]? = some o → all.getD i default = o ∧ i < all.size := fun i o ho => by
    have hi := (Array.getElem?_eq_some_iff.1 ho)
    obtain ⟨hlt, he⟩ := hi
    exact ⟨by simp [Array.getD, hlt, he], hlt⟩
  refine ⟨h1, fun i o ho d hd => ?_, fun i j hj hjn hij => ?_, fun i j x y d hi hj hne hx hy hd hl => ?_, fun i j x y d hi hj hne hx hy hd => ?_⟩
  · obtain ⟨e, hlt⟩ := hget i o ho
    have := h2 i hlt d (by rw [e]; exact hd)
    exact this
  · rcases h3 j hjn with h' | h'
    · omega
    · exact hm i j (h' i hij)
  · have := h4 i hi j hj
    rw [(hget j y hy).1, (hget i x hx).1, hd] at this
    rcases this with h' | h'
    · simp at h'; exact absurd h' hne
    · simp only [Bool.and_eq_true, Bool.or_eq_true] at h'
      rcases h'.1 with h'' | h''
      · simp at h''; exact absurd hl h''
      · refine ⟨fun hlt => ?_, fun hlt => ?_⟩
        · rw [if_pos hlt] at h''; exact hm j i h''
        · rw [if_neg (by omega)] at h''; exact hm i j h''
  · have := h4 i hi j hj
    rw [(hget j y hy).1, (hget i x hx).1, hd] at this
    rcases this with h' | h'
    · simp at h'; exact absurd h' hne
    · simp only [Bool.and_eq_true] at h'
      simpa using h'.2

/-! ### The run in the text's order -/
def QAfter (R : AAct → AH → Prop) (a : AAct) (dst : Option Tmp) : ANext → AH → Prop
  | .val v, h => R (a.put dst v) h
  | _, _ => False

/-- A call that asks for no block. -/
def QCall (P : Program) (g : FuncId) (args : List AV) (R : AAct → AH → Prop) (a : AAct) (dst : Option Tmp) (h : AH) : Prop :=
  ∃ x, (∀ y ∈ args, Closed y) ∧ Closed x ∧ ACalls P g args [] (fun r _ => r = .ret x) ∧ R (a.put dst x) h

/-- The function that an operation calls, and with what. -/
def callOf (F : FTab) (ρ : Operand → AV) (o : Oper) : Option (FuncId × List AV) :=
  match o.op with
  | .call { callee := .value f, args := xs, .. } => (match ρ f with
    | .fn (.func g) first captured => (match F g with
      | some _ => some (g, first ++ xs.toList.map ρ ++ captured)
      | none => none)
    | _ => none)
  | _ => none

/-- A slice that is built of cells that hang on no block: in such a region its row is pure data at once. -/
@[simp] def rowOp : Op → Bool
  | .buildSlice .. => true
  | _ => false

theorem rowOp_new {op : Op} (h : rowOp op = true) : newOp op = true := by cases op <;> simp_all [rowOp, newOp]

@[simp] def QRowK (R : AAct → AH → Prop) (a : AAct) (dst : Option Tmp) (h : AH) : ANext → AH → Prop
  | .val (.sl _ _ n), [.arr sz es false] => n = es.length ∧ (∀ e ∈ es, ∀ y ∈ e, Closed y) ∧ R (a.put dst (.ro sz es)) h
  | _, _ => False

theorem QRowK.spec {R : AAct → AH → Prop} {a : AAct} {dst : Option Tmp} {h : AH} {nk : NK} {b : AB} (hq : QRowK R a dst h (.val (nk.val 0)) [b]) :
    ∃ sz es, nk = .sl es.length ∧ b = .arr sz es false ∧ (∀ e ∈ es, ∀ y ∈ e, Closed y) ∧ R (a.put dst (.ro sz es)) h := by
  cases nk <;> simp only [NK.val] at hq
  · exact hq.elim
  · unfold QRowK at hq
    split at hq
    · rename_i e1 e2
      obtain ⟨h1, h2, h3⟩ := hq
      cases e1
      cases e2
      exact ⟨_, _, by rw [h1], rfl, h2, h3⟩
    · exact hq.elim
  · exact hq.elim

def qop (P : Program) (T : Tab) (F : FTab) (o : Oper) (R : AAct → AH → Prop) (a : AAct) (h : AH) : Prop :=
  if rowOp o.op = true then aop T F (ev a.tmps) [] o (QRowK R a o.dst h)
  else if (quietOp o.op || newOp o.op) = true then aop T F (ev a.tmps) h o (QAfter R a o.dst)
  else match callOf F (ev a.tmps) o with
    | some (g, args) => QCall P g args R a o.dst h
    | none => False

def qrun (P : Program) (T : Tab) (F : FTab) (all : Array Oper) (K : AAct → AH → Prop) : List Oper → AAct → AH → Prop
  | [], a, h => K a h
  | o :: l, a, h => (match o.guard with
    | none => qop P T F o (qrun P T F all K l) a h
    | some (j, want) => (match yieldA all a.tmps j with
      | some (some b) => if (b == want) = true then qop P T F o (qrun P T F all K l) a h else qrun P T F all K l (a.put o.dst .undef) h
      | some none => qrun P T F all K l (a.put o.dst .undef) h
      | none => False))

/-- Is the operation carried out? -/
def OnA (all : Array Oper) (o : Oper) (a : AAct) (on : Bool) : Prop :=
  match o.guard with
  | none => on = true
  | some (j, want) => ∃ r, yieldA all a.tmps j = some r ∧ on = (r == some want)

/-- One step of the run in the text's order: the value, and perhaps a new block. -/
inductive QStep (P : Program) (T : Tab) (F : FTab) (all : Array Oper) (o : Oper) (a : AAct) (h : AH) : AV → Option AB → Prop
  | off (hon : OnA all o a false) : QStep P T F all o a h .undef none
  | quiet {x} (hon : OnA all o a true) (hq : quietOp o.op = true) (hk : aop T F (ev a.tmps) h o fun nx _ => nx = .val x) : QStep P T F all o a h x none
  | new {b : AB} {nk : NK} (hon : OnA all o a true) (hn : newOp o.op = true) (hb : b.live = true) (hk : aop T F (ev a.tmps) h o fun nx h' => nx = .val (nk.val h.length) ∧ h' = h ++ [b]) : QStep P T F all o a h (nk.val h.length) (some b)
  | row {sz : Nat} {es : List (List AV)} (hon : OnA all o a true) (hn : newOp o.op = true) (hcl : ∀ e ∈ es, ∀ y ∈ e, Closed y) (hk : aop T F (ev a.tmps) [] o fun nx h' => nx = .val ((NK.sl es.length).val 0) ∧ h' = [.arr sz es false]) : QStep P T F all o a h (.ro sz es) none
  | call {g args x} (hon : OnA all o a true) (hc : callOf F (ev a.tmps) o = some (g, args)) (ha : ∀ y ∈ args, Closed y) (hx : Closed x) (hk : ACalls P g args [] (fun r _ => r = .ret x)) : QStep P T F all o a h x none

/-- The states one behind the other. -/
inductive QTr (P : Program) (T : Tab) (F : FTab) (all : Array Oper) (K : AAct → AH → Prop) : List Oper → AAct → AH → List (AV × Option AB) → Prop
  | nil {a h} (hk : K a h) : QTr P T F all K [] a h []
  | cons {o l a h x b vs} (hs : QStep P T F all o a h x b) (ht : QTr P T F all K l (a.put o.dst x) (h ++ b.toList) vs) : QTr P T F all K (o :: l) a h ((x, b) :: vs)

theorem qrun_trace {P : Program} {T : Tab} {F : FTab} (hT : T.OK P) {all : Array Oper} {K : AAct → AH → Prop} : ∀ {l : List Oper} {a : AAct} {h : AH}, qrun P T F all K l a h → ∃ vs, QTr P T F all K l a h vs := by
  intro l
  induction l with
  | nil => intro a h hk; exact ⟨[], .nil hk⟩
  | cons o l ih =>
    intro a h hk
    have on : OnA all o a true → qop P T F o (qrun P T F all K l) a h → ∃ vs, QTr P T F all K (o :: l) a h vs := by
      intro hon hq
      unfold qop at hq
      split at hq
      · rename_i hc
        obtain ⟨b, nk, hb, h1, h2, _⟩ := aop_new hT (rowOp_new hc) hq
        obtain ⟨sz, es, rfl, rfl, q1, q2⟩ := QRowK.spec h1
        obtain ⟨vs, hvs⟩ := ih q2
        exact ⟨_, .cons (.row hon (rowOp_new hc) q1 (h2 [] _ ⟨rfl, rfl⟩)) (by simpa using hvs)⟩
      split at hq
      · rename_i hc
        rw [Bool.or_eq_true] at hc
        rcases hc with hc | hc
        · obtain ⟨x, h1, h2⟩ := aop_quiet hc hq
          obtain ⟨vs, hvs⟩ := ih h1
          exact ⟨_, .cons (.quiet hon hc (h2 _ rfl)) (by simpa using hvs)⟩
        · obtain ⟨b, nk, hb, h1, h2, _⟩ := aop_new hT hc hq
          obtain ⟨vs, hvs⟩ := ih h1
          exact ⟨_, .cons (.new hon hc hb (h2 h _ ⟨rfl, rfl⟩)) (by simpa using hvs)⟩
      · split at hq
        · rename_i g args hc
          obtain ⟨x, q1, q2, q3, q4⟩ := hq
          obtain ⟨vs, hvs⟩ := ih q4
          exact ⟨_, .cons (.call hon hc q1 q2 q3) (by simpa using hvs)⟩
        · exact hq.elim
    have off : OnA all o a false → qrun P T F all K l (a.put o.dst .undef) h → ∃ vs, QTr P T F all K (o :: l) a h vs := by
      intro hon hq
      obtain ⟨vs, hvs⟩ := ih hq
      exact ⟨_, .cons (.off hon) (by simpa using hvs)⟩
    simp only [qrun] at hk
    cases hg : o.guard with
    | none => rw [hg] at hk; exact on (by simp [OnA, hg]) hk
    | some g =>
      obtain ⟨j, want⟩ := g
      rw [hg] at hk
      simp only at hk
      cases hy : yieldA all a.tmps j with
      | none => rw [hy] at hk; exact hk.elim
      | some r =>
        rw [hy] at hk
        cases r with
        | none => exact off (by simp [OnA, hg, hy]) hk
        | some b =>
          simp only at hk
          by_cases hb : (b == want) = true
          · rw [if_pos hb] at hk; exact on (by simp only [OnA, hg]; exact ⟨_, hy, by simp at hb; simp [hb]⟩) hk
          · rw [if_neg hb] at hk; exact off (by simp only [OnA, hg]; exact ⟨_, hy, by simp at hb; simp [hb]⟩) hk

end Go.Vm
