/- The abstract machine, part 19: a region that draws its order comes, whatever the order, to what the text's order comes to. -/
import Derived.Test.YteebkkipeiggcaaVm18
set_option linter.unusedVariables false
set_option linter.unusedSimpArgs false
namespace Go.Vm
open Go

/-- The blocks that are made. -/
def newsL (vs : List (AV × Option AB)) : List AB := vs.flatMap fun p => p.2.toList

def puts (l : List Oper) (vs : List (AV × Option AB)) (a : AAct) : AAct :=
  match l, vs with
  | o :: l, v :: vs => puts l vs (a.put o.dst v.1)
  | _, _ => a

section
variable {P : Program} {T : Tab} {F : FTab} {all : Array Oper}

theorem puts_defers (l : List Oper) : ∀ (vs : List (AV × Option AB)) (a : AAct), (puts l vs a).defers = a.defers := by
  induction l with
  | nil => intro vs a; cases vs <;> rfl
  | cons o l ih =>
    intro vs a
    cases vs with
    | nil => rfl
    | cons v vs => simp only [puts, ih]; cases o.dst <;> rfl

theorem QTr.at {K : AAct → AH → Prop} {l : List Oper} {a : AAct} {h : AH} {vs : List (AV × Option AB)} (ht : QTr P T F all K l a h vs) :
    vs.length = l.length ∧ K (puts l vs a) (h ++ newsL vs) ∧
      ∀ (i : Nat) (o : Oper) (x : AV) (b : Option AB), l[i]? = some o → vs[i]? = some (x, b) → QStep P T F all o (puts (l.take i) (vs.take i) a) (h ++ newsL (vs.take i)) x b := by
  induction ht with
  | nil hk => exact ⟨rfl, by simpa [puts, newsL] using hk, fun i o x b h => by simp at h⟩
  | cons hs ht ih =>
    obtain ⟨h1, h2, h3⟩ := ih
    refine ⟨by simp [h1], by simpa [puts, newsL] using h2, fun i o x b e1 e2 => ?_⟩
    cases i with
    | zero =>
      simp at e1 e2
      obtain ⟨rfl, rfl⟩ := e2
      subst e1
      simpa [puts, newsL] using hs
    | succ i =>
      have := h3 i o x b (by simpa using e1) (by simpa using e2)
      simpa [puts, newsL] using this

/-- The temporaries, where the operations 'done' have been carried out. -/
structure Cur (l : List Oper) (vs : List (AV × Option AB)) (tmps0 : List AV) (done : Nat → Prop) (tl : List AV) : Prop where
  len : tl.length = tmps0.length
  yes : ∀ (i : Nat) (o : Oper) (x : AV) (b : Option AB) (t : Tmp), l[i]? = some o → vs[i]? = some (x, b) → done i → o.dst = some t → t < tmps0.length → tl[t]? = some x
  no : ∀ (t : Tmp), (∀ (i : Nat) (o : Oper), l[i]? = some o → o.dst = some t → ¬ done i) → tl[t]? = tmps0[t]?

theorem Cur.step {l : List Oper} {vs : List (AV × Option AB)} {tmps0 tl : List AV} {done done' : Nat → Prop} (hc : Cur l vs tmps0 done tl) (hvl : vs.length = l.length)
    (honce : ∀ (i j : Nat) (x y : Oper) (d : Tmp), i ≠ j → l[i]? = some x → l[j]? = some y → y.dst = some d → x.dst ≠ some d)
    {i : Nat} {o : Oper} {x : AV} {b : Option AB} (ho : l[i]? = some o) (hx : vs[i]? = some (x, b)) (hd : ∀ j, done' j ↔ done j ∨ j = i) {a : AAct} (ha : a.tmps = tl) : Cur l vs tmps0 done' (a.put o.dst x).tmps := by
  subst ha
  cases hdst : o.dst with
  | none =>
    refine ⟨hc.len, fun j o' x' b' t e1 e2 e3 e4 e5 => ?_, fun t ht => hc.no t fun j o' e1 e2 e3 => ht j o' e1 e2 ((hd j).2 (.inl e3))⟩
    rcases (hd j).1 e3 with h' | h'
    · exact hc.yes j o' x' b' t e1 e2 h' e4 e5
    · subst h'; rw [ho] at e1; cases e1; rw [hdst] at e4; cases e4
  | some d =>
    refine ⟨by simp [AAct.put, hc.len], fun j o' x' b' t e1 e2 e3 e4 e5 => ?_, fun t ht => ?_⟩
    · show (a.tmps.set d x)[t]? = some x'
      rcases (hd j).1 e3 with h' | h'
      · by_cases hji : j = i
        · subst hji
          rw [ho] at e1; cases e1
          rw [hdst] at e4; cases e4
          rw [hx] at e2; cases e2
          rw [List.getElem?_set_self (by rw [hc.len]; exact e5)]
        · have hne : t ≠ d := fun e => by
            subst e
            exact honce j i o' o t hji e1 ho hdst e4
          rw [List.getElem?_set_ne (Ne.symm hne)]
          exact hc.yes j o' x' b' t e1 e2 h' e4 e5
      · subst h'
        rw [ho] at e1; cases e1
        rw [hdst] at e4; cases e4
        rw [hx] at e2; cases e2
        rw [List.getElem?_set_self (by rw [hc.len]; exact e5)]
    · show (a.tmps.set d x)[t]? = _
      have hne : t ≠ d := fun e => by
        subst e
        exact ht i o ho hdst ((hd i).2 (.inr rfl))
      rw [List.getElem?_set_ne (Ne.symm hne)]
      exact hc.no t fun j o' e1 e2 e3 => ht j o' e1 e2 ((hd j).2 (.inl e3))

theorem puts_take_succ (l : List Oper) : ∀ (vs : List (AV × Option AB)) (a : AAct) (i : Nat) (o : Oper) (v : AV × Option AB), l[i]? = some o → vs[i]? = some v →
    puts (l.take (i + 1)) (vs.take (i + 1)) a = (puts (l.take i) (vs.take i) a).put o.dst v.1 := by
  induction l with
  | nil => intro vs a i o v h; simp at h
  | cons p l ih =>
    intro vs a i o v h1 h2
    cases vs with
    | nil => simp at h2
    | cons w vs =>
      cases i with
      | zero => simp at h1 h2; subst h1; subst h2; simp [puts]
      | succ i => simp at h1 h2; simpa [puts] using ih vs (a.put p.dst w.1) i o v h1 h2

theorem cur_text {l : List Oper} {vs : List (AV × Option AB)} {a : AAct} (hvl : vs.length = l.length)
    (honce : ∀ (i j : Nat) (x y : Oper) (d : Tmp), i ≠ j → l[i]? = some x → l[j]? = some y → y.dst = some d → x.dst ≠ some d) :
    ∀ i, i ≤ l.length → Cur l vs a.tmps (· < i) (puts (l.take i) (vs.take i) a).tmps := by
  intro i
  induction i with
  | zero => intro _; exact ⟨by simp [puts], fun i o x b t _ _ h => absurd h (Nat.not_lt_zero i), fun t _ => by simp [puts]⟩
  | succ i ih =>
    intro hi
    have ho := List.getElem?_eq_getElem (show i < l.length by omega)
    have hv := List.getElem?_eq_getElem (show i < vs.length by omega)
    rw [puts_take_succ l vs a i _ _ ho hv]
    exact (ih (by omega)).step hvl honce ho (x := vs[i].1) (b := vs[i].2) hv (fun j => by omega) rfl

/-- Two states agree on a temporary whose writers have been carried out in both or in neither. -/
theorem Cur.agree {l : List Oper} {vs : List (AV × Option AB)} {tmps0 t1 t2 : List AV} {d1 d2 : Nat → Prop} (hvl : vs.length = l.length) (h1 : Cur l vs tmps0 d1 t1) (h2 : Cur l vs tmps0 d2 t2)
    (honce : ∀ (i j : Nat) (x y : Oper) (d : Tmp), i ≠ j → l[i]? = some x → l[j]? = some y → y.dst = some d → x.dst ≠ some d)
    {t : Tmp} (ht : ∀ (j : Nat) (o : Oper), l[j]? = some o → o.dst = some t → (d1 j ↔ d2 j)) : t1[t]? = t2[t]? := by
  by_cases hlt : t < tmps0.length
  · by_cases hex : ∃ (j : Nat) (o : Oper), l[j]? = some o ∧ o.dst = some t ∧ d1 j
    · obtain ⟨j, o, e1, e2, e3⟩ := hex
      have hj : j < vs.length := by rw [hvl]; exact (List.getElem?_eq_some_iff.1 e1).1
      have hv : vs[j]? = some (vs[j].1, vs[j].2) := List.getElem?_eq_getElem hj
      rw [h1.yes j o _ _ t e1 hv e3 e2 hlt, h2.yes j o _ _ t e1 hv ((ht j o e1 e2).1 e3) e2 hlt]
    · rw [h1.no t fun j o e1 e2 e3 => hex ⟨j, o, e1, e2, e3⟩, h2.no t fun j o e1 e2 e3 => hex ⟨j, o, e1, e2, (ht j o e1 e2).2 e3⟩]
  · rw [List.getElem?_eq_none (by rw [h1.len]; exact Nat.le_of_not_lt hlt), List.getElem?_eq_none (by rw [h2.len]; exact Nat.le_of_not_lt hlt)]

/-! ### The blocks' places -/
def slotOf (m : Nat) (vs : List (AV × Option AB)) (i : Nat) : Nat := m + (newsL (vs.take i)).length

theorem newsL_get (vs : List (AV × Option AB)) : ∀ (k : Nat) (b : AB), (newsL vs)[k]? = some b → ∃ (i : Nat) (x : AV), vs[i]? = some (x, some b) ∧ (newsL (vs.take i)).length = k := by
  induction vs with
  | nil => intro k b h; simp [newsL] at h
  | cons v vs ih =>
    intro k b h
    obtain ⟨x, ob⟩ := v
    cases ob with
    | none =>
      have h' : (newsL vs)[k]? = some b := by simpa [newsL] using h
      obtain ⟨i, y, e1, e2⟩ := ih k b h'
      exact ⟨i + 1, y, by simpa using e1, by simpa [newsL] using e2⟩
    | some b0 =>
      have h' : (b0 :: newsL vs)[k]? = some b := by simpa [newsL] using h
      cases k with
      | zero => simp at h'; subst h'; exact ⟨0, x, rfl, by simp [newsL]⟩
      | succ k =>
        obtain ⟨i, y, e1, e2⟩ := ih k b (by simpa using h')
        exact ⟨i + 1, y, by simpa using e1, by simp only [List.take_succ_cons, newsL, List.flatMap_cons, List.length_append]; simp only [newsL] at e2; rw [e2]; simp; omega⟩

theorem newsL_slot {vs : List (AV × Option AB)} {i : Nat} {x : AV} {b : AB} (h : vs[i]? = some (x, some b)) : (newsL vs)[(newsL (vs.take i)).length]? = some b := by
  have hi := (List.getElem?_eq_some_iff.1 h).1
  have hsplit : vs = vs.take i ++ (x, some b) :: vs.drop (i + 1) := by
    have : vs.drop i = (x, some b) :: vs.drop (i + 1) := by
      rw [List.drop_eq_getElem_cons hi]
      congr 1
      exact (List.getElem?_eq_some_iff.1 h).2
    rw [← this, List.take_append_drop]
  have : newsL vs = newsL (vs.take i) ++ b :: newsL (vs.drop (i + 1)) := by
    conv => lhs; rw [hsplit]
    simp [newsL]
  rw [this, List.getElem?_append_right (Nat.le_refl _), Nat.sub_self]
  rfl

theorem newsL_take_lt {vs : List (AV × Option AB)} {i j : Nat} {x : AV} {b : AB} (h : vs[i]? = some (x, some b)) (hij : i < j) : (newsL (vs.take i)).length < (newsL (vs.take j)).length := by
  have h' : (vs.take j)[i]? = some (x, some b) := by rw [List.getElem?_take_of_lt hij]; exact h
  have := newsL_slot h'
  have h2 := (List.getElem?_eq_some_iff.1 this).1
  rwa [List.take_take, Nat.min_eq_left (by omega)] at h2

/-- The heap, where the operations 'done' have been carried out. -/
structure HeapAt (h0 : AH) (vs : List (AV × Option AB)) (done : Nat → Prop) (g : AH) (φ : Nat → Option Loc) : Prop where
  len : g.length = (h0 ++ newsL vs).length
  old : ∀ k, k < h0.length → g[k]? = h0[k]?
  yes : ∀ (i : Nat) (x : AV) (b : AB), vs[i]? = some (x, some b) → done i → g[slotOf h0.length vs i]? = some b
  no : ∀ (i : Nat) (x : AV) (b : AB), vs[i]? = some (x, some b) → ¬ done i → g[slotOf h0.length vs i]? = some .dead ∧ φ (slotOf h0.length vs i) = none

theorem HeapAt.full {h0 g : AH} {vs : List (AV × Option AB)} {done : Nat → Prop} {φ : Nat → Option Loc} (hh : HeapAt h0 vs done g φ) (hd : ∀ i, i < vs.length → done i) : g = h0 ++ newsL vs := by
  apply List.ext_getElem?
  intro k
  rcases Nat.lt_or_ge k h0.length with hk | hk
  · rw [hh.old k hk, List.getElem?_append_left hk]
  · rw [List.getElem?_append_right hk]
    cases hb : (newsL vs)[k - h0.length]? with
    | none =>
      rw [List.getElem?_eq_none]
      rw [hh.len, List.length_append]
      have := List.getElem?_eq_none_iff.1 hb
      omega
    | some b =>
      obtain ⟨i, x, e1, e2⟩ := newsL_get vs _ b hb
      have := hh.yes i x b e1 (hd i (List.getElem?_eq_some_iff.1 e1).1)
      rw [slotOf, e2, show h0.length + (k - h0.length) = k by omega] at this
      exact this

/-- What the text's heap says ahead of operation 'i' can be read, whatever has been carried out. -/
theorem HeapAt.rd {c : Cx} {h0 g : AH} {vs : List (AV × Option AB)} {done : Nat → Prop} (hh : HeapAt h0 vs done g c.φ) (hs : Sim c g) (i : Nat) : Rd c (h0 ++ newsL (vs.take i)) := by
  intro id b l e1 e2 e3
  rcases Nat.lt_or_ge id h0.length with hk | hk
  · rw [List.getElem?_append_left hk] at e1
    exact hs.rd id b l (by rw [hh.old id hk]; exact e1) e2 e3
  · rw [List.getElem?_append_right hk] at e1
    obtain ⟨j, x, f1, f2⟩ := newsL_get _ _ b e1
    have hji : j < i := by
      have := (List.getElem?_eq_some_iff.1 f1).1
      simp at this; omega
    rw [List.getElem?_take_of_lt hji] at f1
    rw [List.take_take, Nat.min_eq_left (by omega)] at f2
    have hslot : slotOf h0.length vs j = id := by rw [slotOf, f2]; omega
    by_cases hdj : done j
    · have := hh.yes j x b f1 hdj
      rw [hslot] at this
      exact hs.rd id b l this e2 e3
    · have := (hh.no j x b f1 hdj).2
      rw [hslot, e3] at this; cases this

end
end Go.Vm
