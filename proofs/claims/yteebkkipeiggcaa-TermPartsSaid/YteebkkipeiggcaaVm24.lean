/- The abstract machine, part 24: loops; temporaries that are not looked at again; weaker values; what the machine's steps come to, for 'simp'. -/
import Derived.Test.YteebkkipeiggcaaVm23
import Derived.Laws.Strings
set_option linter.unusedVariables false
set_option linter.unusedSimpArgs false
namespace Go.Vm
open Go

section
variable {P : Program} {h0 : AH} {k : List It} {K : AExit → AAct → AH → Prop}

/-- A loop, by a number that falls. -/
theorem AStk.ind {x : Code} (Inv : Nat → AAct → AH → Prop) {n : Nat} {a : AAct} {h : AH} (h1 : Inv n a h)
    (h2 : ∀ n a h, Inv n a h → (∀ m a h, m < n → Inv m a h → AStk P h0 (.loop x :: k) a h K) → AStk P h0 (.code x :: .loop x :: k) a h K) : AStk P h0 (.loop x :: k) a h K := by
  induction n using Nat.strongRecOn generalizing a h with
  | ind n ih => exact AStk.round (h2 n a h h1 fun m a h hm hi => ih m hm hi)

/-- The temporaries that are looked at again. -/
def mask (live : List Nat) : Nat → List AV → List AV
  | _, [] => []
  | i, x :: l => (if live.contains i then x else .any) :: mask live (i + 1) l

theorem VRs.mask {c : Cx} (live : List Nat) : ∀ {l : List AV} {vs : List Value} (i : Nat), VRs c l vs → VRs c (Vm.mask live i l) vs
  | [], vs, i, h => h
  | x :: l, [], i, h => absurd h.1 (by simp)
  | x :: l, v :: vs, i, h => by
    have h0 := h.2 0 x v rfl rfl
    have ht : VRs c l vs := ⟨by simpa using h.1, fun j y u a b => h.2 (j + 1) y u (by simpa using a) (by simpa using b)⟩
    simp only [Vm.mask]
    refine VRs.cons ?_ (VRs.mask live (i + 1) ht)
    split
    · exact h0
    · exact .any

theorem AStk.live (live : List Nat) {a : AAct} {h : AH} (hh : AStk P h0 k ⟨mask live 0 a.tmps, a.defers⟩ h K) : AStk P h0 k a h K :=
  fun c0 c act hd he hs ha => hh c0 c act hd he hs ⟨ha.tmps.mask live 0, ha.defers⟩

/-- A value that says less. -/
def AV.Wk (x y : AV) : Prop := ∀ (c : Cx) (v : Value), VR c x v → VR c y v

theorem AV.Wk.refl (x : AV) : AV.Wk x x := fun _ _ h => h
theorem AV.Wk.nil (sz : Nat) : AV.Wk .nils (.ro sz []) := fun c v h => by cases h; exact .roNil
theorem AV.Wk.any (x : AV) : AV.Wk x .any := fun c v _ => .any

def WkL (xs ys : List AV) : Prop := xs.length = ys.length ∧ ∀ (i : Nat) (x y : AV), xs[i]? = some x → ys[i]? = some y → AV.Wk x y
def WkLL (xs ys : List (List AV)) : Prop := xs.length = ys.length ∧ ∀ (i : Nat) (x y : List AV), xs[i]? = some x → ys[i]? = some y → WkL x y

theorem WkL.refl (xs : List AV) : WkL xs xs := ⟨rfl, fun i x y a b => by rw [a] at b; cases b; exact AV.Wk.refl _⟩
theorem WkL.nil : WkL [] [] := WkL.refl _
theorem WkL.cons {x y : AV} {xs ys : List AV} (h : AV.Wk x y) (hs : WkL xs ys) : WkL (x :: xs) (y :: ys) := ⟨by simp [hs.1], fun i a b e1 e2 => by
  cases i with
  | zero => simp at e1 e2; subst e1; subst e2; exact h
  | succ i => exact hs.2 i a b (by simpa using e1) (by simpa using e2)⟩
theorem WkLL.refl (xs : List (List AV)) : WkLL xs xs := ⟨rfl, fun i x y a b => by rw [a] at b; cases b; exact WkL.refl _⟩
theorem WkLL.nil : WkLL [] [] := WkLL.refl _
theorem WkLL.cons {x y : List AV} {xs ys : List (List AV)} (h : WkL x y) (hs : WkLL xs ys) : WkLL (x :: xs) (y :: ys) := ⟨by simp [hs.1], fun i a b e1 e2 => by
  cases i with
  | zero => simp at e1 e2; subst e1; subst e2; exact h
  | succ i => exact hs.2 i a b (by simpa using e1) (by simpa using e2)⟩

theorem AV.Wk.agg {xs ys : List AV} (h : WkL xs ys) : AV.Wk (.agg xs) (.agg ys) := fun c v hv => by
  cases hv with
  | agg g0 g1 g2 =>
    refine .agg g0 (h.1 ▸ g1) fun i y v a b => ?_
    have hi : i < xs.length := by rw [h.1]; exact (List.getElem?_eq_some_iff.1 a).1
    exact h.2 i _ y (List.getElem?_eq_getElem hi) a c v (g2 i _ v (List.getElem?_eq_getElem hi) b)

theorem AV.Wk.tup {xs ys : List AV} (h : WkL xs ys) : AV.Wk (.tup xs) (.tup ys) := fun c v hv => by
  cases hv with
  | tup g1 g2 =>
    refine .tup (h.1 ▸ g1) fun i y v a b => ?_
    have hi : i < xs.length := by rw [h.1]; exact (List.getElem?_eq_some_iff.1 a).1
    exact h.2 i _ y (List.getElem?_eq_getElem hi) a c v (g2 i _ v (List.getElem?_eq_getElem hi) b)

theorem AV.Wk.ro {sz : Nat} {es fs : List (List AV)} (h : WkLL es fs) : AV.Wk (.ro sz es) (.ro sz fs) := fun c v hv => by
  have get : ∀ (i : Nat) (e : List AV) (j : Nat) (x : AV), fs[i]? = some e → e[j]? = some x → ∃ e' x', es[i]? = some e' ∧ e'[j]? = some x' ∧ AV.Wk x' x := fun i e j x a b => by
    have hi : i < es.length := by rw [h.1]; exact (List.getElem?_eq_some_iff.1 a).1
    have hw := h.2 i _ e (List.getElem?_eq_getElem hi) a
    have hj : j < es[i].length := by rw [hw.1]; exact (List.getElem?_eq_some_iff.1 b).1
    exact ⟨_, _, List.getElem?_eq_getElem hi, List.getElem?_eq_getElem hj, hw.2 j _ x (List.getElem?_eq_getElem hj) b⟩
  cases hv with
  | roNil =>
    have : fs = [] := List.length_eq_zero_iff.1 h.1.symm
    subst this; exact .roNil
  | ro vals hlen hcap hsz hc hv =>
    refine .ro vals (hlen.trans h.1) hcap (fun e he => ?_) (fun i e j x a b => ?_) (fun i e j x a b => ?_)
    · obtain ⟨i, hi, rfl⟩ := List.getElem_of_mem he
      have hi' : i < es.length := by rw [h.1]; exact hi
      have := (h.2 i _ _ (List.getElem?_eq_getElem hi') (List.getElem?_eq_getElem hi)).1
      rw [← this]; exact hsz _ (List.getElem_mem hi')
    · obtain ⟨e', x', a', b', _⟩ := get i e j x a b
      exact hc i e' j x' a' b'
    · obtain ⟨e', x', a', b', hw⟩ := get i e j x a b
      exact hw c _ (hv i e' j x' a' b')

/-- The result, as weaker. -/
inductive RWk : ARes → ARes → Prop
  | ret {x y} (h : AV.Wk x y) : RWk (.ret x) (.ret y)
  | pan {x y} (h : AV.Wk x y) : RWk (.pan x) (.pan y)

/-- The result with rows frozen. -/
inductive Tn (K : ARes → AH → Prop) : ARes → AH → Prop
  | done {r h} (hk : K r h) : Tn K r h
  | wk {r h} (r2 : ARes) (hr : RWk r r2) (hk : Tn K r2 h) : Tn K r h
  | fz {r h} (id : Nat) {sz : Nat} {es : List (List AV)} {lk : Bool} (hid : h[id]? = some (.arr sz es lk)) (hk : Tn K (r.sub (frz id sz es)) (AH.freeze h id sz es)) : Tn K r h

theorem Tn.run {K : ARes → AH → Prop} {r : ARes} {h : AH} (ht : Tn K r h) : ∀ {c : Cx} {e : Ending}, Sim c h → ResR c r e → ∃ c' h' r', c'.w = c.w ∧ Ext c h c' h' ∧ Sim c' h' ∧ ResR c' r' e ∧ K r' h' := by
  induction ht with
  | done hk => intro c e hs hr; exact ⟨c, _, _, rfl, Ext.refl c _, hs, hr, hk⟩
  | wk r2 hr _ ih =>
    intro c e hs h
    refine ih hs ?_
    cases hr with
    | ret g => cases h with | ret h' => exact .ret (g _ _ h')
    | pan g => cases h with | pan h' => exact .pan (g _ _ h')
  | fz id hid _ ih =>
    intro c e hs hr
    obtain ⟨c', e1, e2, e3, e4, e5⟩ := hs.freeze hid
    obtain ⟨c2, h2, r2, q1, q2, q3, q4, q5⟩ := ih e3 ((hr.mono e5).sub e4)
    exact ⟨c2, h2, r2, q1.trans e1, e2.trans q2, q3, q4, q5⟩

theorem ACalls.post {P : Program} {f : FuncId} {args : List AV} {h : AH} {K : ARes → AH → Prop} (hh : ACalls P f args h (Tn K)) : ACalls P f args h K := by
  intro c vs hs hv
  refine (hh c vs hs hv).mono fun e w ⟨c1, h1, r1, q1, q2, q3, q4, q5⟩ => ?_
  obtain ⟨c2, h2, r2, g1, g2, g3, g4, g5⟩ := q5.run q3 q4
  exact ⟨c2, h2, r2, g1.trans q1, q2.trans g2, g3, g4, g5⟩

/-- Arguments that say more than what is asked. -/
theorem ACalls.argsWk {f : FuncId} {args : List AV} {h : AH} {K : ARes → AH → Prop} (args' : List AV) (hw : WkL args args')
    (hh : ACalls P f args' h K) : ACalls P f args h K := fun c vs hs hv =>
  hh c vs hs ⟨hw.1 ▸ hv.1, fun i y v a b => by
    have hi : i < args.length := by rw [hw.1]; exact (List.getElem?_eq_some_iff.1 a).1
    exact hw.2 i _ y (List.getElem?_eq_getElem hi) a c v (hv.2 i _ v (List.getElem?_eq_getElem hi) b)⟩

/-- The temporaries, as weaker. -/
theorem AStk.wk {a : AAct} {ts : List AV} {h : AH} (hw : WkL a.tmps ts) (hh : AStk P h0 k ⟨ts, a.defers⟩ h K) : AStk P h0 k a h K :=
  fun c0 c act hd he hs ha => hh c0 c act hd he hs ⟨⟨hw.1 ▸ ha.tmps.1, fun i y v p q => by
    have hi : i < a.tmps.length := by rw [hw.1]; exact (List.getElem?_eq_some_iff.1 p).1
    exact hw.2 i _ y (List.getElem?_eq_getElem hi) p c v (ha.tmps.2 i _ v (List.getElem?_eq_getElem hi) q)⟩, ha.defers⟩

end

/-- Where nothing of a value hangs on a block. -/
def NoId (x : AV) : Prop := ∀ f, x.sub f = x

theorem NoId.closed {x : AV} (h : NoId x) : Closed x := fun c φ v hv => by
  have hf : Subs c ⟨φ, c.L, c.w⟩ (fun _ => .gone) := ⟨fun i j l a => (by cases a), fun i sz es l a => (by cases a), fun _ => Nat.le_refl _, fun _ _ _ => rfl⟩
  have := hv.sub hf
  rwa [h] at this

theorem QCall.intro {P : Program} {g : FuncId} {args : List AV} {R : AAct → AH → Prop} {a : AAct} {dst : Option Tmp} {h : AH} (x : AV) (h1 : ∀ y ∈ args, Closed y) (h2 : Closed x) (h3 : ACalls P g args [] (fun r _ => r = .ret x)) (h4 : R (a.put dst x) h) :
    QCall P g args R a dst h := ⟨x, h1, h2, h3, h4⟩

/-- A call of which all is known without any block. -/
theorem ACalls.ret {P : Program} {f : FuncId} {args : List AV} {h : AH} {K : ARes → AH → Prop} {x : AV} (h1 : ∀ y ∈ args, Closed y) (h2 : Closed x) (h3 : ACalls P f args [] (fun r _ => r = .ret x)) (h4 : K (.ret x) h) : ACalls P f args h K :=
  ACalls.frame h1 h3 fun r h' e => by subst e; exact ⟨h2, h4⟩

@[simp] theorem bytes_inj (a b : ByteArray) : (a.toList = b.toList) = (a = b) := by
  obtain ⟨a⟩ := a
  obtain ⟨b⟩ := b
  simp [ByteArray.toList_eq]
@[simp] theorem bytes_beq (a b : ByteArray) : (a.toList == b.toList) = decide (a = b) := by
  rw [Bool.eq_iff_iff]; simp

theorem clo_nil : ∀ y ∈ ([] : List AV), Closed y := fun y h => by simp at h
theorem clo_cons {x : AV} {l : List AV} (h : Closed x) (hs : ∀ y ∈ l, Closed y) : ∀ y ∈ x :: l, Closed y := fun y hy => by
  rcases List.mem_cons.1 hy with rfl | hy
  · exact h
  · exact hs y hy

@[simp] theorem subLL_append (f : Nat → Sb) (a b : List (List AV)) : subLL f (a ++ b) = subLL f a ++ subLL f b := by simp [subLL_map]
@[simp] theorem subL_append (f : Nat → Sb) (a b : List AV) : subL f (a ++ b) = subL f a ++ subL f b := by simp [subL_map]

theorem get_mid {α : Type} (xs : List α) (y : α) (ys : List α) : (xs ++ y :: ys)[xs.length]? = some y := by simp

attribute [simp] Value.oneCell' Value.cells AAct.put resultOf ofVal ofCell popBlk pickV ev AV.cells? TyI.isAgg setAt AV.one zeroCells fillA fillE structPlaces elems? isIntD AV.nil? constOp keyEq plainKey
attribute [simp] mask AV.sub subL subLL frz Vm.keep pos inn out putB AH.freeze AH.keep AH.back AAct.sub ADef.sub

section
variable {f : Nat → Sb}
@[simp] theorem AB.sub_dead : AB.sub f .dead = .dead := rfl
@[simp] theorem AB.sub_var (cs : List AV) : AB.sub f (.var cs) = .var (cs.map (AV.sub f)) := rfl
@[simp] theorem AB.sub_arr (sz : Nat) (es : List (List AV)) (lk : Bool) : AB.sub f (.arr sz es lk) = .arr sz (es.map fun e => e.map (AV.sub f)) lk := rfl
@[simp] theorem AB.sub_map (es : List (AV × AV × Nat)) (clk : Nat) : AB.sub f (.map es clk) = .map (es.map fun p => (p.1.sub f, p.2.1.sub f, p.2.2)) clk := rfl
@[simp] theorem AB.sub_siter (s : ByteArray) (pos : Nat) : AB.sub f (.siter s pos) = .siter s pos := rfl
@[simp] theorem AB.sub_miter0 (a : Nat) (l : List Nat) (b : Nat) : AB.sub f (.miter none a l b) = .miter none a l b := rfl
@[simp] theorem ARes.sub_ret (x : AV) : ARes.sub f (.ret x) = .ret (x.sub f) := rfl
@[simp] theorem ARes.sub_pan (x : AV) : ARes.sub f (.pan x) = .pan (x.sub f) := rfl
end

end Go.Vm
