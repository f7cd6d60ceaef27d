/- The abstract machine, part 27: calls by contracts up to weaker arguments; contracts that stand in the model's own words; what names no block, for 'simp'. -/
import Derived.Test.YteebkkipeiggcaaVm26
set_option linter.unusedVariables false
set_option linter.unusedSimpArgs false
namespace Go.Vm
open Go

/-- A call of which all is known without any block, at arguments that say more than what is asked. -/
theorem ACalls.retW {P : Program} {f : FuncId} {args args' : List AV} {h : AH} {K : ARes → AH → Prop} {x : AV} (h3 : ACalls P f args' [] (fun r _ => r = .ret x)) (hw : WkL args args') (h1 : ∀ y ∈ args', Closed y) (h2 : Closed x) (h4 : K (.ret x) h) : ACalls P f args h K :=
  ACalls.argsWk args' hw (ACalls.ret h1 h2 h3 h4)

theorem ACalls.argsWk0 {P : Program} {f : FuncId} {args args' : List AV} {K : ARes → AH → Prop} (h3 : ACalls P f args' [] K) (hw : WkL args args') : ACalls P f args [] K := ACalls.argsWk args' hw h3

/-- A call that asks for no block, by a contract whose arguments say less: only where the arguments are the same but for what names no block. -/
theorem QCall.introW {P : Program} {g : FuncId} {args args' : List AV} {R : AAct → AH → Prop} {a : AAct} {dst : Option Tmp} {h : AH} {x : AV} (h3 : ACalls P g args' [] (fun r _ => r = .ret x)) (hw : WkL args args') (h1 : ∀ y ∈ args, Closed y) (h2 : Closed x) (h4 : R (a.put dst x) h) :
    QCall P g args R a dst h := QCall.intro x h1 h2 (ACalls.argsWk0 h3 hw) h4

@[simp] theorem clo_int {k : IntKind} {n : Int} : Closed (.int k n) := .int
@[simp] theorem clo_bool {b : Bool} : Closed (.bool b) := .bool
@[simp] theorem clo_str {s : ByteArray} : Closed (.str s) := .str
@[simp] theorem clo_nilp : Closed .nilp := .nilp
@[simp] theorem clo_nils : Closed .nils := .nils
@[simp] theorem clo_nilm : Closed .nilm := .nilm
@[simp] theorem clo_nilf : Closed .nilf := .nilf
@[simp] theorem clo_nili : Closed .nili := .nili
@[simp] theorem clo_undef : Closed .undef := .undef
@[simp] theorem clo_dead : Closed .dead := .dead
@[simp] theorem clo_any : Closed .any := .any
@[simp] theorem clo_iface {t : TypeId} {x : AV} (hx : Closed x) : Closed (.iface t x) := .iface hx
@[simp] theorem clo_agg {cs : List AV} (hx : ∀ x ∈ cs, Closed x) : Closed (.agg cs) := .agg hx
@[simp] theorem clo_tup {cs : List AV} (hx : ∀ x ∈ cs, Closed x) : Closed (.tup cs) := .tup hx
@[simp] theorem clo_fn {f : Fn} {xs ys : List AV} (hx : ∀ x ∈ xs, Closed x) (hy : ∀ x ∈ ys, Closed x) : Closed (.fn f xs ys) := .fn hx hy
@[simp] theorem clo_ro {sz : Nat} {es : List (List AV)} (hx : ∀ e ∈ es, ∀ x ∈ e, Closed x) : Closed (.ro sz es) := .ro hx
@[simp] theorem clo_rop {sz i off : Nat} {es : List (List AV)} (hx : ∀ e ∈ es, ∀ x ∈ e, Closed x) : Closed (.rop sz es i off) := .rop hx

/-- The model's memory has grown; what was there lies as it did. -/
structure Grew (W W' : World) : Prop where
  heap : ∀ b, b < W.heap.size → W'.heap[b]? = W.heap[b]?
  size : W.heap.size ≤ W'.heap.size
  os : W'.os = W.os
  tape : W'.tape = W.tape
  output : W'.output = W.output

theorem Grew.refl (W : World) : Grew W W := ⟨fun _ _ => rfl, Nat.le_refl _, rfl, rfl, rfl⟩

theorem Grew.ext {c : Cx} {h : AH} (hs : Sim c h) {w' : World} (hg : Grew c.w w') : Ext c h ⟨c.φ, c.L, w'⟩ h ∧ Sim ⟨c.φ, c.L, w'⟩ h := by
  have hle : Le c ⟨c.φ, c.L, w'⟩ := ⟨fun _ _ e => e, fun _ => Nat.le_refl _, fun b o ho => World.cell?_heap (hg.heap b (hs.lock b (by omega)))⟩
  refine ⟨⟨hle, hg.size, fun b hb _ => ⟨hg.heap b hb, rfl⟩, fun b hb => ?_, hg.os, hg.tape, hg.output⟩, ⟨hs.dom, fun i bl e1 e2 => ?_, fun i j li lj hi hj hij ei ej => hs.inj i j li lj hi hj hij ei ej, fun b hb => ?_⟩⟩
  · exact .inr hb
  · obtain ⟨l, f1, f2, f3⟩ := hs.blk i bl e1 e2
    exact ⟨l, f1, Nat.lt_of_lt_of_le f2 hg.size, f3.mono hle (hg.heap _ f2) rfl⟩
  · exact Nat.lt_of_lt_of_le (hs.lock b hb) hg.size

/-- A contract in the model's own words. -/
theorem ACalls.of_calls {P : Program} {f : FuncId} {args : List AV} {h : AH} {x : AV}
    (hc : ∀ (c : Cx) (vs : Array Value), VRs c args vs.toList → ∃ v, Calls P f vs c.w (fun e w' => e = .returned v ∧ Grew c.w w') ∧ ∀ c', VR c' x v) :
    ACalls P f args h (fun r h' => r = .ret x ∧ h' = h) := fun c vs hs hv => by
  obtain ⟨v, h1, h2⟩ := hc c vs hv
  refine h1.mono fun e w' ⟨he, hg⟩ => ?_
  subst he
  obtain ⟨e1, e2⟩ := hg.ext hs
  exact ⟨⟨c.φ, c.L, w'⟩, h, .ret x, rfl, e1, e2, .ret (h2 _), rfl, rfl⟩

theorem ACalls.of_calls0 {P : Program} {f : FuncId} {args : List AV} {x : AV}
    (hc : ∀ (c : Cx) (vs : Array Value), VRs c args vs.toList → ∃ v, Calls P f vs c.w (fun e w' => e = .returned v ∧ Grew c.w w') ∧ ∀ c', VR c' x v) :
    ACalls P f args [] (fun r _ => r = .ret x) := (ACalls.of_calls hc).mono fun _ _ h => h.1

/-- The same, for one value. -/
theorem VRs.str1 {c : Cx} {s : ByteArray} {l : List Value} (h : VRs c [.str s] l) : l = [.string s] := by
  obtain ⟨v, e, k⟩ := VRs.one h; cases k; exact e
theorem VRs.str2 {c : Cx} {s t : ByteArray} {l : List Value} (h : VRs c [.str s, .str t] l) : l = [.string s, .string t] := by
  obtain ⟨v, u, e, h1, h2⟩ := VRs.two h; cases h1; cases h2; exact e

theorem AStk.indE {P : Program} {h0 : AH} {k : List It} {K : AExit → AAct → AH → Prop} {x : Code} (Inv : Nat → AAct → AH → Prop) {a : AAct} {h : AH} (h1 : ∃ n, Inv n a h)
    (h2 : ∀ n a h, Inv n a h → (∀ m a h, m < n → Inv m a h → AStk P h0 (.loop x :: k) a h K) → AStk P h0 (.code x :: .loop x :: k) a h K) : AStk P h0 (.loop x :: k) a h K :=
  h1.elim fun _ h1 => AStk.ind Inv h1 h2

/-- A free place at the end. -/
theorem AStk.pad {P : Program} {h0 : AH} {k : List It} {K : AExit → AAct → AH → Prop} {a : AAct} {h : AH} (hh : AStk P h0 k a (h ++ [.dead]) K) : AStk P h0 k a h K := fun c0 c act hd he hs ha => by
  obtain ⟨h1, h2⟩ := hs.pad 1
  exact hh c0 c act hd (he.trans h2) h1 ha

/-- A slice that is appended to, from nil on: the value, and its block. -/
def accS (sz id : Nat) : List (List AV) → AV
  | [] => .nils
  | es => .sl id 0 es.length
def accB (sz : Nat) : List (List AV) → AB
  | [] => .dead
  | es => .arr sz es false
@[simp] theorem accS_nil (sz id : Nat) : accS sz id [] = .nils := rfl
@[simp] theorem accS_cons (sz id : Nat) (e : List AV) (es : List (List AV)) : accS sz id (e :: es) = .sl id 0 (es.length + 1) := rfl
@[simp] theorem accS_snoc (sz id : Nat) (e : List AV) (es : List (List AV)) : accS sz id (es ++ [e]) = .sl id 0 (es.length + 1) := by cases es <;> simp [accS]
@[simp] theorem accB_nil (sz : Nat) : accB sz [] = .dead := rfl
@[simp] theorem accB_cons (sz : Nat) (e : List AV) (es : List (List AV)) : accB sz (e :: es) = .arr sz (e :: es) false := rfl
@[simp] theorem accB_snoc (sz : Nat) (e : List AV) (es : List (List AV)) : accB sz (es ++ [e]) = .arr sz (es ++ [e]) false := by cases es <;> simp [accB]
@[simp] theorem accS_cells (sz id : Nat) (es : List (List AV)) : (accS sz id es).cells? = some [accS sz id es] := by cases es <;> rfl
@[simp] theorem accS_one (sz id : Nat) (es : List (List AV)) : (accS sz id es).one = true := by cases es <;> rfl
def accSub (sz : Nat) (es : List (List AV)) (f : Nat → Sb) : Sb → AV
  | .to j => accS sz j es
  | .ro sz' fs => match es with
    | [] => .nils
    | es => if 0 + es.length ≤ fs.length then .ro sz' ((fs.drop 0).take es.length) else .dead
  | .gone => match es with
    | [] => .nils
    | _ => .dead
@[simp] theorem accSub_to (sz : Nat) (es : List (List AV)) (f : Nat → Sb) (j : Nat) : accSub sz es f (.to j) = accS sz j es := rfl
@[simp ↓ high] theorem accS_sub (sz id : Nat) (es : List (List AV)) (f : Nat → Sb) : AV.sub f (accS sz id es) = accSub sz es f (f id) := by
  cases es <;> cases h : f id <;> simp [accSub, accS, AV.sub, h]
@[simp ↓ high] theorem accB_sub (sz : Nat) (es : List (List AV)) (f : Nat → Sb) : AB.sub f (accB sz es) = accB sz (es.map fun e => e.map (AV.sub f)) := by cases es <;> simp [AB.sub]

/-- An append to such a slice. -/
def aAppendX (T : Tab) (ts : List TypeId) (x y : AV) (h : AH) (K : AV → AH → Prop) : Prop := aAppend T ts x y h K

def aAppendAcc (T : Tab) (ts : List TypeId) (sz id : Nat) (es : List (List AV)) (y : AV) (h : AH) (K : AV → AH → Prop) : Prop :=
  match ts with
  | t :: u :: _ => (match T t, T u with
    | some { desc := .slice e, .. }, some ui => if isIntD ui.desc then aAppendX T ts (accS sz id es) y h K else (match T e with
      | some ei => if 0 < ei.size ∧ 0 < ei.bytes then (match elems? ei.size h y with
        | some (n0 :: ne) => if sz = ei.size ∧ (es.length + (n0 :: ne).length) * ei.bytes ≤ 140737488355328 then K (.sl h.length 0 (es.length + (n0 :: ne).length)) (h.set id .dead ++ [.arr sz (es ++ n0 :: ne) false]) else aAppendX T ts (accS sz id es) y h K
        | _ => aAppendX T ts (accS sz id es) y h K) else aAppendX T ts (accS sz id es) y h K
      | none => aAppendX T ts (accS sz id es) y h K)
    | _, _ => aAppendX T ts (accS sz id es) y h K)
  | _ => aAppendX T ts (accS sz id es) y h K

@[simp ↓ high] theorem aAppend_acc {T : Tab} {ts : List TypeId} {sz id : Nat} {es : List (List AV)} {y : AV} {h : AH} {K : AV → AH → Prop} (hid : h[id]? = some (accB sz es)) :
    aAppend T ts (accS sz id es) y h K = aAppendAcc T ts sz id es y h K := by
  have hd : es = [] → h.set id .dead = h := fun e => by
    subst e
    apply List.ext_getElem?
    intro i
    rw [List.getElem?_set]
    split
    · rename_i hi; subst hi; split
      · exact hid.symm
      · rename_i hn; rw [List.getElem?_eq_none (by omega)]
    · rfl
  unfold aAppendAcc
  (repeat' split) <;> first | rfl | skip
  rename_i t u _ _ _ e _ _ _ _ ui h1 h2 h3 _ ei h4 h5 _ n0 ne h6 h7
  unfold aAppend
  cases es with
  | nil =>
    obtain ⟨rfl, h8⟩ := h7
    simp only [List.length_nil, Nat.zero_add, List.nil_append] at h8 ⊢
    rw [hd rfl]
    simp_all [accS]
  | cons e0 es =>
    obtain ⟨rfl, h8⟩ := h7
    simp only [accB_cons] at hid
    simp_all [accS]

def aLenX (T : Tab) (ts : List TypeId) (x : AV) (h : AH) (K : AV → AH → Prop) : Prop := aLen T ts x h K
def aLenAcc (T : Tab) (ts : List TypeId) (sz id : Nat) (es : List (List AV)) (h : AH) (K : AV → AH → Prop) : Prop :=
  match ts with
  | t :: _ => (match T t with
    | some { desc := .slice _, .. } => K (.int .i64 es.length) h
    | _ => aLenX T ts (accS sz id es) h K)
  | _ => aLenX T ts (accS sz id es) h K
@[simp ↓ high] theorem aLen_acc {T : Tab} {ts : List TypeId} {sz id : Nat} {es : List (List AV)} {h : AH} {K : AV → AH → Prop} :
    aLen T ts (accS sz id es) h K = aLenAcc T ts sz id es h K := by
  unfold aLenAcc
  (repeat' split) <;> first | rfl | skip
  rename_i h1
  cases es <;> simp [aLen, h1, accS]

theorem Tn.wkRet {x y : AV} {h : AH} (hw : AV.Wk x y) : Tn (fun r _ => r = .ret y) (.ret x) h := .wk (.ret y) (.ret hw) (.done rfl)

/-- What a call leaves, with only some of its new blocks kept. -/
theorem ACalls.gc {P : Program} {f : FuncId} {args : List AV} {h : AH} {K : ARes → AH → Prop} (ks : List Nat) (hn : ks.Nodup)
    (hh : ACalls P f args h (fun r g => h.length ≤ g.length ∧ (∀ i ∈ ks, h.length ≤ i ∧ i < g.length) ∧ K (r.sub (Vm.keep h.length ks)) (AH.keep g h.length ks))) : ACalls P f args h K := by
  intro c vs hs0 hv
  refine (hh c vs hs0 hv).mono fun e w ⟨c1, g, r1, q1, he, hs, hr, hm, hks, hk⟩ => ?_
  let φ' : Nat → Option Loc := fun j => if j < h.length then c1.φ j else (ks[j - h.length]?).bind c1.φ
  have hsub : Subs c1 ⟨φ', c1.L, c1.w⟩ (Vm.keep h.length ks) := by
    refine ⟨fun i j l a b => ?_, fun i sz es l a b => ?_, fun _ => Nat.le_refl _, fun _ _ _ => rfl⟩
    · unfold Vm.keep at a
      split at a
      · rename_i hlt; cases a; show φ' i = some l; simp only [φ', hlt, if_true]; exact b
      · split at a
        · rename_i k hp
          cases a
          show φ' (h.length + k) = some l
          have := pos_some hp
          have hno : ¬ (h.length + k < h.length) := by omega
          simp only [φ', hno, if_false, Nat.add_sub_cancel_left, this, Option.bind_some]
          exact b
        · cases a
    · unfold Vm.keep at a
      split at a
      · cases a
      · split at a <;> cases a
  have hlen : (g.take h.length).length = h.length := by simp; omega
  have hget : ∀ j b, (AH.keep g h.length ks)[j]? = some b → ∃ i b', g[i]? = some b' ∧ b = b'.sub (Vm.keep h.length ks) ∧ φ' j = c1.φ i ∧ ((j < h.length ∧ i = j) ∨ (h.length ≤ j ∧ ks[j - h.length]? = some i)) := by
    intro j b hb
    unfold AH.keep at hb
    rw [List.getElem?_map, Option.map_eq_some_iff] at hb
    obtain ⟨b', hb, rfl⟩ := hb
    rcases Nat.lt_or_ge j h.length with hj | hj
    · rw [List.getElem?_append_left (by rw [hlen]; exact hj), List.getElem?_take_of_lt hj] at hb
      exact ⟨j, b', hb, rfl, by simp [φ', hj], .inl ⟨hj, rfl⟩⟩
    · rw [List.getElem?_append_right (by rw [hlen]; exact hj), hlen, List.getElem?_map, Option.map_eq_some_iff] at hb
      obtain ⟨i, hi, hb⟩ := hb
      have hilt := (hks i (List.mem_of_getElem? hi)).2
      have hno : ¬ (j < h.length) := by omega
      refine ⟨i, b', ?_, rfl, by simp [φ', hno, hi], .inr ⟨hj, hi⟩⟩
      rw [List.getElem?_eq_getElem hilt]
      simpa [List.getD_eq_getElem?_getD, hilt] using hb
  have hlive : ∀ j, liveAt (AH.keep g h.length ks) j → ∃ i, liveAt g i ∧ φ' j = c1.φ i ∧ ((j < h.length ∧ i = j) ∨ (h.length ≤ j ∧ ks[j - h.length]? = some i)) := fun j ⟨b, e1, e2⟩ => by
    obtain ⟨i, b', g1, g2, g3, g4⟩ := hget j b e1
    subst g2
    exact ⟨i, ⟨b', g1, AB.sub_live e2⟩, g3, g4⟩
  refine ⟨⟨φ', c1.L, c1.w⟩, AH.keep g h.length ks, _, q1, ⟨⟨fun i l e => ?_, he.le.L, he.le.cell⟩, he.size, he.frame, fun b ⟨j, l, hj, e, hb⟩ => ?_, he.os, he.tape, he.output⟩, ⟨fun j hj => ?_, fun j b e1 e2 => ?_, fun i j li lj hi hj hij ei ej => ?_, hs.lock⟩, hr.sub hsub, hk⟩
  · have hlt : i < h.length := by
      rcases Nat.lt_or_ge i h.length with h' | h'
      · exact h'
      · rw [hs0.dom i h'] at e; cases e
    show φ' i = some l
    simp only [φ', hlt, if_true]
    exact he.le.φ i l e
  · obtain ⟨i, g1, g2, _⟩ := hlive j hj
    exact he.own b ⟨i, l, g1, by rw [← g2]; exact e, hb⟩
  · have hj' : h.length + ks.length ≤ j := by unfold AH.keep at hj; simp at hj; omega
    show φ' j = none
    have hno : ¬ (j < h.length) := by omega
    simp only [φ', hno, if_false]
    rw [List.getElem?_eq_none (by omega)]; rfl
  · obtain ⟨i, b', g1, g2, g3, g4⟩ := hget j b e1
    subst g2
    obtain ⟨l, f1, f2, f3⟩ := hs.blk i b' g1 (AB.sub_live e2)
    exact ⟨l, g3.trans f1, f2, f3.sub hsub rfl rfl⟩
  · obtain ⟨i', g1, g2, g3⟩ := hlive i hi
    obtain ⟨j', f1, f2, f3⟩ := hlive j hj
    refine hs.inj i' j' li lj g1 f1 (fun hee => hij ?_) (g2.symm.trans ei) (f2.symm.trans ej)
    subst hee
    rcases g3 with ⟨a1, a2⟩ | ⟨a1, a2⟩ <;> rcases f3 with ⟨b1, b2⟩ | ⟨b1, b2⟩
    · omega
    · have := (hks i' (List.mem_of_getElem? b2)).1; omega
    · have := (hks i' (List.mem_of_getElem? a2)).1; omega
    · have p1 := pos_get hn a2
      have p2 := pos_get hn b2
      rw [p1] at p2
      have := Option.some.inj p2
      omega

/-- Where a key is, and with what: 'none' where that can't be told. -/
def findP (d : TypeDesc) (k : AV) : List (AV × AV × Nat) → Nat → Option (Option (Nat × AV))
  | [], _ => some none
  | (k', v, _) :: es, i =>
    match keyEq d k k' with
    | some b => if b = true then some (some (i, v)) else findP d k es (i + 1)
    | none => none

theorem findA_P {d : TypeDesc} {k : AV} {Ks : Nat → AV → Prop} {Kn : Prop} : ∀ (es : List (AV × AV × Nat)) (i : Nat), findA d k Ks Kn es i = match findP d k es i with
    | some (some (j, v)) => Ks j v
    | some none => Kn
    | none => False
  | [], i => by simp [findA, findP]
  | (k', v, n) :: es, i => by
    simp only [findA, findP]
    cases keyEq d k k' with
    | none => rfl
    | some b =>
      cases b with
      | true => simp
      | false => simp only [Bool.false_eq_true, if_false]; exact findA_P es (i + 1)

end Go.Vm
