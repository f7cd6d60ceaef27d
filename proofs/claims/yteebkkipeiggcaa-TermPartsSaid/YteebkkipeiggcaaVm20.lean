/- The abstract machine, part 20: the law of the regions that draw their order. -/
import Derived.Test.YteebkkipeiggcaaVm19
set_option linter.unusedVariables false
set_option linter.unusedSimpArgs false
namespace Go.Vm
open Go

section
variable {P : Program} {T : Tab} {F : FTab}

theorem callOf_sound (hF : F.OK P) {c : Cx} {ρa : Operand → AV} {ρ : Operand → Value} {o : Oper} {g : FuncId} {args : List AV} (hρ : ∀ x, VR c (ρa x) (ρ x)) (hc : callOf F ρa o = some (g, args)) :
    ∃ vs : Array Value, (execOp ρ o).run P c.w = .ok (.enter g vs) c.w ∧ VRs c args vs.toList := by
  obtain ⟨dst, op, ty, pos, after, guard⟩ := o
  have hm : ∀ xs : Array Operand, VRs c (xs.toList.map ρa) (xs.map ρ).toList := fun xs => by
    rw [Array.toList_map]; exact VRs.map hρ xs.toList
  unfold callOf at hc
  split at hc
  · rename_i f xs ts hop
    simp only at hop
    subst hop
    have hf := hρ f
    split at hc
    · rename_i g' first captured e
      rw [e] at hf
      split at hc
      · rename_i fi hg
        cases hc
        generalize hvf : ρ f = vf at hf
        cases hf with
        | fn h1 h2 h3 h4 =>
          rename_i fs cs
          refine ⟨fs ++ xs.map ρ ++ cs, ?_, ?_⟩
          · simp only [execOp, resolve, hvf, Deferred.ofValue, Sem.run_bind, Sem.run_pure, Result.andThen_ok, invoke]
            exact run_callFunc hF hg c.w _
          · rw [Array.toList_append, Array.toList_append]
            exact (VRs.append (VRs.of_array h1 h3) (hm xs)).append (VRs.of_array h2 h4)
      · cases hc
    · cases hc
  · cases hc

theorem callOf_congr {ρ ρ' : Operand → AV} {o : Oper} (he : ∀ x ∈ o.op.operands, ρ x = ρ' x) : callOf F ρ o = callOf F ρ' o := by
  obtain ⟨dst, op, ty, pos, after, guard⟩ := o
  unfold callOf
  split
  · rename_i f xs ts hop
    simp only at hop
    subst hop
    rw [he f (by simp [Op.operands, Call.operands]), List.map_congr_left (f := ρ) (g := ρ') fun x hx => he x (by simp [Op.operands, Call.operands]; exact .inr (by simpa using hx))]
  · rfl

/-- What is known of a call without any block, with the places kept. -/
theorem ACalls.framed {f : FuncId} {args : List AV} {h : AH} {x : AV} (ha : ∀ y ∈ args, Closed y) (hx : Closed x) (hh : ACalls P f args [] (fun r _ => r = .ret x)) {c : Cx} {vs : Array Value} (hs : Sim c h) (hv : VRs c args vs.toList) :
    Calls P f vs c.w fun e w => ∃ v, e = .returned v ∧ ∃ c' : Cx, c'.w = w ∧ c'.φ = c.φ ∧ Ext c h c' h ∧ Sim c' h ∧ VR c' x v := by
  have hs0 : Sim ⟨fun _ => none, c.L, c.w⟩ [] := ⟨fun _ _ => rfl, fun i b e => by simp at e, fun i j li lj ⟨b, e, _⟩ => by simp at e, hs.lock⟩
  have hv0 : VRs ⟨fun _ => none, c.L, c.w⟩ args vs.toList := ⟨hv.1, fun i x v a b => ha x (List.mem_of_getElem? a) c _ v (hv.2 i x v a b)⟩
  refine (hh ⟨fun _ => none, c.L, c.w⟩ vs hs0 hv0).mono fun e w ⟨c1, h1, r, q1, q2, q3, q4, q5⟩ => ?_
  subst q1
  subst q5
  have hno : ∀ b, ¬ Owns ⟨fun _ => none, c.L, c.w⟩ [] b := fun b ⟨i, l, ⟨bl, e, _⟩, _⟩ => by simp at e
  have hle : Le c ⟨c.φ, c1.L, c1.w⟩ := ⟨fun _ _ e => e, q2.le.L, q2.le.cell⟩
  cases q4 with
  | ret hr =>
    refine ⟨_, rfl, ⟨c.φ, c1.L, c1.w⟩, rfl, rfl, ⟨hle, q2.size, fun b hb _ => q2.frame b hb (hno b), fun b hb => .inr hb, q2.os, q2.tape, q2.output⟩, ⟨hs.dom, fun i b e1 e2 => ?_, hs.inj, q3.lock⟩, hx c1 c.φ _ hr⟩
    obtain ⟨l, f1, f2, f3⟩ := hs.blk i b e1 e2
    obtain ⟨g1, g2⟩ := q2.frame l.b f2 (hno _)
    exact ⟨l, f1, Nat.lt_of_lt_of_le f2 q2.size, f3.mono hle g1 g2⟩

/-- A new row of cells that hang on no block, as pure data. -/
theorem Sim.newRow {c : Cx} {g : AH} (hs : Sim c g) {ob : Obj} {v : Value} {l : Loc} {sz : Nat} {es : List (List AV)} (hl : l.b = c.w.heap.size)
    (hR : ∀ (c' : Cx) (k : Nat), Le c c' → c'.w = c.w.alloc ob → c'.L l.b = 0 → c'.φ k = some l → BR c' l (.arr sz es false) ∧ VR c' ((NK.sl es.length).val k) v) (hcl : ∀ e ∈ es, ∀ y ∈ e, Closed y) :
    ∃ c' : Cx, c'.w = c.w.alloc ob ∧ c'.φ = c.φ ∧ Sim c' g ∧ Ext c g c' g ∧ VR c' (.ro sz es) v := by
  obtain ⟨p1, p2⟩ := hs.pad 1
  have hk : (g ++ List.replicate 1 AB.dead)[g.length]? = some .dead := by simp
  have hφ : c.φ g.length = none := hs.dom _ (Nat.le_refl _)
  obtain ⟨s1, s2⟩ := p1.newAt (o := ob) (b := .arr sz es false) (l := l) (w' := c.w.alloc ob) hk hφ hl rfl rfl rfl rfl fun hle hL0 => (hR _ g.length hle rfl hL0 upd_same).1
  have hL0 : c.L l.b = 0 := by
    rcases Nat.eq_zero_or_pos (c.L l.b) with h' | h'
    · exact h'
    · have := hs.lock _ h'; omega
  obtain ⟨hB, hV⟩ := hR ⟨Vm.upd c.φ g.length l, c.L, c.w.alloc ob⟩ g.length s2.le rfl hL0 upd_same
  have hold : ∀ x, x < c.w.heap.size → (c.w.alloc ob).heap[x]? = c.w.heap[x]? := fun x hx => by
    show (c.w.heap.push ob)[x]? = _
    rw [Array.getElem?_push, if_neg (by omega)]
  have hsz : (c.w.alloc ob).heap.size = c.w.heap.size + 1 := by show (c.w.heap.push ob).size = _; simp
  let L' : Nat → Nat := fun x => if x = l.b then l.base + es.length * sz else c.L x
  have hL' : ∀ x, c.L x ≤ L' x := fun x => by
    show c.L x ≤ if x = l.b then _ else _
    split
    · rename_i e; rw [e, hL0]; exact Nat.zero_le _
    · exact Nat.le_refl _
  have hne : ∀ x, x < c.w.heap.size → L' x = c.L x := fun x hx => by
    show (if x = l.b then _ else _) = _
    rw [if_neg (by omega)]
  have hle : Le c ⟨c.φ, L', c.w.alloc ob⟩ := ⟨fun _ _ e => e, hL', fun b o ho => World.cell?_heap (hold b (hs.lock b (by omega)))⟩
  refine ⟨⟨c.φ, L', c.w.alloc ob⟩, rfl, rfl, ⟨hs.dom, fun i b e1 e2 => ?_, hs.inj, fun b hb => ?_⟩, ⟨hle, by show _ ≤ (c.w.alloc ob).heap.size; omega, fun b hb _ => ⟨hold b hb, hne b hb⟩, fun b hb => .inr hb, rfl, rfl, rfl⟩, ?_⟩
  · obtain ⟨l', f1, f2, f3⟩ := hs.blk i b e1 e2
    exact ⟨l', f1, by show _ < (c.w.alloc ob).heap.size; omega, f3.mono hle (hold _ f2) (hne _ f2)⟩
  · show b < (c.w.alloc ob).heap.size
    by_cases hbl : b = l.b
    · omega
    · have : L' b = c.L b := by show (if b = l.b then _ else _) = _; rw [if_neg hbl]
      have hb' : 0 < L' b := hb
      rw [this] at hb'
      have := hs.lock b hb'
      omega
  · have hup : Le (⟨c.φ, c.L, c.w.alloc ob⟩ : Cx) ⟨c.φ, L', c.w.alloc ob⟩ := ⟨fun _ _ e => e, hL', fun _ _ _ => rfl⟩
    cases hB with
    | arr a1 a2 a3 a4 a5 a6 a7 a8 a9 a10 =>
      rename_i vs T
      simp only [NK.val] at hV
      have hcells : ∀ (o : Nat), o = l.base → ∀ (i : Nat) (e : List AV) (j : Nat) (x : AV), es[i]? = some e → e[j]? = some x → o + i * sz + j < L' l.b ∧ (c.w.alloc ob).cell? ⟨l.b, o + i * sz + j, none⟩ = some ((vs[l.base + i * sz + j]?).getD default) ∧ ((vs[l.base + i * sz + j]?).getD default).oneCell' = true ∧ VR ⟨c.φ, L', c.w.alloc ob⟩ x ((vs[l.base + i * sz + j]?).getD default) := by
        intro o ho i e j x g1 g2
        subst ho
        have hi := (List.getElem?_eq_some_iff.1 g1).1
        have hj := (List.getElem?_eq_some_iff.1 g2).1
        rw [a6 e (List.mem_of_getElem? g1)] at hj
        have hb : i * sz + j < es.length * sz := by
          have : (i + 1) * sz ≤ es.length * sz := Nat.mul_le_mul_right _ (by omega)
          rw [Nat.add_mul, Nat.one_mul] at this
          omega
        have hlt : l.base + i * sz + j < vs.size := by omega
        have hLl : L' l.b = l.base + es.length * sz := by show (if l.b = l.b then _ else _) = _; rw [if_pos rfl]
        have hw : VR ⟨c.φ, c.L, c.w.alloc ob⟩ x (vs[l.base + i * sz + j]'hlt) := hcl e (List.mem_of_getElem? g1) x (List.mem_of_getElem? g2) _ c.φ _ (a7 i e j x _ g1 g2 (by simp [hlt]))
        refine ⟨by rw [hLl]; omega, ?_, ?_, ?_⟩
        · have a1' : (c.w.alloc ob).heap[l.b]? = some (.cells vs T (0, 0)) := a1
          simp only [World.cell?, a1']
          rw [Array.getElem?_eq_getElem hlt]
          simp
        · rw [Array.getElem?_eq_getElem hlt]
          exact a10 _ (by simp)
        · rw [Array.getElem?_eq_getElem hlt]
          exact hw.mono hup
      generalize hn : es.length = n at hV
      cases hV with
      | sl q1 q2 q3 q4 =>
        have hφl := q1
        rw [show (⟨Vm.upd c.φ g.length l, c.L, c.w.alloc ob⟩ : Cx).φ g.length = some l from upd_same] at hφl
        cases hφl
        have ho : l.base + 0 * l.sz = l.base := by omega
        exact .ro (fun i j => (vs[l.base + i * sz + j]?).getD default) hn.symm q2 a6 (fun i e j x g1 g2 => ⟨(hcells _ ho i e j x g1 g2).1, (hcells _ ho i e j x g1 g2).2.1, (hcells _ ho i e j x g1 g2).2.2.1⟩) (fun i e j x g1 g2 => (hcells _ ho i e j x g1 g2).2.2.2)
      | sl0 q1 =>
        have he : es = [] := List.length_eq_zero_iff.1 hn
        subst he
        exact .ro (fun _ _ => default) rfl (Nat.le_refl _) (fun e h => by simp at h) (fun i e j x h => by simp at h) (fun i e j x h => by simp at h)

theorem mem_depsOf {o : Oper} {d : Nat} : d ∈ depsOf o ↔ ∃ e ∈ o.after, Region.binds .any e = true ∧ e.on = d := by
  simp only [depsOf, List.mem_map, List.mem_filter]
  constructor
  · rintro ⟨e, ⟨h1, h2⟩, h3⟩; exact ⟨e, by simpa using h1, h2, h3⟩
  · rintro ⟨e, h1, h2, h3⟩; exact ⟨e, ⟨by simpa using h1, h2⟩, h3⟩

variable {all : Array Oper} {p : Nat}

def DoneL (listed : Array Bool) (i : Nat) : Prop := listed.getD i false = true

theorem getD_set {listed : Array Bool} {i j : Nat} (hi : i < listed.size) : DoneL (listed.setIfInBounds i true) j ↔ DoneL listed j ∨ j = i := by
  unfold DoneL
  by_cases h : j = i
  · subst h; simp [Array.getD, hi]
  · simp only [h, or_false, Array.getD_eq_getD_getElem?]
    rw [Array.getElem?_setIfInBounds_ne (Ne.symm h)]

theorem Anc.listed {listed : Array Bool} (hcl : ∀ i o, all[i]? = some o → DoneL listed i → ∀ d ∈ depsOf o, DoneL listed d) {i j : Nat} (h : Anc all i j) : DoneL listed j → DoneL listed i := by
  induction h with
  | base ho hd => intro hj; exact hcl _ _ ho hj _ hd
  | step ho hd _ ih => intro hj; exact ih (hcl _ _ ho hj _ hd)

theorem Anc.ready {listed : Array Bool} (hcl : ∀ i o, all[i]? = some o → DoneL listed i → ∀ d ∈ depsOf o, DoneL listed d) {i j : Nat} {o : Oper} (ho : all[j]? = some o) (hd : ∀ d ∈ depsOf o, DoneL listed d) (h : Anc all i j) : DoneL listed i := by
  cases h with
  | base ho' hd' => rw [ho] at ho'; cases ho'; exact hd _ hd'
  | step ho' hd' h' => rw [ho] at ho'; cases ho'; exact h'.listed hcl (hd _ hd')

theorem ready_iff {listed : Array Bool} (hsz : listed.size = all.size) {i : Nat} : i ∈ Region.ready .any all listed ↔ ¬ DoneL listed i ∧ ∃ o, all[i]? = some o ∧ ∀ d ∈ depsOf o, DoneL listed d := by
  rw [mem_ready]
  constructor
  · rintro ⟨h1, o, h2, h3⟩
    have hlt : i < all.size := (Array.getElem?_eq_some_iff.1 h2).1
    refine ⟨fun h => ?_, o, h2, fun d hd => ?_⟩
    · unfold DoneL at h
      simp [Array.getD, hsz, hlt] at h h1
      rw [h] at h1; cases h1
    · obtain ⟨e, a, b, rfl⟩ := mem_depsOf.1 hd
      exact h3 e a b
  · rintro ⟨h1, o, h2, h3⟩
    have hlt : i < all.size := (Array.getElem?_eq_some_iff.1 h2).1
    refine ⟨?_, o, h2, fun e he hb => h3 _ (mem_depsOf.2 ⟨e, he, hb, rfl⟩)⟩
    unfold DoneL at h1
    simp [Array.getD, hsz, hlt] at h1 ⊢
    exact h1

/-- From where the order is the text's. -/
theorem wpAny_tail (hL : Lex all p) {Q : Exit → Act → World → Prop} : ∀ (fuel q : Nat) (listed : Array Bool) (act : Act) (w : World), p ≤ q → q ≤ all.size → listed.size = all.size → (∀ i, DoneL listed i ↔ i < q) → all.size ≤ fuel + q →
    opsL P all Q (all.toList.drop q) act w → wpAny P .any all Q fuel listed act w := by
  intro fuel
  induction fuel with
  | zero =>
    intro q listed act w hpq hq hsz hd hf h
    have : q = all.size := by omega
    subst this
    refine ⟨?_, ?_⟩
    · apply List.eq_nil_iff_forall_not_mem.2
      intro i hi
      obtain ⟨h1, o, h2, _⟩ := (ready_iff hsz).1 hi
      exact h1 ((hd i).2 (Array.getElem?_eq_some_iff.1 h2).1)
    · rw [List.drop_eq_nil_of_le (by simp)] at h
      exact h
  | succ fuel ih =>
    intro q listed act w hpq hq hsz hd hf h
    have hcl : ∀ i o, all[i]? = some o → DoneL listed i → ∀ d ∈ depsOf o, DoneL listed d := fun i o ho hi d hdd => (hd d).2 (Nat.lt_trans (hL.edge i o ho d hdd) ((hd i).1 hi))
    refine ⟨fun hr => ?_, fun i hi => ?_⟩
    · rcases Nat.lt_or_ge q all.size with hlt | hge
      · exfalso
        have : q ∈ Region.ready .any all listed := (ready_iff hsz).2 ⟨fun h => absurd ((hd q).1 h) (Nat.lt_irrefl q), all[q], by simp [hlt], fun d hdd => (hd d).2 (hL.edge q _ (by simp [hlt]) d hdd)⟩
        rw [hr] at this; simp at this
      · rw [List.drop_eq_nil_of_le (by simpa using hge)] at h
        exact h
    · obtain ⟨h1, o, h2, h3⟩ := (ready_iff hsz).1 hi
      have hlt : i < all.size := (Array.getElem?_eq_some_iff.1 h2).1
      have hqi : q ≤ i := by
        rcases Nat.lt_or_ge i q with h' | h'
        · exact absurd ((hd i).2 h') h1
        · exact h'
      have hiq : i = q := by
        rcases Nat.lt_or_ge q i with h' | h'
        · have := (hL.tail q i (by omega) hlt h').ready hcl h2 h3
          exact absurd ((hd q).1 this) (Nat.lt_irrefl q)
        · omega
      subst hiq
      have hdrop : all.toList.drop i = o :: all.toList.drop (i + 1) := by
        rw [List.drop_eq_getElem_cons (by simpa using hlt)]
        congr 1
        have := Array.getElem?_eq_some_iff.1 h2
        simpa using this.2
      rw [hdrop] at h
      have hnext : ∀ act w, opsL P all Q (all.toList.drop (i + 1)) act w → wpAny P .any all Q fuel (listed.setIfInBounds i true) act w := fun act w h' =>
        ih (i + 1) _ act w (by omega) hlt (by simpa using hsz) (fun j => by rw [getD_set (by omega), hd j]; omega) (by omega) h'
      simp only [opsL] at h
      unfold wpOp
      rw [h2]
      simp only
      split
      · rename_i hw; rw [if_pos hw] at h; exact .inl (Oper.wp_mono hnext h)
      · rename_i hw; rw [if_neg hw] at h; exact hnext _ _ h

end
end Go.Vm
