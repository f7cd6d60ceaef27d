/- The abstract machine, part 23: the rules for other names: rows frozen, what is no more used thrown away, and a call whose contract speaks of a few blocks alone. -/
import Derived.Test.YteebkkipeiggcaaVm22
set_option linter.unusedVariables false
set_option linter.unusedSimpArgs false
namespace Go.Vm
open Go

def pos : List Nat → Nat → Option Nat
  | [], _ => none
  | j :: l, i => if i = j then some 0 else (match pos l i with
    | some k => some (k + 1)
    | none => none)

theorem pos_some {l : List Nat} {i : Nat} : ∀ {k : Nat}, pos l i = some k → l[k]? = some i := by
  induction l with
  | nil => intro k h; cases h
  | cons j l ih =>
    intro k h
    simp only [pos] at h
    split at h
    · rename_i e; cases h; subst e; rfl
    · split at h
      · rename_i k' e; cases h; simpa using ih e
      · cases h

theorem pos_none {l : List Nat} {i : Nat} : pos l i = none → i ∉ l := by
  induction l with
  | nil => simp
  | cons j l ih =>
    intro h
    simp only [pos] at h
    split at h
    · cases h
    · rename_i hne
      split at h
      · cases h
      · rename_i e; simp [hne, ih e]

theorem pos_get {l : List Nat} {i : Nat} (hn : l.Nodup) : ∀ {k : Nat}, l[k]? = some i → pos l i = some k := by
  intro k h
  cases hp : pos l i with
  | none => exact absurd (List.mem_of_getElem? h) (pos_none hp)
  | some k' =>
    have h' := pos_some hp
    obtain ⟨h1, h2⟩ := List.getElem?_eq_some_iff.1 h
    obtain ⟨h3, h4⟩ := List.getElem?_eq_some_iff.1 h'
    have : k' = k := by
      apply Classical.byContradiction
      intro hne
      have := List.pairwise_iff_getElem.1 hn
      rcases Nat.lt_or_gt_of_ne hne with hlt | hlt
      · exact this k' k h3 h1 hlt (h4.trans h2.symm)
      · exact this k k' h1 h3 hlt (h2.trans h4.symm)
    rw [this]

def ADef.sub (f : Nat → Sb) (d : ADef) : ADef := ⟨d.f, d.captured.map (AV.sub f), d.args.map (AV.sub f)⟩
def AAct.sub (f : Nat → Sb) (a : AAct) : AAct := ⟨a.tmps.map (AV.sub f), a.defers.map (ADef.sub f)⟩
def ARes.sub (f : Nat → Sb) : ARes → ARes
  | .ret x => .ret (x.sub f)
  | .pan x => .pan (x.sub f)

theorem ActR.sub {c c' : Cx} {f : Nat → Sb} (hf : Subs c c' f) {a : AAct} {act : Act} (h : ActR c a act) : ActR c' (a.sub f) act := by
  refine ⟨h.tmps.sub hf, ?_⟩
  have : ∀ {ds : List ADef} {Ds : List Deferred}, DefsR c ds Ds → DefsR c' (ds.map (ADef.sub f)) Ds := fun {ds Ds} hd => by
    induction hd with
    | nil => exact .nil
    | cons h _ ih =>
      obtain ⟨vs, h1, h2, h3⟩ := h
      exact .cons ⟨vs, h1, h2.sub hf, h3.sub hf⟩ ih
  exact this h.defers

theorem ResR.sub {c c' : Cx} {f : Nat → Sb} (hf : Subs c c' f) {r : ARes} {e : Ending} (h : ResR c r e) : ResR c' (r.sub f) e := by
  cases h with
  | ret h => exact .ret (h.sub hf)
  | pan h => exact .pan (h.sub hf)

theorem ResR.mono {c c' : Cx} (hle : Le c c') {r : ARes} {e : Ending} (h : ResR c r e) : ResR c' r e := by
  cases h with
  | ret h => exact .ret (h.mono hle)
  | pan h => exact .pan (h.mono hle)

section
variable {P : Program}

theorem AStk.freeze {h0 : AH} {k : List It} {a : AAct} {h : AH} {K : AExit → AAct → AH → Prop} (id : Nat) {sz : Nat} {es : List (List AV)} {lk : Bool} (hid : h[id]? = some (.arr sz es lk))
    (hh : AStk P h0 k (a.sub (frz id sz es)) (AH.freeze h id sz es) K) : AStk P h0 k a h K := by
  intro c0 c act hd he hs ha
  obtain ⟨c', e1, e2, e3, e4, e5⟩ := hs.freeze hid
  rw [← e1]
  exact hh c0 c' act hd (he.trans e2) e3 ((ha.mono e5).sub e4)

theorem ACalls.freeze {f : FuncId} {args : List AV} {h : AH} {K : ARes → AH → Prop} (id : Nat) {sz : Nat} {es : List (List AV)} {lk : Bool} (hid : h[id]? = some (.arr sz es lk))
    (hh : ACalls P f (args.map (AV.sub (frz id sz es))) (AH.freeze h id sz es) K) : ACalls P f args h K := by
  intro c vs hs hv
  obtain ⟨c', e1, e2, e3, e4, e5⟩ := hs.freeze hid
  rw [← e1]
  refine (hh c' vs e3 ((hv.mono e5).sub e4)).mono fun e w ⟨c2, h2, r, q1, q2, q3, q4, q5⟩ => ⟨c2, h2, r, q1, e2.trans q2, q3, q4, q5⟩

/-- The blocks that are kept, in a row. -/
def keep (m : Nat) (ks : List Nat) : Nat → Sb := fun i => if i < m then .to i else match pos ks i with
  | some j => .to (m + j)
  | none => .gone

def AH.keep (h : AH) (m : Nat) (ks : List Nat) : AH := (h.take m ++ ks.map fun i => h.getD i .dead).map (AB.sub (Vm.keep m ks))

theorem AStk.gc {h0 : AH} {k : List It} {a : AAct} {h : AH} {K : AExit → AAct → AH → Prop} (ks : List Nat) (hm : h0.length ≤ h.length) (hn : ks.Nodup) (hks : ∀ i ∈ ks, h0.length ≤ i ∧ i < h.length)
    (hh : AStk P h0 k (a.sub (Vm.keep h0.length ks)) (AH.keep h h0.length ks) K) : AStk P h0 k a h K := by
  intro c0 c act hd he hs ha
  let φ' : Nat → Option Loc := fun j => if j < h0.length then c.φ j else (ks[j - h0.length]?).bind c.φ
  have hsub : Subs c ⟨φ', c.L, c.w⟩ (Vm.keep h0.length ks) := by
    refine ⟨fun i j l a b => ?_, fun i sz es l a b => ?_, fun _ => Nat.le_refl _, fun _ _ _ => rfl⟩
    · unfold Vm.keep at a
      split at a
      · rename_i hlt; cases a; show φ' i = some l; simp only [φ', hlt, if_true]; exact b
      · split at a
        · rename_i k hp
          cases a
          show φ' (h0.length + k) = some l
          have := pos_some hp
          have hno : ¬ (h0.length + k < h0.length) := by omega
          simp only [φ', hno, if_false, Nat.add_sub_cancel_left, this, Option.bind_some]
          exact b
        · cases a
    · unfold Vm.keep at a
      split at a
      · cases a
      · split at a <;> cases a
  have hlen : (h.take h0.length).length = h0.length := by simp; omega
  have hget : ∀ j b, (AH.keep h h0.length ks)[j]? = some b → ∃ i b', h[i]? = some b' ∧ b = b'.sub (Vm.keep h0.length ks) ∧ φ' j = c.φ i ∧ ((j < h0.length ∧ i = j) ∨ (h0.length ≤ j ∧ ks[j - h0.length]? = some i)) := by
    intro j b hb
    unfold AH.keep at hb
    rw [List.getElem?_map, Option.map_eq_some_iff] at hb
    obtain ⟨b', hb, rfl⟩ := hb
    rcases Nat.lt_or_ge j h0.length with hj | hj
    · rw [List.getElem?_append_left (by rw [hlen]; exact hj), List.getElem?_take_of_lt hj] at hb
      exact ⟨j, b', hb, rfl, by simp [φ', hj], .inl ⟨hj, rfl⟩⟩
    · rw [List.getElem?_append_right (by rw [hlen]; exact hj), hlen, List.getElem?_map, Option.map_eq_some_iff] at hb
      obtain ⟨i, hi, hb⟩ := hb
      have hilt := (hks i (List.mem_of_getElem? hi)).2
      have hno : ¬ (j < h0.length) := by omega
      refine ⟨i, b', ?_, rfl, by simp [φ', hno, hi], .inr ⟨hj, hi⟩⟩
      rw [List.getElem?_eq_getElem hilt]
      simpa [List.getD_eq_getElem?_getD, hilt] using hb
  have hlive : ∀ j, liveAt (AH.keep h h0.length ks) j → ∃ i, liveAt h i ∧ φ' j = c.φ i ∧ ((j < h0.length ∧ i = j) ∨ (h0.length ≤ j ∧ ks[j - h0.length]? = some i)) := fun j ⟨b, e1, e2⟩ => by
    obtain ⟨i, b', g1, g2, g3, g4⟩ := hget j b e1
    subst g2
    exact ⟨i, ⟨b', g1, AB.sub_live e2⟩, g3, g4⟩
  refine hh c0 ⟨φ', c.L, c.w⟩ act hd ⟨⟨fun i l e => ?_, he.le.L, he.le.cell⟩, he.size, he.frame, fun b ⟨j, l, hj, e, hb⟩ => ?_, he.os, he.tape, he.output⟩ ⟨fun j hj => ?_, fun j b e1 e2 => ?_, fun i j li lj hi hj hij ei ej => ?_, hs.lock⟩ (ha.sub hsub)
  · have hlt : i < h0.length := by
      rcases Nat.lt_or_ge i h0.length with h' | h'
      · exact h'
      · rw [hd i h'] at e; cases e
    show φ' i = some l
    simp only [φ', hlt, if_true]
    exact he.le.φ i l e
  · obtain ⟨i, g1, g2, _⟩ := hlive j hj
    exact he.own b ⟨i, l, g1, by rw [← g2]; exact e, hb⟩
  · have hj' : h0.length + ks.length ≤ j := by unfold AH.keep at hj; simp at hj; omega
    show φ' j = none
    have hno : ¬ (j < h0.length) := by omega
    simp only [φ', hno, if_false]
    rw [List.getElem?_eq_none (by omega)]; rfl
  · obtain ⟨i, b', g1, g2, g3, g4⟩ := hget j b e1
    subst g2
    obtain ⟨l, f1, f2, f3⟩ := hs.blk i b' g1 (AB.sub_live e2)
    exact ⟨l, g3.trans f1, f2, f3.sub hsub rfl rfl⟩
  · obtain ⟨i', g1, g2, g3⟩ := hlive i hi
    obtain ⟨j', f1, f2, f3⟩ := hlive j hj
    refine hs.inj i' j' li lj g1 f1 (fun hee => hij ?_) (g2.symm.trans ei) (f2.symm.trans ej)
    subst hee
    rcases g3 with ⟨a1, a2⟩ | ⟨a1, a2⟩ <;> rcases f3 with ⟨b1, b2⟩ | ⟨b1, b2⟩
    · omega
    · have := (hks i' (List.mem_of_getElem? b2)).1; omega
    · have := (hks i' (List.mem_of_getElem? a2)).1; omega
    · have p1 := pos_get hn a2
      have p2 := pos_get hn b2
      rw [p1] at p2
      have := Option.some.inj p2
      omega

/-! ### A call whose contract speaks of a few blocks -/
def inn (ids : List Nat) : Nat → Sb := fun i => match pos ids i with
  | some k => .to k
  | none => .gone

def out (ids : List Nat) (n : Nat) : Nat → Sb := fun k => match ids[k]? with
  | some i => .to i
  | none => .to (n + (k - ids.length))

def putB : AH → List Nat → AH → AH
  | h, i :: ids, b :: bs => putB (h.set i b) ids bs
  | h, _, _ => h

def AH.back (h : AH) (ids : List Nat) (h1 : AH) : AH := putB h ids (h1.map (AB.sub (out ids h.length))) ++ (h1.drop ids.length).map (AB.sub (out ids h.length))

theorem putB_length : ∀ (ids : List Nat) (h bs : AH), (putB h ids bs).length = h.length
  | [], h, bs => by cases bs <;> rfl
  | i :: ids, h, [] => rfl
  | i :: ids, h, b :: bs => by simp only [putB]; rw [putB_length]; simp

theorem putB_get : ∀ (ids : List Nat) (h bs : AH), ids.Nodup → ids.length ≤ bs.length → ∀ j, j < h.length → (putB h ids bs)[j]? = match pos ids j with
    | some k => bs[k]?
    | none => h[j]?
  | [], h, bs, _, _, j, _ => by cases bs <;> simp [putB, pos]
  | i :: ids, h, [], _, hl, j, _ => by simp at hl
  | i :: ids, h, b :: bs, hn, hl, j, hj => by
    rw [List.nodup_cons] at hn
    simp only [putB]
    rw [putB_get ids _ bs hn.2 (by simpa using hl) j (by simpa using hj)]
    simp only [pos]
    by_cases hji : j = i
    · subst hji
      have : pos ids j = none := by
        cases hp : pos ids j with
        | none => rfl
        | some k => exact absurd (List.mem_of_getElem? (pos_some hp)) hn.1
      rw [this]
      simp [List.getElem?_set_self hj]
    · rw [if_neg hji]
      cases hp : pos ids j with
      | none => simp only; rw [List.getElem?_set_ne (Ne.symm hji)]
      | some k => simp

theorem ACalls.at {f : FuncId} {args xs : List AV} {h hf : AH} {K0 K : ARes → AH → Prop} (ids : List Nat) (hh : ACalls P f xs hf K0) (hargs : args.map (AV.sub (inn ids)) = xs)
    (hhf : ids.map (fun i => (h.getD i .dead).sub (inn ids)) = hf) (hnd : ids.Nodup) (hlive : ∀ i ∈ ids, (h.getD i .dead).live = true)
    (hk : ∀ r h1, K0 r h1 → hf.length ≤ h1.length ∧ K (r.sub (out ids h.length)) (h.back ids h1)) : ACalls P f args h K := by
  intro c vs hs hv
  have hlv : ∀ (k i : Nat), ids[k]? = some i → ∃ b l, h[i]? = some b ∧ b.live = true ∧ c.φ i = some l ∧ l.b < c.w.heap.size ∧ BR c l b ∧ i < h.length := fun k i hi => by
    have h1 := hlive i (List.mem_of_getElem? hi)
    cases hb : h[i]? with
    | none => rw [List.getD_eq_getElem?_getD, hb] at h1; cases h1
    | some b =>
      rw [List.getD_eq_getElem?_getD, hb] at h1
      obtain ⟨l, f1, f2, f3⟩ := hs.blk i b hb h1
      exact ⟨b, l, rfl, h1, f1, f2, f3, (List.getElem?_eq_some_iff.1 hb).1⟩
  let cf : Cx := ⟨fun k => (ids[k]?).bind c.φ, c.L, c.w⟩
  have hin : Subs c cf (inn ids) := by
    refine ⟨fun i j l a b => ?_, fun i sz es l a b => ?_, fun _ => Nat.le_refl _, fun _ _ _ => rfl⟩
    · unfold inn at a
      cases hp : pos ids i with
      | none => rw [hp] at a; cases a
      | some k => rw [hp] at a; cases a; show (ids[j]?).bind c.φ = some l; rw [pos_some hp]; exact b
    · unfold inn at a
      split at a <;> cases a
  have hlenf : hf.length = ids.length := by rw [← hhf]; simp
  have hgetf : ∀ k b, hf[k]? = some b → ∃ (i : Nat) (b' : AB), ids[k]? = some i ∧ h[i]? = some b' ∧ b = b'.sub (inn ids) := fun k b hb => by
    rw [← hhf, List.getElem?_map, Option.map_eq_some_iff] at hb
    obtain ⟨i, hi, rfl⟩ := hb
    obtain ⟨b', l, e1, _⟩ := hlv k i hi
    exact ⟨i, b', hi, e1, by rw [List.getD_eq_getElem?_getD, e1]; rfl⟩
  have hsf : Sim cf hf := by
    refine ⟨fun k hk => ?_, fun k b e1 e2 => ?_, fun k j lk lj hk hj hkj ek ej => ?_, hs.lock⟩
    · show (ids[k]?).bind c.φ = none
      rw [List.getElem?_eq_none (by omega)]; rfl
    · obtain ⟨i, b', g1, g2, rfl⟩ := hgetf k b e1
      obtain ⟨l, f1, f2, f3⟩ := hs.blk i b' g2 (AB.sub_live e2)
      exact ⟨l, by show (ids[k]?).bind c.φ = some l; rw [g1]; exact f1, f2, f3.sub hin rfl rfl⟩
    · obtain ⟨bk, a1, a2⟩ := hk
      obtain ⟨bj, a3, a4⟩ := hj
      obtain ⟨i1, b1, g1, g2, rfl⟩ := hgetf k bk a1
      obtain ⟨i2, b2, g3, g4, rfl⟩ := hgetf j bj a3
      have ek' : (ids[k]?).bind c.φ = some lk := ek
      have ej' : (ids[j]?).bind c.φ = some lj := ej
      rw [g1] at ek'
      rw [g3] at ej'
      refine hs.inj i1 i2 lk lj ⟨b1, g2, AB.sub_live a2⟩ ⟨b2, g4, AB.sub_live a4⟩ (fun he => hkj ?_) ek' ej'
      subst he
      have p1 := pos_get hnd g1
      have p2 := pos_get hnd g3
      rw [p1] at p2
      exact Option.some.inj p2
  have hownf : ∀ b, Owns cf hf b → ∃ k i l, ids[k]? = some i ∧ liveAt h i ∧ c.φ i = some l ∧ l.b = b := fun b ⟨k, l, ⟨bk, a1, a2⟩, e, hb⟩ => by
    obtain ⟨i, b', g1, g2, rfl⟩ := hgetf k bk a1
    have e' : (ids[k]?).bind c.φ = some l := e
    rw [g1] at e'
    exact ⟨k, i, l, g1, ⟨b', g2, AB.sub_live a2⟩, e', hb⟩
  have hvf : VRs cf xs vs.toList := by rw [← hargs]; exact hv.sub hin
  refine (hh cf vs hsf hvf).mono fun e w ⟨c1, h1, r, q1, q2, q3, q4, q5⟩ => ?_
  subst q1
  obtain ⟨k1, k2⟩ := hk r h1 q5
  let φ2 : Nat → Option Loc := fun i => if i < h.length then c.φ i else c1.φ (ids.length + (i - h.length))
  have hle : Le c ⟨φ2, c1.L, c1.w⟩ := by
    refine ⟨fun i l e => ?_, q2.le.L, q2.le.cell⟩
    have hlt : i < h.length := by
      rcases Nat.lt_or_ge i h.length with h' | h'
      · exact h'
      · rw [hs.dom i h'] at e; cases e
    show φ2 i = some l
    simp only [φ2, hlt, if_true]; exact e
  have hfix : ∀ k i, ids[k]? = some i → c1.φ k = c.φ i := fun k i hi => by
    obtain ⟨b, l, g1, g2, g3, g4, g5, g6⟩ := hlv k i hi
    rw [g3]
    exact q2.le.φ k l (by show (ids[k]?).bind c.φ = some l; rw [hi]; exact g3)
  have hout : Subs c1 ⟨φ2, c1.L, c1.w⟩ (out ids h.length) := by
    refine ⟨fun k j l a b => ?_, fun i sz es l a b => ?_, fun _ => Nat.le_refl _, fun _ _ _ => rfl⟩
    · unfold out at a
      cases hi : ids[k]? with
      | some i =>
        rw [hi] at a; cases a
        obtain ⟨_, l', _, _, _, _, _, g6⟩ := hlv k j hi
        show φ2 j = some l
        simp only [φ2, g6, if_true]
        rw [← hfix k j hi]; exact b
      | none =>
        have hno := hi
        rw [hi] at a; cases a
        have := List.getElem?_eq_none_iff.1 hno
        show φ2 _ = some l
        have h' : ¬ (h.length + (k - ids.length) < h.length) := by omega
        simp only [φ2, h', if_false]
        rw [show ids.length + (h.length + (k - ids.length) - h.length) = k by omega]
        exact b
    · unfold out at a
      split at a <;> cases a
  have hmlen : (h1.map (AB.sub (out ids h.length))).length = h1.length := by simp
  have hback : ∀ i b, (h.back ids h1)[i]? = some b → (i < h.length ∧ i ∉ ids ∧ h[i]? = some b) ∨ ∃ k b', h1[k]? = some b' ∧ b = b'.sub (out ids h.length) ∧ φ2 i = c1.φ k ∧ (ids[k]? = some i ∨ (h.length ≤ i ∧ k = ids.length + (i - h.length))) := by
    intro i b hb
    unfold AH.back at hb
    rcases Nat.lt_or_ge i h.length with hi | hi
    · rw [List.getElem?_append_left (by rw [putB_length]; exact hi), putB_get ids h _ hnd (by rw [hmlen]; omega) i hi] at hb
      split at hb
      · rename_i k hp
        rw [List.getElem?_map, Option.map_eq_some_iff] at hb
        obtain ⟨b', g1, rfl⟩ := hb
        have hki := pos_some hp
        exact .inr ⟨k, b', g1, rfl, by simp only [φ2, hi, if_true]; exact (hfix k i hki).symm, .inl hki⟩
      · rename_i hp
        exact .inl ⟨hi, pos_none hp, hb⟩
    · rw [List.getElem?_append_right (by rw [putB_length]; exact hi), putB_length, List.getElem?_map, Option.map_eq_some_iff] at hb
      obtain ⟨b', g1, rfl⟩ := hb
      rw [List.getElem?_drop] at g1
      have h' : ¬ (i < h.length) := by omega
      exact .inr ⟨ids.length + (i - h.length), b', g1, rfl, by simp only [φ2, h', if_false], .inr ⟨hi, rfl⟩⟩
  have hblk : ∀ i, liveAt (h.back ids h1) i → (i < h.length ∧ i ∉ ids ∧ liveAt h i ∧ φ2 i = c.φ i) ∨ ∃ k, liveAt h1 k ∧ φ2 i = c1.φ k ∧ (ids[k]? = some i ∨ (h.length ≤ i ∧ k = ids.length + (i - h.length))) := fun i ⟨b, e1, e2⟩ => by
    rcases hback i b e1 with ⟨g1, g2, g3⟩ | ⟨k, b', g1, rfl, g3, g4⟩
    · exact .inl ⟨g1, g2, ⟨b, g3, e2⟩, by simp only [φ2, g1, if_true]⟩
    · exact .inr ⟨k, ⟨b', g1, AB.sub_live e2⟩, g3, g4⟩
  have hapart : ∀ i k li lk, i ∉ ids → liveAt h i → c.φ i = some li → liveAt h1 k → c1.φ k = some lk → li.b ≠ lk.b := by
    intro i k li lk hi hl e1 hk e2 hne
    obtain ⟨bi, a1, a2⟩ := hl
    obtain ⟨l', f1, f2, _⟩ := hs.blk i bi a1 a2
    rw [e1] at f1; cases f1
    rcases q2.own lk.b ⟨k, lk, hk, e2, rfl⟩ with h' | h'
    · have : c.w.heap.size ≤ lk.b := h'
      omega
    · obtain ⟨k', i', l', g1, g2, g3, g4⟩ := hownf _ h'
      exact hs.inj i i' li l' ⟨bi, a1, a2⟩ g2 (fun he => hi (he ▸ List.mem_of_getElem? g1)) e1 g3 (hne.trans g4.symm)
  refine ⟨⟨φ2, c1.L, c1.w⟩, h.back ids h1, _, rfl, ⟨hle, q2.size, fun b hb hno => q2.frame b hb fun ho => ?_, fun b ⟨i, l, hi, e, hb⟩ => ?_, q2.os, q2.tape, q2.output⟩, ⟨fun i hi => ?_, fun i b e1 e2 => ?_, fun i j li lj hi hj hij ei ej => ?_, q3.lock⟩, q4.sub hout, k2⟩
  · obtain ⟨k, i, l, g1, g2, g3, g4⟩ := hownf _ ho
    exact hno ⟨i, l, g2, g3, g4⟩
  · rcases hblk i hi with ⟨g1, g2, g3, g4⟩ | ⟨k, g1, g2, g3⟩
    · exact .inr ⟨i, l, g3, g4.symm.trans e, hb⟩
    · rcases q2.own b ⟨k, l, g1, g2.symm.trans e, hb⟩ with h' | h'
      · exact .inl h'
      · obtain ⟨k', i', l', f1, f2, f3, f4⟩ := hownf _ h'
        exact .inr ⟨i', l', f2, f3, f4⟩
  · have hi' : h.length ≤ i ∧ h1.length ≤ ids.length + (i - h.length) := by
      unfold AH.back at hi
      simp only [List.length_append, putB_length, List.length_map, List.length_drop] at hi
      omega
    show φ2 i = none
    have h' : ¬ (i < h.length) := by omega
    simp only [φ2, h', if_false]
    exact q3.dom _ hi'.2
  · rcases hback i b e1 with ⟨g1, g2, g3⟩ | ⟨k, b', g1, rfl, g3, g4⟩
    · obtain ⟨l, f1, f2, f3⟩ := hs.blk i b g3 e2
      have hno : ¬ Owns cf hf l.b := fun ho => by
        obtain ⟨k', i', l', g1', g2', g3', g4'⟩ := hownf _ ho
        exact hs.inj i i' l l' ⟨b, g3, e2⟩ g2' (fun he => g2 (he ▸ List.mem_of_getElem? g1')) f1 g3' g4'.symm
      obtain ⟨m1, m2⟩ := q2.frame l.b f2 hno
      exact ⟨l, by show φ2 i = some l; simp only [φ2, g1, if_true]; exact f1, Nat.lt_of_lt_of_le f2 q2.size, f3.mono hle m1 m2⟩
    · obtain ⟨l, f1, f2, f3⟩ := q3.blk k b' g1 (AB.sub_live e2)
      exact ⟨l, g3.trans f1, f2, f3.sub hout rfl rfl⟩
  · rcases hblk i hi with ⟨g1, g2, g3, g4⟩ | ⟨k, g1, g2, g3⟩ <;> rcases hblk j hj with ⟨f1, f2, f3, f4⟩ | ⟨k', f1, f2, f3⟩
    · exact hs.inj i j li lj g3 f3 hij (g4.symm.trans ei) (f4.symm.trans ej)
    · exact hapart i k' li lj g2 g3 (g4.symm.trans ei) f1 (f2.symm.trans ej)
    · exact fun he => hapart j k lj li f2 f3 (f4.symm.trans ej) g1 (g2.symm.trans ei) he.symm
    · refine q3.inj k k' li lj g1 f1 (fun he => hij ?_) (g2.symm.trans ei) (f2.symm.trans ej)
      subst he
      rcases g3 with a | ⟨a1, a2⟩ <;> rcases f3 with b | ⟨b1, b2⟩
      · rw [a] at b; exact Option.some.inj b
      · have := (List.getElem?_eq_some_iff.1 a).1; omega
      · have := (List.getElem?_eq_some_iff.1 b).1; omega
      · omega

end
end Go.Vm
