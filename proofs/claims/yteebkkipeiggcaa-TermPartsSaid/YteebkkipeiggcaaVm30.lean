/- The abstract machine, part 30: regions that draw their order and hold one call that turns some blocks. -/
import Derived.Test.YteebkkipeiggcaaVm27
set_option linter.unusedVariables false
set_option linter.unusedSimpArgs false
namespace Go.Vm
open Go

section
variable {P : Program}

/-- A call whose contract speaks of a few blocks, with the places kept. -/
theorem ACalls.atφ {f : FuncId} {args xs : List AV} {h hf : AH} {K0 : ARes → AH → Prop} (ids : List Nat) (hh : ACalls P f xs hf K0) (hargs : args.map (AV.sub (inn ids)) = xs)
    (hhf : ids.map (fun i => (h.getD i .dead).sub (inn ids)) = hf) (hnd : ids.Nodup) (hid : ∀ i ∈ ids, i < h.length)
    (hk : ∀ r h1, K0 r h1 → hf.length ≤ h1.length) {c : Cx} {vs : Array Value} (hs : Sim c h) (hv : VRs c args vs.toList) :
    Calls P f vs c.w fun e w => ∃ (c' : Cx) (h1 : AH) (r : ARes), c'.w = w ∧ K0 r h1 ∧ Ext c h c' (h.back ids h1) ∧ Sim c' (h.back ids h1) ∧ ResR c' (r.sub (out ids h.length)) e ∧ ∀ i, i < h.length → i ∉ ids → c'.φ i = c.φ i := by
  have hlv : ∀ (k i : Nat), ids[k]? = some i → ∃ b, h[i]? = some b ∧ i < h.length := fun k i hi => by
    have h1 := hid i (List.mem_of_getElem? hi)
    exact ⟨_, List.getElem?_eq_getElem h1, h1⟩
  let cf : Cx := ⟨fun k => (ids[k]?).bind c.φ, c.L, c.w⟩
  have hin : Subs c cf (inn ids) := by
    refine ⟨fun i j l a b => ?_, fun i sz es l a b => ?_, fun _ => Nat.le_refl _, fun _ _ _ => rfl⟩
    · unfold inn at a
      cases hp : pos ids i with
      | none => rw [hp] at a; cases a
      | some k => rw [hp] at a; cases a; show (ids[j]?).bind c.φ = some l; rw [pos_some hp]; exact b
    · unfold inn at a
      split at a <;> cases a
  have hlenf : hf.length = ids.length := by rw [← hhf]; simp
  have hgetf : ∀ k b, hf[k]? = some b → ∃ (i : Nat) (b' : AB), ids[k]? = some i ∧ h[i]? = some b' ∧ b = b'.sub (inn ids) := fun k b hb => by
    rw [← hhf, List.getElem?_map, Option.map_eq_some_iff] at hb
    obtain ⟨i, hi, rfl⟩ := hb
    obtain ⟨b', e1, _⟩ := hlv k i hi
    exact ⟨i, b', hi, e1, by rw [List.getD_eq_getElem?_getD, e1]; rfl⟩
  have hsf : Sim cf hf := by
    refine ⟨fun k hk => ?_, fun k b e1 e2 => ?_, fun k j lk lj hk hj hkj ek ej => ?_, hs.lock⟩
    · show (ids[k]?).bind c.φ = none
      rw [List.getElem?_eq_none (by omega)]; rfl
    · obtain ⟨i, b', g1, g2, rfl⟩ := hgetf k b e1
      obtain ⟨l, f1, f2, f3⟩ := hs.blk i b' g2 (AB.sub_live e2)
      exact ⟨l, by show (ids[k]?).bind c.φ = some l; rw [g1]; exact f1, f2, f3.sub hin rfl rfl⟩
    · obtain ⟨bk, a1, a2⟩ := hk
      obtain ⟨bj, a3, a4⟩ := hj
      obtain ⟨i1, b1, g1, g2, rfl⟩ := hgetf k bk a1
      obtain ⟨i2, b2, g3, g4, rfl⟩ := hgetf j bj a3
      have ek' : (ids[k]?).bind c.φ = some lk := ek
      have ej' : (ids[j]?).bind c.φ = some lj := ej
      rw [g1] at ek'
      rw [g3] at ej'
      refine hs.inj i1 i2 lk lj ⟨b1, g2, AB.sub_live a2⟩ ⟨b2, g4, AB.sub_live a4⟩ (fun he => hkj ?_) ek' ej'
      subst he
      have p1 := pos_get hnd g1
      have p2 := pos_get hnd g3
      rw [p1] at p2
      exact Option.some.inj p2
  have hownf : ∀ b, Owns cf hf b → ∃ k i l, ids[k]? = some i ∧ liveAt h i ∧ c.φ i = some l ∧ l.b = b := fun b ⟨k, l, ⟨bk, a1, a2⟩, e, hb⟩ => by
    obtain ⟨i, b', g1, g2, rfl⟩ := hgetf k bk a1
    have e' : (ids[k]?).bind c.φ = some l := e
    rw [g1] at e'
    exact ⟨k, i, l, g1, ⟨b', g2, AB.sub_live a2⟩, e', hb⟩
  have hvf : VRs cf xs vs.toList := by rw [← hargs]; exact hv.sub hin
  refine (hh cf vs hsf hvf).mono fun e w ⟨c1, h1, r, q1, q2, q3, q4, q5⟩ => ?_
  subst q1
  have k1 := hk r h1 q5
  let φ2 : Nat → Option Loc := fun i => match pos ids i with
    | some k => c1.φ k
    | none => if i < h.length then c.φ i else c1.φ (ids.length + (i - h.length))
  have hφin : ∀ k i, ids[k]? = some i → φ2 i = c1.φ k := fun k i hi => by simp only [φ2, pos_get hnd hi]
  have hposn : ∀ i, i ∉ ids → pos ids i = none := fun i hi => by
    cases hp : pos ids i with
    | none => rfl
    | some k => exact absurd (List.mem_of_getElem? (pos_some hp)) hi
  have hφno : ∀ i, i < h.length → i ∉ ids → φ2 i = c.φ i := fun i hi hno => by simp only [φ2, hposn i hno, hi, if_true]
  have hφbig : ∀ i, h.length ≤ i → φ2 i = c1.φ (ids.length + (i - h.length)) := fun i hi => by
    have h' : ¬ (i < h.length) := by omega
    simp only [φ2, hposn i (fun hm => h' (hid i hm)), h', if_false]
  have hle : Le c ⟨φ2, c1.L, c1.w⟩ := by
    refine ⟨fun i l e => ?_, q2.le.L, q2.le.cell⟩
    have hlt : i < h.length := by
      rcases Nat.lt_or_ge i h.length with h' | h'
      · exact h'
      · rw [hs.dom i h'] at e; cases e
    show φ2 i = some l
    cases hp : pos ids i with
    | none => rw [hφno i hlt (pos_none hp)]; exact e
    | some k =>
      have hki := pos_some hp
      rw [hφin k i hki]
      exact q2.le.φ k l (by show (ids[k]?).bind c.φ = some l; rw [hki]; exact e)
  have hout : Subs c1 ⟨φ2, c1.L, c1.w⟩ (out ids h.length) := by
    refine ⟨fun k j l a b => ?_, fun i sz es l a b => ?_, fun _ => Nat.le_refl _, fun _ _ _ => rfl⟩
    · unfold out at a
      cases hi : ids[k]? with
      | some i =>
        rw [hi] at a; cases a
        show φ2 j = some l
        rw [hφin k j hi]; exact b
      | none =>
        have hno := hi
        rw [hi] at a; cases a
        have := List.getElem?_eq_none_iff.1 hno
        show φ2 _ = some l
        rw [hφbig _ (by omega), show ids.length + (h.length + (k - ids.length) - h.length) = k by omega]
        exact b
    · unfold out at a
      split at a <;> cases a
  have hmlen : (h1.map (AB.sub (out ids h.length))).length = h1.length := by simp
  have hback : ∀ i b, (h.back ids h1)[i]? = some b → (i < h.length ∧ i ∉ ids ∧ h[i]? = some b) ∨ ∃ k b', h1[k]? = some b' ∧ b = b'.sub (out ids h.length) ∧ φ2 i = c1.φ k ∧ (ids[k]? = some i ∨ (h.length ≤ i ∧ k = ids.length + (i - h.length))) := by
    intro i b hb
    unfold AH.back at hb
    rcases Nat.lt_or_ge i h.length with hi | hi
    · rw [List.getElem?_append_left (by rw [putB_length]; exact hi), putB_get ids h _ hnd (by rw [hmlen]; omega) i hi] at hb
      split at hb
      · rename_i k hp
        rw [List.getElem?_map, Option.map_eq_some_iff] at hb
        obtain ⟨b', g1, rfl⟩ := hb
        have hki := pos_some hp
        exact .inr ⟨k, b', g1, rfl, hφin k i hki, .inl hki⟩
      · rename_i hp
        exact .inl ⟨hi, pos_none hp, hb⟩
    · rw [List.getElem?_append_right (by rw [putB_length]; exact hi), putB_length, List.getElem?_map, Option.map_eq_some_iff] at hb
      obtain ⟨b', g1, rfl⟩ := hb
      rw [List.getElem?_drop] at g1
      exact .inr ⟨ids.length + (i - h.length), b', g1, rfl, hφbig i hi, .inr ⟨hi, rfl⟩⟩
  have hblk : ∀ i, liveAt (h.back ids h1) i → (i < h.length ∧ i ∉ ids ∧ liveAt h i ∧ φ2 i = c.φ i) ∨ ∃ k, liveAt h1 k ∧ φ2 i = c1.φ k ∧ (ids[k]? = some i ∨ (h.length ≤ i ∧ k = ids.length + (i - h.length))) := fun i ⟨b, e1, e2⟩ => by
    rcases hback i b e1 with ⟨g1, g2, g3⟩ | ⟨k, b', g1, rfl, g3, g4⟩
    · exact .inl ⟨g1, g2, ⟨b, g3, e2⟩, hφno i g1 g2⟩
    · exact .inr ⟨k, ⟨b', g1, AB.sub_live e2⟩, g3, g4⟩
  have hapart : ∀ i k li lk, i ∉ ids → liveAt h i → c.φ i = some li → liveAt h1 k → c1.φ k = some lk → li.b ≠ lk.b := by
    intro i k li lk hi hl e1 hk e2 hne
    obtain ⟨bi, a1, a2⟩ := hl
    obtain ⟨l', f1, f2, _⟩ := hs.blk i bi a1 a2
    rw [e1] at f1; cases f1
    rcases q2.own lk.b ⟨k, lk, hk, e2, rfl⟩ with h' | h'
    · have : c.w.heap.size ≤ lk.b := h'
      omega
    · obtain ⟨k', i', l', g1, g2, g3, g4⟩ := hownf _ h'
      exact hs.inj i i' li l' ⟨bi, a1, a2⟩ g2 (fun he => hi (he ▸ List.mem_of_getElem? g1)) e1 g3 (hne.trans g4.symm)
  refine ⟨⟨φ2, c1.L, c1.w⟩, h1, r, rfl, q5, ⟨hle, q2.size, fun b hb hno => q2.frame b hb fun ho => ?_, fun b ⟨i, l, hi, e, hb⟩ => ?_, q2.os, q2.tape, q2.output⟩, ⟨fun i hi => ?_, fun i b e1 e2 => ?_, fun i j li lj hi hj hij ei ej => ?_, q3.lock⟩, q4.sub hout, fun i hi hno => hφno i hi hno⟩
  · obtain ⟨k, i, l, g1, g2, g3, g4⟩ := hownf _ ho
    exact hno ⟨i, l, g2, g3, g4⟩
  · rcases hblk i hi with ⟨g1, g2, g3, g4⟩ | ⟨k, g1, g2, g3⟩
    · exact .inr ⟨i, l, g3, g4.symm.trans e, hb⟩
    · rcases q2.own b ⟨k, l, g1, g2.symm.trans e, hb⟩ with h' | h'
      · exact .inl h'
      · obtain ⟨k', i', l', f1, f2, f3, f4⟩ := hownf _ h'
        exact .inr ⟨i', l', f2, f3, f4⟩
  · have hi' : h.length ≤ i ∧ h1.length ≤ ids.length + (i - h.length) := by
      unfold AH.back at hi
      simp only [List.length_append, putB_length, List.length_map, List.length_drop] at hi
      omega
    show φ2 i = none
    rw [hφbig i hi'.1]
    exact q3.dom _ hi'.2
  · rcases hback i b e1 with ⟨g1, g2, g3⟩ | ⟨k, b', g1, rfl, g3, g4⟩
    · obtain ⟨l, f1, f2, f3⟩ := hs.blk i b g3 e2
      have hno : ¬ Owns cf hf l.b := fun ho => by
        obtain ⟨k', i', l', g1', g2', g3', g4'⟩ := hownf _ ho
        exact hs.inj i i' l l' ⟨b, g3, e2⟩ g2' (fun he => g2 (he ▸ List.mem_of_getElem? g1')) f1 g3' g4'.symm
      obtain ⟨m1, m2⟩ := q2.frame l.b f2 hno
      exact ⟨l, by show φ2 i = some l; rw [hφno i g1 g2]; exact f1, Nat.lt_of_lt_of_le f2 q2.size, f3.mono hle m1 m2⟩
    · obtain ⟨l, f1, f2, f3⟩ := q3.blk k b' g1 (AB.sub_live e2)
      exact ⟨l, g3.trans f1, f2, f3.sub hout rfl rfl⟩
  · rcases hblk i hi with ⟨g1, g2, g3, g4⟩ | ⟨k, g1, g2, g3⟩ <;> rcases hblk j hj with ⟨f1, f2, f3, f4⟩ | ⟨k', f1, f2, f3⟩
    · exact hs.inj i j li lj g3 f3 hij (g4.symm.trans ei) (f4.symm.trans ej)
    · exact hapart i k' li lj g2 g3 (g4.symm.trans ei) f1 (f2.symm.trans ej)
    · exact fun he => hapart j k lj li f2 f3 (f4.symm.trans ej) g1 (g2.symm.trans ei) he.symm
    · refine q3.inj k k' li lj g1 f1 (fun he => hij ?_) (g2.symm.trans ei) (f2.symm.trans ej)
      subst he
      rcases g3 with a | ⟨a1, a2⟩ <;> rcases f3 with b | ⟨b1, b2⟩
      · rw [a] at b; exact Option.some.inj b
      · have := (List.getElem?_eq_some_iff.1 a).1; omega
      · have := (List.getElem?_eq_some_iff.1 b).1; omega
      · omega

theorem ACalls.at2 {f : FuncId} {args xs : List AV} {h hf : AH} {K0 K : ARes → AH → Prop} (ids : List Nat) (hh : ACalls P f xs hf K0) (hargs : args.map (AV.sub (inn ids)) = xs)
    (hhf : ids.map (fun i => (h.getD i .dead).sub (inn ids)) = hf) (hnd : ids.Nodup) (hid : ∀ i ∈ ids, i < h.length)
    (hk : ∀ r h1, K0 r h1 → hf.length ≤ h1.length ∧ K (r.sub (out ids h.length)) (h.back ids h1)) : ACalls P f args h K := fun c vs hs hv =>
  (hh.atφ ids hargs hhf hnd hid (fun r h1 hr => (hk r h1 hr).1) hs hv).mono fun e w ⟨c', h1, r, q1, q2, q3, q4, q5, _⟩ => ⟨c', _, _, q1, q3, q4, q5, (hk r h1 q2).2⟩

/-- Some blocks fall away. -/
def kills : AH → List Nat → AH
  | h, [] => h
  | h, i :: ids => kills (h.set i .dead) ids

theorem kills_length : ∀ (ids : List Nat) (h : AH), (kills h ids).length = h.length
  | [], h => rfl
  | i :: ids, h => by simp only [kills]; rw [kills_length]; simp

theorem kills_get : ∀ (ids : List Nat) (h : AH) (k : Nat), k < h.length → (kills h ids)[k]? = if k ∈ ids then some .dead else h[k]?
  | [], h, k, _ => by simp [kills]
  | i :: ids, h, k, hk => by
    simp only [kills]
    rw [kills_get ids _ k (by simpa using hk)]
    by_cases hki : k = i
    · subst hki
      by_cases hm : k ∈ ids <;> simp [hm, hk]
    · by_cases hm : k ∈ ids
      · simp [hm]
      · rw [if_neg hm, if_neg (by simp [hki, hm]), List.getElem?_set_ne (Ne.symm hki)]

theorem back_get {h : AH} {ids : List Nat} {h1 : AH} (hnd : ids.Nodup) (hl : ids.length ≤ h1.length) {k : Nat} (hk : k < h.length) (hno : k ∉ ids) : (h.back ids h1)[k]? = h[k]? := by
  unfold AH.back
  rw [List.getElem?_append_left (by rw [putB_length]; exact hk), putB_get ids h _ hnd (by simpa using hl) k hk]
  split
  · rename_i j hj; exact absurd (List.mem_of_getElem? (pos_some hj)) hno
  · rfl

theorem back_congr {h h' : AH} {ids : List Nat} {h1 : AH} (hnd : ids.Nodup) (hl : ids.length ≤ h1.length) (hlen : h.length = h'.length) (hg : ∀ k, k < h.length → k ∉ ids → h[k]? = h'[k]?) : h.back ids h1 = h'.back ids h1 := by
  unfold AH.back
  rw [hlen]
  congr 1
  apply List.ext_getElem?
  intro k
  rcases Nat.lt_or_ge k h.length with hk | hk
  · rw [putB_get ids h _ hnd (by simpa using hl) k hk, putB_get ids h' _ hnd (by simpa using hl) k (by omega)]
    cases hp : pos ids k with
    | none => exact hg k hk (pos_none hp)
    | some j => rfl
  · rw [List.getElem?_eq_none (by rw [putB_length]; exact hk), List.getElem?_eq_none (by rw [putB_length]; omega)]

theorem back_set {h : AH} {ids : List Nat} {h1 : AH} (hnd : ids.Nodup) (hl : ids.length ≤ h1.length) {s : Nat} {b : AB} (hs : s < h.length) (hno : s ∉ ids) : (AH.back h ids h1).set s b = AH.back (h.set s b) ids h1 := by
  unfold AH.back
  rw [List.set_append_left _ _ (by rw [putB_length]; exact hs)]
  congr 1
  · apply List.ext_getElem?
    intro k
    rcases Nat.lt_or_ge k h.length with hk | hk
    · rw [putB_get ids (h.set s b) _ hnd (by simpa using hl) k (by simpa using hk)]
      by_cases hks : k = s
      · subst hks
        rw [List.getElem?_set_self (by rw [putB_length]; exact hk)]
        cases hp : pos ids k with
        | none => simp [hk]
        | some j => exact absurd (List.mem_of_getElem? (pos_some hp)) hno
      · rw [List.getElem?_set_ne (Ne.symm hks), putB_get ids h _ hnd (by simpa using hl) k hk, List.getElem?_set_ne (Ne.symm hks)]
        simp
    · rw [List.getElem?_eq_none (by rw [List.length_set, putB_length]; exact hk), List.getElem?_eq_none (by rw [putB_length]; simpa using hk)]
  · simp

variable {T : Tab} {F : FTab} {all : Array Oper} {p : Nat}

/-- The heap: as it would be without the call, and the call's blocks behind it. -/
def HeapE (h0 : AH) (vs : List (AV × Option AB)) (ids : List Nat) (hf1 : AH) (e : Nat) (done : Nat → Prop) (g : AH) (φ : Nat → Option Loc) : Prop :=
  ∃ g0, HeapAt h0 vs done g0 φ ∧ (done e → g = AH.back g0 ids hf1) ∧ (¬ done e → g = g0)

theorem HeapE.quiet {h0 g : AH} {vs : List (AV × Option AB)} {ids : List Nat} {hf1 : AH} {e : Nat} {done done' : Nat → Prop} {φ : Nat → Option Loc} (hh : HeapE h0 vs ids hf1 e done g φ) {i : Nat} {x : AV} (hx : vs[i]? = some (x, none)) (hie : i ≠ e) (hd : ∀ j, done' j ↔ done j ∨ j = i) : HeapE h0 vs ids hf1 e done' g φ := by
  obtain ⟨g0, h1, h2, h3⟩ := hh
  have he : done' e ↔ done e := by rw [hd]; exact ⟨fun h => h.resolve_right (Ne.symm hie), .inl⟩
  exact ⟨g0, h1.quiet hx hd, fun h => h2 (he.1 h), fun h => h3 fun h' => h (he.2 h')⟩

theorem HeapE.rd {c : Cx} {h0 g : AH} {vs : List (AV × Option AB)} {ids : List Nat} {hf1 : AH} {e : Nat} {done : Nat → Prop} (hnd : ids.Nodup) (hl : ids.length ≤ hf1.length) (hid : ∀ i ∈ ids, i < h0.length) (hh : HeapE h0 vs ids hf1 e done g c.φ) (hs : Sim c g) (i : Nat) :
    Rd c (kills h0 ids ++ newsL (vs.take i)) := by
  obtain ⟨g0, h1, h2, h3⟩ := hh
  have hsame : ∀ k, k < g0.length → k ∉ ids → g[k]? = g0[k]? := fun k hk hno => by
    by_cases hde : done e
    · rw [h2 hde]; exact back_get hnd hl hk hno
    · rw [h3 hde]
  have hN : h0.length ≤ g0.length := by rw [h1.len]; simp
  intro id b l e1 e2 e3
  rcases Nat.lt_or_ge id h0.length with hk | hk
  · rw [List.getElem?_append_left (by rw [kills_length]; exact hk), kills_get ids h0 id hk] at e1
    split at e1
    · cases e1; cases e2
    · rename_i hno
      exact hs.rd id b l (by rw [hsame id (by omega) hno, h1.old id hk]; exact e1) e2 e3
  · rw [List.getElem?_append_right (by rw [kills_length]; exact hk), kills_length] at e1
    obtain ⟨j, x, f1, f2⟩ := newsL_get _ _ b e1
    have hji : j < i := by
      have := (List.getElem?_eq_some_iff.1 f1).1
      simp at this; omega
    rw [List.getElem?_take_of_lt hji] at f1
    rw [List.take_take, Nat.min_eq_left (by omega)] at f2
    have hslot : slotOf h0.length vs j = id := by rw [slotOf, f2]; omega
    have hlt : id < g0.length := by
      rw [h1.len, List.length_append]
      have := (List.getElem?_eq_some_iff.1 (newsL_slot f1)).1
      rw [← hslot]; unfold slotOf; omega
    have hno : id ∉ ids := fun hm => by have := hid id hm; omega
    by_cases hdj : done j
    · have := h1.yes j x b f1 hdj
      rw [hslot] at this
      exact hs.rd id b l (by rw [hsame id hlt hno]; exact this) e2 e3
    · have := (h1.no j x b f1 hdj).2
      rw [hslot, e3] at this; cases this

/-- The drawn part of the region, with one call that turns some blocks. -/
theorem draw_runE (hT : T.OK P) (hF : F.OK P) (hL : Lex all p) {a0 : AAct} {h0 hb : AH} {vs : List (AV × Option AB)} {k : List It} {K : AExit → AAct → AH → Prop} (hvl : vs.length = p) {ids : List Nat} {hf hf1 : AH} {e : Nat} {oe : Oper} {gf : FuncId} {args xs : List AV} {x0 : AV} (hnd : ids.Nodup) (hid : ∀ i ∈ ids, i < h0.length)
    (hep : e < p) (hoe : all[e]? = some oe) (hE1 : OnA all oe (puts ((all.toList.take p).take e) (vs.take e) a0) true) (hE2 : callOf F (ev (puts ((all.toList.take p).take e) (vs.take e) a0).tmps) oe = some (gf, args))
    (hE3 : ACalls P gf xs hf (fun r h1 => r = .ret x0 ∧ h1 = hf1)) (hE4 : args.map (AV.sub (inn ids)) = xs) (hE5 : ids.map (fun i => (h0.getD i .dead).sub (inn ids)) = hf) (hE6 : hf.length ≤ hf1.length) (hx0 : NoId x0) (hve : vs[e]? = some (x0, none))
    (hst : ∀ (i : Nat) (o : Oper) (x : AV) (b : Option AB), i ≠ e → (all.toList.take p)[i]? = some o → vs[i]? = some (x, b) → QStep P T F all o (puts ((all.toList.take p).take i) (vs.take i) a0) (kills h0 ids ++ newsL (vs.take i)) x b)
    (hK : AStk P hb (.ops all (all.toList.drop p) :: k) (puts (all.toList.take p) vs a0) (AH.back (h0 ++ newsL vs) ids hf1) K) {c00 : Cx} (hd0 : ∀ i, hb.length ≤ i → c00.φ i = none) :
    ∀ (fuel : Nat) (listed : Array Bool) (c : Cx) (act : Act) (tl : List AV) (g : AH), listed.size = all.size → (∀ i o, all[i]? = some o → DoneL listed i → ∀ d ∈ depsOf o, DoneL listed d) → (∀ i, DoneL listed i → i < p) →
      Cur (all.toList.take p) vs a0.tmps (DoneL listed) tl → ActR c ⟨tl, a0.defers⟩ act → HeapE h0 vs ids hf1 e (DoneL listed) g c.φ → Sim c g → Ext c00 hb c g → all.size ≤ fuel + (List.range p).countP (fun i => listed.getD i false) →
      wpAny P .any all (runsTo P (QL c00 hb K) k) fuel listed act c.w := by
  have hple := hL.le
  have hidl : ids.length ≤ hf1.length := by rw [← hE5] at hE6; simpa using hE6
  have hll : (all.toList.take p).length = p := by simp; omega
  have hget : ∀ (i : Nat) (o : Oper), (all.toList.take p)[i]? = some o → i < p ∧ all[i]? = some o := fun i o e => by
    have h1 := (List.getElem?_eq_some_iff.1 e).1
    rw [hll] at h1
    rw [List.getElem?_take_of_lt h1] at e
    exact ⟨h1, by simpa using e⟩
  have honce : ∀ (i j : Nat) (x y : Oper) (d : Tmp), i ≠ j → (all.toList.take p)[i]? = some x → (all.toList.take p)[j]? = some y → y.dst = some d → x.dst ≠ some d := fun i j x y d hne hx hy hd =>
    hL.once i j x y d (hget i x hx).1 (hget j y hy).1 hne (hget i x hx).2 (hget j y hy).2 hd
  have hvl' : vs.length = (all.toList.take p).length := by rw [hll]; exact hvl
  intro fuel
  induction fuel with
  | zero =>
    intro listed c act tl g hsz hcl hlt hcur ha hh hs hext hf
    have hcnt : (List.range p).countP (fun i => listed.getD i false) ≤ p := by
      have := List.countP_le_length (p := fun i => listed.getD i false) (l := List.range p)
      simpa using this
    have hall : ∀ i, i < p → DoneL listed i := by
      have : (List.range p).countP (fun i => listed.getD i false) = (List.range p).length := by simp only [List.length_range]; omega
      rw [List.countP_eq_length] at this
      exact fun i hi => this i (List.mem_range.2 hi)
    have hg : g = AH.back (h0 ++ newsL vs) ids hf1 := by
      obtain ⟨g0, q1, q2, _⟩ := hh
      rw [q2 (hall e hep), q1.full (fun i hi => hall i (by omega))]
    have htl : tl = (puts (all.toList.take p) vs a0).tmps := by
      have ht := cur_text hvl' honce (a := a0) p (by omega)
      rw [List.take_take, Nat.min_self, List.take_of_length_le (by omega : vs.length ≤ p)] at ht
      apply List.ext_getElem?
      intro t
      exact hcur.agree hvl' ht honce fun j o hj _ => ⟨fun h => hlt j h, fun h => hall j h⟩
    subst hg
    subst htl
    have := hK c00 c act hd0 hext hs ⟨ha.tmps, by rw [puts_defers]; exact ha.defers⟩
    exact wpAny_tail hL 0 p listed act c.w (Nat.le_refl _) hple hsz (fun i => ⟨hlt i, hall i⟩) (by omega) (by simpa only [runsTo] using this)
  | succ fuel ih =>
    intro listed c act tl g hsz hcl hlt hcur ha hh hs hext hf
    by_cases hall : ∀ i, i < p → DoneL listed i
    · have hg : g = AH.back (h0 ++ newsL vs) ids hf1 := by
        obtain ⟨g0, q1, q2, _⟩ := hh
        rw [q2 (hall e hep), q1.full (fun i hi => hall i (by omega))]
      have htl : tl = (puts (all.toList.take p) vs a0).tmps := by
        have ht := cur_text hvl' honce (a := a0) p (by omega)
        rw [List.take_take, Nat.min_self, List.take_of_length_le (by omega : vs.length ≤ p)] at ht
        apply List.ext_getElem?
        intro t
        exact hcur.agree hvl' ht honce fun j o hj _ => ⟨fun h => hlt j h, fun h => hall j h⟩
      subst hg
      subst htl
      have := hK c00 c act hd0 hext hs ⟨ha.tmps, by rw [puts_defers]; exact ha.defers⟩
      have hcnt : (List.range p).countP (fun i => listed.getD i false) ≤ p := by
        have := List.countP_le_length (p := fun i => listed.getD i false) (l := List.range p)
        simpa using this
      exact wpAny_tail hL (fuel + 1) p listed act c.w (Nat.le_refl _) hple hsz (fun i => ⟨hlt i, hall i⟩) (by omega) (by simpa only [runsTo] using this)
    · refine ⟨fun hr => ?_, fun i hi => ?_⟩
      · exfalso
        apply hall
        intro i
        induction i using Nat.strongRecOn with
        | ind i ihi =>
          intro hip
          apply Classical.byContradiction
          intro hnd
          have hin : i < all.size := by omega
          have : i ∈ Region.ready .any all listed := (ready_iff hsz).2 ⟨hnd, all[i], by simp [hin], fun d hd => by
            have := hL.edge i _ (by simp [hin]) d hd
            exact ihi d this (by omega)⟩
          rw [hr] at this; simp at this
      · obtain ⟨hnd0, o, ho, hdeps⟩ := (ready_iff hsz).1 hi
        have hin : i < all.size := (Array.getElem?_eq_some_iff.1 ho).1
        have hip : i < p := by
          rcases Nat.lt_or_ge i p with h' | h'
          · exact h'
          · exact absurd (fun j hj => (hL.tail j i h' hin (by omega)).ready hcl ho hdeps) hall
        have hol : (all.toList.take p)[i]? = some o := by rw [List.getElem?_take_of_lt hip]; simpa using ho
        have hvi : i < vs.length := by omega
        obtain ⟨x, b, hv⟩ : ∃ x b, vs[i]? = some (x, b) := ⟨vs[i].1, vs[i].2, List.getElem?_eq_getElem hvi⟩
        have hct := cur_text hvl' honce (a := a0) i (by omega)
        have hag : ∀ t ∈ o.looksAt all, tl[t]? = (puts ((all.toList.take p).take i) (vs.take i) a0).tmps[t]? := fun t ht =>
          hcur.agree hvl' hct honce fun j oj hj hd => by
            obtain ⟨hjp, hja⟩ := hget j oj hj
            by_cases hji : i = j
            · subst hji
              exact ⟨fun h => absurd h hnd0, fun h => absurd h (Nat.lt_irrefl i)⟩
            · obtain ⟨l1, l2⟩ := hL.looks i j o oj t hip hjp hji ho hja hd ht
              refine ⟨fun h => ?_, fun h => (l1 h).ready hcl ho hdeps⟩
              rcases Nat.lt_or_gt_of_ne hji with h' | h'
              · exact absurd ((l2 h').listed hcl h) hnd0
              · exact h'
        have hd' : ∀ j, DoneL (listed.setIfInBounds i true) j ↔ DoneL listed j ∨ j = i := fun j => getD_set (by omega)
        have hnext : ∀ (c' : Cx) (g' : AH) (v : Value), Le c c' → VR c' x v → HeapE h0 vs ids hf1 e (DoneL (listed.setIfInBounds i true)) g' c'.φ → Sim c' g' → Ext c00 hb c' g' →
            wpAny P .any all (runsTo P (QL c00 hb K) k) fuel (listed.setIfInBounds i true) (act.put o.dst v) c'.w := fun c' g' v hle hxv hh' hs' he' => by
          have hput := (ha.mono hle).put o.dst hxv
          have hdf : (AAct.put ⟨tl, a0.defers⟩ o.dst x).defers = a0.defers := by cases o.dst <;> rfl
          refine ih _ c' _ (AAct.put ⟨tl, a0.defers⟩ o.dst x).tmps g' (by simpa using hsz) (fun j oj hj hdj d hdd => ?_) (fun j hj => ?_) (hcur.step hvl' honce hol hv hd' rfl) ⟨hput.tmps, by rw [← hdf]; exact hput.defers⟩ hh' hs' he' ?_
          · rcases (hd' j).1 hdj with h' | h'
            · exact (hd' d).2 (.inl (hcl j oj hj h' d hdd))
            · subst h'; rw [ho] at hj; cases hj; exact (hd' d).2 (.inl (hdeps d hdd))
          · rcases (hd' j).1 hj with h' | h'
            · exact hlt j h'
            · omega
          · rw [cnt_set (f := fun i => listed.getD i false) (f' := fun j => (listed.setIfInBounds i true).getD j false) (by unfold DoneL at hnd0; simpa using hnd0) (fun j => ?_) hip]
            · omega
            · have := hd' j
              unfold DoneL at this
              rw [Bool.eq_iff_iff]
              simpa using this
        have hnd' := hnd0
        unfold wpOp
        rw [ho]
        simp only
        have hρ : ∀ y, VR c (ev tl y) (act.eval y) := fun y => ev_sound ha.tmps y
        by_cases hie : i = e
        · subst hie
          rw [hoe] at ho; cases ho
          rw [hve] at hv; cases hv
          have hon' : OnA all oe ⟨tl, a0.defers⟩ true := hE1.agree hag
          rw [if_pos (hon'.wanted ha)]
          rw [callOf_congr (fun y hy => (ev_agree hag y hy).symm)] at hE2
          obtain ⟨us, h1, h2⟩ := callOf_sound hF hρ hE2
          refine .inl ?_
          unfold Oper.wp
          rw [h1]
          obtain ⟨g0, q1, _, q3⟩ := hh
          have hgg := q3 hnd'
          subst hgg
          have hgetD : ∀ i ∈ ids, g.getD i .dead = h0.getD i .dead := fun i hi => by
            rw [List.getD_eq_getElem?_getD, List.getD_eq_getElem?_getD, q1.old i (hid i hi)]
          refine (hE3.atφ ids hE4 (by rw [← hE5]; exact List.map_congr_left fun i hi => by rw [hgetD i hi]) hnd (fun i hi => by have := hid i hi; rw [q1.len]; simp; omega) (fun r h1 ⟨_, e2⟩ => by subst e2; exact hE6) hs h2).mono fun en w ⟨c', h1', r, e1, ⟨e2, e3⟩, e4, e5, e6, e7⟩ => ?_
          subst e1; subst e2; subst e3
          have hx0' : AV.sub (out ids g.length) x0 = x0 := hx0 _
          simp only [ARes.sub, hx0'] at e6
          cases e6 with
          | ret hv' =>
            refine hnext c' _ _ e4.le hv' ⟨g, ⟨q1.len, q1.old, fun j y b ej hj => ?_, fun j y b ej hj => ?_⟩, fun _ => rfl, fun h => absurd ((hd' i).2 (.inr rfl)) h⟩ e5 (hext.trans e4)
            · rcases (hd' j).1 hj with h | h
              · exact q1.yes j y b ej h
              · subst h; rw [hve] at ej; cases ej
            · obtain ⟨n1, n2⟩ := q1.no j y b ej fun h => hj ((hd' j).2 (.inl h))
              have hlt : slotOf h0.length vs j < g.length := (List.getElem?_eq_some_iff.1 n1).1
              exact ⟨n1, by rw [e7 _ hlt (fun hm => by have := hid _ hm; unfold slotOf at this; omega)]; exact n2⟩
        have hq := hst i o x b hie hol hv
        generalize ha' : puts ((all.toList.take p).take i) (vs.take i) a0 = at' at hq hag
        cases hq with
        | off hon =>
          have hon' : OnA all o ⟨tl, a0.defers⟩ false := hon.agree hag
          rw [if_neg (by rw [hon'.wanted ha]; decide)]
          exact hnext c g undef (Le.refl c) .undef (hh.quiet hv hie hd') hs hext
        | quiet hon hq hk =>
          have hon' : OnA all o ⟨tl, a0.defers⟩ true := hon.agree hag
          rw [if_pos (hon'.wanted ha)]
          rw [aop_congr (fun y hy => (ev_agree hag y hy).symm)] at hk
          obtain ⟨v, h1, h2⟩ := aop_quiet_sound hT hq (hh.rd hnd hidl hid hs i) hρ hk
          refine .inl ?_
          unfold Oper.wp
          rw [h1]
          exact hnext c g v (Le.refl c) h2 (hh.quiet hv hie hd') hs hext
        | @row sz es hon hn hcl hk =>
          have hon' : OnA all o ⟨tl, a0.defers⟩ true := hon.agree hag
          rw [if_pos (hon'.wanted ha)]
          rw [aop_congr (fun y hy => (ev_agree hag y hy).symm)] at hk
          obtain ⟨b', nk', _, ⟨h1, h2⟩, _, h3⟩ := aop_new hT hn hk
          obtain ⟨ob, v, l, g1, g2, g3⟩ := h3 c act.eval hρ
          have hnk : nk' = .sl es.length := NK.inj (ANext.val.inj h1)
          have hbb : b' = .arr sz es false := by simpa using h2
          subst hnk
          subst hbb
          refine .inl ?_
          unfold Oper.wp
          rw [g2]
          obtain ⟨c', e1, e2, e3, e4, e5⟩ := hs.newRow g1 g3 hcl
          have := hnext c' g v e4.le e5 (by rw [e2]; exact hh.quiet hv hie hd') e3 (hext.trans e4)
          rw [e1] at this
          exact this
        | call hon hc hac hxc hk =>
          have hon' : OnA all o ⟨tl, a0.defers⟩ true := hon.agree hag
          rw [if_pos (hon'.wanted ha)]
          rw [callOf_congr (fun y hy => (ev_agree hag y hy).symm)] at hc
          obtain ⟨us, h1, h2⟩ := callOf_sound hF hρ hc
          refine .inl ?_
          unfold Oper.wp
          rw [h1]
          refine (hk.framed hac hxc hs h2).mono fun e w ⟨v, e1, c', e2, e3, e4, e5, e6⟩ => ?_
          subst e1
          subst e2
          exact hnext c' g v e4.le e6 (by rw [e3]; exact hh.quiet hv hie hd') e5 (hext.trans e4)
        | @new b nk hon hn hbl hk =>
          have hon' : OnA all o ⟨tl, a0.defers⟩ true := hon.agree hag
          rw [if_pos (hon'.wanted ha)]
          rw [aop_congr (fun y hy => (ev_agree hag y hy).symm)] at hk
          obtain ⟨b', nk', _, ⟨h1, h2⟩, _, h3⟩ := aop_new hT hn hk
          obtain ⟨ob, v, l, g1, g2, g3⟩ := h3 c act.eval hρ
          have hnk : nk' = nk := NK.inj (ANext.val.inj h1)
          have hbb : b' = b := by simpa using h2
          subst hnk
          subst hbb
          have hsl : (kills h0 ids ++ newsL (vs.take i)).length = slotOf h0.length vs i := by simp [slotOf, kills_length]
          refine .inl ?_
          unfold Oper.wp
          rw [g2]
          obtain ⟨g0, u1, u2, u3⟩ := hh
          obtain ⟨n1, n2⟩ := u1.no i _ b' hv hnd'
          have hslt : slotOf h0.length vs i < g0.length := (List.getElem?_eq_some_iff.1 n1).1
          have hsno : slotOf h0.length vs i ∉ ids := fun hm => by have := hid _ hm; unfold slotOf at this; omega
          have n1' : g[slotOf h0.length vs i]? = some .dead := by
            by_cases hde : DoneL listed e
            · rw [u2 hde, back_get hnd hidl hslt hsno]; exact n1
            · rw [u3 hde]; exact n1
          have hedone : DoneL (listed.setIfInBounds i true) e ↔ DoneL listed e := by rw [hd']; exact ⟨fun h => h.resolve_right (Ne.symm hie), .inl⟩
          obtain ⟨s1, s2⟩ := hs.newAt (o := ob) (b := b') (l := l) (w' := c.w.alloc ob) n1' n2 g1 rfl rfl rfl rfl fun hle hL0 => (g3 _ (slotOf h0.length vs i) hle rfl hL0 upd_same).1
          have hL0 : c.L l.b = 0 := by
            rcases Nat.eq_zero_or_pos (c.L l.b) with h' | h'
            · exact h'
            · have := hs.lock _ h'; omega
          refine hnext ⟨upd c.φ (slotOf h0.length vs i) l, c.L, c.w.alloc ob⟩ _ v s2.le ?_ ⟨_, u1.new hv hd', fun h => by rw [u2 (hedone.1 h), back_set hnd hidl hslt hsno], fun h => by rw [u3 fun h' => h (hedone.2 h')]⟩ s1 (hext.trans s2)
          rw [hsl]
          exact (g3 _ (slotOf h0.length vs i) s2.le rfl hL0 upd_same).2


theorem puts_append : ∀ (l1 l2 : List Oper) (v1 v2 : List (AV × Option AB)) (a : AAct), v1.length = l1.length → puts (l1 ++ l2) (v1 ++ v2) a = puts l2 v2 (puts l1 v1 a)
  | [], l2, [], v2, a, _ => by cases l2 <;> cases v2 <;> rfl
  | [], l2, v :: v1, v2, a, h => by simp at h
  | o :: l1, l2, [], v2, a, h => by simp at h
  | o :: l1, l2, v :: v1, v2, a, h => by simp only [List.cons_append, puts]; exact puts_append l1 l2 v1 v2 _ (by simpa using h)

/-- One call that turns some blocks, in a region that draws its order. -/
def ECall (P : Program) (T : Tab) (F : FTab) (all : Array Oper) (o : Oper) (ids : List Nat) (x0 : AV) (h0 hf1 : AH) (R : AAct → AH → Prop) (a : AAct) (h : AH) : Prop :=
  OnA all o a true ∧ match callOf F (ev a.tmps) o with
    | some (gf, args) => ACalls P gf (args.map (AV.sub (inn ids))) (ids.map fun i => (h0.getD i .dead).sub (inn ids)) (fun r h1 => r = .ret x0 ∧ h1 = hf1) ∧ ids.length ≤ hf1.length ∧ R (a.put o.dst x0) h
    | none => False

theorem ECall.spec {P : Program} {T : Tab} {F : FTab} {all : Array Oper} {o : Oper} {ids : List Nat} {x0 : AV} {h0 hf1 : AH} {R : AAct → AH → Prop} {a : AAct} {h : AH} (hh : ECall P T F all o ids x0 h0 hf1 R a h) :
    OnA all o a true ∧ ∃ gf args hf, callOf F (ev a.tmps) o = some (gf, args) ∧ ACalls P gf (args.map (AV.sub (inn ids))) hf (fun r h1 => r = .ret x0 ∧ h1 = hf1) ∧ ids.map (fun i => (h0.getD i .dead).sub (inn ids)) = hf ∧ hf.length ≤ hf1.length ∧ R (a.put o.dst x0) h := by
  obtain ⟨h1, h2⟩ := hh
  split at h2
  · rename_i gf args e
    exact ⟨h1, gf, args, _, e, h2.1, rfl, by simpa using h2.2.1, h2.2.2⟩
  · exact h2.elim

/-- A region that draws its order, with one call that turns some blocks: 'e' is its place. -/
theorem stk_drawE (hm : P.follows .mixedOrders = true) (hT : T.OK P) (hF : F.OK P) {i : Nat} {all : Array Oper} (p e : Nat) (hL : lexOK all p = true) {k : List It} {a : AAct} {hb h : AH} {K : AExit → AAct → AH → Prop}
    (ids : List Nat) (x0 : AV) (hf1 : AH) (hep : e < p) (hnd : ids.Nodup) (hid : ∀ i ∈ ids, i < h.length) (hx0 : NoId x0)
    (hq : qrun P T F all (fun a1 g1 => ECall P T F all (all.getD e default) ids x0 h hf1 (qrun P T F all (fun a h => AStk P hb (.ops all (all.toList.drop p) :: k) a (AH.back h ids hf1) K) ((all.toList.take p).drop (e + 1))) a1 g1) ((all.toList.take p).take e) a (kills h ids)) :
    AStk P hb (.code (.region i all true) :: k) a h K := by
  have hLex := lexOK_spec hL
  intro c0 c act hd0 he hs ha
  obtain ⟨vs1, hvs1⟩ := qrun_trace hT hq
  obtain ⟨h1, h2, h3⟩ := hvs1.at
  obtain ⟨hon, gf, args, hf, q1, q2, q3, q4, q5⟩ := h2.spec
  obtain ⟨vs2, hvs2⟩ := qrun_trace hT q5
  obtain ⟨g1, g2, g3⟩ := hvs2.at
  have hll : (all.toList.take p).length = p := by have := hLex.le; simp; omega
  have hl1 : ((all.toList.take p).take e).length = e := by rw [List.length_take, hll]; omega
  have hel : e < all.size := by have := hLex.le; omega
  have hoe : all[e]? = some (all.getD e default) := by simp [Array.getD, hel]
  have hmid : all.toList.take p = (all.toList.take p).take e ++ all.getD e default :: (all.toList.take p).drop (e + 1) := by
    conv => lhs; rw [← List.take_append_drop e (all.toList.take p)]
    congr 1
    rw [List.drop_eq_getElem_cons (by omega)]
    congr 1
    rw [List.getElem_take]
    have : all.getD e default = all[e] := by simp [Array.getD, hel]
    rw [this]; simp
  let vs := vs1 ++ (x0, none) :: vs2
  have hvlen : vs.length = p := by
    have hg : vs2.length = p - (e + 1) := by rw [g1, List.length_drop, hll]
    simp only [vs, List.length_append, List.length_cons, hg]
    rw [h1, hl1]; omega
  have hv1 : vs1.length = e := by rw [h1, hl1]
  have hte : vs.take e = vs1 := by simp only [vs]; rw [← hv1]; simp
  have hidl : ids.length ≤ hf1.length := by rw [← q3] at q4; simpa using q4
  have hnone : ∀ i, ¬ DoneL (Array.replicate all.size false) i := fun i => by simp [DoneL, Array.getD]
  have hnews : newsL vs = newsL vs1 ++ newsL vs2 := by simp [vs, newsL]
  have hputs : puts (all.toList.take p) vs a = puts ((all.toList.take p).drop (e + 1)) vs2 ((puts ((all.toList.take p).take e) vs1 a).put (all.getD e default).dst x0) := by
    rw [hmid]
    simp only [vs]
    rw [puts_append _ _ _ _ _ h1]
    rw [← hmid]
    rfl
  refine wp_region_any hm ?_
  have hw : Ext c h ⟨c.φ, c.L, { c.w with drawn := c.w.drawn + 1 }⟩ h := ⟨⟨fun _ _ e => e, fun _ => Nat.le_refl _, fun _ _ _ => rfl⟩, Nat.le_refl _, fun _ _ _ => ⟨rfl, rfl⟩, fun _ h => .inr h, rfl, rfl, rfl⟩
  have hs' : Sim ⟨c.φ, c.L, { c.w with drawn := c.w.drawn + 1 }⟩ h := ⟨hs.dom, fun i b e1 e2 => by
    obtain ⟨l, f1, f2, f3⟩ := hs.blk i b e1 e2
    exact ⟨l, f1, f2, f3.mono hw.le rfl rfl⟩, hs.inj, hs.lock⟩
  obtain ⟨s1, s2⟩ := hs'.pad (newsL vs).length
  refine draw_runE hT hF hLex hvlen hnd hid hep hoe (by rw [hte]; exact hon) (by rw [hte]; exact q1) q2 rfl q3 q4 hx0 (by simp only [vs]; rw [← hv1]; simp) (fun i o x b hie ho hv => ?_) ?_ hd0 all.size _ ⟨c.φ, c.L, { c.w with drawn := c.w.drawn + 1 }⟩ act a.tmps _ (by simp) (fun i o _ h => absurd h (hnone i)) (fun i h => absurd h (hnone i)) ⟨rfl, fun i o x b t _ _ h => absurd h (hnone i), fun t _ => rfl⟩ (ha.mono hw.le) ⟨_, HeapAt.start hs' vs hnone, fun h => absurd h (hnone e), fun _ => rfl⟩ s1 ((he.trans hw).trans s2) (by omega)
  · rcases Nat.lt_or_gt_of_ne hie with hlt | hgt
    · have hv' : vs1[i]? = some (x, b) := by simp only [vs] at hv; rwa [List.getElem?_append_left (by omega)] at hv
      have ho' : ((all.toList.take p).take e)[i]? = some o := by rw [List.getElem?_take_of_lt hlt]; exact ho
      have := h3 i o x b ho' hv'
      have ht : vs.take i = vs1.take i := by simp only [vs]; rw [List.take_append_of_le_length (by omega)]
      have ht2 : (all.toList.take p).take i = ((all.toList.take p).take e).take i := by
        have hh := @List.take_take _ i e (all.toList.take p)
        rw [hh, Nat.min_eq_left (by omega)]
      rw [ht, ht2]; exact this
    · obtain ⟨j, rfl⟩ : ∃ j, i = e + 1 + j := ⟨i - (e + 1), by omega⟩
      have hv' : vs2[j]? = some (x, b) := by
        simp only [vs] at hv
        rw [List.getElem?_append_right (by omega), hv1, show e + 1 + j - e = j + 1 by omega] at hv
        simpa using hv
      have ho' : ((all.toList.take p).drop (e + 1))[j]? = some o := by rw [List.getElem?_drop]; exact ho
      have := g3 j o x b ho' hv'
      have ht : vs.take (e + 1 + j) = vs1 ++ (x0, none) :: vs2.take j := by
        simp only [vs]
        rw [List.take_append, hv1, show e + 1 + j - e = j + 1 by omega, List.take_of_length_le (by omega)]
        simp
      have ht2 : (all.toList.take p).take (e + 1 + j) = (all.toList.take p).take e ++ all.getD e default :: ((all.toList.take p).drop (e + 1)).take j := by
        conv => lhs; rw [hmid]
        rw [List.take_append, hl1, show e + 1 + j - e = j + 1 by omega, List.take_of_length_le (by omega)]
        simp
      rw [ht, ht2, puts_append _ _ _ _ _ h1]
      have hn : newsL (vs1 ++ (x0, none) :: vs2.take j) = newsL vs1 ++ newsL (vs2.take j) := by simp [newsL]
      rw [hn, ← List.append_assoc]
      exact this
  · rw [hputs, hnews, ← List.append_assoc]
    have hbk : AH.back (h ++ newsL vs1 ++ newsL vs2) ids hf1 = AH.back (kills h ids ++ newsL vs1 ++ newsL vs2) ids hf1 := by
      refine back_congr hnd hidl (by simp [kills_length]) fun k hk hno => ?_
      rw [List.append_assoc, List.append_assoc]
      rcases Nat.lt_or_ge k h.length with hkl | hkl
      · rw [List.getElem?_append_left (l₁ := h) hkl, List.getElem?_append_left (l₁ := kills h ids) (by rw [kills_length]; exact hkl), kills_get ids h k hkl, if_neg hno]
      · rw [List.getElem?_append_right (l₁ := h) hkl, List.getElem?_append_right (l₁ := kills h ids) (by rw [kills_length]; exact hkl), kills_length]
    rw [hbk]
    exact g2

end
end Go.Vm
