/- The abstract machine, part 22: other names for the blocks; rows that are written no more. -/
import Derived.Test.YteebkkipeiggcaaVm21
set_option linter.unusedVariables false
set_option linter.unusedSimpArgs false
namespace Go.Vm
open Go

/-- What becomes of a block's name. -/
inductive Sb where
  | to (j : Nat)
  | gone
  | ro (sz : Nat) (es : List (List AV))

mutual
def AV.sub (f : Nat → Sb) : AV → AV
  | .ptr id off => (match f id with
    | .to j => .ptr j off
    | _ => .dead)
  | .ep id i off => (match f id with
    | .to j => .ep j i off
    | .ro sz es => if i < es.length then .rop sz es i off else .dead
    | .gone => .dead)
  | .sl id off len => (match f id with
    | .to j => .sl j off len
    | .ro sz es => if off + len ≤ es.length then .ro sz ((es.drop off).take len) else .dead
    | .gone => .dead)
  | .vsl id off len sz => (match f id with
    | .to j => .vsl j off len sz
    | _ => .dead)
  | .map id => (match f id with
    | .to j => .map j
    | _ => .dead)
  | .rop sz es i off => .rop sz (subLL f es) i off
  | .ro sz es => .ro sz (subLL f es)
  | .fn g xs ys => .fn g (subL f xs) (subL f ys)
  | .iface t x => .iface t (AV.sub f x)
  | .agg xs => .agg (subL f xs)
  | .tup xs => .tup (subL f xs)
  | .int k n => .int k n
  | .bool b => .bool b
  | .str s => .str s
  | .nilp => .nilp
  | .nils => .nils
  | .nilm => .nilm
  | .nilf => .nilf
  | .nili => .nili
  | .undef => .undef
  | .dead => .dead
  | .any => .any
def subL (f : Nat → Sb) : List AV → List AV
  | [] => []
  | x :: l => AV.sub f x :: subL f l
def subLL (f : Nat → Sb) : List (List AV) → List (List AV)
  | [] => []
  | x :: l => subL f x :: subLL f l
end

theorem subL_map (f : Nat → Sb) : ∀ l, subL f l = l.map (AV.sub f)
  | [] => by simp [subL]
  | x :: l => by simp [subL, subL_map f l]

theorem subLL_map (f : Nat → Sb) : ∀ l, subLL f l = l.map (fun e => e.map (AV.sub f))
  | [] => by simp [subLL]
  | x :: l => by simp [subLL, subL_map, subLL_map f l]

/-- A row that's written no more, as it lies. -/
def RoAt (c : Cx) (l : Loc) (sz : Nat) (es : List (List AV)) : Prop :=
  l.sz = sz ∧ (∀ e ∈ es, e.length = sz) ∧ ∃ vals : Nat → Nat → Value, ∀ (i : Nat) (e : List AV) (j : Nat) (x : AV), es[i]? = some e → e[j]? = some x →
    l.base + i * sz + j < c.L l.b ∧ c.w.cell? ⟨l.b, l.base + i * sz + j, none⟩ = some (vals i j) ∧ (vals i j).oneCell' = true ∧ VR c x (vals i j)

theorem get_map2 {es : List (List AV)} {g : AV → AV} {i j : Nat} {e : List AV} {x : AV} (h1 : (es.map fun e => e.map g)[i]? = some e) (h2 : e[j]? = some x) : ∃ e' x', es[i]? = some e' ∧ e'[j]? = some x' ∧ x = g x' := by
  rw [List.getElem?_map, Option.map_eq_some_iff] at h1
  obtain ⟨e', a, rfl⟩ := h1
  rw [List.getElem?_map, Option.map_eq_some_iff] at h2
  obtain ⟨x', b, rfl⟩ := h2
  exact ⟨e', x', a, b, rfl⟩

theorem get_map1 {es : List AV} {g : AV → AV} {i : Nat} {x : AV} (h1 : (es.map g)[i]? = some x) : ∃ x', es[i]? = some x' ∧ x = g x' := by
  rw [List.getElem?_map, Option.map_eq_some_iff] at h1
  obtain ⟨x', a, rfl⟩ := h1
  exact ⟨x', a, rfl⟩

structure Subs (c c' : Cx) (f : Nat → Sb) : Prop where
  to : ∀ i j l, f i = .to j → c.φ i = some l → c'.φ j = some l
  ro : ∀ i sz es l, f i = .ro sz es → c.φ i = some l → RoAt c' l sz es
  L : ∀ b, c.L b ≤ c'.L b
  cell : ∀ b o, o < c.L b → c'.w.cell? ⟨b, o, none⟩ = c.w.cell? ⟨b, o, none⟩

theorem VR.sub {c c' : Cx} {f : Nat → Sb} (hf : Subs c c' f) {x : AV} {v : Value} (h : VR c x v) : VR c' (x.sub f) v := by
  induction h with
  | int => simp only [AV.sub]; exact .int
  | bool => simp only [AV.sub]; exact .bool
  | str => simp only [AV.sub]; exact .str
  | nilp => simp only [AV.sub]; exact .nilp
  | nils => simp only [AV.sub]; exact .nils
  | nilm => simp only [AV.sub]; exact .nilm
  | nilf => simp only [AV.sub]; exact .nilf
  | nili => simp only [AV.sub]; exact .nili
  | undef => simp only [AV.sub]; exact .undef
  | dead h => simp only [AV.sub]; exact .dead h
  | any => simp only [AV.sub]; exact .any
  | @vsl id off len sz l cap hl hcap =>
    simp only [AV.sub]
    cases he : f id with
    | to j => exact .vsl (hf.to _ _ _ he hl) hcap
    | gone => exact .dead rfl
    | ro sz es => exact .dead rfl
  | @ptr id off l hl =>
    simp only [AV.sub]
    cases he : f id with
    | to j => exact .ptr (hf.to _ _ _ he hl)
    | gone => exact .dead rfl
    | ro sz es => exact .dead rfl
  | @ep id i off l hl =>
    simp only [AV.sub]
    cases he : f id with
    | to j => exact .ep (hf.to _ _ _ he hl)
    | gone => exact .dead rfl
    | ro sz es =>
      simp only
      split
      · rename_i hi
        obtain ⟨h1, h2, vals, h3⟩ := hf.ro _ _ _ _ he hl
        subst h1
        exact .rop vals hi h2 (fun i e j x a b => ⟨(h3 i e j x a b).1, (h3 i e j x a b).2.1, (h3 i e j x a b).2.2.1⟩) fun i e j x a b => (h3 i e j x a b).2.2.2
      · exact .dead rfl
  | rop vals hi hsz hc _ ih =>
    simp only [AV.sub, subLL_map]
    refine .rop vals (by simpa using hi) (fun e he => ?_) (fun i e j x h1 h2 => ?_) (fun i e j x h1 h2 => ?_)
    · obtain ⟨e', a, rfl⟩ := List.mem_map.1 he
      simpa using hsz e' a
    · obtain ⟨e', x', a, b, rfl⟩ := get_map2 h1 h2
      exact ⟨Nat.lt_of_lt_of_le (hc i e' j x' a b).1 (hf.L _), (hf.cell _ _ (hc i e' j x' a b).1).trans (hc i e' j x' a b).2.1, (hc i e' j x' a b).2.2⟩
    · obtain ⟨e', x', a, b, rfl⟩ := get_map2 h1 h2
      exact ih i e' j x' a b
  | @sl id off len l cap hl hcap hsz hn =>
    simp only [AV.sub]
    cases he : f id with
    | to j => exact .sl (hf.to _ _ _ he hl) hcap hsz hn
    | gone => exact .dead rfl
    | ro sz es =>
      simp only
      split
      · rename_i hle
        obtain ⟨h1, h2, vals, h3⟩ := hf.ro _ _ _ _ he hl
        subst h1
        have hget : ∀ (i : Nat) (e : List AV), ((es.drop off).take len)[i]? = some e → es[off + i]? = some e := fun i e g => by
          have hi : i < len := by
            have := (List.getElem?_eq_some_iff.1 g).1
            simp at this; omega
          rw [List.getElem?_take_of_lt hi, List.getElem?_drop] at g
          exact g
        have hadd : ∀ i j, l.base + off * l.sz + i * l.sz + j = l.base + (off + i) * l.sz + j := fun i j => by rw [Nat.add_mul]; omega
        exact .ro (fun i j => vals (off + i) j) (by simp; omega) hcap (fun e he => h2 e (List.mem_of_mem_drop (List.mem_of_mem_take he)))
          (fun i e j x a b => by rw [hadd]; exact ⟨(h3 _ e j x (hget i e a) b).1, (h3 _ e j x (hget i e a) b).2.1, (h3 _ e j x (hget i e a) b).2.2.1⟩) fun i e j x a b => (h3 _ e j x (hget i e a) b).2.2.2
      · exact .dead rfl
  | @sl0 id off l o hl =>
    simp only [AV.sub]
    cases he : f id with
    | to j => exact .sl0 (hf.to _ _ _ he hl)
    | gone => exact .dead rfl
    | ro sz es =>
      simp only
      split
      · rw [List.take_zero]
        exact .ro (fun _ _ => default) rfl (Nat.le_refl _) (by simp) (fun i e j x hh => by simp at hh) (fun i e j x hh => by simp at hh)
      · exact .dead rfl
  | ro vals hlen hcap hsz hc _ ih =>
    simp only [AV.sub, subLL_map]
    refine .ro vals (by simpa using hlen) hcap (fun e he => ?_) (fun i e j x h1 h2 => ?_) (fun i e j x h1 h2 => ?_)
    · obtain ⟨e', a, rfl⟩ := List.mem_map.1 he
      simpa using hsz e' a
    · obtain ⟨e', x', a, b, rfl⟩ := get_map2 h1 h2
      exact ⟨Nat.lt_of_lt_of_le (hc i e' j x' a b).1 (hf.L _), (hf.cell _ _ (hc i e' j x' a b).1).trans (hc i e' j x' a b).2.1, (hc i e' j x' a b).2.2⟩
    · obtain ⟨e', x', a, b, rfl⟩ := get_map2 h1 h2
      exact ih i e' j x' a b
  | roNil => simp only [AV.sub, subLL]; exact .roNil
  | @map id l hl =>
    simp only [AV.sub]
    cases he : f id with
    | to j => exact .map (hf.to _ _ _ he hl)
    | gone => exact .dead rfl
    | ro sz es => exact .dead rfl
  | fn h1 h2 _ _ ih3 ih4 =>
    simp only [AV.sub, subL_map]
    exact .fn (by simpa using h1) (by simpa using h2) (fun i x v a b => by obtain ⟨x', a', rfl⟩ := get_map1 a; exact ih3 i x' v a' b) (fun i x v a b => by obtain ⟨x', a', rfl⟩ := get_map1 a; exact ih4 i x' v a' b)
  | iface _ ih => simp only [AV.sub]; exact .iface ih
  | agg h0 h1 _ ih =>
    simp only [AV.sub, subL_map]
    exact .agg h0 (by simpa using h1) fun i x v a b => by obtain ⟨x', a', rfl⟩ := get_map1 a; exact ih i x' v a' b
  | tup h1 _ ih =>
    simp only [AV.sub, subL_map]
    exact .tup (by simpa using h1) fun i x v a b => by obtain ⟨x', a', rfl⟩ := get_map1 a; exact ih i x' v a' b

theorem VRs.sub {c c' : Cx} {f : Nat → Sb} (hf : Subs c c' f) {xs : List AV} {vs : List Value} (h : VRs c xs vs) : VRs c' (xs.map (AV.sub f)) vs :=
  ⟨by simpa using h.1, fun i x v a b => by obtain ⟨x', a', rfl⟩ := get_map1 a; exact (h.2 i x' v a' b).sub hf⟩

def AB.sub (f : Nat → Sb) : AB → AB
  | .dead => .dead
  | .var cs => .var (cs.map (AV.sub f))
  | .arr sz es lk => .arr sz (es.map fun e => e.map (AV.sub f)) lk
  | .map es clk => .map (es.map fun p => (p.1.sub f, p.2.1.sub f, p.2.2)) clk
  | .miter m since seen stepped => (match m with
    | none => .miter none since seen stepped
    | some id => (match f id with
      | .to j => .miter (some j) since seen stepped
      | _ => .dead))
  | .siter s pos => .siter s pos

theorem AB.sub_live {f : Nat → Sb} {b : AB} (h : (b.sub f).live = true) : b.live = true := by
  cases b <;> simp_all [AB.sub, AB.live]

/-- A block under other names; its cells, and how far they're locked, have not turned. -/
theorem BR.sub {c c' : Cx} {f : Nat → Sb} (hf : Subs c c' f) {l : Loc} {b : AB} (hh : c'.w.heap[l.b]? = c.w.heap[l.b]?) (hL : c'.L l.b = c.L l.b) (h : BR c l b) : BR c' l (b.sub f) := by
  cases h with
  | var h1 h2 h3 h4 h5 => exact .var (hh.trans h1) h2 (hL.trans h3) (h4.sub hf) h5
  | arr h1 h2 h3 h4 h5 h6 h7 h8 h9 h10 =>
    refine .arr (hh.trans h1) h2 h3 h4 (by simpa using h5) (fun e he => ?_) (fun i e j x v a b d => ?_) (by rw [hL]; simpa using h8) (fun e => hL.trans (h9 e)) h10
    · obtain ⟨e', a, rfl⟩ := List.mem_map.1 he
      simpa using h6 e' a
    · obtain ⟨e', x', a', b', rfl⟩ := get_map2 a b
      exact (h7 i e' j x' v a' b' d).sub hf
  | map h1 h2 h3 h4 =>
    refine .map (hh.trans h1) (hL.trans h2) (by simpa using h3) (fun i k v n e a b => ?_)
    rw [List.getElem?_map, Option.map_eq_some_iff] at a
    obtain ⟨⟨k', v', n'⟩, a1, a2⟩ := a
    cases a2
    obtain ⟨g1, g2, g3⟩ := h4 i k' v' n' e a1 b
    exact ⟨g1.sub hf, g2.sub hf, g3⟩
  | miter h1 h2 h3 =>
    rcases h3 with ⟨rfl, h3⟩ | ⟨id, lm, e1, e2, e3⟩
    · exact .miter (hh.trans h1) (hL.trans h2) (.inl ⟨rfl, h3⟩)
    · subst e1
      simp only [AB.sub]
      cases he : f id with
      | to j => exact .miter (hh.trans h1) (hL.trans h2) (.inr ⟨j, lm, rfl, hf.to _ _ _ he e2, e3⟩)
      | gone => exact .dead
      | ro sz es => exact .dead
  | siter h1 h2 => exact .siter (hh.trans h1) (hL.trans h2)
  | dead => exact .dead

/-- All under other names; nothing moves. -/
theorem Sim.sub {c : Cx} {h : AH} {f : Nat → Sb} (hs : Sim c h) (hf : Subs c c f) : Sim c (h.map (AB.sub f)) ∧ Ext c h c (h.map (AB.sub f)) := by
  have hlv : ∀ i, liveAt (h.map (AB.sub f)) i → liveAt h i := fun i ⟨b, e1, e2⟩ => by
    rw [List.getElem?_map, Option.map_eq_some_iff] at e1
    obtain ⟨b', a, rfl⟩ := e1
    exact ⟨b', a, AB.sub_live e2⟩
  refine ⟨⟨fun i hi => hs.dom i (by simpa using hi), fun i b e1 e2 => ?_, fun i j li lj hi hj => hs.inj i j li lj (hlv i hi) (hlv j hj), hs.lock⟩, ⟨Le.refl c, Nat.le_refl _, fun _ _ _ => ⟨rfl, rfl⟩, fun b ⟨i, l, hi, e, hb⟩ => .inr ⟨i, l, hlv i hi, e, hb⟩, rfl, rfl, rfl⟩⟩
  rw [List.getElem?_map, Option.map_eq_some_iff] at e1
  obtain ⟨b', a, rfl⟩ := e1
  obtain ⟨l, g1, g2, g3⟩ := hs.blk i b' a (AB.sub_live e2)
  exact ⟨l, g1, g2, g3.sub hf rfl rfl⟩

/-- A row's name, where it is written no more. -/
def frz (id sz : Nat) (es : List (List AV)) : Nat → Sb := fun i => if i = id then .ro sz es else .to i

def AH.freeze (h : AH) (id sz : Nat) (es : List (List AV)) : AH := (h.set id .dead).map (AB.sub (frz id sz es))

theorem Sim.freeze {c : Cx} {h : AH} (hs : Sim c h) {id sz : Nat} {es : List (List AV)} {lk : Bool} (hid : h[id]? = some (.arr sz es lk)) :
    ∃ c', c'.w = c.w ∧ Ext c h c' (AH.freeze h id sz es) ∧ Sim c' (AH.freeze h id sz es) ∧ Subs c' c' (frz id sz es) ∧ Le c c' := by
  obtain ⟨l, e1, e2, e3⟩ := hs.blk id _ hid rfl
  obtain ⟨s1, s2⟩ := hs.lockRow hid e1
  have hlt : id < h.length := (List.getElem?_eq_some_iff.1 hid).1
  refine ⟨⟨c.φ, fun x => if x = l.b then l.base + es.length * sz else c.L x, c.w⟩, rfl, ?_⟩
  generalize hc' : (⟨c.φ, fun x => if x = l.b then l.base + es.length * sz else c.L x, c.w⟩ : Cx) = c' at s1 s2
  have hφ : c'.φ = c.φ := by rw [← hc']
  have hL : c'.L l.b = l.base + es.length * sz := by rw [← hc']; simp
  obtain ⟨l', f1, f2, f3⟩ := s1.blk id (.arr sz es true) (List.getElem?_set_self hlt) rfl
  rw [hφ, e1] at f1; cases f1
  have hsub : Subs c' c' (frz id sz es) := by
    refine ⟨fun i j l' a b => ?_, fun i sz' es' l' a b => ?_, fun _ => Nat.le_refl _, fun _ _ _ => rfl⟩
    · unfold frz at a
      split at a
      · cases a
      · cases a; exact b
    · unfold frz at a
      split at a
      · rename_i hii
        subst hii
        cases a
        rw [hφ, e1] at b; cases b
        cases f3 with
        | arr a1 a2 a3 a4 a5 a6 a7 a8 a9 a10 =>
          rename_i vs T
          refine ⟨a3, a6, fun i j => (vs[l.base + i * sz + j]?).getD default, fun i e j x g1 g2 => ?_⟩
          have hi := (List.getElem?_eq_some_iff.1 g1).1
          have hj := (List.getElem?_eq_some_iff.1 g2).1
          rw [a6 e (List.mem_of_getElem? g1)] at hj
          have hb : i * sz + j < es.length * sz := by
            have : (i + 1) * sz ≤ es.length * sz := Nat.mul_le_mul_right _ (by omega)
            rw [Nat.add_mul, Nat.one_mul] at this
            omega
          have hlt : l.base + i * sz + j < vs.size := by omega
          refine ⟨by rw [hL]; omega, ?_, ?_, ?_⟩
          · simp only [World.cell?, a1]
            rw [Array.getElem?_eq_getElem hlt]
            simp
          · dsimp only
            rw [Array.getElem?_eq_getElem hlt]
            exact a10 _ (by simp)
          · dsimp only
            rw [Array.getElem?_eq_getElem hlt]
            exact a7 i e j x _ g1 g2 (by simp [hlt])
      · cases a
  obtain ⟨t1, t2⟩ := s1.kill id
  rw [List.set_set] at t1 t2
  obtain ⟨u1, u2⟩ := t1.sub hsub
  exact ⟨(s2.trans t2).trans u2, u1, hsub, s2.le⟩

end Go.Vm
