/- The abstract machine, part 0: abstract values, blocks, and how they stand to the model's values and memory. Nothing of any program. -/
import Derived.Defers
import Derived.Orders
import Derived.Laws.World
import Derived.Laws.Sem
set_option linter.unusedVariables false
set_option linter.unusedSimpArgs false
namespace Go.Vm
open Go

/-- An abstract value. 'ptr', 'ep', 'sl', 'map' name blocks by small numbers; 'ro', 'rop' are memory that nobody writes any more: its cells are part of the value. 'dead' stands for whatever value of one cell, 'any' for whatever value. 'vsl' is a slice over cells of a variable. -/
inductive AV where
  | int (k : IntKind) (n : Int)
  | bool (b : Bool)
  | str (s : ByteArray)
  | nilp | nils | nilm | nilf | nili | undef | dead | any
  | ptr (id off : Nat)
  | ep (id i off : Nat)
  | rop (sz : Nat) (es : List (List AV)) (i off : Nat)
  | sl (id off len : Nat)
  | vsl (id off len sz : Nat)
  | ro (sz : Nat) (es : List (List AV))
  | map (id : Nat)
  | fn (f : Fn) (first captured : List AV)
  | iface (t : TypeId) (v : AV)
  | agg (cs : List AV)
  | tup (vs : List AV)
  deriving Inhabited

/-- A block of the abstract heap. -/
inductive AB where
  | dead
  | var (cs : List AV)
  | arr (sz : Nat) (es : List (List AV)) (locked : Bool)
  | map (es : List (AV × AV × Nat)) (clock : Nat)
  | miter (m : Option Nat) (since : Nat) (seen : List Nat) (stepped : Nat)
  | siter (s : ByteArray) (pos : Nat)
  deriving Inhabited

abbrev AH := List AB

def AB.live : AB → Bool
  | .dead => false
  | _ => true

/-- Where a block lies: the model's block, the cell at which it begins, how many cells the model's block has, the cells of an element. -/
structure Loc where
  b : Nat
  base : Nat
  n : Nat
  sz : Nat

/-- A place to stand: where the abstract blocks lie; how many cells of each of the model's blocks are never written again; the world. -/
structure Cx where
  φ : Nat → Option Loc
  L : Nat → Nat
  w : World

/-- Values of one cell each. -/
def Ones (vs : List Value) : Prop := ∀ v ∈ vs, v.oneCell' = true

inductive VR (c : Cx) : AV → Value → Prop
  | int {k n} : VR c (.int k n) (.int k n)
  | bool {b} : VR c (.bool b) (.bool b)
  | str {s} : VR c (.str s) (.string s)
  | nilp : VR c .nilp (.pointer none)
  | nils : VR c .nils (.slice none 0 0)
  | nilm : VR c .nilm (.map none)
  | nilf : VR c .nilf .nilFunc
  | nili : VR c .nili .nilIface
  | undef : VR c .undef undef
  | dead {v} (h : v.oneCell' = true) : VR c .dead v
  | any {v} : VR c .any v
  | vsl {id off len sz l cap} (hl : c.φ id = some l) (hcap : len ≤ cap) : VR c (.vsl id off len sz) (.slice (some ⟨l.b, l.base + off, none⟩) len cap)
  | ptr {id off l} (hl : c.φ id = some l) : VR c (.ptr id off) (.pointer (some ⟨l.b, l.base + off, none⟩))
  | ep {id i off l} (hl : c.φ id = some l) : VR c (.ep id i off) (.pointer (some ⟨l.b, l.base + i * l.sz + off, none⟩))
  | rop {sz es i off b o} (vals : Nat → Nat → Value) (hi : i < es.length) (hsz : ∀ e ∈ es, e.length = sz)
      (hc : ∀ (i : Nat) (e : List AV) (j : Nat) (x : AV), es[i]? = some e → e[j]? = some x → o + i * sz + j < c.L b ∧ c.w.cell? ⟨b, o + i * sz + j, none⟩ = some (vals i j) ∧ (vals i j).oneCell' = true)
      (hv : ∀ (i : Nat) (e : List AV) (j : Nat) (x : AV), es[i]? = some e → e[j]? = some x → VR c x (vals i j)) :
      VR c (.rop sz es i off) (.pointer (some ⟨b, o + i * sz + off, none⟩))
  | sl {id off len l cap} (hl : c.φ id = some l) (hcap : len ≤ cap) (hsz : 0 < l.sz) (hn : l.base + off * l.sz + cap * l.sz ≤ l.n) :
      VR c (.sl id off len) (.slice (some ⟨l.b, l.base + off * l.sz, none⟩) len cap)
  | sl0 {id off l o} (hl : c.φ id = some l) : VR c (.sl id off 0) (.slice (some ⟨l.b, o, none⟩) 0 0)
  | ro {sz es b o len cap} (vals : Nat → Nat → Value) (hlen : len = es.length) (hcap : len ≤ cap) (hsz : ∀ e ∈ es, e.length = sz)
      (hc : ∀ (i : Nat) (e : List AV) (j : Nat) (x : AV), es[i]? = some e → e[j]? = some x → o + i * sz + j < c.L b ∧ c.w.cell? ⟨b, o + i * sz + j, none⟩ = some (vals i j) ∧ (vals i j).oneCell' = true)
      (hv : ∀ (i : Nat) (e : List AV) (j : Nat) (x : AV), es[i]? = some e → e[j]? = some x → VR c x (vals i j)) :
      VR c (.ro sz es) (.slice (some ⟨b, o, none⟩) len cap)
  | roNil {sz} : VR c (.ro sz []) (.slice none 0 0)
  | map {id l} (hl : c.φ id = some l) : VR c (.map id) (.map (some l.b))
  | fn {f first captured fs cs} (h1 : first.length = fs.size) (h2 : captured.length = cs.size)
      (h3 : ∀ (i : Nat) (x : AV) (v : Value), first[i]? = some x → fs[i]? = some v → VR c x v)
      (h4 : ∀ (i : Nat) (x : AV) (v : Value), captured[i]? = some x → cs[i]? = some v → VR c x v) : VR c (.fn f first captured) (.func f fs cs)
  | iface {t x v} (h : VR c x v) : VR c (.iface t x) (.iface t v)
  | agg {cs vs} (h0 : Ones vs.toList) (h1 : cs.length = vs.size) (h2 : ∀ (i : Nat) (x : AV) (v : Value), cs[i]? = some x → vs[i]? = some v → VR c x v) : VR c (.agg cs) (.agg vs)
  | tup {cs vs} (h1 : cs.length = vs.size) (h2 : ∀ (i : Nat) (x : AV) (v : Value), cs[i]? = some x → vs[i]? = some v → VR c x v) : VR c (.tup cs) (.tuple vs)

/-- Lists of values, place by place. -/
def VRs (c : Cx) (xs : List AV) (vs : List Value) : Prop := xs.length = vs.length ∧ ∀ (i : Nat) (x : AV) (v : Value), xs[i]? = some x → vs[i]? = some v → VR c x v

structure Le (c c' : Cx) : Prop where
  φ : ∀ i l, c.φ i = some l → c'.φ i = some l
  L : ∀ b, c.L b ≤ c'.L b
  cell : ∀ b o, o < c.L b → c'.w.cell? ⟨b, o, none⟩ = c.w.cell? ⟨b, o, none⟩

theorem Le.refl (c : Cx) : Le c c := ⟨fun _ _ h => h, fun _ => Nat.le_refl _, fun _ _ _ => rfl⟩

theorem Le.trans {a b c : Cx} (h : Le a b) (k : Le b c) : Le a c :=
  ⟨fun i l e => k.φ i l (h.φ i l e), fun b => Nat.le_trans (h.L b) (k.L b), fun b o ho => (k.cell b o (Nat.lt_of_lt_of_le ho (h.L b))).trans (h.cell b o ho)⟩

theorem VR.mono {c c' : Cx} (hle : Le c c') {x : AV} {v : Value} (h : VR c x v) : VR c' x v := by
  induction h with
  | int => exact .int
  | bool => exact .bool
  | str => exact .str
  | nilp => exact .nilp
  | nils => exact .nils
  | nilm => exact .nilm
  | nilf => exact .nilf
  | nili => exact .nili
  | undef => exact .undef
  | dead h => exact .dead h
  | any => exact .any
  | vsl hl hcap => exact .vsl (hle.φ _ _ hl) hcap
  | ptr hl => exact .ptr (hle.φ _ _ hl)
  | ep hl => exact .ep (hle.φ _ _ hl)
  | rop vals hi hsz hc _ ih =>
    exact .rop vals hi hsz (fun i e j x h1 h2 => ⟨Nat.lt_of_lt_of_le (hc i e j x h1 h2).1 (hle.L _), (hle.cell _ _ (hc i e j x h1 h2).1).trans (hc i e j x h1 h2).2.1, (hc i e j x h1 h2).2.2⟩) ih
  | sl hl hcap hsz hn => exact .sl (hle.φ _ _ hl) hcap hsz hn
  | sl0 hl => exact .sl0 (hle.φ _ _ hl)
  | ro vals hlen hcap hsz hc _ ih =>
    exact .ro vals hlen hcap hsz (fun i e j x h1 h2 => ⟨Nat.lt_of_lt_of_le (hc i e j x h1 h2).1 (hle.L _), (hle.cell _ _ (hc i e j x h1 h2).1).trans (hc i e j x h1 h2).2.1, (hc i e j x h1 h2).2.2⟩) ih
  | roNil => exact .roNil
  | map hl => exact .map (hle.φ _ _ hl)
  | fn h1 h2 _ _ ih3 ih4 => exact .fn h1 h2 ih3 ih4
  | iface _ ih => exact .iface ih
  | agg h0 h1 _ ih => exact .agg h0 h1 ih
  | tup h1 _ ih => exact .tup h1 ih

theorem VRs.mono {c c' : Cx} (hle : Le c c') {xs : List AV} {vs : List Value} (h : VRs c xs vs) : VRs c' xs vs :=
  ⟨h.1, fun i x v h1 h2 => (h.2 i x v h1 h2).mono hle⟩

theorem VRs.nil {c : Cx} : VRs c [] [] := ⟨rfl, fun i x v h => by simp at h⟩

theorem VRs.cons {c : Cx} {x : AV} {v : Value} {xs : List AV} {vs : List Value} (h : VR c x v) (hs : VRs c xs vs) : VRs c (x :: xs) (v :: vs) := by
  refine ⟨by simp [hs.1], fun i y u h1 h2 => ?_⟩
  cases i with
  | zero => simp at h1 h2; subst h1; subst h2; exact h
  | succ i => simp at h1 h2; exact hs.2 i y u h1 h2

theorem VRs.append {c : Cx} {xs ys : List AV} {vs us : List Value} (h : VRs c xs vs) (k : VRs c ys us) : VRs c (xs ++ ys) (vs ++ us) := by
  refine ⟨by simp [h.1, k.1], fun i x v h1 h2 => ?_⟩
  rcases Nat.lt_or_ge i xs.length with hi | hi
  · rw [List.getElem?_append_left hi] at h1
    rw [List.getElem?_append_left (by rw [← h.1]; exact hi)] at h2
    exact h.2 i x v h1 h2
  · rw [List.getElem?_append_right hi] at h1
    rw [List.getElem?_append_right (by rw [← h.1]; exact hi), ← h.1] at h2
    exact k.2 _ x v h1 h2

theorem VRs.getD {c : Cx} {xs : List AV} {vs : List Value} (h : VRs c xs vs) (i : Nat) {d : AV} {e : Value} (hd : VR c d e) : VR c (xs.getD i d) (vs.getD i e) := by
  simp only [List.getD_eq_getElem?_getD]
  cases h1 : xs[i]? with
  | none =>
    have : vs[i]? = none := by rw [List.getElem?_eq_none_iff] at h1 ⊢; rw [← h.1]; exact h1
    simp [this]; exact hd
  | some x =>
    have hi : i < vs.length := by rw [← h.1]; exact (List.getElem?_eq_some_iff.1 h1).1
    simp only [List.getElem?_eq_getElem hi, Option.getD_some]
    exact h.2 i x _ h1 (List.getElem?_eq_getElem hi)

theorem VRs.set {c : Cx} {xs : List AV} {vs : List Value} (h : VRs c xs vs) (i : Nat) {x : AV} {v : Value} (hx : VR c x v) : VRs c (xs.set i x) (vs.set i v) := by
  refine ⟨by simp [h.1], fun j y u h1 h2 => ?_⟩
  rw [List.getElem?_set] at h1 h2
  by_cases hij : i = j
  · subst hij
    simp only [if_true] at h1 h2
    split at h1 <;> split at h2 <;> simp_all
  · simp only [hij, if_false] at h1 h2
    exact h.2 j y u h1 h2

theorem VRs.of_array {c : Cx} {cs : List AV} {vs : Array Value} (h1 : cs.length = vs.size) (h2 : ∀ (i : Nat) (x : AV) (v : Value), cs[i]? = some x → vs[i]? = some v → VR c x v) : VRs c cs vs.toList :=
  ⟨by simp [h1], fun i x v a b => h2 i x v a (by simpa using b)⟩

theorem VR.of_agg {c : Cx} {cs : List AV} {vs : List Value} (h : VRs c cs vs) (h0 : Ones vs) : VR c (.agg cs) (.agg vs.toArray) :=
  .agg (by simpa using h0) (by simp [h.1]) fun i x v a b => h.2 i x v a (by simpa using b)

theorem VR.of_tup {c : Cx} {cs : List AV} {vs : List Value} (h : VRs c cs vs) : VR c (.tup cs) (.tuple vs.toArray) :=
  .tup (by simp [h.1]) fun i x v a b => h.2 i x v a (by simpa using b)

/-- A block as it lies in the model's memory. -/
inductive BR (c : Cx) (l : Loc) : AB → Prop
  | var {cs vs T} (hh : c.w.heap[l.b]? = some (.cells vs T (0, 0))) (hb : l.base = 0) (hL : c.L l.b = 0) (hv : VRs c cs vs.toList) (h1 : Ones vs.toList) : BR c l (.var cs)
  | arr {sz es lk vs T} (hh : c.w.heap[l.b]? = some (.cells vs T (0, 0))) (hn : l.n = vs.size) (hs : l.sz = sz) (h0 : 0 < sz) (hlen : l.base + es.length * sz ≤ vs.size)
      (hsz : ∀ e ∈ es, e.length = sz)
      (hv : ∀ (i : Nat) (e : List AV) (j : Nat) (x : AV) (v : Value), es[i]? = some e → e[j]? = some x → vs[l.base + i * sz + j]? = some v → VR c x v)
      (hL : c.L l.b ≤ l.base + es.length * sz) (hlk : lk = false → c.L l.b = 0) (h1 : Ones vs.toList) : BR c l (.arr sz es lk)
  | map {es clk ents} (hh : c.w.heap[l.b]? = some (.map ents clk)) (hL : c.L l.b = 0) (hlen : es.length = ents.size)
      (hv : ∀ (i : Nat) (k v : AV) (n : Nat) (e : MapEntry), es[i]? = some (k, v, n) → ents[i]? = some e → VR c k e.key ∧ VR c v e.val ∧ e.born = n) : BR c l (.map es clk)
  | miter {m since seen stepped mr} (hh : c.w.heap[l.b]? = some (.mapIter mr since seen.toArray stepped)) (hL : c.L l.b = 0)
      (hm : (m = none ∧ mr = none) ∨ ∃ id lm, m = some id ∧ c.φ id = some lm ∧ mr = some lm.b) : BR c l (.miter m since seen stepped)
  | siter {s pos} (hh : c.w.heap[l.b]? = some (.stringIter s pos)) (hL : c.L l.b = 0) : BR c l (.siter s pos)
  | dead : BR c l .dead

def liveAt (h : AH) (i : Nat) : Prop := ∃ b, h[i]? = some b ∧ b.live = true

structure Sim (c : Cx) (h : AH) : Prop where
  dom : ∀ i, h.length ≤ i → c.φ i = none
  blk : ∀ i b, h[i]? = some b → b.live = true → ∃ l, c.φ i = some l ∧ l.b < c.w.heap.size ∧ BR c l b
  inj : ∀ i j li lj, liveAt h i → liveAt h j → i ≠ j → c.φ i = some li → c.φ j = some lj → li.b ≠ lj.b
  lock : ∀ b, 0 < c.L b → b < c.w.heap.size

/-- The model's blocks that the abstract heap speaks of. -/
def Owns (c : Cx) (h : AH) (b : Nat) : Prop := ∃ i l, liveAt h i ∧ c.φ i = some l ∧ l.b = b

/-- What a piece of the run may have turned: its own blocks; it may have made new ones. -/
structure Ext (c : Cx) (h : AH) (c' : Cx) (h' : AH) : Prop where
  le : Le c c'
  size : c.w.heap.size ≤ c'.w.heap.size
  frame : ∀ b, b < c.w.heap.size → ¬ Owns c h b → c'.w.heap[b]? = c.w.heap[b]? ∧ c'.L b = c.L b
  own : ∀ b, Owns c' h' b → c.w.heap.size ≤ b ∨ Owns c h b
  os : c'.w.os = c.w.os
  tape : c'.w.tape = c.w.tape
  output : c'.w.output = c.w.output

theorem Ext.refl (c : Cx) (h : AH) : Ext c h c h := ⟨Le.refl c, Nat.le_refl _, fun _ _ _ => ⟨rfl, rfl⟩, fun _ h => .inr h, rfl, rfl, rfl⟩

theorem Ext.trans {a b c : Cx} {ha hb hc : AH} (h : Ext a ha b hb) (k : Ext b hb c hc) : Ext a ha c hc := by
  refine ⟨h.le.trans k.le, Nat.le_trans h.size k.size, fun x hx hno => ?_, fun x hx => ?_, k.os.trans h.os, k.tape.trans h.tape, k.output.trans h.output⟩
  · obtain ⟨h1, h2⟩ := h.frame x hx hno
    have hno' : ¬ Owns b hb x := fun ho => by
      rcases h.own x ho with h' | h'
      · omega
      · exact hno h'
    obtain ⟨k1, k2⟩ := k.frame x (Nat.lt_of_lt_of_le hx h.size) hno'
    exact ⟨k1.trans h1, k2.trans h2⟩
  · rcases k.own x hx with h' | h'
    · exact .inl (Nat.le_trans h.size h')
    · exact h.own x h'

theorem Owns.lt {c : Cx} {h : AH} (hs : Sim c h) {b : Nat} (ho : Owns c h b) : b < c.w.heap.size := by
  obtain ⟨i, l, ⟨bl, h1, h2⟩, h3, rfl⟩ := ho
  obtain ⟨l', e, hlt, _⟩ := hs.blk i bl h1 h2
  rw [h3] at e; cases e; exact hlt

/-- A block of which nothing has turned still lies as it did. -/
theorem BR.mono {c c' : Cx} {l : Loc} {b : AB} (hle : Le c c') (hh : c'.w.heap[l.b]? = c.w.heap[l.b]?) (hL : c'.L l.b = c.L l.b) (h : BR c l b) : BR c' l b := by
  cases h with
  | var h1 h2 h3 h4 h5 => exact .var (hh.trans h1) h2 (hL.trans h3) (h4.mono hle) h5
  | arr h1 h2 h3 h4 h5 h6 h7 h8 h9 h10 => exact .arr (hh.trans h1) h2 h3 h4 h5 h6 (fun i e j x v a b d => (h7 i e j x v a b d).mono hle) (by rw [hL]; exact h8) (fun e => hL.trans (h9 e)) h10
  | map h1 h2 h3 h4 => exact .map (hh.trans h1) (hL.trans h2) h3 (fun i k v n e a b => ⟨(h4 i k v n e a b).1.mono hle, (h4 i k v n e a b).2.1.mono hle, (h4 i k v n e a b).2.2⟩)
  | miter h1 h2 h3 =>
    refine .miter (hh.trans h1) (hL.trans h2) ?_
    rcases h3 with h3 | ⟨id, lm, e1, e2, e3⟩
    · exact .inl h3
    · exact .inr ⟨id, lm, e1, hle.φ _ _ e2, e3⟩
  | siter h1 h2 => exact .siter (hh.trans h1) (hL.trans h2)
  | dead => exact .dead

end Go.Vm
