/- The abstract machine, part 0: abstract values, blocks, and how they stand to the model's values and memory. Nothing of any program. -/
import Derived.Defers
import Derived.Orders
import Derived.Laws.World
import Derived.Laws.Sem
import Derived.Laws.Cells
import Derived.Laws.Append
import Derived.KernelRfl
set_option linter.unusedVariables false
set_option linter.unusedSimpArgs false
namespace Go.Vm
open Go

/-- An abstract value. 'ptr', 'ep', 'sl', 'map' name blocks by small numbers; 'ro', 'rop' are memory that nobody writes any more: its cells are part of the value. 'dead' stands for whatever value of one cell, 'any' for whatever value. 'vsl' is a slice over cells of a variable. -/
inductive AV where
  | int (k : IntKind) (n : Int)
  | bool (b : Bool)
  | str (s : ByteArray)
  | nilp | nils | nilm | nilf | nili | undef | dead | any
  | ptr (id off : Nat)
  | ep (id i off : Nat)
  | rop (sz : Nat) (es : List (List AV)) (i off : Nat)
  | sl (id off len : Nat)
  | vsl (id off len sz : Nat)
  | ro (sz : Nat) (es : List (List AV))
  | map (id : Nat)
  | fn (f : Fn) (first captured : List AV)
  | iface (t : TypeId) (v : AV)
  | agg (cs : List AV)
  | tup (vs : List AV)
  deriving Inhabited

/-- A block of the abstract heap. -/
inductive AB where
  | dead
  | var (cs : List AV)
  | arr (sz : Nat) (es : List (List AV)) (locked : Bool)
  | map (es : List (AV × AV × Nat)) (clock : Nat)
  | miter (m : Option Nat) (since : Nat) (seen : List Nat) (stepped : Nat)
  | siter (s : ByteArray) (pos : Nat)
  deriving Inhabited

abbrev AH := List AB

def AB.live : AB → Bool
  | .dead => false
  | _ => true

/-- Where a block lies: the model's block, the cell at which it begins, how many cells the model's block has, the cells of an element. -/
structure Loc where
  b : Nat
  base : Nat
  n : Nat
  sz : Nat

/-- A place to stand: where the abstract blocks lie; how many cells of each of the model's blocks are never written again; the world. -/
structure Cx where
  φ : Nat → Option Loc
  L : Nat → Nat
  w : World

/-- Values of one cell each. -/
def Ones (vs : List Value) : Prop := ∀ v ∈ vs, v.oneCell' = true

inductive VR (c : Cx) : AV → Value → Prop
  | int {k n} : VR c (.int k n) (.int k n)
  | bool {b} : VR c (.bool b) (.bool b)
  | str {s} : VR c (.str s) (.string s)
  | nilp : VR c .nilp (.pointer none)
  | nils : VR c .nils (.slice none 0 0)
  | nilm : VR c .nilm (.map none)
  | nilf : VR c .nilf .nilFunc
  | nili : VR c .nili .nilIface
  | undef : VR c .undef undef
  | dead {v} (h : v.oneCell' = true) : VR c .dead v
  | any {v} : VR c .any v
  | vsl {id off len sz l cap} (hl : c.φ id = some l) (hcap : len ≤ cap) : VR c (.vsl id off len sz) (.slice (some ⟨l.b, l.base + off, none⟩) len cap)
  | ptr {id off l} (hl : c.φ id = some l) : VR c (.ptr id off) (.pointer (some ⟨l.b, l.base + off, none⟩))
  | ep {id i off l} (hl : c.φ id = some l) : VR c (.ep id i off) (.pointer (some ⟨l.b, l.base + i * l.sz + off, none⟩))
  | rop {sz es i off b o} (vals : Nat → Nat → Value) (hi : i < es.length) (hsz : ∀ e ∈ es, e.length = sz)
      (hc : ∀ (i : Nat) (e : List AV) (j : Nat) (x : AV), es[i]? = some e → e[j]? = some x → o + i * sz + j < c.L b ∧ c.w.cell? ⟨b, o + i * sz + j, none⟩ = some (vals i j) ∧ (vals i j).oneCell' = true)
      (hv : ∀ (i : Nat) (e : List AV) (j : Nat) (x : AV), es[i]? = some e → e[j]? = some x → VR c x (vals i j)) :
      VR c (.rop sz es i off) (.pointer (some ⟨b, o + i * sz + off, none⟩))
  | sl {id off len l cap} (hl : c.φ id = some l) (hcap : len ≤ cap) (hsz : 0 < l.sz) (hn : l.base + off * l.sz + cap * l.sz ≤ l.n) :
      VR c (.sl id off len) (.slice (some ⟨l.b, l.base + off * l.sz, none⟩) len cap)
  | sl0 {id off l o} (hl : c.φ id = some l) : VR c (.sl id off 0) (.slice (some ⟨l.b, o, none⟩) 0 0)
  | ro {sz es b o len cap} (vals : Nat → Nat → Value) (hlen : len = es.length) (hcap : len ≤ cap) (hsz : ∀ e ∈ es, e.length = sz)
      (hc : ∀ (i : Nat) (e : List AV) (j : Nat) (x : AV), es[i]? = some e → e[j]? = some x → o + i * sz + j < c.L b ∧ c.w.cell? ⟨b, o + i * sz + j, none⟩ = some (vals i j) ∧ (vals i j).oneCell' = true)
      (hv : ∀ (i : Nat) (e : List AV) (j : Nat) (x : AV), es[i]? = some e → e[j]? = some x → VR c x (vals i j)) :
      VR c (.ro sz es) (.slice (some ⟨b, o, none⟩) len cap)
  | roNil {sz} : VR c (.ro sz []) (.slice none 0 0)
  | map {id l} (hl : c.φ id = some l) : VR c (.map id) (.map (some l.b))
  | fn {f first captured fs cs} (h1 : first.length = fs.size) (h2 : captured.length = cs.size)
      (h3 : ∀ (i : Nat) (x : AV) (v : Value), first[i]? = some x → fs[i]? = some v → VR c x v)
      (h4 : ∀ (i : Nat) (x : AV) (v : Value), captured[i]? = some x → cs[i]? = some v → VR c x v) : VR c (.fn f first captured) (.func f fs cs)
  | iface {t x v} (h : VR c x v) : VR c (.iface t x) (.iface t v)
  | agg {cs vs} (h0 : Ones vs.toList) (h1 : cs.length = vs.size) (h2 : ∀ (i : Nat) (x : AV) (v : Value), cs[i]? = some x → vs[i]? = some v → VR c x v) : VR c (.agg cs) (.agg vs)
  | tup {cs vs} (h1 : cs.length = vs.size) (h2 : ∀ (i : Nat) (x : AV) (v : Value), cs[i]? = some x → vs[i]? = some v → VR c x v) : VR c (.tup cs) (.tuple vs)

/-- Lists of values, place by place. -/
def VRs (c : Cx) (xs : List AV) (vs : List Value) : Prop := xs.length = vs.length ∧ ∀ (i : Nat) (x : AV) (v : Value), xs[i]? = some x → vs[i]? = some v → VR c x v

structure Le (c c' : Cx) : Prop where
  φ : ∀ i l, c.φ i = some l → c'.φ i = some l
  L : ∀ b, c.L b ≤ c'.L b
  cell : ∀ b o, o < c.L b → c'.w.cell? ⟨b, o, none⟩ = c.w.cell? ⟨b, o, none⟩

theorem Le.refl (c : Cx) : Le c c := ⟨fun _ _ h => h, fun _ => Nat.le_refl _, fun _ _ _ => rfl⟩

theorem Le.trans {a b c : Cx} (h : Le a b) (k : Le b c) : Le a c :=
  ⟨fun i l e => k.φ i l (h.φ i l e), fun b => Nat.le_trans (h.L b) (k.L b), fun b o ho => (k.cell b o (Nat.lt_of_lt_of_le ho (h.L b))).trans (h.cell b o ho)⟩

theorem VR.mono {c c' : Cx} (hle : Le c c') {x : AV} {v : Value} (h : VR c x v) : VR c' x v := by
  induction h with
  | int => exact .int
  | bool => exact .bool
  | str => exact .str
  | nilp => exact .nilp
  | nils => exact .nils
  | nilm => exact .nilm
  | nilf => exact .nilf
  | nili => exact .nili
  | undef => exact .undef
  | dead h => exact .dead h
  | any => exact .any
  | vsl hl hcap => exact .vsl (hle.φ _ _ hl) hcap
  | ptr hl => exact .ptr (hle.φ _ _ hl)
  | ep hl => exact .ep (hle.φ _ _ hl)
  | rop vals hi hsz hc _ ih =>
    exact .rop vals hi hsz (fun i e j x h1 h2 => ⟨Nat.lt_of_lt_of_le (hc i e j x h1 h2).1 (hle.L _), (hle.cell _ _ (hc i e j x h1 h2).1).trans (hc i e j x h1 h2).2.1, (hc i e j x h1 h2).2.2⟩) ih
  | sl hl hcap hsz hn => exact .sl (hle.φ _ _ hl) hcap hsz hn
  | sl0 hl => exact .sl0 (hle.φ _ _ hl)
  | ro vals hlen hcap hsz hc _ ih =>
    exact .ro vals hlen hcap hsz (fun i e j x h1 h2 => ⟨Nat.lt_of_lt_of_le (hc i e j x h1 h2).1 (hle.L _), (hle.cell _ _ (hc i e j x h1 h2).1).trans (hc i e j x h1 h2).2.1, (hc i e j x h1 h2).2.2⟩) ih
  | roNil => exact .roNil
  | map hl => exact .map (hle.φ _ _ hl)
  | fn h1 h2 _ _ ih3 ih4 => exact .fn h1 h2 ih3 ih4
  | iface _ ih => exact .iface ih
  | agg h0 h1 _ ih => exact .agg h0 h1 ih
  | tup h1 _ ih => exact .tup h1 ih

theorem VRs.mono {c c' : Cx} (hle : Le c c') {xs : List AV} {vs : List Value} (h : VRs c xs vs) : VRs c' xs vs :=
  ⟨h.1, fun i x v h1 h2 => (h.2 i x v h1 h2).mono hle⟩

theorem VRs.nil {c : Cx} : VRs c [] [] := ⟨rfl, fun i x v h => by simp at h⟩

theorem VRs.cons {c : Cx} {x : AV} {v : Value} {xs : List AV} {vs : List Value} (h : VR c x v) (hs : VRs c xs vs) : VRs c (x :: xs) (v :: vs) := by
  refine ⟨by simp [hs.1], fun i y u h1 h2 => ?_⟩
  cases i with
  | zero => simp at h1 h2; subst h1; subst h2; exact h
  | succ i => simp at h1 h2; exact hs.2 i y u h1 h2

theorem VRs.append {c : Cx} {xs ys : List AV} {vs us : List Value} (h : VRs c xs vs) (k : VRs c ys us) : VRs c (xs ++ ys) (vs ++ us) := by
  refine ⟨by simp [h.1, k.1], fun i x v h1 h2 => ?_⟩
  rcases Nat.lt_or_ge i xs.length with hi | hi
  · rw [List.getElem?_append_left hi] at h1
    rw [List.getElem?_append_left (by rw [← h.1]; exact hi)] at h2
    exact h.2 i x v h1 h2
  · rw [List.getElem?_append_right hi] at h1
    rw [List.getElem?_append_right (by rw [← h.1]; exact hi), ← h.1] at h2
    exact k.2 _ x v h1 h2

theorem VRs.getD {c : Cx} {xs : List AV} {vs : List Value} (h : VRs c xs vs) (i : Nat) {d : AV} {e : Value} (hd : VR c d e) : VR c (xs.getD i d) (vs.getD i e) := by
  simp only [List.getD_eq_getElem?_getD]
  cases h1 : xs[i]? with
  | none =>
    have : vs[i]? = none := by rw [List.getElem?_eq_none_iff] at h1 ⊢; rw [← h.1]; exact h1
    simp [this]; exact hd
  | some x =>
    have hi : i < vs.length := by rw [← h.1]; exact (List.getElem?_eq_some_iff.1 h1).1
    simp only [List.getElem?_eq_getElem hi, Option.getD_some]
    exact h.2 i x _ h1 (List.getElem?_eq_getElem hi)

theorem VRs.set {c : Cx} {xs : List AV} {vs : List Value} (h : VRs c xs vs) (i : Nat) {x : AV} {v : Value} (hx : VR c x v) : VRs c (xs.set i x) (vs.set i v) := by
  refine ⟨by simp [h.1], fun j y u h1 h2 => ?_⟩
  rw [List.getElem?_set] at h1 h2
  by_cases hij : i = j
  · subst hij
    simp only [if_true] at h1 h2
    split at h1 <;> split at h2 <;> simp_all
  · simp only [hij, if_false] at h1 h2
    exact h.2 j y u h1 h2

theorem VRs.of_array {c : Cx} {cs : List AV} {vs : Array Value} (h1 : cs.length = vs.size) (h2 : ∀ (i : Nat) (x : AV) (v : Value), cs[i]? = some x → vs[i]? = some v → VR c x v) : VRs c cs vs.toList :=
  ⟨by simp [h1], fun i x v a b => h2 i x v a (by simpa using b)⟩

theorem VR.of_agg {c : Cx} {cs : List AV} {vs : List Value} (h : VRs c cs vs) (h0 : Ones vs) : VR c (.agg cs) (.agg vs.toArray) :=
  .agg (by simpa using h0) (by simp [h.1]) fun i x v a b => h.2 i x v a (by simpa using b)

theorem VR.of_tup {c : Cx} {cs : List AV} {vs : List Value} (h : VRs c cs vs) : VR c (.tup cs) (.tuple vs.toArray) :=
  .tup (by simp [h.1]) fun i x v a b => h.2 i x v a (by simpa using b)

/-- A block as it lies in the model's memory. -/
inductive BR (c : Cx) (l : Loc) : AB → Prop
  | var {cs vs T} (hh : c.w.heap[l.b]? = some (.cells vs T (0, 0))) (hb : l.base = 0) (hL : c.L l.b = 0) (hv : VRs c cs vs.toList) (h1 : Ones vs.toList) : BR c l (.var cs)
  | arr {sz es lk vs T} (hh : c.w.heap[l.b]? = some (.cells vs T (0, 0))) (hn : l.n = vs.size) (hs : l.sz = sz) (h0 : 0 < sz) (hlen : l.base + es.length * sz ≤ vs.size)
      (hsz : ∀ e ∈ es, e.length = sz)
      (hv : ∀ (i : Nat) (e : List AV) (j : Nat) (x : AV) (v : Value), es[i]? = some e → e[j]? = some x → vs[l.base + i * sz + j]? = some v → VR c x v)
      (hL : c.L l.b ≤ l.base + es.length * sz) (hlk : lk = false → c.L l.b = 0) (h1 : Ones vs.toList) : BR c l (.arr sz es lk)
  | map {es clk ents} (hh : c.w.heap[l.b]? = some (.map ents clk)) (hL : c.L l.b = 0) (hlen : es.length = ents.size)
      (hv : ∀ (i : Nat) (k v : AV) (n : Nat) (e : MapEntry), es[i]? = some (k, v, n) → ents[i]? = some e → VR c k e.key ∧ VR c v e.val ∧ e.born = n) : BR c l (.map es clk)
  | miter {m since seen stepped mr} (hh : c.w.heap[l.b]? = some (.mapIter mr since seen.toArray stepped)) (hL : c.L l.b = 0)
      (hm : (m = none ∧ mr = none) ∨ ∃ id lm, m = some id ∧ c.φ id = some lm ∧ mr = some lm.b) : BR c l (.miter m since seen stepped)
  | siter {s pos} (hh : c.w.heap[l.b]? = some (.stringIter s pos)) (hL : c.L l.b = 0) : BR c l (.siter s pos)
  | dead : BR c l .dead

def liveAt (h : AH) (i : Nat) : Prop := ∃ b, h[i]? = some b ∧ b.live = true

structure Sim (c : Cx) (h : AH) : Prop where
  dom : ∀ i, h.length ≤ i → c.φ i = none
  blk : ∀ i b, h[i]? = some b → b.live = true → ∃ l, c.φ i = some l ∧ l.b < c.w.heap.size ∧ BR c l b
  inj : ∀ i j li lj, liveAt h i → liveAt h j → i ≠ j → c.φ i = some li → c.φ j = some lj → li.b ≠ lj.b
  lock : ∀ b, 0 < c.L b → b < c.w.heap.size

/-- The model's blocks that the abstract heap speaks of. -/
def Owns (c : Cx) (h : AH) (b : Nat) : Prop := ∃ i l, liveAt h i ∧ c.φ i = some l ∧ l.b = b

/-- What a piece of the run may have turned: its own blocks; it may have made new ones. -/
structure Ext (c : Cx) (h : AH) (c' : Cx) (h' : AH) : Prop where
  le : Le c c'
  size : c.w.heap.size ≤ c'.w.heap.size
  frame : ∀ b, b < c.w.heap.size → ¬ Owns c h b → c'.w.heap[b]? = c.w.heap[b]? ∧ c'.L b = c.L b
  own : ∀ b, Owns c' h' b → c.w.heap.size ≤ b ∨ Owns c h b
  os : c'.w.os = c.w.os
  tape : c'.w.tape = c.w.tape
  output : c'.w.output = c.w.output

theorem Ext.refl (c : Cx) (h : AH) : Ext c h c h := ⟨Le.refl c, Nat.le_refl _, fun _ _ _ => ⟨rfl, rfl⟩, fun _ h => .inr h, rfl, rfl, rfl⟩

theorem Ext.trans {a b c : Cx} {ha hb hc : AH} (h : Ext a ha b hb) (k : Ext b hb c hc) : Ext a ha c hc := by
  refine ⟨h.le.trans k.le, Nat.le_trans h.size k.size, fun x hx hno => ?_, fun x hx => ?_, k.os.trans h.os, k.tape.trans h.tape, k.output.trans h.output⟩
  · obtain ⟨h1, h2⟩ := h.frame x hx hno
    have hno' : ¬ Owns b hb x := fun ho => by
      rcases h.own x ho with h' | h'
      · omega
      · exact hno h'
    obtain ⟨k1, k2⟩ := k.frame x (Nat.lt_of_lt_of_le hx h.size) hno'
    exact ⟨k1.trans h1, k2.trans h2⟩
  · rcases k.own x hx with h' | h'
    · exact .inl (Nat.le_trans h.size h')
    · exact h.own x h'

theorem Owns.lt {c : Cx} {h : AH} (hs : Sim c h) {b : Nat} (ho : Owns c h b) : b < c.w.heap.size := by
  obtain ⟨i, l, ⟨bl, h1, h2⟩, h3, rfl⟩ := ho
  obtain ⟨l', e, hlt, _⟩ := hs.blk i bl h1 h2
  rw [h3] at e; cases e; exact hlt

/-- A block of which nothing has turned still lies as it did. -/
theorem BR.mono {c c' : Cx} {l : Loc} {b : AB} (hle : Le c c') (hh : c'.w.heap[l.b]? = c.w.heap[l.b]?) (hL : c'.L l.b = c.L l.b) (h : BR c l b) : BR c' l b := by
  cases h with
  | var h1 h2 h3 h4 h5 => exact .var (hh.trans h1) h2 (hL.trans h3) (h4.mono hle) h5
  | arr h1 h2 h3 h4 h5 h6 h7 h8 h9 h10 => exact .arr (hh.trans h1) h2 h3 h4 h5 h6 (fun i e j x v a b d => (h7 i e j x v a b d).mono hle) (by rw [hL]; exact h8) (fun e => hL.trans (h9 e)) h10
  | map h1 h2 h3 h4 => exact .map (hh.trans h1) (hL.trans h2) h3 (fun i k v n e a b => ⟨(h4 i k v n e a b).1.mono hle, (h4 i k v n e a b).2.1.mono hle, (h4 i k v n e a b).2.2⟩)
  | miter h1 h2 h3 =>
    refine .miter (hh.trans h1) (hL.trans h2) ?_
    rcases h3 with h3 | ⟨id, lm, e1, e2, e3⟩
    · exact .inl h3
    · exact .inr ⟨id, lm, e1, hle.φ _ _ e2, e3⟩
  | siter h1 h2 => exact .siter (hh.trans h1) (hL.trans h2)
  | dead => exact .dead

end Go.Vm


/- The abstract machine, part 1: what a new block, a store, an append in place, a block that falls away or is written no more do to the relation. -/
namespace Go.Vm
open Go

def upd (φ : Nat → Option Loc) (k : Nat) (l : Loc) : Nat → Option Loc := fun i => if i = k then some l else φ i

theorem upd_same {φ : Nat → Option Loc} {k : Nat} {l : Loc} : upd φ k l k = some l := by simp [upd]
theorem upd_ne {φ : Nat → Option Loc} {k i : Nat} {l : Loc} (h : i ≠ k) : upd φ k l i = φ i := by simp [upd, h]

theorem World.cell?_heap {w w' : World} {a : Addr} (h : w'.heap[a.block]? = w.heap[a.block]?) : w'.cell? a = w.cell? a := by simp [World.cell?, h]

theorem liveAt_append {h : AH} {b : AB} {i : Nat} (hi : i < h.length) : liveAt (h ++ [b]) i ↔ liveAt h i := by
  simp [liveAt, List.getElem?_append_left hi]

theorem liveAt_lt {h : AH} {i : Nat} (hl : liveAt h i) : i < h.length := by
  obtain ⟨b, hb, _⟩ := hl
  exact (List.getElem?_eq_some_iff.1 hb).1

theorem liveAt_set_ne {h : AH} {b : AB} {i id : Nat} (hi : i ≠ id) : liveAt (h.set id b) i ↔ liveAt h i := by
  simp [liveAt, List.getElem?_set_ne (Ne.symm hi)]

section
variable {c : Cx} {h : AH}

/-- Only the world's count of draws, or nothing that matters, has turned. -/
theorem Le.world {w' : World} (hh : w'.heap = c.w.heap) : Le c ⟨c.φ, c.L, w'⟩ :=
  ⟨fun _ _ e => e, fun _ => Nat.le_refl _, fun b o _ => World.cell?_heap (by rw [hh])⟩

theorem Sim.world (hs : Sim c h) {w' : World} (hh : w'.heap = c.w.heap) (h1 : w'.os = c.w.os) (h2 : w'.tape = c.w.tape) (h3 : w'.output = c.w.output) :
    Sim ⟨c.φ, c.L, w'⟩ h ∧ Ext c h ⟨c.φ, c.L, w'⟩ h := by
  refine ⟨⟨hs.dom, fun i b e1 e2 => ?_, hs.inj, fun b hb => by rw [hh]; exact hs.lock b hb⟩, ⟨Le.world hh, by simp [hh], fun b _ _ => ⟨by simp [hh], rfl⟩, fun b hb => .inr hb, h1, h2, h3⟩⟩
  obtain ⟨l, f1, f2, f3⟩ := hs.blk i b e1 e2
  exact ⟨l, f1, by rw [hh]; exact f2, f3.mono (Le.world hh) (by simp [hh]) rfl⟩

/-- A new block. -/
theorem Sim.new (hs : Sim c h) {o : Obj} {b : AB} {l : Loc} {w' : World} (hl : l.b = c.w.heap.size) (hw : w'.heap = c.w.heap.push o)
    (h1 : w'.os = c.w.os) (h2 : w'.tape = c.w.tape) (h3 : w'.output = c.w.output)
    (hBR : Le c ⟨upd c.φ h.length l, c.L, w'⟩ → c.L l.b = 0 → BR ⟨upd c.φ h.length l, c.L, w'⟩ l b) :
    Sim ⟨upd c.φ h.length l, c.L, w'⟩ (h ++ [b]) ∧ Ext c h ⟨upd c.φ h.length l, c.L, w'⟩ (h ++ [b]) := by
  have hold : ∀ x, x < c.w.heap.size → w'.heap[x]? = c.w.heap[x]? := fun x hx => by rw [hw, Array.getElem?_push, if_neg (by omega)]
  have hsz : w'.heap.size = c.w.heap.size + 1 := by rw [hw]; simp
  have hle : Le c ⟨upd c.φ h.length l, c.L, w'⟩ := by
    refine ⟨fun i l' e => ?_, fun _ => Nat.le_refl _, fun b o ho => World.cell?_heap (hold b (hs.lock b (by omega)))⟩
    show upd c.φ h.length l i = some l'
    rw [upd_ne]; · exact e
    intro hi; rw [hs.dom i (by omega)] at e; cases e
  have hL : c.L l.b = 0 := by
    rcases Nat.eq_zero_or_pos (c.L l.b) with h' | h'
    · exact h'
    · have := hs.lock _ h'; omega
  have hB := hBR hle hL
  have hblk : ∀ i bl, i < h.length → h[i]? = some bl → bl.live = true → ∃ l', upd c.φ h.length l i = some l' ∧ l'.b < c.w.heap.size ∧ BR ⟨upd c.φ h.length l, c.L, w'⟩ l' bl := by
    intro i bl hi e1 e2
    obtain ⟨l', f1, f2, f3⟩ := hs.blk i bl e1 e2
    exact ⟨l', by rw [upd_ne (by omega)]; exact f1, f2, f3.mono hle (hold _ f2) rfl⟩
  have hown : ∀ i l', liveAt (h ++ [b]) i → upd c.φ h.length l i = some l' → (i = h.length ∧ l' = l) ∨ (i < h.length ∧ liveAt h i ∧ c.φ i = some l') := by
    intro i l' hli e
    have hlt := liveAt_lt hli
    simp at hlt
    by_cases hi : i = h.length
    · subst hi; rw [upd_same] at e; cases e; exact .inl ⟨rfl, rfl⟩
    · have hi' : i < h.length := by omega
      rw [upd_ne hi] at e
      exact .inr ⟨hi', (liveAt_append hi').1 hli, e⟩
  have hltb : ∀ i l', liveAt h i → c.φ i = some l' → l'.b < c.w.heap.size := fun i l' hli e => Owns.lt hs ⟨i, l', hli, e, rfl⟩
  refine ⟨⟨fun i hi => ?_, fun i bl e1 e2 => ?_, fun i j li lj hi hj hij ei ej => ?_, fun b hb => ?_⟩, ⟨hle, by simp [hsz], fun b hb _ => ⟨hold b hb, rfl⟩, fun b hb => ?_, h1, h2, h3⟩⟩
  · simp at hi
    show upd c.φ h.length l i = none
    rw [upd_ne (by omega)]; exact hs.dom i (by omega)
  · rcases Nat.lt_or_ge i h.length with hi | hi
    · rw [List.getElem?_append_left hi] at e1
      obtain ⟨l', f1, f2, f3⟩ := hblk i bl hi e1 e2
      exact ⟨l', f1, by show l'.b < w'.heap.size; omega, f3⟩
    · rw [List.getElem?_append_right hi] at e1
      have hi2 : i - h.length = 0 := by
        rcases Nat.eq_zero_or_pos (i - h.length) with h' | h'
        · exact h'
        · rw [List.getElem?_eq_none (by simp; omega)] at e1; cases e1
      have : i = h.length := by omega
      subst this
      simp at e1; subst e1
      exact ⟨l, upd_same, by show l.b < w'.heap.size; omega, hB⟩
  · rcases hown i li hi ei with ⟨e1, e2⟩ | ⟨e1, e2, e3⟩ <;> rcases hown j lj hj ej with ⟨g1, g2⟩ | ⟨g1, g2, g3⟩
    · omega
    · subst e2; have := hltb j lj g2 g3; omega
    · subst g2; have := hltb i li e2 e3; omega
    · exact hs.inj i j li lj e2 g2 hij e3 g3
  · have := hs.lock b hb; show b < w'.heap.size; omega
  · obtain ⟨i, l', hli, e, rfl⟩ := hb
    rcases hown i l' hli e with ⟨_, e2⟩ | ⟨_, e2, e3⟩
    · subst e2; exact .inl (by omega)
    · exact .inr ⟨i, l', e2, e3, rfl⟩

theorem Le.upd_world {id : Nat} {l : Loc} {w' : World} (hoth : ∀ x, x ≠ l.b → w'.heap[x]? = c.w.heap[x]?)
    (hcell : ∀ o, o < c.L l.b → w'.cell? ⟨l.b, o, none⟩ = c.w.cell? ⟨l.b, o, none⟩) : Le c ⟨c.φ, c.L, w'⟩ := by
  have _ := id
  refine ⟨fun _ _ e => e, fun _ => Nat.le_refl _, fun b o ho => ?_⟩
  by_cases hb : b = l.b
  · subst hb; exact hcell o ho
  · exact World.cell?_heap (hoth b hb)

/-- A block's content turns. -/
theorem Sim.upd (hs : Sim c h) {id : Nat} {b b' : AB} {l : Loc} {w' : World} (hid : h[id]? = some b) (hlive : b.live = true) (hφ : c.φ id = some l)
    (hsz : w'.heap.size = c.w.heap.size) (hoth : ∀ x, x ≠ l.b → w'.heap[x]? = c.w.heap[x]?)
    (hcell : ∀ o, o < c.L l.b → w'.cell? ⟨l.b, o, none⟩ = c.w.cell? ⟨l.b, o, none⟩)
    (h1 : w'.os = c.w.os) (h2 : w'.tape = c.w.tape) (h3 : w'.output = c.w.output)
    (hBR : Le c ⟨c.φ, c.L, w'⟩ → BR ⟨c.φ, c.L, w'⟩ l b') : Sim ⟨c.φ, c.L, w'⟩ (h.set id b') ∧ Ext c h ⟨c.φ, c.L, w'⟩ (h.set id b') := by
  have hle : Le c ⟨c.φ, c.L, w'⟩ := Le.upd_world (id := id) hoth hcell
  have hB := hBR hle
  have hll : liveAt h id := ⟨b, hid, hlive⟩
  have hlt : id < h.length := liveAt_lt hll
  have hlv : ∀ i, liveAt (h.set id b') i → liveAt h i := fun i hi => by
    by_cases hii : i = id
    · subst hii; exact hll
    · exact (liveAt_set_ne hii).1 hi
  refine ⟨⟨fun i hi => hs.dom i (by simpa using hi), fun i bl e1 e2 => ?_, fun i j li lj hi hj => hs.inj i j li lj (hlv i hi) (hlv j hj), fun x hx => ?_⟩, ⟨hle, by simp [hsz], fun x hx hno => ⟨hoth x fun hxe => hno ⟨id, l, hll, hφ, hxe.symm⟩, rfl⟩, fun x hx => ?_, h1, h2, h3⟩⟩
  · by_cases hii : i = id
    · subst hii
      rw [List.getElem?_set_self hlt] at e1
      cases e1
      refine ⟨l, hφ, ?_, hB⟩
      show l.b < w'.heap.size
      rw [hsz]; exact Owns.lt hs ⟨i, l, hll, hφ, rfl⟩
    · rw [List.getElem?_set_ne (Ne.symm hii)] at e1
      obtain ⟨l', f1, f2, f3⟩ := hs.blk i bl e1 e2
      exact ⟨l', f1, by show l'.b < w'.heap.size; rw [hsz]; exact f2, f3.mono hle (hoth _ (hs.inj i id l' l ⟨bl, e1, e2⟩ hll hii f1 hφ)) rfl⟩
  · show x < w'.heap.size
    rw [hsz]; exact hs.lock x hx
  · obtain ⟨i, l', hi, e, rfl⟩ := hx
    exact .inr ⟨i, l', hlv i hi, e, rfl⟩

/-- A block falls away. -/
theorem Sim.kill (hs : Sim c h) (id : Nat) : Sim c (h.set id .dead) ∧ Ext c h c (h.set id .dead) := by
  have hlv : ∀ i, liveAt (h.set id .dead) i → liveAt h i ∧ i ≠ id := fun i hi => by
    by_cases hii : i = id
    · subst hii
      obtain ⟨b, e1, e2⟩ := hi
      rw [List.getElem?_set_self (by simpa using (List.getElem?_eq_some_iff.1 e1).1)] at e1
      cases e1; cases e2
    · exact ⟨(liveAt_set_ne hii).1 hi, hii⟩
  refine ⟨⟨fun i hi => hs.dom i (by simpa using hi), fun i bl e1 e2 => ?_, fun i j li lj hi hj => hs.inj i j li lj (hlv i hi).1 (hlv j hj).1, hs.lock⟩,
    ⟨Le.refl c, Nat.le_refl _, fun _ _ _ => ⟨rfl, rfl⟩, fun b hb => ?_, rfl, rfl, rfl⟩⟩
  · have hii := (hlv i ⟨bl, e1, e2⟩).2
    rw [List.getElem?_set_ne (Ne.symm hii)] at e1
    exact hs.blk i bl e1 e2
  · obtain ⟨i, l', hi, e, rfl⟩ := hb
    exact .inr ⟨i, l', (hlv i hi).1, e, rfl⟩

/-- A block that is the last user of a row of the model's memory hands it on to a new one: an append in place. -/
theorem Sim.move (hs : Sim c h) {id : Nat} {b b' : AB} {l l' : Loc} {w' : World} (hid : h[id]? = some b) (hlive : b.live = true) (hφ : c.φ id = some l) (hl : l'.b = l.b)
    (hsz : w'.heap.size = c.w.heap.size) (hoth : ∀ x, x ≠ l.b → w'.heap[x]? = c.w.heap[x]?)
    (hcell : ∀ o, o < c.L l.b → w'.cell? ⟨l.b, o, none⟩ = c.w.cell? ⟨l.b, o, none⟩)
    (h1 : w'.os = c.w.os) (h2 : w'.tape = c.w.tape) (h3 : w'.output = c.w.output)
    (hBR : Le c ⟨Vm.upd c.φ h.length l', c.L, w'⟩ → BR ⟨Vm.upd c.φ h.length l', c.L, w'⟩ l' b') :
    Sim ⟨Vm.upd c.φ h.length l', c.L, w'⟩ (h.set id .dead ++ [b']) ∧ Ext c h ⟨Vm.upd c.φ h.length l', c.L, w'⟩ (h.set id .dead ++ [b']) := by
  have hle0 : Le c ⟨c.φ, c.L, w'⟩ := Le.upd_world (id := id) hoth hcell
  have hle : Le c ⟨Vm.upd c.φ h.length l', c.L, w'⟩ := by
    refine ⟨fun i l'' e => ?_, hle0.L, hle0.cell⟩
    show Vm.upd c.φ h.length l' i = some l''
    rw [upd_ne]; · exact e
    intro hi; rw [hs.dom i (by omega)] at e; cases e
  have hB := hBR hle
  have hll : liveAt h id := ⟨b, hid, hlive⟩
  have hlt : id < h.length := liveAt_lt hll
  have hlen : (h.set id .dead).length = h.length := by simp
  have hlv : ∀ i l'', liveAt (h.set id .dead ++ [b']) i → Vm.upd c.φ h.length l' i = some l'' → (i = h.length ∧ l'' = l') ∨ (i ≠ id ∧ i < h.length ∧ liveAt h i ∧ c.φ i = some l'') := by
    intro i l'' hi e
    have hlti := liveAt_lt hi
    simp at hlti
    by_cases hie : i = h.length
    · subst hie; rw [upd_same] at e; cases e; exact .inl ⟨rfl, rfl⟩
    · have hi' : i < h.length := by omega
      rw [upd_ne hie] at e
      have hi2 := (liveAt_append (by rw [hlen]; exact hi')).1 hi
      by_cases hii : i = id
      · subst hii
        obtain ⟨bb, e1, e2⟩ := hi2
        rw [List.getElem?_set_self hlt] at e1
        cases e1; cases e2
      · exact .inr ⟨hii, hi', (liveAt_set_ne hii).1 hi2, e⟩
  refine ⟨⟨fun i hi => ?_, fun i bl e1 e2 => ?_, fun i j li lj hi hj hij ei ej => ?_, fun x hx => ?_⟩, ⟨hle, by simp [hsz], fun x hx hno => ⟨hoth x fun hxe => hno ⟨id, l, hll, hφ, hxe.symm⟩, rfl⟩, fun x hx => ?_, h1, h2, h3⟩⟩
  · simp at hi
    show Vm.upd c.φ h.length l' i = none
    rw [upd_ne (by omega)]; exact hs.dom i (by omega)
  · rcases Nat.lt_or_ge i h.length with hi | hi
    · rw [List.getElem?_append_left (by rw [hlen]; exact hi)] at e1
      by_cases hii : i = id
      · subst hii; rw [List.getElem?_set_self hlt] at e1; cases e1; cases e2
      · rw [List.getElem?_set_ne (Ne.symm hii)] at e1
        obtain ⟨l'', f1, f2, f3⟩ := hs.blk i bl e1 e2
        exact ⟨l'', (upd_ne (by omega)).trans f1, by show l''.b < w'.heap.size; rw [hsz]; exact f2, f3.mono hle (hoth _ (hs.inj i id l'' l ⟨bl, e1, e2⟩ hll hii f1 hφ)) rfl⟩
    · rw [List.getElem?_append_right (by rw [hlen]; exact hi)] at e1
      have hi2 : i - (h.set id .dead).length = 0 := by
        rcases Nat.eq_zero_or_pos (i - (h.set id .dead).length) with h' | h'
        · exact h'
        · rw [List.getElem?_eq_none (by simp at h' ⊢; omega)] at e1; cases e1
      rw [hlen] at hi2
      have : i = h.length := by omega
      subst this
      simp at e1; subst e1
      exact ⟨l', upd_same, by show l'.b < w'.heap.size; rw [hsz, hl]; exact Owns.lt hs ⟨id, l, hll, hφ, rfl⟩, hB⟩
  · rcases hlv i li hi ei with ⟨e1, e2⟩ | ⟨e0, e1, e2, e3⟩ <;> rcases hlv j lj hj ej with ⟨g1, g2⟩ | ⟨g0, g1, g2, g3⟩
    · omega
    · subst e2; rw [hl]; exact hs.inj id j l lj hll g2 (Ne.symm g0) hφ g3
    · subst g2; rw [hl]; exact hs.inj i id li l e2 hll e0 e3 hφ
    · exact hs.inj i j li lj e2 g2 hij e3 g3
  · show x < w'.heap.size
    rw [hsz]; exact hs.lock x hx
  · obtain ⟨i, l'', hi, e, rfl⟩ := hx
    rcases hlv i l'' hi e with ⟨_, e2⟩ | ⟨_, _, e2, e3⟩
    · subst e2; exact .inr ⟨id, l, hll, hφ, hl.symm⟩
    · exact .inr ⟨i, l'', e2, e3, rfl⟩

/-- An own row is written no more (as far as it reaches). -/
theorem Sim.lockRow (hs : Sim c h) {id sz : Nat} {es : List (List AV)} {lk : Bool} {l : Loc} (hid : h[id]? = some (.arr sz es lk)) (hφ : c.φ id = some l) :
    let L' := fun x => if x = l.b then l.base + es.length * sz else c.L x
    Sim ⟨c.φ, L', c.w⟩ (h.set id (.arr sz es true)) ∧ Ext c h ⟨c.φ, L', c.w⟩ (h.set id (.arr sz es true)) := by
  intro L'
  have hll : liveAt h id := ⟨_, hid, rfl⟩
  have hlt : id < h.length := liveAt_lt hll
  obtain ⟨l0, f1, f2, f3⟩ := hs.blk id _ hid rfl
  rw [hφ] at f1; cases f1
  have hle : Le c ⟨c.φ, L', c.w⟩ := by
    refine ⟨fun _ _ e => e, fun x => ?_, fun _ _ _ => rfl⟩
    show c.L x ≤ L' x
    by_cases hx : x = l.b
    · subst hx
      cases f3 with
      | arr _ _ _ _ _ _ _ hL _ _ => simp [L']; exact hL
    · simp [L', hx]
  have hlv : ∀ i, liveAt (h.set id (.arr sz es true)) i → liveAt h i := fun i hi => by
    by_cases hii : i = id
    · subst hii; exact hll
    · exact (liveAt_set_ne hii).1 hi
  have hsame : ∀ x, x ≠ l.b → L' x = c.L x := fun x hx => by simp [L', hx]
  refine ⟨⟨fun i hi => hs.dom i (by simpa using hi), fun i bl e1 e2 => ?_, fun i j li lj hi hj => hs.inj i j li lj (hlv i hi) (hlv j hj), fun x hx => ?_⟩, ⟨hle, Nat.le_refl _, fun x hx hno => ⟨rfl, hsame x fun hxe => hno ⟨id, l, hll, hφ, hxe.symm⟩⟩, fun x hx => ?_, rfl, rfl, rfl⟩⟩
  · by_cases hii : i = id
    · subst hii
      rw [List.getElem?_set_self hlt] at e1
      cases e1
      refine ⟨l, hφ, f2, ?_⟩
      cases f3 with
      | arr a1 a2 a3 a4 a5 a6 a7 a8 a9 a10 => exact .arr a1 a2 a3 a4 a5 a6 (fun i e j x v p q r => (a7 i e j x v p q r).mono hle) (by simp [L']) (by simp) a10
    · rw [List.getElem?_set_ne (Ne.symm hii)] at e1
      obtain ⟨l', g1, g2, g3⟩ := hs.blk i bl e1 e2
      exact ⟨l', g1, g2, g3.mono hle rfl (hsame _ (hs.inj i id l' l ⟨bl, e1, e2⟩ hll hii g1 hφ))⟩
  · by_cases hxe : x = l.b
    · rw [hxe]; exact f2
    · have hx' : 0 < L' x := hx
      rw [hsame x hxe] at hx'; exact hs.lock x hx'
  · obtain ⟨i, l', hi, e, rfl⟩ := hx
    exact .inr ⟨i, l', hlv i hi, e, rfl⟩

/-- A slice of an own row that is written no more, as a value. -/
theorem VR.sl_ro (hs : Sim c h) {id off len sz : Nat} {es : List (List AV)} {v : Value} {l : Loc} (hid : h[id]? = some (.arr sz es true)) (hφ : c.φ id = some l)
    (hL : c.L l.b = l.base + es.length * sz) (hlen : off + len ≤ es.length) (hv : VR c (.sl id off len) v) : VR c (.ro sz ((es.drop off).take len)) v := by
  obtain ⟨l0, f1, f2, f3⟩ := hs.blk id _ hid rfl
  rw [hφ] at f1; cases f1
  cases f3 with
  | arr a1 a2 a3 a4 a5 a6 a7 a8 a9 a10 =>
    have hl2 : ((es.drop off).take len).length = len := by simp; omega
    have hsub : ∀ e, e ∈ (es.drop off).take len → e ∈ es := fun e he => List.mem_of_mem_drop (List.mem_of_mem_take he)
    rename_i vs T
    cases hv with
    | sl0 hl' =>
      have h0 : (es.drop off).take 0 = [] := by simp
      rw [h0]
      exact .ro (fun _ _ => default) rfl (Nat.le_refl _) (by simp) (fun i e j x hh => by simp at hh) (fun i e j x hh => by simp at hh)
    | sl hl' hcap hsz hn =>
      rw [hφ] at hl'; cases hl'
      have hget : ∀ (i : Nat) (e : List AV) (j : Nat) (x : AV), ((es.drop off).take len)[i]? = some e → e[j]? = some x → es[off + i]? = some e ∧ i < len ∧ j < sz := by
        intro i e j x g1 g2
        have hi : i < len := by
          have := (List.getElem?_eq_some_iff.1 g1).1
          omega
        rw [List.getElem?_take_of_lt hi, List.getElem?_drop] at g1
        have hj := (List.getElem?_eq_some_iff.1 g2).1
        rw [a6 e (List.mem_of_getElem? g1)] at hj
        exact ⟨g1, hi, hj⟩
      have hb : ∀ i j, i < len → j < sz → (off + i) * sz + j < es.length * sz := by
        intro i j hi hj
        have : (off + i + 1) * sz ≤ es.length * sz := Nat.mul_le_mul_right _ (by omega)
        rw [Nat.add_mul, Nat.one_mul] at this
        omega
      refine .ro (fun i j => (vs[l.base + (off + i) * sz + j]?).getD default) hl2.symm hcap (fun e he => a6 e (hsub e he)) (fun i e j x g1 g2 => ?_) (fun i e j x g1 g2 => ?_)
      · obtain ⟨k1, k2, k3⟩ := hget i e j x g1 g2
        have hbb := hb i j k2 k3
        have hidx : l.base + off * l.sz + i * sz + j = l.base + (off + i) * sz + j := by rw [a3, Nat.add_mul]; omega
        have hlt : l.base + (off + i) * sz + j < vs.size := by omega
        refine ⟨by rw [hidx, hL]; omega, ?_, ?_⟩
        · rw [hidx]
          simp only [World.cell?, a1]
          rw [Array.getElem?_eq_getElem hlt]
          simp
        · rw [Array.getElem?_eq_getElem hlt]
          exact a10 _ (by simp)
      · obtain ⟨k1, k2, k3⟩ := hget i e j x g1 g2
        have hbb := hb i j k2 k3
        rw [Array.getElem?_eq_getElem (by omega)]
        exact a7 (off + i) e j x _ k1 g2 (Array.getElem?_eq_getElem (by omega))

end
end Go.Vm


/- The abstract machine, part 2: the table of types, and the operations on values and memory: what each does to abstract values, and that the model does the same. -/
namespace Go.Vm
open Go

/-- What the machine asks of a type: its underlying form, its cells, its bytes, its zero value. -/
structure TyI where
  desc : TypeDesc
  size : Nat
  bytes : Nat
  zero : Value

structure TyOK (P : Program) (t : TypeId) (ti : TyI) : Prop where
  desc : P.underlying t = some ti.desc
  info : ∃ i, P.info? t = some i ∧ i.size = ti.size ∧ i.bytes = ti.bytes ∧ i.zero = some ti.zero
  zsz : ti.zero.cells.size = ti.size
  zone : Ones ti.zero.cells.toList

abbrev Tab := TypeId → Option TyI

def Tab.OK (P : Program) (T : Tab) : Prop := ∀ t ti, T t = some ti → TyOK P t ti

def TyI.isAgg (ti : TyI) : Bool :=
  match ti.desc with
  | .struct _ => true
  | .array _ _ => true
  | _ => false

section
variable {P : Program} {T : Tab} {t : TypeId} {ti : TyI} (w : World)

theorem TyOK.run_underlying (h : TyOK P t ti) : (underlying t).run P w = .ok ti.desc w := by
  simp [underlying, h.desc]

theorem TyOK.run_typeInfo (h : TyOK P t ti) : ∃ i, (typeInfo t).run P w = .ok i w ∧ i.size = ti.size ∧ i.bytes = ti.bytes ∧ i.zero = some ti.zero := by
  obtain ⟨i, h1, h2⟩ := h.info
  exact ⟨i, by simp [typeInfo, h1], h2⟩

theorem TyOK.run_sizeOf (h : TyOK P t ti) : (sizeOf t).run P w = .ok ti.size w := by
  obtain ⟨i, h1, h2, _⟩ := h.run_typeInfo w
  simp [sizeOf, h1, h2]

theorem TyOK.run_zeroValue (h : TyOK P t ti) : (zeroValue t).run P w = .ok ti.zero w := by
  obtain ⟨i, h1, _, _, h2⟩ := h.run_typeInfo w
  simp [zeroValue, h1, h2]

theorem TyOK.run_isAgg (h : TyOK P t ti) : (isAgg t).run P w = .ok ti.isAgg w := by
  simp only [isAgg, Sem.run_bind, h.run_underlying w, Result.andThen_ok, TyI.isAgg]
  cases ti.desc <;> rfl
end

/-- A cell of a constant. -/
def ofCell : Value → AV
  | .bool b => .bool b
  | .int k n => .int k n
  | .string s => .str s
  | .pointer none => .nilp
  | .slice none 0 0 => .nils
  | .map none => .nilm
  | .nilFunc => .nilf
  | .nilIface => .nili
  | .agg _ => .any
  | .tuple _ => .any
  | _ => .dead

/-- A constant. -/
def ofVal : Value → AV
  | .agg cs => if cs.toList.all Value.oneCell' then .agg (cs.toList.map ofCell) else .any
  | .tuple vs => if vs.isEmpty then .undef else .any
  | v => ofCell v

theorem VR.ofCell (c : Cx) (v : Value) : VR c (ofCell v) v := by
  unfold Vm.ofCell
  split <;> first
    | exact .bool | exact .int | exact .str | exact .nilp | exact .nils | exact .nilm | exact .nilf | exact .nili | exact .any
    | (refine .dead ?_; cases v <;> first | rfl | simp_all)

theorem VR.ofVal (c : Cx) (v : Value) : VR c (ofVal v) v := by
  unfold Vm.ofVal
  split
  · rename_i cs
    split
    · rename_i hall
      refine .agg (fun v hv => by rw [List.all_eq_true] at hall; exact hall v hv) (by simp) fun i x v h1 h2 => ?_
      simp only [List.getElem?_map, Array.getElem?_toList] at h1
      rw [h2] at h1
      cases h1
      exact VR.ofCell c v
    · exact .any
  · rename_i vs
    split
    · rename_i h
      have : vs = #[] := by simpa using h
      subst this
      exact .undef
    · exact .any
  · exact VR.ofCell c _

/-- Is it of one cell, for sure? -/
def AV.one : AV → Bool
  | .undef | .any | .agg _ | .tup _ => false
  | _ => true

theorem VR.one {c : Cx} {x : AV} {v : Value} (h : VR c x v) (h1 : x.one = true) : v.oneCell' = true := by
  cases h <;> first | rfl | assumption | (simp [AV.one] at h1)

def AV.cells? : AV → Option (List AV)
  | .agg cs => some cs
  | .undef => none
  | .any => none
  | .tup _ => none
  | x => some [x]

theorem VR.cells {c : Cx} {x : AV} {v : Value} (h : VR c x v) {cs : List AV} (h1 : x.cells? = some cs) : VRs c cs v.cells.toList ∧ Ones v.cells.toList := by
  have one : ∀ {x : AV} {v : Value}, VR c x v → v.cells = #[v] → v.oneCell' = true → VRs c [x] v.cells.toList ∧ Ones v.cells.toList := fun {x v} h hv h1 => by
    rw [hv]; exact ⟨.cons h .nil, fun u hu => by simp at hu; subst hu; exact h1⟩
  cases h <;> simp only [AV.cells?, Option.some.injEq, reduceCtorEq] at h1 <;> (try subst h1)
  case agg cs vs h0 h2 h3 => exact ⟨VRs.of_array h2 h3, h0⟩
  case dead hv => exact one (.dead hv) (by cases v <;> first | rfl | (simp [Value.oneCell'] at hv)) hv
  all_goals refine one ?_ rfl rfl
  case int => exact .int
  case bool => exact .bool
  case str => exact .str
  case nilp => exact .nilp
  case nils => exact .nils
  case nilm => exact .nilm
  case nilf => exact .nilf
  case nili => exact .nili
  case vsl h2 h3 => exact .vsl h2 h3
  case ptr h2 => exact .ptr h2
  case ep h2 => exact .ep h2
  case rop h1 h2 h3 h4 h5 => exact .rop h1 h2 h3 h4 h5
  case sl h1 h2 h3 h4 => exact .sl h1 h2 h3 h4
  case sl0 h1 => exact .sl0 h1
  case ro h1 h2 h3 h4 h5 h6 => exact .ro h1 h2 h3 h4 h5 h6
  case roNil => exact .roNil
  case map h1 => exact .map h1
  case fn h1 h2 h3 h4 => exact .fn h1 h2 h3 h4
  case iface h1 => exact .iface h1

/-- A computation of the model's that yields a value, as the abstract machine sees it. -/
def SV (P : Program) (s : Sem Value) (c : Cx) (h : AH) (K : AV → AH → Prop) : Prop :=
  ∃ x h' c' v, K x h' ∧ Ext c h c' h' ∧ Sim c' h' ∧ s.run P c.w = .ok v c'.w ∧ VR c' x v

def SU (P : Program) (s : Sem Unit) (c : Cx) (h : AH) (K : AH → Prop) : Prop :=
  ∃ h' c', K h' ∧ Ext c h c' h' ∧ Sim c' h' ∧ s.run P c.w = .ok () c'.w

theorem SV.same {P : Program} {s : Sem Value} {c : Cx} {h : AH} {K : AV → AH → Prop} (hs : Sim c h) {x : AV} {v : Value} (hK : K x h) (hr : s.run P c.w = .ok v c.w) (hv : VR c x v) : SV P s c h K :=
  ⟨x, h, c, v, hK, Ext.refl c h, hs, hr, hv⟩

theorem SV.congr {P : Program} {s s' : Sem Value} {c : Cx} {h : AH} {K : AV → AH → Prop} (he : s.run P c.w = s'.run P c.w) (hh : SV P s' c h K) : SV P s c h K := by
  obtain ⟨x, h', c', v, a, b, d, e, f⟩ := hh
  exact ⟨x, h', c', v, a, b, d, he.trans e, f⟩

/-- The same, of what leaves the world alone. -/
def SV0 (P : Program) (s : Sem Value) (c : Cx) (K : AV → Prop) : Prop := ∃ x v, K x ∧ s.run P c.w = .ok v c.w ∧ VR c x v

theorem SV0.sv {P : Program} {s : Sem Value} {c : Cx} {h : AH} {K : AV → AH → Prop} (hs : Sim c h) (hh : SV0 P s c fun y => K y h) : SV P s c h K := by
  obtain ⟨x, v, a, b, d⟩ := hh
  exact SV.same hs a b d

theorem SV0.same {P : Program} {s : Sem Value} {c : Cx} {K : AV → Prop} {x : AV} {v : Value} (hK : K x) (hr : s.run P c.w = .ok v c.w) (hv : VR c x v) : SV0 P s c K := ⟨x, v, hK, hr, hv⟩

theorem SV0.congr {P : Program} {s s' : Sem Value} {c : Cx} {K : AV → Prop} (he : s.run P c.w = s'.run P c.w) (hh : SV0 P s' c K) : SV0 P s c K := by
  obtain ⟨x, v, a, b, d⟩ := hh
  exact ⟨x, v, a, he.trans b, d⟩

/-! ### New variables -/
def zeroCells (ti : TyI) : List AV := ti.zero.cells.toList.map ofCell

theorem VRs.map_ofCell (c : Cx) (vs : List Value) : VRs c (vs.map ofCell) vs := by
  refine ⟨by simp, fun i x v h1 h2 => ?_⟩
  simp only [List.getElem?_map, h2, Option.map_some, Option.some.injEq] at h1
  subst h1
  exact VR.ofCell c v

section
variable {P : Program} {T : Tab} {c : Cx} {h : AH} {K : AV → AH → Prop}

/-- A new variable of some cells. -/
theorem sv_newVar (hs : Sim c h) {cs : List AV} {vs : Array Value} (e : TypeId) (hv : VRs c cs vs.toList) (h1 : Ones vs.toList) (hK : K (.ptr h.length 0) (h ++ [.var cs])) :
    SV P (do pure (.pointer (some (← newRow e vs)))) c h K := by
  have h0 := Sim.new hs (o := .cells vs e) (b := .var cs) (l := ⟨c.w.heap.size, 0, 0, 0⟩) (w' := c.w.alloc (.cells vs e)) rfl rfl rfl rfl rfl
    (fun hle hL => .var (T := e) (vs := vs) (by show (c.w.heap.push _)[c.w.heap.size]? = _; simp) rfl hL (hv.mono hle) h1)
  exact ⟨_, _, _, _, hK, h0.2, h0.1, rfl, VR.ptr (id := h.length) (off := 0) (l := ⟨c.w.heap.size, 0, 0, 0⟩) upd_same⟩

def aAlloc (T : Tab) (t : TypeId) (h : AH) (K : AV → AH → Prop) : Prop :=
  match T t with
  | some ti => K (.ptr h.length 0) (h ++ [.var (zeroCells ti)])
  | none => False

theorem aAlloc_sound (hT : T.OK P) (hs : Sim c h) {t : TypeId} (hk : aAlloc T t h K) : SV P (Instr.alloc t true (.tuple #[])) c h K := by
  unfold aAlloc at hk
  split at hk
  · rename_i ti ht
    refine SV.congr ?_ (sv_newVar (P := P) hs t (VRs.map_ofCell c ti.zero.cells.toList) (hT t ti ht).zone hk)
    simp [Instr.alloc, (hT t ti ht).run_zeroValue c.w, newVar]
  · exact hk.elim

def aBox (x : AV) (h : AH) (K : AV → AH → Prop) : Prop :=
  match x.cells? with
  | some cs => K (.ptr h.length 0) (h ++ [.var cs])
  | none => False

theorem aBox_sound (hs : Sim c h) {t : TypeId} {x : AV} {v : Value} (hv : VR c x v) (hk : aBox x h K) : SV P (Instr.box t v) c h K := by
  unfold aBox at hk
  split at hk
  · rename_i cs hc
    exact sv_newVar (P := P) hs t (hv.cells hc).1 (hv.cells hc).2 hk
  · exact hk.elim

/-! ### Reading -/
/-- The part of type 'ti' at cell 'off' of some cells. -/
def aPart (ti : TyI) (cs : List AV) (off : Nat) (K : AV → Prop) : Prop :=
  if ti.isAgg then (if off + ti.size ≤ cs.length then K (.agg ((cs.drop off).take ti.size)) else False)
  else match cs[off]? with
    | some x => K x
    | none => False

def aLoad (T : Tab) (t : TypeId) (x : AV) (h : AH) (K : AV → AH → Prop) : Prop :=
  match T t with
  | none => False
  | some ti =>
    match x with
    | .ptr id off => (match h[id]? with
      | some (.var cs) => aPart ti cs off fun y => K y h
      | _ => False)
    | .ep id i off => (match h[id]? with
      | some (.arr _ es _) => (match es[i]? with
        | some e => aPart ti e off fun y => K y h
        | none => False)
      | _ => False)
    | .rop _ es i off => (match es[i]? with
      | some e => aPart ti e off fun y => K y h
      | none => False)
    | _ => False

theorem Addr.add_none (b o n : Nat) : (⟨b, o, none⟩ : Addr).add n = ⟨b, o + n, none⟩ := by
  unfold Addr.add
  split
  · rename_i h; subst h; rfl
  · rfl

/-- What a piece of memory reads as: cells 'cs' from cell 'o' of block 'b' on. -/
def CellsAt (c : Cx) (b o : Nat) (cs : List AV) : Prop := ∀ (j : Nat) (x : AV), cs[j]? = some x → ∃ v, c.w.cell? ⟨b, o + j, none⟩ = some v ∧ VR c x v ∧ v.oneCell' = true

theorem CellsAt.part {b o : Nat} {cs : List AV} (hc : CellsAt c b o cs) {off : Nat} : CellsAt c b (o + off) (cs.drop off) := by
  intro j x hx
  rw [List.getElem?_drop] at hx
  obtain ⟨v, h1, h2⟩ := hc _ _ hx
  exact ⟨v, by rw [Nat.add_assoc]; exact h1, h2⟩

theorem run_loadCells_at {b o : Nat} {cs : List AV} (hc : CellsAt c b o cs) : ∃ vs : List Value, (loadCells ⟨b, o, none⟩ cs.length).run P c.w = .ok vs.toArray c.w ∧ VRs c cs vs ∧ Ones vs := by
  have hex : ∀ j (hj : j < cs.length), ∃ v, c.w.cell? ⟨b, o + j, none⟩ = some v ∧ VR c cs[j] v ∧ v.oneCell' = true := fun j hj => hc j _ (List.getElem?_eq_getElem hj)
  let f : Nat → Value := fun j => (c.w.cell? ⟨b, o + j, none⟩).getD default
  have hf : ∀ j, j < cs.length → c.w.cell? (Addr.add ⟨b, o, none⟩ j) = some (f j) := fun j hj => by
    obtain ⟨v, h1, _⟩ := hex j hj
    rw [Addr.add_none, h1]; simp [f, h1]
  refine ⟨(List.range cs.length).map f, ?_, ⟨by simp, fun i x v h1 h2 => ?_⟩, fun v hv => ?_⟩
  · have := run_loadCells (P := P) (w := c.w) ⟨b, o, none⟩ cs.length f hf
    rw [this]
  · have hi : i < cs.length := (List.getElem?_eq_some_iff.1 h1).1
    simp only [List.getElem?_map, List.getElem?_range hi, Option.map_some, Option.some.injEq] at h2
    obtain ⟨u, k1, k2⟩ := hex i hi
    rw [List.getElem?_eq_getElem hi] at h1
    cases h1
    subst h2
    simp only [f, k1, Option.getD_some]
    exact k2.1
  · obtain ⟨j, hj, rfl⟩ := List.mem_map.1 hv
    obtain ⟨u, k1, k2⟩ := hex j (by simpa using hj)
    simp only [f, k1, Option.getD_some]
    exact k2.2

theorem aPart_sound {t : TypeId} {ti : TyI} (ht : TyOK P t ti) {b o off : Nat} {cs : List AV} (hc : CellsAt c b o cs) {K : AV → Prop} (hk : aPart ti cs off K) :
    SV0 P (loadVar t ⟨b, o + off, none⟩) c K := by
  unfold aPart at hk
  have hr : ∀ r, (loadVar t ⟨b, o + off, none⟩).run P c.w = r ↔ (if ti.isAgg then (do pure (.agg (← loadCells ⟨b, o + off, none⟩ ti.size)) : Sem Value) else load ⟨b, o + off, none⟩).run P c.w = r := fun r => by
    unfold loadVar
    simp only [Sem.run_bind, ht.run_isAgg c.w, Result.andThen_ok]
    cases ti.isAgg <;> simp [ht.run_sizeOf c.w]
  split at hk
  · rename_i hag
    split at hk
    · rename_i hle
      have hp : CellsAt c b (o + off) ((cs.drop off).take ti.size) := fun j x hx => by
        have hj : j < ti.size := by
          have := (List.getElem?_eq_some_iff.1 hx).1
          simp at this; omega
        rw [List.getElem?_take_of_lt hj] at hx
        exact hc.part j x hx
      obtain ⟨vs, h1, h2⟩ := run_loadCells_at (P := P) hp
      have hlen : ((cs.drop off).take ti.size).length = ti.size := by simp; omega
      rw [hlen] at h1
      exact ⟨_, _, hk, (hr _).2 (by simp [hag, h1]), VR.of_agg h2.1 h2.2⟩
    · exact hk.elim
  · rename_i hag
    split at hk
    · rename_i x hx
      obtain ⟨v, h1, h2⟩ := hc off x hx
      exact ⟨_, _, hk, (hr _).2 (by simp [hag, h1]), h2.1⟩
    · exact hk.elim

/-- What the abstract heap says of the blocks that are there. -/
def Rd (c : Cx) (h : AH) : Prop := ∀ (i : Nat) (b : AB) (l : Loc), h[i]? = some b → b.live = true → c.φ i = some l → BR c l b

theorem Sim.rd (hs : Sim c h) : Rd c h := fun i b l e1 e2 e3 => by
  obtain ⟨l', f1, _, f3⟩ := hs.blk i b e1 e2
  rw [e3] at f1; cases f1; exact f3

theorem Rd.var_cells (hs : Rd c h) {id : Nat} {cs : List AV} {l : Loc} (hid : h[id]? = some (.var cs)) (hφ : c.φ id = some l) : l.base = 0 ∧ CellsAt c l.b 0 cs := by
  have f3 := hs id _ l hid rfl hφ
  cases f3 with
  | var hh hb hL hv h1 =>
    refine ⟨hb, fun j x hx => ?_⟩
    have hj := (List.getElem?_eq_some_iff.1 hx).1
    rw [hv.1] at hj
    rename_i vs T
    have hj' : j < vs.size := by simpa using hj
    refine ⟨vs[j], ?_, hv.2 j x _ hx (by simp), h1 _ (by simp)⟩
    simp [World.cell?, hh]

theorem Rd.arr_cells (hs : Rd c h) {id sz : Nat} {es : List (List AV)} {lk : Bool} {l : Loc} (hid : h[id]? = some (.arr sz es lk)) (hφ : c.φ id = some l) :
    l.sz = sz ∧ ∀ i e, es[i]? = some e → CellsAt c l.b (l.base + i * sz) e := by
  have f3 := hs id _ l hid rfl hφ
  cases f3 with
  | arr a1 a2 a3 a4 a5 a6 a7 a8 a9 a10 =>
    rename_i vs T
    refine ⟨a3, fun i e he j x hx => ?_⟩
    have hi := (List.getElem?_eq_some_iff.1 he).1
    have hj := (List.getElem?_eq_some_iff.1 hx).1
    rw [a6 e (List.mem_of_getElem? he)] at hj
    have hb : i * sz + j < es.length * sz := by
      have : (i + 1) * sz ≤ es.length * sz := Nat.mul_le_mul_right _ (by omega)
      rw [Nat.add_mul, Nat.one_mul] at this; omega
    have hlt : l.base + i * sz + j < vs.size := by omega
    refine ⟨vs[l.base + i * sz + j], by simp [World.cell?, a1, hlt], a7 i e j x _ he hx (by simp [hlt]), a10 _ (by simp)⟩

theorem aLoad_sound0 (hT : T.OK P) (hs : Rd c h) {t : TypeId} {x : AV} {v : Value} (hv : VR c x v) (hk : aLoad T t x h K) : SV0 P (Instr.loadAt t v) c fun y => K y h := by
  unfold aLoad at hk
  split at hk
  · exact hk.elim
  · rename_i ti ht
    have hok := hT t ti ht
    cases hv <;> simp only at hk <;> try exact hk.elim
    case ptr id off l hl =>
      split at hk
      · rename_i cs hid
        obtain ⟨hb, hc⟩ := hs.var_cells hid hl
        have := aPart_sound hok hc hk
        rw [hb]
        exact SV0.congr (by simp [Instr.loadAt, Instr.sureAddr]) this
      · exact hk.elim
    case ep id i off l hl =>
      split at hk
      · rename_i sz es lk hid
        split at hk
        · rename_i e he
          obtain ⟨hb, hc⟩ := hs.arr_cells hid hl
          have := aPart_sound hok (hc i e he) hk
          rw [hb]
          exact SV0.congr (by simp [Instr.loadAt, Instr.sureAddr]) this
        · exact hk.elim
      · exact hk.elim
    case rop sz es i off b o vals hi hsz hc hv =>
      split at hk
      · rename_i e he
        have hce : CellsAt c b (o + i * sz) e := fun j x hx => ⟨vals i j, (hc i e j x he hx).2.1, hv i e j x he hx, (hc i e j x he hx).2.2⟩
        exact SV0.congr (by simp [Instr.loadAt, Instr.sureAddr]) (aPart_sound hok hce hk)
      · exact hk.elim

theorem aLoad_sound (hT : T.OK P) (hs : Sim c h) {t : TypeId} {x : AV} {v : Value} (hv : VR c x v) (hk : aLoad T t x h K) : SV P (Instr.loadAt t v) c h K := (aLoad_sound0 hT hs.rd hv hk).sv hs

end
end Go.Vm


/- The abstract machine, part 3: stores, addresses, parts, slices, what is built. -/
namespace Go.Vm
open Go

def setAt (cs : List AV) (o : Nat) : List AV → List AV
  | [] => cs
  | x :: xs => setAt (cs.set o x) (o + 1) xs

def setArr (vs : Array Value) (o : Nat) : List Value → Array Value
  | [] => vs
  | y :: ys => setArr (vs.setIfInBounds o y) (o + 1) ys

theorem setAt_length (xs : List AV) : ∀ (cs : List AV) (o : Nat), (setAt cs o xs).length = cs.length := by
  induction xs with
  | nil => intro cs o; rfl
  | cons x xs ih => intro cs o; simp [setAt, ih]

theorem setArr_size (ys : List Value) : ∀ (vs : Array Value) (o : Nat), (setArr vs o ys).size = vs.size := by
  induction ys with
  | nil => intro vs o; rfl
  | cons y ys ih => intro vs o; simp [setArr, ih]

theorem setArr_get (ys : List Value) : ∀ (vs : Array Value) (o j : Nat), (setArr vs o ys)[j]? = if o ≤ j ∧ j < o + ys.length ∧ j < vs.size then ys[j - o]? else vs[j]? := by
  induction ys with
  | nil => intro vs o j; simp [setArr]; omega
  | cons y ys ih =>
    intro vs o j
    simp only [setArr, ih, Array.size_setIfInBounds, List.length_cons, Array.getElem?_setIfInBounds]
    by_cases h1 : o = j
    · subst h1
      simp only [Nat.sub_self, List.getElem?_cons_zero]
      rw [if_neg (by omega)]
      by_cases h2 : o < vs.size
      · simp [h2]
      · simp [h2]
    · by_cases h2 : o + 1 ≤ j ∧ j < o + 1 + ys.length ∧ j < vs.size
      · rw [if_pos h2, if_pos (by omega)]
        have : j - o = (j - (o + 1)) + 1 := by omega
        rw [this, List.getElem?_cons_succ]
      · rw [if_neg h2, if_neg h1, if_neg (by omega)]

theorem setAt_get (xs : List AV) : ∀ (cs : List AV) (o j : Nat), (setAt cs o xs)[j]? = if o ≤ j ∧ j < o + xs.length ∧ j < cs.length then xs[j - o]? else cs[j]? := by
  induction xs with
  | nil => intro cs o j; simp [setAt]; omega
  | cons x xs ih =>
    intro cs o j
    simp only [setAt, ih, List.length_set, List.length_cons, List.getElem?_set]
    by_cases h1 : o = j
    · subst h1
      simp only [Nat.sub_self, List.getElem?_cons_zero]
      rw [if_neg (by omega)]
      by_cases h2 : o < cs.length
      · simp [h2]
      · simp [h2]
    · by_cases h2 : o + 1 ≤ j ∧ j < o + 1 + xs.length ∧ j < cs.length
      · rw [if_pos h2, if_pos (by omega)]
        have : j - o = (j - (o + 1)) + 1 := by omega
        rw [this, List.getElem?_cons_succ]
      · rw [if_neg h2, if_neg h1, if_neg (by omega)]

/-- A row's block behind a store of some cells. -/
theorem run_storeCells_at (P : Program) {b o : Nat} {T : TypeId} (ys : List Value) : ∀ (i : Nat) (w : World) (vs : Array Value), w.heap[b]? = some (.cells vs T (0, 0)) → (∀ y ∈ ys, y.oneCell' = true) → o + i + ys.length ≤ vs.size →
    ∃ w', (storeCells ⟨b, o, none⟩ ys i).run P w = .ok () w' ∧ w'.heap[b]? = some (.cells (setArr vs (o + i) ys) T (0, 0)) ∧ (∀ x, x ≠ b → w'.heap[x]? = w.heap[x]?) ∧
      w'.heap.size = w.heap.size ∧ w'.os = w.os ∧ w'.tape = w.tape ∧ w'.output = w.output := by
  induction ys with
  | nil => intro i w vs hh _ _; exact ⟨w, rfl, hh, fun _ _ => rfl, rfl, rfl, rfl, rfl⟩
  | cons y ys ih =>
    intro i w vs hh hone hle
    simp only [List.length_cons] at hle
    have hcell : w.cell? ⟨b, o + i, none⟩ = some vs[o + i] := by simp [World.cell?, hh, show o + i < vs.size by omega]
    have hfz : w.frozen? ⟨b, o + i, none⟩ = false := by simp [World.frozen?, hh]
    have hheap : (w.setCell ⟨b, o + i, none⟩ y).heap[b]? = some (.cells (vs.setIfInBounds (o + i) y) T (0, 0)) := by
      simp [World.setCell, Array.getElem?_modify, hh]
    obtain ⟨w', h1, h2, h3, h4, h5, h6, h7⟩ := ih (i + 1) (w.setCell ⟨b, o + i, none⟩ y) _ hheap (fun z hz => hone z (List.mem_cons_of_mem _ hz)) (by simp; omega)
    refine ⟨w', ?_, ?_, fun x hx => ?_, by rw [h4]; simp, h5, h6, h7⟩
    · simp only [storeCells, Sem.run_bind, Addr.add_none, run_store P w _ y .plain (hone y (List.mem_cons_self ..)), hcell, hfz, Result.andThen_ok, Bool.false_eq_true, if_false, h1]
    · rw [h2]; simp [setArr, Nat.add_assoc]
    · rw [h3 x hx]
      simp only [World.setCell, Array.getElem?_modify]
      rw [if_neg (fun e => hx e.symm)]

section
variable {P : Program} {T : Tab} {c : Cx} {h : AH}

def aStore (T : Tab) (t : TypeId) (a x : AV) (h : AH) (K : AH → Prop) : Prop :=
  match T t, x.cells? with
  | some ti, some xs =>
    if xs.length = ti.size then
      match a with
      | .ptr id off => (match h[id]? with
        | some (.var cs) => if off + xs.length ≤ cs.length then K (h.set id (.var (setAt cs off xs))) else False
        | _ => False)
      | .ep id i off => (match h[id]? with
        | some (.arr sz es false) => (match es[i]? with
          | some e => if off + xs.length ≤ sz then K (h.set id (.arr sz (es.set i (setAt e off xs)) false)) else False
          | none => False)
        | _ => False)
      | _ => False
    else False
  | _, _ => False

theorem VRs.setAt {xs : List AV} {ys : List Value} (hx : VRs c xs ys) {cs : List AV} {vs : Array Value} (hc : VRs c cs vs.toList) (o : Nat) : VRs c (setAt cs o xs) (setArr vs o ys).toList := by
  refine ⟨by simp [setAt_length, setArr_size, hc.1], fun j x v h1 h2 => ?_⟩
  simp only [Array.getElem?_toList, setArr_get] at h2
  rw [setAt_get] at h1
  have hl1 : cs.length = vs.size := by simpa using hc.1
  rw [← hx.1, ← hl1] at h2
  by_cases hj : o ≤ j ∧ j < o + xs.length ∧ j < cs.length
  · rw [if_pos hj] at h1 h2
    exact hx.2 _ x v h1 h2
  · rw [if_neg hj] at h1 h2
    exact hc.2 j x v h1 (by simpa using h2)

theorem Ones.setArr {ys : List Value} (hy : Ones ys) : ∀ {vs : Array Value} (_ : Ones vs.toList) (o : Nat), Ones (setArr vs o ys).toList := by
  induction ys with
  | nil => intro vs h o; exact h
  | cons y ys ih =>
    intro vs h o
    refine ih (fun v hv => hy v (List.mem_cons_of_mem _ hv)) (fun v hv => ?_) (o + 1)
    rw [Array.toList_setIfInBounds] at hv
    rcases List.mem_or_eq_of_mem_set hv with h' | h'
    · exact h v h'
    · rw [h']; exact hy y (List.mem_cons_self ..)

theorem VRs.all_one {xs : List AV} {ys : List Value} (hx : VRs c xs ys) (h1 : xs.all AV.one = true) : ∀ y ∈ ys, y.oneCell' = true := by
  intro y hy
  obtain ⟨i, hi, rfl⟩ := List.mem_iff_getElem.1 hy
  have hi' : i < xs.length := by rw [hx.1]; exact hi
  have := hx.2 i xs[i] ys[i] (by simp [hi']) (by simp [hi])
  exact this.one (by rw [List.all_eq_true] at h1; exact h1 _ (List.getElem_mem hi'))

theorem aStore_sound (hT : T.OK P) (hs : Sim c h) {t : TypeId} {a x : AV} {va vx : Value} (ha : VR c a va) (hx : VR c x vx) {K : AH → Prop} (hk : aStore T t a x h K) : SU P (Instr.storeAt t va vx) c h K := by
  unfold aStore at hk
  split at hk
  · rename_i ti xs ht hcs
    have hok := hT t ti ht
    have hxs := (hx.cells hcs).1
    have hys := (hx.cells hcs).2
    split at hk
    · rename_i hone
      have hlen : vx.cells.size = ti.size := by have := hxs.1; simp at this; omega
      have hrun : ∀ ad : Addr, (Instr.storeAt t (.pointer (some ad)) vx).run P c.w = (storeCells ad vx.cells.toList).run P c.w := fun ad => by
        simp [Instr.storeAt, Instr.sureAddr, storeVar, hok.run_sizeOf c.w, hlen]
      cases ha <;> simp only at hk <;> try exact hk.elim
      case ptr id off l hl =>
        split at hk
        · rename_i cs hid
          split at hk
          · rename_i hle
            obtain ⟨l0, f1, f2, f3⟩ := hs.blk id _ hid rfl
            rw [hl] at f1; cases f1
            cases f3 with
            | var hh hb hL hv h1 =>
              rename_i vs TT
              have hsz : cs.length = vs.size := by simpa using hv.1
              obtain ⟨w', r1, r2, r3, r4, r5, r6, r7⟩ := run_storeCells_at P (b := l.b) (o := l.base + off) vx.cells.toList 0 c.w vs hh hys (by rw [← hxs.1, hb]; omega)
              have h2 := Sim.upd hs (b' := .var (Vm.setAt cs off xs)) (w' := w') hid rfl hl r4 r3 (fun o ho => by rw [hL] at ho; omega) r5 r6 r7
                (fun hle => .var r2 hb hL (by rw [hb]; simpa using (hxs.setAt hv off).mono hle) (Ones.setArr hys h1 _))
              exact ⟨_, _, hk, h2.2, h2.1, by rw [hrun]; exact r1⟩
          · exact hk.elim
        · exact hk.elim
      case ep id i off l hl =>
        split at hk
        · rename_i sz es hid
          split at hk
          · rename_i e he
            split at hk
            · rename_i hle
              obtain ⟨l0, f1, f2, f3⟩ := hs.blk id _ hid rfl
              rw [hl] at f1; cases f1
              cases f3 with
              | arr a1 a2 a3 a4 a5 a6 a7 a8 a9 a10 =>
                rename_i vs TT
                have hi := (List.getElem?_eq_some_iff.1 he).1
                have hel : e.length = sz := a6 e (List.mem_of_getElem? he)
                have hb1 : (i + 1) * sz ≤ es.length * sz := Nat.mul_le_mul_right _ (by omega)
                rw [Nat.add_mul, Nat.one_mul] at hb1
                have hlen2 : vx.cells.toList.length = xs.length := hxs.1.symm
                obtain ⟨w', r1, r2, r3, r4, r5, r6, r7⟩ := run_storeCells_at P (b := l.b) (o := l.base + i * l.sz + off) vx.cells.toList 0 c.w vs a1 hys (by rw [hlen2, a3]; omega)
                have hL0 := a9 rfl
                have h2 := Sim.upd hs (b' := .arr sz (es.set i (Vm.setAt e off xs)) false) (w' := w') hid rfl hl r4 r3 (fun o ho => by rw [hL0] at ho; omega) r5 r6 r7
                  (fun hle => by
                    refine .arr r2 (by rw [setArr_size]; exact a2) a3 a4 (by rw [setArr_size]; simpa using a5) (fun e' he' => ?_) (fun i' e' j x v g1 g2 g3 => ?_) (by show c.L l.b ≤ _; rw [hL0]; omega) (fun _ => hL0) (Ones.setArr hys a10 _)
                    · rcases List.mem_or_eq_of_mem_set he' with h' | h'
                      · exact a6 e' h'
                      · rw [h', setAt_length]; exact hel
                    · rw [Nat.add_zero, setArr_get] at g3
                      rw [List.getElem?_set] at g1
                      by_cases hii : i = i'
                      · subst hii
                        simp only [if_true] at g1
                        rw [if_pos hi] at g1
                        cases g1
                        rw [setAt_get] at g2
                        rw [a3, hlen2] at g3
                        by_cases hj : off ≤ j ∧ j < off + xs.length ∧ j < e.length
                        · rw [if_pos hj] at g2
                          rw [if_pos (by omega)] at g3
                          have : l.base + i * sz + j - (l.base + i * sz + off) = j - off := by omega
                          rw [this] at g3
                          exact (hxs.2 _ x v g2 g3).mono hle
                        · rw [if_neg hj] at g2
                          have hje := (List.getElem?_eq_some_iff.1 g2).1
                          rw [if_neg (by omega)] at g3
                          exact (a7 i e j x v he g2 g3).mono hle
                      · rw [if_neg hii] at g1
                        have hje := (List.getElem?_eq_some_iff.1 g2).1
                        have hel' := a6 e' (List.mem_of_getElem? g1)
                        have hne : ¬ (l.base + i * l.sz + off ≤ l.base + i' * sz + j ∧ l.base + i' * sz + j < l.base + i * l.sz + off + vx.cells.toList.length ∧ l.base + i' * sz + j < vs.size) := by
                          rw [a3, hlen2]
                          rintro ⟨p, q, _⟩
                          rcases Nat.lt_or_gt_of_ne hii with hlt | hlt
                          · have : (i + 1) * sz ≤ i' * sz := Nat.mul_le_mul_right _ (by omega)
                            rw [Nat.add_mul, Nat.one_mul] at this
                            omega
                          · have : (i' + 1) * sz ≤ i * sz := Nat.mul_le_mul_right _ (by omega)
                            rw [Nat.add_mul, Nat.one_mul] at this
                            omega
                        rw [if_neg hne] at g3
                        exact (a7 i' e' j x v g1 g2 g3).mono hle)
                exact ⟨_, _, hk, h2.2, h2.1, by rw [hrun]; exact r1⟩
            · exact hk.elim
          · exact hk.elim
        · exact hk.elim
    · exact hk.elim
  · exact hk.elim

/-! ### Addresses and parts -/
variable {K : AV → AH → Prop}

def aOff (x : AV) (n : Nat) (h : AH) (K : AV → AH → Prop) : Prop :=
  match x with
  | .ptr id off => K (.ptr id (off + n)) h
  | .ep id i off => K (.ep id i (off + n)) h
  | .rop sz es i off => K (.rop sz es i (off + n)) h
  | _ => False

def aFieldAddr (T : Tab) (t : TypeId) (x : AV) (f : Nat) (h : AH) (K : AV → AH → Prop) : Prop :=
  match T t with
  | some { desc := .struct fs, .. } => (match fs[f]? with
    | some fd => (match T fd.type with
      | some fi => if fi.size = 0 then False else aOff x fd.offset h K
      | none => False)
    | none => False)
  | _ => False

theorem aFieldAddr_sound (hT : T.OK P) (hs : Rd c h) {t : TypeId} {f : Nat} {x : AV} {v : Value} (hv : VR c x v) (hk : aFieldAddr T t x f h K) : SV0 P (Instr.fieldAt t v f) c fun y => K y h := by
  unfold aFieldAddr at hk
  split at hk
  · rename_i fs sz by_ z ht
    have hok := hT t _ ht
    split at hk
    · rename_i fd hf
      split at hk
      · rename_i fi hfi
        have hfo := hT _ fi hfi
        split at hk
        · exact hk.elim
        · rename_i hne
          have hrun : ∀ a, (Instr.fieldAt t (.pointer (some a)) f).run P c.w = .ok (.pointer (some (a.add fd.offset))) c.w := fun a => by
            simp [Instr.fieldAt, hok.run_underlying c.w, hf, Instr.sureAddr, fieldPlace, hfo.run_sizeOf c.w, hne]
          unfold aOff at hk
          cases hv <;> simp only at hk <;> try exact hk.elim
          case ptr id off l hl => exact SV0.same hk (hrun _) (by rw [Addr.add_none, Nat.add_assoc]; exact .ptr hl)
          case ep id i off l hl => exact SV0.same hk (hrun _) (by rw [Addr.add_none, Nat.add_assoc]; exact .ep hl)
          case rop sz es i off b o vals h1 h2 h3 h4 => exact SV0.same hk (hrun _) (by rw [Addr.add_none, Nat.add_assoc]; exact .rop vals h1 h2 h3 h4)
      · exact hk.elim
    · exact hk.elim
  · exact hk.elim

theorem part_sound {t : TypeId} {ti : TyI} (ht : TyOK P t ti) {cs : List AV} {vs : Array Value} (hv : VRs c cs vs.toList) (hone : Ones vs.toList) {off : Nat} {K : AV → Prop} (hk : aPart ti cs off K) : SV0 P (part t vs off) c K := by
  have hlen : cs.length = vs.size := by simpa using hv.1
  unfold aPart at hk
  split at hk
  · rename_i hag
    split at hk
    · rename_i hle
      refine SV0.same hk (v := .agg (vs.extract off (off + ti.size))) (by simp [part, ht.run_isAgg c.w, hag, ht.run_sizeOf c.w]) (.agg (fun v hv => hone v (by rw [Array.toList_extract] at hv; exact List.mem_of_mem_drop (List.mem_of_mem_take hv) )) (by simp; omega) fun i x v h1 h2 => ?_)
      have hi : i < ti.size := by have := (List.getElem?_eq_some_iff.1 h1).1; simp at this; omega
      rw [List.getElem?_take_of_lt hi, List.getElem?_drop] at h1
      rw [Array.getElem?_extract] at h2
      split at h2
      · exact hv.2 _ x v h1 (by simpa using h2)
      · cases h2
    · exact hk.elim
  · rename_i hag
    split at hk
    · rename_i x hx
      have hi : off < vs.size := by have := (List.getElem?_eq_some_iff.1 hx).1; omega
      exact SV0.same hk (v := vs[off]) (by simp [part, ht.run_isAgg c.w, hag, hi]) (hv.2 off x _ hx (by simp [hi]))
    · exact hk.elim

def aField (T : Tab) (t : TypeId) (x : AV) (f : Nat) (h : AH) (K : AV → AH → Prop) : Prop :=
  match T t, x with
  | some { desc := .struct fs, .. }, .agg cs => (match fs[f]? with
    | some fd => (match T fd.type with
      | some fi => aPart fi cs fd.offset fun y => K y h
      | none => False)
    | none => False)
  | _, _ => False

theorem aField_sound (hT : T.OK P) (hs : Rd c h) {t : TypeId} {f : Nat} {x : AV} {v : Value} (hv : VR c x v) (hk : aField T t x f h K) : SV0 P (Instr.field t v f) c fun y => K y h := by
  unfold aField at hk
  split at hk
  · rename_i fs sz by_ z cs ht
    have hok := hT t _ ht
    split at hk
    · rename_i fd hf
      split at hk
      · rename_i fi hfi
        cases hv with
        | agg h0 h1 h2 =>
          rename_i vs
          exact SV0.congr (by simp [Instr.field, hok.run_underlying c.w, hf, asAgg]) (part_sound (hT _ fi hfi) (VRs.of_array h1 h2) h0 hk)
      · exact hk.elim
    · exact hk.elim
  · exact hk.elim

def aIndexAddr (T : Tab) (t : TypeId) (x i : AV) (h : AH) (K : AV → AH → Prop) : Prop :=
  match T t, i with
  | some { desc := .slice e, .. }, .int _ n => (match T e with
    | some ei =>
      (match x with
      | .sl id off len => (match h[id]? with
        | some (.arr sz _ _) => if sz = ei.size then (if 0 ≤ n ∧ n < len then K (.ep id (off + n.toNat) 0) h else False) else False
        | _ => False)
      | .vsl id off len sz => if sz = ei.size then (if 0 ≤ n ∧ n < len then K (.ptr id (off + n.toNat * sz)) h else False) else False
      | .ro sz es => if sz = ei.size then (if 0 ≤ n ∧ n < es.length then K (.rop sz es n.toNat 0) h else False) else False
      | _ => False)
    | none => False)
  | some { desc := .array len e, .. }, .int _ n => (match T e with
    | some ei => if 0 ≤ n ∧ n < len then aOff x (n.toNat * ei.size) h K else False
    | none => False)
  | _, _ => False

theorem aIndexAddr_sound (hT : T.OK P) (hs : Rd c h) {t : TypeId} {x i : AV} {v u : Value} (hv : VR c x v) (hu : VR c i u) (hk : aIndexAddr T t x i h K) : SV0 P (Instr.indexAt t v u) c fun y => K y h := by
  unfold aIndexAddr at hk
  split at hk
  · rename_i e s b z k n ht
    have hok := hT t _ ht
    cases hu
    split at hk
    · rename_i ei he
      have heo := hT e ei he
      have hrun : ∀ (a : Addr) (len cap : Nat), 0 ≤ n → n < len → (Instr.indexAt t (.slice (some a) len cap) (.int k n)).run P c.w = .ok (.pointer (some (a.add (n.toNat * ei.size)))) c.w := fun a len cap h1 h2 => by
        simp [Instr.indexAt, asIntOf, hok.run_underlying c.w, h1, h2, heo.run_sizeOf c.w]
      split at hk
      · rename_i id off len
        split at hk
        · rename_i sz es lk hid
          split at hk
          · rename_i hsz
            subst hsz
            split at hk
            · rename_i hin
              cases hv with
              | sl hl hcap h0 hn =>
                rename_i l cap
                have := (hs.arr_cells hid hl).1
                refine SV0.same hk (hrun _ _ _ hin.1 hin.2) ?_
                rw [Addr.add_none]
                have e2 : l.base + off * l.sz + n.toNat * ei.size = l.base + (off + n.toNat) * l.sz + 0 := by rw [this, Nat.add_mul]; omega
                rw [e2]
                exact .ep hl
              | sl0 hl => exact absurd hin.2 (by simp; omega)
            · exact hk.elim
          · exact hk.elim
        · exact hk.elim
      · rename_i id off len sz
        split at hk
        · rename_i hsz
          subst hsz
          split at hk
          · rename_i hin
            cases hv with
            | vsl hl hcap => exact SV0.same hk (hrun _ _ _ hin.1 hin.2) (by rw [Addr.add_none, Nat.add_assoc]; exact .ptr hl)
          · exact hk.elim
        · exact hk.elim
      · rename_i sz es
        split at hk
        · rename_i hsz
          subst hsz
          split at hk
          · rename_i hin
            cases hv with
            | ro vals hlen hcap hsz hc hv' =>
              rename_i b o len cap
              subst hlen
              refine SV0.same hk (hrun _ _ _ hin.1 hin.2) ?_
              rw [Addr.add_none]
              exact .rop vals (off := 0) (by omega) hsz hc hv'
            | roNil => exact absurd hin.2 (by simp; omega)
          · exact hk.elim
        · exact hk.elim
      · exact hk.elim
    · exact hk.elim
  · rename_i len e s b z k n ht
    have hok := hT t _ ht
    cases hu
    split at hk
    · rename_i ei he
      have heo := hT e ei he
      split at hk
      · rename_i hin
        have hrun : ∀ (a : Addr), (Instr.indexAt t (.pointer (some a)) (.int k n)).run P c.w = .ok (.pointer (some (a.add (n.toNat * ei.size)))) c.w := fun a => by
          simp [Instr.indexAt, asIntOf, hok.run_underlying c.w, hin.1, hin.2, heo.run_sizeOf c.w, Instr.sureAddr]
        unfold aOff at hk
        cases hv <;> simp only at hk <;> try exact hk.elim
        case ptr id off l hl => exact SV0.same hk (hrun _) (by rw [Addr.add_none, Nat.add_assoc]; exact .ptr hl)
        case ep id i off l hl => exact SV0.same hk (hrun _) (by rw [Addr.add_none, Nat.add_assoc]; exact .ep hl)
        case rop sz es i off b o vals h1 h2 h3 h4 => exact SV0.same hk (hrun _) (by rw [Addr.add_none, Nat.add_assoc]; exact .rop vals h1 h2 h3 h4)
      · exact hk.elim
    · exact hk.elim
  · exact hk.elim

end
end Go.Vm


/- The abstract machine, part 36: a store keeps where the blocks lie. -/
namespace Go.Vm
open Go
section
variable {P : Program} {T : Tab} {c : Cx} {h : AH}
theorem aStore_keeps (hT : T.OK P) (hs : Sim c h) {t : TypeId} {a x : AV} {va vx : Value} (ha : VR c a va) (hx : VR c x vx) {K : AH → Prop} (hk : aStore T t a x h K) : ∃ h' c', K h' ∧ Ext c h c' h' ∧ Sim c' h' ∧ (Instr.storeAt t va vx).run P c.w = .ok () c'.w ∧ c'.φ = c.φ := by
  unfold aStore at hk
  split at hk
  · rename_i ti xs ht hcs
    have hok := hT t ti ht
    have hxs := (hx.cells hcs).1
    have hys := (hx.cells hcs).2
    split at hk
    · rename_i hone
      have hlen : vx.cells.size = ti.size := by have := hxs.1; simp at this; omega
      have hrun : ∀ ad : Addr, (Instr.storeAt t (.pointer (some ad)) vx).run P c.w = (storeCells ad vx.cells.toList).run P c.w := fun ad => by
        simp [Instr.storeAt, Instr.sureAddr, storeVar, hok.run_sizeOf c.w, hlen]
      cases ha <;> simp only at hk <;> try exact hk.elim
      case ptr id off l hl =>
        split at hk
        · rename_i cs hid
          split at hk
          · rename_i hle
            obtain ⟨l0, f1, f2, f3⟩ := hs.blk id _ hid rfl
            rw [hl] at f1; cases f1
            cases f3 with
            | var hh hb hL hv h1 =>
              rename_i vs TT
              have hsz : cs.length = vs.size := by simpa using hv.1
              obtain ⟨w', r1, r2, r3, r4, r5, r6, r7⟩ := run_storeCells_at P (b := l.b) (o := l.base + off) vx.cells.toList 0 c.w vs hh hys (by rw [← hxs.1, hb]; omega)
              have h2 := Sim.upd hs (b' := .var (Vm.setAt cs off xs)) (w' := w') hid rfl hl r4 r3 (fun o ho => by rw [hL] at ho; omega) r5 r6 r7
                (fun hle => .var r2 hb hL (by rw [hb]; simpa using (hxs.setAt hv off).mono hle) (Ones.setArr hys h1 _))
              exact ⟨_, _, hk, h2.2, h2.1, by rw [hrun]; exact r1, rfl⟩
          · exact hk.elim
        · exact hk.elim
      case ep id i off l hl =>
        split at hk
        · rename_i sz es hid
          split at hk
          · rename_i e he
            split at hk
            · rename_i hle
              obtain ⟨l0, f1, f2, f3⟩ := hs.blk id _ hid rfl
              rw [hl] at f1; cases f1
              cases f3 with
              | arr a1 a2 a3 a4 a5 a6 a7 a8 a9 a10 =>
                rename_i vs TT
                have hi := (List.getElem?_eq_some_iff.1 he).1
                have hel : e.length = sz := a6 e (List.mem_of_getElem? he)
                have hb1 : (i + 1) * sz ≤ es.length * sz := Nat.mul_le_mul_right _ (by omega)
                rw [Nat.add_mul, Nat.one_mul] at hb1
                have hlen2 : vx.cells.toList.length = xs.length := hxs.1.symm
                obtain ⟨w', r1, r2, r3, r4, r5, r6, r7⟩ := run_storeCells_at P (b := l.b) (o := l.base + i * l.sz + off) vx.cells.toList 0 c.w vs a1 hys (by rw [hlen2, a3]; omega)
                have hL0 := a9 rfl
                have h2 := Sim.upd hs (b' := .arr sz (es.set i (Vm.setAt e off xs)) false) (w' := w') hid rfl hl r4 r3 (fun o ho => by rw [hL0] at ho; omega) r5 r6 r7
                  (fun hle => by
                    refine .arr r2 (by rw [setArr_size]; exact a2) a3 a4 (by rw [setArr_size]; simpa using a5) (fun e' he' => ?_) (fun i' e' j x v g1 g2 g3 => ?_) (by show c.L l.b ≤ _; rw [hL0]; omega) (fun _ => hL0) (Ones.setArr hys a10 _)
                    · rcases List.mem_or_eq_of_mem_set he' with h' | h'
                      · exact a6 e' h'
                      · rw [h', setAt_length]; exact hel
                    · rw [Nat.add_zero, setArr_get] at g3
                      rw [List.getElem?_set] at g1
                      by_cases hii : i = i'
                      · subst hii
                        simp only [if_true] at g1
                        rw [if_pos hi] at g1
                        cases g1
                        rw [setAt_get] at g2
                        rw [a3, hlen2] at g3
                        by_cases hj : off ≤ j ∧ j < off + xs.length ∧ j < e.length
                        · rw [if_pos hj] at g2
                          rw [if_pos (by omega)] at g3
                          have : l.base + i * sz + j - (l.base + i * sz + off) = j - off := by omega
                          rw [this] at g3
                          exact (hxs.2 _ x v g2 g3).mono hle
                        · rw [if_neg hj] at g2
                          have hje := (List.getElem?_eq_some_iff.1 g2).1
                          rw [if_neg (by omega)] at g3
                          exact (a7 i e j x v he g2 g3).mono hle
                      · rw [if_neg hii] at g1
                        have hje := (List.getElem?_eq_some_iff.1 g2).1
                        have hel' := a6 e' (List.mem_of_getElem? g1)
                        have hne : ¬ (l.base + i * l.sz + off ≤ l.base + i' * sz + j ∧ l.base + i' * sz + j < l.base + i * l.sz + off + vx.cells.toList.length ∧ l.base + i' * sz + j < vs.size) := by
                          rw [a3, hlen2]
                          rintro ⟨p, q, _⟩
                          rcases Nat.lt_or_gt_of_ne hii with hlt | hlt
                          · have : (i + 1) * sz ≤ i' * sz := Nat.mul_le_mul_right _ (by omega)
                            rw [Nat.add_mul, Nat.one_mul] at this
                            omega
                          · have : (i' + 1) * sz ≤ i * sz := Nat.mul_le_mul_right _ (by omega)
                            rw [Nat.add_mul, Nat.one_mul] at this
                            omega
                        rw [if_neg hne] at g3
                        exact (a7 i' e' j x v g1 g2 g3).mono hle)
                exact ⟨_, _, hk, h2.2, h2.1, by rw [hrun]; exact r1, rfl⟩
            · exact hk.elim
          · exact hk.elim
        · exact hk.elim
    · exact hk.elim
  · exact hk.elim

end
end Go.Vm


/- The abstract machine, part 4: what is indexed, cut, built, reckoned, converted, asserted. -/
namespace Go.Vm
open Go

section
variable {P : Program} {T : Tab} {c : Cx} {h : AH} {K : AV → AH → Prop}

/-! ### Index -/
def aIndex (T : Tab) (t : TypeId) (x i : AV) (h : AH) (K : AV → AH → Prop) : Prop :=
  match T t, x, i with
  | some { desc := .string, .. }, .str s, .int _ n => if 0 ≤ n then (match s[n.toNat]? with
    | some b => K (.int .u8 b.toNat) h
    | none => False) else False
  | some { desc := .array len e, .. }, .agg cs, .int _ n => if 0 ≤ n ∧ n < len then (match T e with
    | some ei => aPart ei cs (n.toNat * ei.size) fun y => K y h
    | none => False) else False
  | _, _, _ => False

theorem aIndex_sound (hT : T.OK P) (hs : Rd c h) {t : TypeId} {x i : AV} {v u : Value} (hv : VR c x v) (hu : VR c i u) (hk : aIndex T t x i h K) : SV0 P (Instr.index t v u) c fun y => K y h := by
  unfold aIndex at hk
  split at hk
  · rename_i ht
    have hok := hT t _ ht
    cases hv; cases hu
    split at hk
    · rename_i h0
      split at hk
      · rename_i b hb
        exact SV0.same hk (v := .int .u8 b.toNat) (by simp [Instr.index, asIntOf, hok.run_underlying c.w, h0, hb]) .int
      · exact hk.elim
    · exact hk.elim
  · rename_i ht
    have hok := hT t _ ht
    cases hu
    split at hk
    · rename_i h0
      split at hk
      · rename_i ei he
        cases hv with
        | agg h00 h1 h2 =>
          refine SV0.congr ?_ (part_sound (hT _ ei he) (VRs.of_array h1 h2) h00 hk)
          simp [Instr.index, asIntOf, hok.run_underlying c.w, h0.1, h0.2, (hT _ ei he).run_sizeOf c.w]
      · exact hk.elim
    · exact hk.elim
  · exact hk.elim

/-! ### Slices of strings, slices, arrays -/
def aBound (x : Option AV) (d y : Nat) (K : Nat → Prop) : Prop :=
  match x with
  | none => K d
  | some (.int _ n) => if 0 ≤ n ∧ n ≤ y then K n.toNat else False
  | some _ => False

def aSlice (T : Tab) (t : TypeId) (x : AV) (lo hi : Option AV) (h : AH) (K : AV → AH → Prop) : Prop :=
  match T t with
  | some { desc := .string, .. } => (match x with
    | .str s => aBound hi s.size s.size fun b => aBound lo 0 b fun a => K (.str (s.extract a b)) h
    | _ => False)
  | some { desc := .slice e, .. } => (match T e with
    | some ei => (match x with
      | .sl id off len => (match h[id]? with
        | some (.arr sz _ _) => if sz = ei.size then aBound hi len len fun b => aBound lo 0 b fun a => K (.sl id (off + a) (b - a)) h else False
        | _ => False)
      | .vsl id off len sz => if sz = ei.size then aBound hi len len fun b => aBound lo 0 b fun a => if a < len then K (.vsl id (off + a * sz) (b - a) sz) h else False else False
      | .ro sz es => if sz = ei.size then aBound hi es.length es.length fun b => aBound lo 0 b fun a => K (.ro sz ((es.drop a).take (b - a))) h else False
      | .nils => aBound hi 0 0 fun b => aBound lo 0 b fun _ => K .nils h
      | _ => False)
    | none => False)
  | some { desc := .array n e, .. } => (match T e with
    | some ei => (match x with
      | .ptr id off => aBound hi n n fun b => aBound lo 0 b fun a => if a < n then K (.vsl id (off + a * ei.size) (b - a) ei.size) h else False
      | _ => False)
    | none => False)
  | _ => False

/-- The model's bounds, as the abstract machine reckons them: 'y' is what the upper one may be there, at least 'd'. -/
theorem aBounds_run {lo hi : Option AV} {vlo vhi : Option Value} {isSl : Bool} {len cap : Nat} (hl : len ≤ cap)
    (h1 : ∀ x, lo = some x → ∃ v, vlo = some v ∧ VR c x v) (h2 : ∀ x, hi = some x → ∃ v, vhi = some v ∧ VR c x v) (n1 : lo = none → vlo = none) (n2 : hi = none → vhi = none)
    {Q : Nat → Nat → Prop} (hk : aBound hi len len fun b => aBound lo 0 b fun a => Q a b) :
    ∃ a b, a ≤ b ∧ b ≤ len ∧ Q a b ∧ (Instr.sliceBounds isSl len cap vlo vhi none).run P c.w = .ok (a, b, cap) c.w := by
  have one : ∀ (k : IntKind) (n : Int) (y : Nat) (code : BoundsCode), 0 ≤ n → n ≤ y → (Instr.sliceBound (.int k n) y code).run P c.w = .ok n.toNat c.w := fun k n y code g1 g2 => by
    simp [Instr.sliceBound, asIntOf, g1, g2]
  unfold aBound at hk
  split at hk
  · rename_i e
    have := n2 rfl; subst this
    split at hk
    · have := n1 rfl; subst this
      exact ⟨0, len, by omega, by omega, hk, by simp [Instr.sliceBounds]⟩
    · split at hk
      · rename_i n hn
        obtain ⟨v, rfl, hv⟩ := h1 _ rfl
        cases hv
        exact ⟨n.toNat, len, by omega, by omega, hk, by simp [Instr.sliceBounds, one _ _ _ _ hn.1 hn.2]⟩
      · exact hk.elim
    · exact hk.elim
  · split at hk
    · rename_i n hn
      obtain ⟨v, rfl, hv⟩ := h2 _ rfl
      cases hv
      have hb : n.toNat ≤ len := by omega
      split at hk
      · have := n1 rfl; subst this
        exact ⟨0, n.toNat, by omega, hb, hk, by simp [Instr.sliceBounds, one _ _ _ _ hn.1 (show n ≤ (cap : Int) by omega)]⟩
      · split at hk
        · rename_i m hm
          obtain ⟨v, rfl, hv⟩ := h1 _ rfl
          cases hv
          exact ⟨m.toNat, n.toNat, by omega, hb, hk, by simp [Instr.sliceBounds, one _ _ _ _ hn.1 (show n ≤ (cap : Int) by omega), one _ _ _ _ hm.1 hm.2]⟩
        · exact hk.elim
      · exact hk.elim
    · exact hk.elim
  · exact hk.elim

theorem aSlice_sound (hT : T.OK P) (hs : Rd c h) {t : TypeId} {x : AV} {v : Value} {lo hi : Option AV} {vlo vhi : Option Value} (hv : VR c x v)
    (h1 : ∀ x, lo = some x → ∃ v, vlo = some v ∧ VR c x v) (h2 : ∀ x, hi = some x → ∃ v, vhi = some v ∧ VR c x v) (n1 : lo = none → vlo = none) (n2 : hi = none → vhi = none)
    (hk : aSlice T t x lo hi h K) : SV0 P (Instr.sliceAt t v vlo vhi none) c fun y => K y h := by
  unfold aSlice at hk
  split at hk
  · rename_i ht
    have hok := hT t _ ht
    split at hk
    · cases hv
      rename_i s
      obtain ⟨a, b, g1, g2, g3, g4⟩ := aBounds_run (P := P) (isSl := false) (Nat.le_refl s.size) h1 h2 n1 n2 hk
      exact SV0.same g3 (by simp [Instr.sliceAt, Instr.slice, hok.run_underlying c.w, g4]) .str
    · exact hk.elim
  · rename_i e s b z ht
    have hok := hT t _ ht
    split at hk
    · rename_i ei he
      have heo := hT e ei he
      have hrun : ∀ (ad : Option Addr) (len cap a b : Nat), (Instr.sliceBounds true len cap vlo vhi none).run P c.w = .ok (a, b, cap) c.w →
          (Instr.sliceAt t (.slice ad len cap) vlo vhi none).run P c.w = .ok (.slice (if cap = a then ad else ad.map (·.add (a * ei.size))) (b - a) (cap - a)) c.w := fun ad len cap a b hb => by
        simp [Instr.sliceAt, Instr.slice, hok.run_underlying c.w, hb, heo.run_sizeOf c.w]
      split at hk
      · rename_i id off len
        split at hk
        · rename_i sz es lk hid
          split at hk
          · rename_i hsz
            subst hsz
            cases hv with
            | sl hl hcap h0 hn =>
              rename_i l cap
              have hlsz := (hs.arr_cells hid hl).1
              obtain ⟨a, b, g1, g2, g3, g4⟩ := aBounds_run (P := P) (isSl := true) hcap h1 h2 n1 n2 hk
              refine SV0.same g3 (hrun _ _ _ _ _ g4) ?_
              by_cases hca : cap = a
              · rw [if_pos hca]
                have hba : b - a = 0 := by omega
                have hc0 : cap - a = 0 := by omega
                rw [hba, hc0]
                exact .sl0 hl
              · rw [if_neg hca]
                simp only [Option.map_some, Addr.add_none]
                have e2 : l.base + off * l.sz + a * ei.size = l.base + (off + a) * l.sz := by rw [← hlsz, Nat.add_mul]; omega
                rw [e2]
                refine .sl hl (by omega) h0 ?_
                have hm : (off + a) * l.sz + (cap - a) * l.sz = off * l.sz + cap * l.sz := by
                  rw [← Nat.add_mul, ← Nat.add_mul]; congr 1; omega
                omega
            | sl0 hl =>
              obtain ⟨a, b, g1, g2, g3, g4⟩ := aBounds_run (P := P) (isSl := true) (Nat.le_refl 0) h1 h2 n1 n2 hk
              have hb0 : b = 0 := by omega
              have ha0 : a = 0 := by omega
              subst hb0; subst ha0
              exact SV0.same g3 (hrun _ _ _ _ _ g4) (by simp; exact .sl0 hl)
          · exact hk.elim
        · exact hk.elim
      · rename_i id off len sz
        split at hk
        · rename_i hsz
          subst hsz
          cases hv with
          | vsl hl hcap =>
            obtain ⟨a, b, g1, g2, g3, g4⟩ := aBounds_run (P := P) (isSl := true) hcap h1 h2 n1 n2 hk
            split at g3
            · rename_i halt
              refine SV0.same g3 (hrun _ _ _ _ _ g4) ?_
              rw [if_neg (by omega)]
              simp only [Option.map_some, Addr.add_none, Nat.add_assoc]
              exact .vsl hl (by omega)
            · exact g3.elim
        · exact hk.elim
      · rename_i sz es
        split at hk
        · rename_i hsz
          subst hsz
          cases hv with
          | ro vals hlen hcap hsz hc hv' =>
            rename_i bb o len cap
            subst hlen
            obtain ⟨a, b, g1, g2, g3, g4⟩ := aBounds_run (P := P) (isSl := true) hcap h1 h2 n1 n2 hk
            refine SV0.same g3 (hrun _ _ _ _ _ g4) ?_
            have hl2 : ((es.drop a).take (b - a)).length = b - a := by simp; omega
            have hsub : ∀ e, e ∈ (es.drop a).take (b - a) → e ∈ es := fun e he => List.mem_of_mem_drop (List.mem_of_mem_take he)
            have hget : ∀ (i : Nat) (e : List AV), ((es.drop a).take (b - a))[i]? = some e → es[a + i]? = some e := fun i e g => by
              have hi : i < b - a := by have := (List.getElem?_eq_some_iff.1 g).1; omega
              rwa [List.getElem?_take_of_lt hi, List.getElem?_drop] at g
            by_cases hca : cap = a
            · rw [if_pos hca]
              have hba : b - a = 0 := by omega
              have hc0 : cap - a = 0 := by omega
              rw [hba, hc0, List.take_zero]
              exact .ro (fun _ _ => default) rfl (Nat.le_refl _) (by simp) (fun i e j x hh => by simp at hh) (fun i e j x hh => by simp at hh)
            · rw [if_neg hca]
              simp only [Option.map_some, Addr.add_none]
              refine .ro (fun i j => vals (a + i) j) hl2.symm (by omega) (fun e he => hsz e (hsub e he)) (fun i e j x k1 k2 => ?_) (fun i e j x k1 k2 => hv' _ e j x (hget i e k1) k2)
              have := hc (a + i) e j x (hget i e k1) k2
              rw [Nat.add_mul, ← Nat.add_assoc] at this
              exact this
          | roNil =>
            obtain ⟨a, b, g1, g2, g3, g4⟩ := aBounds_run (P := P) (isSl := true) (Nat.le_refl 0) h1 h2 n1 n2 hk
            have hb0 : b = 0 := by simp at g2; omega
            have ha0 : a = 0 := by omega
            subst hb0; subst ha0
            exact SV0.same g3 (hrun _ _ _ _ _ g4) (by simp; exact .roNil)
        · exact hk.elim
      · cases hv
        obtain ⟨a, b, g1, g2, g3, g4⟩ := aBounds_run (P := P) (isSl := true) (Nat.le_refl 0) h1 h2 n1 n2 hk
        have hb0 : b = 0 := by omega
        have ha0 : a = 0 := by omega
        subst hb0; subst ha0
        exact SV0.same g3 (hrun _ _ _ _ _ g4) (by simp; exact .nils)
      · exact hk.elim
    · exact hk.elim
  · rename_i n e s b z ht
    have hok := hT t _ ht
    split at hk
    · rename_i ei he
      have heo := hT e ei he
      split at hk
      · cases hv with
        | ptr hl =>
          obtain ⟨a, b, g1, g2, g3, g4⟩ := aBounds_run (P := P) (isSl := false) (Nat.le_refl n) h1 h2 n1 n2 hk
          split at g3
          · rename_i halt
            refine SV0.same g3 (by simp [Instr.sliceAt, hok.run_underlying c.w, Instr.sureAddr, g4, heo.run_sizeOf c.w]; rfl) ?_
            rw [if_neg (by omega)]
            simp only [Addr.add_none, Nat.add_assoc]
            exact .vsl hl (by omega)
          · exact g3.elim
      · exact hk.elim
    · exact hk.elim
  · exact hk.elim

/-! ### What is built -/
def fillA (place : Nat → Option (Nat × Nat)) (cells : List AV) : List (Nat × AV) → Option (List AV)
  | [] => some cells
  | (i, x) :: rest =>
    match place i, x.cells? with
    | some (off, size), some xs => if xs.length = size ∧ off + xs.length ≤ cells.length then fillA place (setAt cells off xs) rest else none
    | _, _ => none

/-- The parts of what is built, place by place. -/
inductive PartsR (c : Cx) : List (Nat × AV) → List (Nat × Value) → Prop
  | nil : PartsR c [] []
  | cons {i x v ps qs} (h : VR c x v) (hs : PartsR c ps qs) : PartsR c ((i, x) :: ps) ((i, v) :: qs)

theorem foldl_setArr (ys : List Value) : ∀ (vs : Array Value) (off : Nat), (ys.toArray.zipIdx.foldl (fun cs (p : Value × Nat) => cs.setIfInBounds (off + p.2) p.1) vs) = setArr vs off ys := by
  have aux : ∀ (ys : List Value) (vs : Array Value) (off k : Nat), ((ys.zipIdx k).foldl (fun cs (p : Value × Nat) => cs.setIfInBounds (off + p.2) p.1) vs) = setArr vs (off + k) ys := by
    intro ys
    induction ys with
    | nil => intro vs off k; rfl
    | cons y ys ih => intro vs off k; simp [List.zipIdx_cons, setArr, ih, Nat.add_assoc]
  intro vs off
  have := aux ys vs off 0
  simp only [Nat.add_zero] at this
  rw [← this, ← Array.foldl_toList]
  simp

theorem fillA_sound {place : Nat → Option (Nat × Nat)} : ∀ {ps : List (Nat × AV)} {qs : List (Nat × Value)} {cells : List AV} {vs : Array Value} {out : List AV},
    PartsR c ps qs → VRs c cells vs.toList → Ones vs.toList → fillA place cells ps = some out → ∃ ws : Array Value, Instr.fill place vs qs = some ws ∧ VRs c out ws.toList ∧ Ones ws.toList := by
  intro ps
  induction ps with
  | nil =>
    intro qs cells vs out hp hc h1 ho
    cases hp
    simp only [fillA, Option.some.injEq] at ho
    subst ho
    exact ⟨vs, rfl, hc, h1⟩
  | cons p ps ih =>
    intro qs cells vs out hp hc h1 ho
    cases hp with
    | cons hv h2 =>
      rename_i i x v qs
      simp only [fillA] at ho
      split at ho
      · rename_i off size xs e1 e2
        split at ho
        · rename_i hle
          have hxs := (hv.cells e2).1
          have hl1 : v.cells.size = xs.length := by have := hxs.1; simp at this; omega
          have hl2 : cells.length = vs.size := by simpa using hc.1
          obtain ⟨ws, g1, g2⟩ := ih h2 (hxs.setAt hc off) (Ones.setArr (hv.cells e2).2 h1 off) ho
          refine ⟨ws, ?_, g2⟩
          simp only [Instr.fill, e1]
          rw [if_neg (by simp; omega)]
          have := foldl_setArr v.cells.toList vs off
          simp only [Array.toArray_toList] at this
          rw [← g1]
          congr 1
        · cases ho
      · cases ho

def structPlaces (T : Tab) (fs : Array Field) (i : Nat) : Option (Nat × Nat) :=
  match fs[i]? with
  | some fd => (match T fd.type with
    | some fi => some (fd.offset, fi.size)
    | none => none)
  | none => none

def aBuild (T : Tab) (t : TypeId) (ps : List (Nat × AV)) (h : AH) (K : AV → AH → Prop) : Prop :=
  match T t with
  | some { desc := .struct fs, zero := z, .. } => if fs.all (fun fd => (T fd.type).isSome) then (match fillA (structPlaces T fs) (z.cells.toList.map ofCell) ps with
    | some cs => K (.agg cs) h
    | none => False) else False
  | some { desc := .array _ e, zero := z, .. } => (match T e with
    | some ei => (match fillA (fun i => some (i * ei.size, ei.size)) (z.cells.toList.map ofCell) ps with
      | some cs => K (.agg cs) h
      | none => False)
    | none => False)
  | _ => False

theorem run_mapM_fields (hT : T.OK P) (w : World) (fs : List Field) (hall : ∀ fd ∈ fs, (T fd.type).isSome = true) :
    (fs.mapM fun f => (do pure (f.offset, ← sizeOf f.type) : Sem (Nat × Nat))).run P w = .ok (fs.map fun f => (f.offset, ((T f.type).map (·.size)).getD 0)) w := by
  induction fs with
  | nil => simp
  | cons f fs ih =>
    have h1 := hall f (List.mem_cons_self ..)
    cases hf : T f.type with
    | none => simp [hf] at h1
    | some fi =>
      have ih' := ih (fun fd hfd => hall fd (List.mem_cons_of_mem _ hfd))
      simp [List.mapM_cons, (hT _ fi hf).run_sizeOf w, hf] at ih' ⊢
      simp [ih']

theorem aBuild_sound (hT : T.OK P) (hs : Rd c h) {t : TypeId} {ps : List (Nat × AV)} {qs : Array (Nat × Value)} (hp : PartsR c ps qs.toList) (hk : aBuild T t ps h K) : SV0 P (Instr.build t qs) c fun y => K y h := by
  unfold aBuild at hk
  split at hk
  · rename_i fs s b z ht
    have hok := hT t _ ht
    split at hk
    · rename_i hall
      split at hk
      · rename_i cs hc
        obtain ⟨ws, g1, g2, g3⟩ := fillA_sound hp (VRs.map_ofCell c z.cells.toList) hok.zone hc
        have hm := run_mapM_fields hT c.w fs.toList (fun fd hfd => by rw [Array.all_eq_true_iff_forall_mem] at hall; exact hall fd (by simpa using hfd))
        have hpl : (fun i => (fs.map fun f => (f.offset, ((T f.type).map (·.size)).getD 0))[i]?) = structPlaces T fs := by
          funext i
          simp only [Array.getElem?_map, structPlaces]
          cases hi : fs[i]? with
          | none => rfl
          | some fd =>
            have : (T fd.type).isSome = true := by
              rw [Array.all_eq_true_iff_forall_mem] at hall
              exact hall fd (Array.mem_of_getElem? hi)
            cases hf : T fd.type with
            | none => simp [hf] at this
            | some fi => simp [hf]
        refine SV0.same hk (v := .agg ws) ?_ (.agg g3 (by simpa using g2.1) fun i x v a b => g2.2 i x v a (by simpa using b))
        have hm' : (fs.mapM fun f => (do pure (f.offset, ← sizeOf f.type) : Sem (Nat × Nat))).run P c.w = .ok (fs.map fun f => (f.offset, ((T f.type).map (·.size)).getD 0)) c.w := by
          rw [Array.mapM_eq_mapM_toList]
          simp only [Sem.run_map, hm, Result.andThen_ok]
          congr 1
          apply Array.ext'
          simp
        simp only [Instr.build, Sem.run_bind, hok.run_zeroValue c.w, hok.run_underlying c.w, Result.andThen_ok, hm']
        rw [hpl, g1]
        rfl
      · exact hk.elim
    · exact hk.elim
  · rename_i n e s b z ht
    have hok := hT t _ ht
    split at hk
    · rename_i ei he
      split at hk
      · rename_i cs hc
        obtain ⟨ws, g1, g2, g3⟩ := fillA_sound hp (VRs.map_ofCell c z.cells.toList) hok.zone hc
        refine SV0.same hk (v := .agg ws) ?_ (.agg g3 (by simpa using g2.1) fun i x v a b => g2.2 i x v a (by simpa using b))
        simp only [Instr.build, Sem.run_bind, hok.run_zeroValue c.w, hok.run_underlying c.w, Result.andThen_ok, (hT e ei he).run_sizeOf c.w]
        rw [g1]
        rfl
      · exact hk.elim
    · exact hk.elim
  · exact hk.elim

end
end Go.Vm


/- The abstract machine, part 5: slices that are built, appended to; lengths; numbers, strings, bools, nil; interface values. -/
namespace Go.Vm
open Go

section
variable {P : Program} {T : Tab} {c : Cx} {h : AH} {K : AV → AH → Prop}

/-! ### A slice that is written out -/
def fillE (sz : Nat) (es : List (List AV)) : List (Nat × AV) → Option (List (List AV))
  | [] => some es
  | (i, x) :: rest =>
    match x.cells? with
    | some xs => if xs.length = sz ∧ i < es.length then fillE sz (es.set i xs) rest else none
    | none => none

def aBuildSlice (T : Tab) (t : TypeId) (len : Nat) (ps : List (Nat × AV)) (h : AH) (K : AV → AH → Prop) : Prop :=
  match T t with
  | some { desc := .slice e, .. } => (match T e with
    | some ei => if 0 < ei.size ∧ len * ei.size ≤ 16777216 then (match fillE ei.size (List.replicate len (zeroCells ei)) ps with
      | some es => K (.sl h.length 0 len) (h ++ [.arr ei.size es false])
      | none => False) else False
    | none => False)
  | _ => False

/-- Elements as cells. -/
def RowR (c : Cx) (sz base : Nat) (es : List (List AV)) (vs : Array Value) : Prop :=
  base + es.length * sz ≤ vs.size ∧ (∀ e ∈ es, e.length = sz) ∧ (∀ (i : Nat) (e : List AV) (j : Nat) (x : AV) (v : Value), es[i]? = some e → e[j]? = some x → vs[base + i * sz + j]? = some v → VR c x v) ∧ Ones vs.toList

theorem RowR.set {sz : Nat} {es : List (List AV)} {vs : Array Value} (hr : RowR c sz 0 es vs) {i : Nat} {xs : List AV} {ys : List Value} (hx : VRs c xs ys) (hy : Ones ys) (hl : xs.length = sz) (hi : i < es.length) :
    RowR c sz 0 (es.set i xs) (setArr vs (i * sz) ys) := by
  obtain ⟨r1, r2, r3, r4⟩ := hr
  refine ⟨by rw [setArr_size]; simpa using r1, fun e he => ?_, fun i' e j x v g1 g2 g3 => ?_, Ones.setArr hy r4 _⟩
  · rcases List.mem_or_eq_of_mem_set he with h' | h'
    · exact r2 e h'
    · rw [h']; exact hl
  · have hb1 : (i + 1) * sz ≤ es.length * sz := Nat.mul_le_mul_right _ (by omega)
    rw [Nat.add_mul, Nat.one_mul] at hb1
    rw [List.getElem?_set] at g1
    rw [setArr_get, ← hx.1] at g3
    by_cases hii : i = i'
    · subst hii
      simp only [if_true] at g1
      rw [if_pos hi] at g1
      cases g1
      have hj := (List.getElem?_eq_some_iff.1 g2).1
      rw [if_pos (by omega)] at g3
      have : 0 + i * sz + j - i * sz = j := by omega
      rw [this] at g3
      exact hx.2 j x v g2 g3
    · rw [if_neg hii] at g1
      have hj := (List.getElem?_eq_some_iff.1 g2).1
      have hel := r2 e (List.mem_of_getElem? g1)
      have hne : ¬ (i * sz ≤ 0 + i' * sz + j ∧ 0 + i' * sz + j < i * sz + xs.length ∧ 0 + i' * sz + j < vs.size) := by
        rintro ⟨p, q, _⟩
        rcases Nat.lt_or_gt_of_ne hii with hlt | hlt
        · have : (i + 1) * sz ≤ i' * sz := Nat.mul_le_mul_right _ (by omega)
          rw [Nat.add_mul, Nat.one_mul] at this
          omega
        · have : (i' + 1) * sz ≤ i * sz := Nat.mul_le_mul_right _ (by omega)
          rw [Nat.add_mul, Nat.one_mul] at this
          omega
      rw [if_neg hne] at g3
      exact r3 i' e j x v g1 g2 g3

theorem fillE_sound {sz : Nat} : ∀ {ps : List (Nat × AV)} {qs : List (Nat × Value)} {es out : List (List AV)} {vs : Array Value},
    PartsR c ps qs → RowR c sz 0 es vs → fillE sz es ps = some out → ∃ ws : Array Value, Instr.fill (fun i => some (i * sz, sz)) vs qs = some ws ∧ ws.size = vs.size ∧ out.length = es.length ∧ RowR c sz 0 out ws := by
  intro ps
  induction ps with
  | nil =>
    intro qs es out vs hp hr ho
    cases hp
    simp only [fillE, Option.some.injEq] at ho
    subst ho
    exact ⟨vs, rfl, rfl, rfl, hr⟩
  | cons p ps ih =>
    intro qs es out vs hp hr ho
    cases hp with
    | cons hv h2 =>
      rename_i i x v qs
      simp only [fillE] at ho
      split at ho
      · rename_i xs e2
        split at ho
        · rename_i hle
          have hxs := (hv.cells e2).1
          have hl1 : v.cells.size = xs.length := by have := hxs.1; simp at this; omega
          obtain ⟨ws, g1, g2, g3, g4⟩ := ih h2 (hr.set hxs (hv.cells e2).2 hle.1 hle.2) ho
          have hb1 : (i + 1) * sz ≤ es.length * sz := Nat.mul_le_mul_right _ (by omega)
          rw [Nat.add_mul, Nat.one_mul] at hb1
          have := hr.1
          refine ⟨ws, ?_, by rw [g2, setArr_size], by rw [g3]; simp, g4⟩
          simp only [Instr.fill]
          rw [if_neg (by simp; omega)]
          have := foldl_setArr v.cells.toList vs (i * sz)
          simp only [Array.toArray_toList] at this
          rw [← g1]
          congr 1
        · cases ho
      · cases ho

theorem RowR.replicate {ei : TyI} (hz : ei.zero.cells.size = ei.size) (hone : Ones ei.zero.cells.toList) (h0 : 0 < ei.size) (len : Nat) :
    RowR c ei.size 0 (List.replicate len (zeroCells ei)) ((Array.range (len * ei.size)).map (ei.zero.cells[· % ei.zero.cells.size]!)) := by
  refine ⟨by simp, fun e he => ?_, fun i e j x v g1 g2 g3 => ?_, fun v hv => ?_⟩
  · obtain ⟨_, rfl⟩ := List.mem_replicate.1 he
    simp [zeroCells, hz]
  · obtain ⟨_, rfl⟩ := List.mem_replicate.1 (List.mem_of_getElem? g1)
    have hj := (List.getElem?_eq_some_iff.1 g2).1
    simp [zeroCells, hz] at hj
    rw [Array.getElem?_map] at g3
    have hlt : 0 + i * ei.size + j < len * ei.size := by
      have hi := (List.getElem?_eq_some_iff.1 g1).1
      simp at hi
      have : (i + 1) * ei.size ≤ len * ei.size := Nat.mul_le_mul_right _ (by omega)
      rw [Nat.add_mul, Nat.one_mul] at this
      omega
    rw [Array.getElem?_range] at g3
    rw [if_pos hlt] at g3
    simp only [Option.map_some, Option.some.injEq] at g3
    have hmod : (0 + i * ei.size + j) % ei.zero.cells.size = j := by
      rw [hz, Nat.zero_add, Nat.add_comm, Nat.add_mul_mod_self_right, Nat.mod_eq_of_lt hj]
    rw [hmod] at g3
    simp only [zeroCells, List.getElem?_map, Array.getElem?_toList] at g2
    rw [getElem!_pos _ _ (by omega)] at g3
    rw [Array.getElem?_eq_getElem (by omega)] at g2
    simp only [Option.map_some, Option.some.injEq] at g2
    subst g2; subst g3
    exact VR.ofCell c _
  · simp only [Array.toList_map, Array.toList_range, List.mem_map, List.mem_range] at hv
    obtain ⟨j, hj, rfl⟩ := hv
    rw [getElem!_pos _ _ (by rw [hz]; exact Nat.mod_lt _ h0)]
    exact hone _ (by simp)

/-- A new row. -/
theorem sim_newRow (hs : Sim c h) {sz : Nat} {es : List (List AV)} {vs : Array Value} (e : TypeId) {w' : World} (hw : w'.heap = c.w.heap.push (.cells vs e)) (h1 : w'.os = c.w.os) (h2 : w'.tape = c.w.tape) (h3 : w'.output = c.w.output)
    (h0 : 0 < sz) (hr : RowR c sz 0 es vs) (lk : Bool) :
    let l : Loc := ⟨c.w.heap.size, 0, vs.size, sz⟩
    Sim ⟨upd c.φ h.length l, c.L, w'⟩ (h ++ [.arr sz es lk]) ∧ Ext c h ⟨upd c.φ h.length l, c.L, w'⟩ (h ++ [.arr sz es lk]) := by
  intro l
  refine Sim.new hs (o := .cells vs e) (l := l) rfl hw h1 h2 h3 (fun hle hL => ?_)
  refine .arr (vs := vs) (T := e) ?_ rfl rfl h0 hr.1 hr.2.1 (fun i e j x v g1 g2 g3 => (hr.2.2.1 i e j x v g1 g2 g3).mono hle) (by show c.L l.b ≤ _; rw [hL]; omega) (fun _ => hL) hr.2.2.2
  show w'.heap[c.w.heap.size]? = _
  rw [hw]; simp

theorem aBuildSlice_sound (hT : T.OK P) (hs : Sim c h) {t : TypeId} {len : Nat} {ps : List (Nat × AV)} {qs : Array (Nat × Value)} (hp : PartsR c ps qs.toList) (hk : aBuildSlice T t len ps h K) : SV P (Instr.buildSlice t len qs) c h K := by
  unfold aBuildSlice at hk
  split at hk
  · rename_i e s b z ht
    have hok := hT t _ ht
    split at hk
    · rename_i ei he
      have heo := hT e ei he
      split at hk
      · rename_i hle
        split at hk
        · rename_i es hes
          obtain ⟨ws, g1, g2, g3, g4⟩ := fillE_sound hp (RowR.replicate heo.zsz heo.zone hle.1 len) hes
          have hlen : es.length = len := by rw [g3]; simp
          have hnew := sim_newRow hs (es := es) (vs := ws) e (w' := c.w.alloc (.cells ws e)) rfl rfl rfl rfl hle.1 g4 false
          refine ⟨_, _, _, .slice (some ⟨c.w.heap.size, 0, none⟩) len len, hk, hnew.2, hnew.1, ?_, ?_⟩
          · by_cases hz : len * ei.size = 0
            · have hl0 : len = 0 := by
                rcases Nat.eq_zero_or_pos len with h' | h'
                · exact h'
                · have := Nat.mul_pos h' hle.1; omega
              subst hl0
              have hE : ((Array.range (0 * ei.size)).map (ei.zero.cells[· % ei.zero.cells.size]!)) = #[] := by simp
              rw [hE] at g1
              simp only [Instr.buildSlice, Sem.run_bind, hok.run_underlying c.w, Result.andThen_ok, heo.run_sizeOf c.w, Nat.zero_mul, if_true, Sem.run_pure, Sem.run_ite]
              rw [if_neg (by decide)]
              have hE2 : ((Array.range 0).map ((#[] : Array Value)[· % (#[] : Array Value).size]!)) = #[] := by simp
              rw [hE2, g1]
              rfl
            · have hgt : ¬ (len * ei.size > 2 ^ 24) := by omega
              simp only [Instr.buildSlice, Sem.run_bind, hok.run_underlying c.w, Result.andThen_ok, heo.run_sizeOf c.w, hgt, if_false, hz, heo.run_zeroValue c.w, Sem.run_pure, Sem.run_ite]
              rw [g1]
              rfl
          · have := VR.sl (c := ⟨upd c.φ h.length ⟨c.w.heap.size, 0, ws.size, ei.size⟩, c.L, c.w.alloc (.cells ws e)⟩) (id := h.length) (off := 0) (len := len) (cap := len) (l := ⟨c.w.heap.size, 0, ws.size, ei.size⟩) upd_same (Nat.le_refl _) hle.1 (by have := g4.1; rw [hlen] at this; simp only [Nat.zero_mul, Nat.zero_add] at this ⊢; omega)
            simpa using this
        · exact hk.elim
      · exact hk.elim
    · exact hk.elim
  · exact hk.elim

/-! ### Append -/
/-- The elements of a slice, as cells. -/
def elems? (sz : Nat) (h : AH) : AV → Option (List (List AV))
  | .nils => some []
  | .sl id off len => (match h[id]? with
    | some (.arr sz' es _) => if sz' = sz ∧ off + len ≤ es.length then some ((es.drop off).take len) else none
    | _ => none)
  | .ro sz' es => if sz' = sz then some es else none
  | .str s => if sz = 1 then some (s.data.toList.map fun b => [.int .u8 b.toNat]) else none
  | _ => none

/-- Is it a type of whole numbers? -/
def isIntD : TypeDesc → Bool
  | .int _ => true
  | _ => false

def aAppend (T : Tab) (ts : List TypeId) (x y : AV) (h : AH) (K : AV → AH → Prop) : Prop :=
  match ts with
  | t :: u :: _ => (match T t, T u with
    | some { desc := .slice e, .. }, some ui => if isIntD ui.desc then False else (match T e with
      | some ei => if 0 < ei.size ∧ 0 < ei.bytes then (match elems? ei.size h y with
        | some ne => (match x with
          | .nils => (match ne with
            | [] => K .nils h
            | _ :: _ => if ne.length * ei.bytes ≤ 140737488355328 then K (.sl h.length 0 ne.length) (h ++ [.arr ei.size ne false]) else False)
          | .sl id off len => (match h[id]? with
            | some (.arr sz es lk) => if sz = ei.size ∧ off + len ≤ es.length ∧ (lk = true → off + len = es.length) ∧ (len + ne.length) * ei.bytes ≤ 140737488355328 then
                K (.sl h.length 0 (len + ne.length)) (h.set id .dead ++ [.arr sz ((es.drop off).take len ++ ne) lk]) else False
            | _ => False)
          | _ => False)
        | none => False) else False
      | none => False)
    | _, _ => False)
  | _ => False

/-- What is appended, as cells. -/
theorem elems_run (hs : Sim c h) {sz : Nat} {y : AV} {v : Value} (hv : VR c y v) {ne : List (List AV)} (he : elems? sz h y = some ne) (h0 : 0 < sz) :
    ∃ ws : Array Value, (Builtin.lenOf v).run P c.w = .ok ne.length c.w ∧ (Builtin.firstCells sz ne.length v).run P c.w = .ok ws c.w ∧ ws.size = ne.length * sz ∧ RowR c sz 0 ne ws := by
  have ofCells : ∀ (b o : Nat) (len cap : Nat) (es : List (List AV)), v = .slice (some ⟨b, o, none⟩) len cap → es = ne → len = ne.length → (∀ e ∈ es, e.length = sz) → (∀ (i : Nat) (e : List AV), es[i]? = some e → CellsAt c b (o + i * sz) e) →
      ∃ ws : Array Value, (Builtin.lenOf v).run P c.w = .ok ne.length c.w ∧ (Builtin.firstCells sz ne.length v).run P c.w = .ok ws c.w ∧ ws.size = ne.length * sz ∧ RowR c sz 0 ne ws := by
    intro b o len cap es hveq hes hlen hall hc
    subst hveq; subst hes; subst hlen
    have hat : CellsAt c b o es.flatten := by
      intro j x hx
      have aux : ∀ (es : List (List AV)) (o : Nat), (∀ e ∈ es, e.length = sz) → (∀ (i : Nat) (e : List AV), es[i]? = some e → CellsAt c b (o + i * sz) e) → CellsAt c b o es.flatten := by
        intro es
        induction es with
        | nil => intro o _ _ j x hx; simp at hx
        | cons e es ih =>
          intro o hall hc j x hx
          have he1 := hall e (List.mem_cons_self ..)
          rw [List.flatten_cons] at hx
          rcases Nat.lt_or_ge j e.length with hj | hj
          · rw [List.getElem?_append_left hj] at hx
            have := hc 0 e rfl j x hx
            simpa using this
          · rw [List.getElem?_append_right hj] at hx
            have := ih (o + sz) (fun e' h' => hall e' (List.mem_cons_of_mem _ h')) (fun i e' h' => by
              have := hc (i + 1) e' (by simpa using h')
              rw [Nat.add_mul, Nat.one_mul] at this
              rw [show o + sz + i * sz = o + (i * sz + sz) by omega]; exact this) _ x hx
            rw [show o + sz + (j - e.length) = o + j by omega] at this
            exact this
      exact aux es o hall hc j x hx
    have hfl : es.flatten.length = es.length * sz := by
      clear hat hc he hv
      induction es with
      | nil => simp
      | cons e es ih =>
        rw [List.flatten_cons, List.length_append, hall e (List.mem_cons_self ..), ih (fun e' h' => hall e' (List.mem_cons_of_mem _ h'))]
        simp [Nat.add_mul]; omega
    obtain ⟨vs, r1, r2⟩ := run_loadCells_at (P := P) hat
    rw [hfl] at r1
    refine ⟨vs.toArray, by simp [Builtin.lenOf], by simp [Builtin.firstCells, r1], by simp [← r2.1.1, hfl], by simp [← r2.1.1, hfl], hall, fun i e j x u g1 g2 g3 => ?_, by simpa using r2.2⟩
    have hj := (List.getElem?_eq_some_iff.1 g2).1
    rw [hall e (List.mem_of_getElem? g1)] at hj
    have hfg : ∀ (es : List (List AV)) (i j : Nat) (e : List AV) (x : AV), (∀ e ∈ es, e.length = sz) → es[i]? = some e → e[j]? = some x → es.flatten[i * sz + j]? = some x := by
      intro es
      induction es with
      | nil => intro i j e x _ g; simp at g
      | cons e0 es ih =>
        intro i j e x hall g1 g2
        have he1 := hall e0 (List.mem_cons_self ..)
        have hj := (List.getElem?_eq_some_iff.1 g2).1
        rw [List.flatten_cons]
        cases i with
        | zero =>
          simp at g1; subst g1
          rw [Nat.zero_mul, Nat.zero_add, List.getElem?_append_left hj]; exact g2
        | succ i =>
          simp at g1
          rw [List.getElem?_append_right (by rw [he1, Nat.add_mul]; omega)]
          have := ih i j e x (fun e' h' => hall e' (List.mem_cons_of_mem _ h')) g1 g2
          rw [show (i + 1) * sz + j - e0.length = i * sz + j by rw [he1, Nat.add_mul]; omega]
          exact this
    have := hfg es i j e x hall g1 g2
    rw [Nat.zero_add] at g3
    exact r2.1.2 _ x u this (by simpa using g3)
  cases y <;> simp only [elems?, reduceCtorEq] at he
  case nils =>
    cases he; cases hv
    exact ⟨#[], by simp [Builtin.lenOf], by simp [Builtin.firstCells], by simp, by simp, by simp, fun i e j x v g => by simp at g, fun v hv => by simp at hv⟩
  case str s =>
    split at he
    · rename_i h1
      cases he; cases hv; subst h1
      refine ⟨s.data.map fun b => .int .u8 b.toNat, ?_, ?_, by simp, by simp, fun e he => ?_, fun i e j x v g1 g2 g3 => ?_, fun v hv => ?_⟩
      · have : (s.data.toList.map fun b => ([AV.int .u8 b.toNat] : List AV)).length = s.size := by simp
        rw [this]; rfl
      · have : (s.data.toList.map fun b => ([AV.int .u8 b.toNat] : List AV)).length = s.size := by simp
        rw [this]
        simp only [Builtin.firstCells, ByteArray.extract_zero_size]
        rfl
      · obtain ⟨b, _, rfl⟩ := List.mem_map.1 he; rfl
      · simp only [List.getElem?_map, Array.getElem?_toList, Option.map_eq_some_iff] at g1
        obtain ⟨b, g1, rfl⟩ := g1
        have hj := (List.getElem?_eq_some_iff.1 g2).1
        simp at hj; subst hj
        simp only [List.getElem?_cons_zero, Option.some.injEq] at g2
        subst g2
        simp only [Nat.zero_add, Nat.mul_one, Nat.add_zero, Array.getElem?_map, g1, Option.map_some, Option.some.injEq] at g3
        subst g3
        exact .int
      · simp only [Array.toList_map, List.mem_map] at hv
        obtain ⟨b, _, rfl⟩ := hv
        rfl
    · cases he
  case sl id off len =>
    split at he
    · rename_i sz' es lk hid
      split at he
      · rename_i hle
        cases he
        have hl2 : ((es.drop off).take len).length = len := by simp; omega
        obtain ⟨l, f1, f2, f3⟩ := hs.blk id _ hid rfl
        have harr := hs.rd.arr_cells hid f1
        have hall : ∀ e ∈ (es.drop off).take len, e.length = sz := fun e he => by
          cases f3 with
          | arr a1 a2 a3 a4 a5 a6 a7 a8 a9 a10 => rw [← hle.1]; exact a6 e (List.mem_of_mem_drop (List.mem_of_mem_take he))
        have hget : ∀ (i : Nat) (e : List AV), ((es.drop off).take len)[i]? = some e → es[off + i]? = some e := fun i e g => by
          have hi : i < len := by have := (List.getElem?_eq_some_iff.1 g).1; omega
          rwa [List.getElem?_take_of_lt hi, List.getElem?_drop] at g
        cases hv with
        | sl hl hcap h0' hn =>
          rename_i l' cap
          rw [f1] at hl; cases hl
          refine ofCells l.b (l.base + off * l.sz) len cap _ rfl rfl hl2.symm hall (fun i e g => ?_)
          have := harr.2 _ _ (hget i e g)
          rw [harr.1, hle.1, show l.base + off * sz + i * sz = l.base + (off + i) * sz by rw [Nat.add_mul]; omega]
          rw [hle.1] at this
          exact this
        | sl0 hl =>
          rw [f1] at hl; cases hl
          rename_i o
          refine ofCells l.b o 0 0 _ rfl rfl hl2.symm hall (fun i e g => ?_)
          simp at g
      · cases he
    · cases he
  case ro sz' es =>
    split at he
    · rename_i hle
      cases he; subst hle
      cases hv with
      | ro vals hlen hcap hsz hc hv' => exact ofCells _ _ _ _ _ rfl rfl hlen hsz (fun i e g j x hx => ⟨vals i j, (hc i e j x g hx).2.1, hv' i e j x g hx, (hc i e j x g hx).2.2⟩)
      | roNil => exact ⟨#[], by simp [Builtin.lenOf], by simp [Builtin.firstCells], by simp, by simp, by simp, fun i e j x v g => by simp at g, fun v hv => by simp at hv⟩
    · cases he

theorem RowR.append {sz : Nat} {es fs : List (List AV)} {vs us rest : Array Value} (h1 : RowR c sz 0 es vs) (h2 : RowR c sz 0 fs us) (hv : vs.size = es.length * sz) (hrest : Ones rest.toList) : RowR c sz 0 (es ++ fs) (vs ++ us ++ rest) := by
  refine ⟨?_, fun e he => ?_, fun i e j x v g1 g2 g3 => ?_, fun v hv => ?_⟩
  · have := h2.1
    simp [Nat.add_mul] at this ⊢; omega
  · rcases List.mem_append.1 he with h' | h'
    · exact h1.2.1 e h'
    · exact h2.2.1 e h'
  · have hj := (List.getElem?_eq_some_iff.1 g2).1
    rw [Nat.zero_add] at g3
    rcases Nat.lt_or_ge i es.length with hi | hi
    · rw [List.getElem?_append_left hi] at g1
      have hel := h1.2.1 e (List.mem_of_getElem? g1)
      have : (i + 1) * sz ≤ es.length * sz := Nat.mul_le_mul_right _ (by omega)
      rw [Nat.add_mul, Nat.one_mul] at this
      rw [Array.append_assoc, Array.getElem?_append_left (by omega)] at g3
      exact h1.2.2.1 i e j x v g1 g2 (by rw [Nat.zero_add]; exact g3)
    · rw [List.getElem?_append_right hi] at g1
      have hel := h2.2.1 e (List.mem_of_getElem? g1)
      have hi2 := (List.getElem?_eq_some_iff.1 g1).1
      have hb : (i - es.length + 1) * sz ≤ fs.length * sz := Nat.mul_le_mul_right _ (by omega)
      rw [Nat.add_mul, Nat.one_mul] at hb
      have hsplit : i * sz = es.length * sz + (i - es.length) * sz := by rw [← Nat.add_mul]; congr 1; omega
      have h21 := h2.1
      rw [Array.getElem?_append_left (by simp; omega), Array.getElem?_append_right (by omega)] at g3
      exact h2.2.2.1 (i - es.length) e j x v g1 g2 (by rw [Nat.zero_add, show (i - es.length) * sz + j = i * sz + j - vs.size by omega]; exact g3)
  · simp only [Array.toList_append, List.mem_append] at hv
    rcases hv with (hv | hv) | hv
    · exact h1.2.2.2 v hv
    · exact h2.2.2.2 v hv
    · exact hrest v hv

end
end Go.Vm


/- The abstract machine, part 6: append. -/
namespace Go.Vm
open Go

section
variable {P : Program} {T : Tab} {c : Cx} {h : AH} {K : AV → AH → Prop}

theorem app_fits {w : World} {ats : Array TypeId} {ty t u e : TypeId} {ti ui ei : TyI} (h0 : ats[0]? = some t) (h1 : ats[1]? = some u) (ht : TyOK P t ti) (hd : ti.desc = .slice e) (hu : TyOK P u ui)
    (hui : isIntD ui.desc = false) (he : TyOK P e ei) {base : Option Addr} {sLen sCap n : Nat} {vy : Value} {ws : Array Value}
    (hn : (Builtin.lenOf vy).run P w = .ok n w) (hw : (Builtin.firstCells ei.size n vy).run P w = .ok ws w) (hfit : sLen + n ≤ sCap) :
    (Builtin.append_ ats ty #[.slice base sLen sCap, vy]).run P w =
      ((match base with | some a => (storeCells (a.add (sLen * ei.size)) ws.toList).run P w | none => .ok () w) : Result Unit).andThen fun _ w' => .ok (.slice base (sLen + n) sCap) w' := by
  have ht' := ht.run_underlying w
  rw [hd] at ht'
  have hu' := hu.run_underlying w
  unfold Builtin.append_
  simp only [h0, h1, List.getElem?_toArray, List.getElem?_cons_zero, List.getElem?_cons_succ, Sem.run_bind, ht', Result.andThen_ok, he.run_sizeOf w, hu', Sem.run_pure]
  generalize ui.desc = dd at hui
  cases dd <;> first
    | (simp [isIntD] at hui; done)
    | (simp only [hn, hw, Bool.false_eq_true, if_false, Result.andThen_ok, hfit, if_true, Bool.not_false, Sem.run_bind]
       cases base with
       | none => rfl
       | some a => simp only [Sem.run_bind, Sem.run_pure])

theorem app_grows {w : World} {ats : Array TypeId} {ty t u e : TypeId} {ti ui ei : TyI} (h0 : ats[0]? = some t) (h1 : ats[1]? = some u) (ht : TyOK P t ti) (hd : ti.desc = .slice e) (hu : TyOK P u ui)
    (hui : isIntD ui.desc = false) (he : TyOK P e ei) (hb : 0 < ei.bytes) {base : Option Addr} {sLen sCap n : Nat} {vy : Value} {os ws : Array Value}
    (hn : (Builtin.lenOf vy).run P w = .ok n w) (ho : (Builtin.firstCells ei.size sLen (.slice base sLen sCap)).run P w.drew = .ok os w.drew) (hw : (Builtin.firstCells ei.size n vy).run P w.drew = .ok ws w.drew)
    (hfit : ¬ sLen + n ≤ sCap) (hroom : (sLen + n) * ei.bytes ≤ 140737488355328) :
    ∃ newCap, sLen + n ≤ newCap ∧ (Builtin.append_ ats ty #[.slice base sLen sCap, vy]).run P w =
      .ok (.slice (some ⟨w.heap.size, 0, none⟩) (sLen + n) newCap) (w.drew.alloc (.cells (os ++ ws ++ Builtin.zeroCells ei.zero.cells (newCap - (sLen + n))) e)) := by
  have ht' := ht.run_underlying w
  rw [hd] at ht'
  have hu' := hu.run_underlying w
  have hgs := growslice_fits (need := sLen + n) (old := sCap) (by omega) hroom
  refine ⟨Question.cut (.appendCap (sLen + n) sCap e) (w.tape w.drawn (.appendCap (sLen + n) sCap e)), by simp [Question.cut], ?_⟩
  obtain ⟨i, hi, hi1, hi2, hi3⟩ := he.run_typeInfo w
  have hi' : (typeInfo e).run P w.drew = .ok i w.drew := by
    obtain ⟨j, hj, _⟩ := he.info
    simp [typeInfo, hj] at hi ⊢
    exact hi
  have hb0 : ¬ (((sLen + n : Nat) : Int) > IntKind.i64.max ∧ (False ∨ ei.bytes = 0)) := fun hx => by
    rcases hx.2 with hx | hx
    · exact hx
    · omega
  have hb1 : ¬ (Builtin.nextslicecap (sLen + n) sCap * ei.bytes > 2 ^ 48) := by omega
  unfold Builtin.append_
  simp only [h0, h1, List.getElem?_toArray, List.getElem?_cons_zero, List.getElem?_cons_succ, Sem.run_bind, ht', Result.andThen_ok, he.run_sizeOf w, hu', Sem.run_pure]
  generalize ui.desc = dd at hui
  cases dd <;> first
    | (simp [isIntD] at hui; done)
    | (simp only [hn, Bool.false_eq_true, if_false, Result.andThen_ok, hfit, Bool.not_false, if_true, Sem.run_bind, hi, hi2, Sem.run_ite, hb0, hb1, Sem.run_pure, run_choose, Question.forced, World.drew_eq, hi', run_askRoom, ho, hw, he.run_zeroValue w.drew]
       rfl)


theorem zeroCells_size (z : Array Value) (n : Nat) : (Builtin.zeroCells z n).size = n * z.size := by simp [Builtin.zeroCells]

theorem ones_zeroCells {z : Array Value} {k : Nat} (_ : z.size = k) (h1 : Ones z.toList) (n : Nat) : Ones (Builtin.zeroCells z n).toList := by
  intro v hv
  simp only [Builtin.zeroCells, Array.toList_map, List.mem_map, Array.toList_range, List.mem_range] at hv
  obtain ⟨j, hj, rfl⟩ := hv
  have hz : 0 < z.size := Nat.pos_of_ne_zero fun h0 => by rw [h0] at hj; simp at hj
  rw [getElem!_pos z (j % z.size) (Nat.mod_lt _ hz)]
  exact h1 _ (by simp)

theorem aAppend_sound (hT : T.OK P) (hs : Sim c h) {ts : List TypeId} {ty : TypeId} {x y : AV} {v u : Value} (hv : VR c x v) (hu : VR c y u) (hk : aAppend T ts x y h K) :
    SV P (Builtin.append_ ts.toArray ty #[v, u]) c h K := by
  unfold aAppend at hk
  split at hk
  · rename_i t u' rest
    split at hk
    · rename_i e s b z ui ht hu'
      split at hk
      · exact hk.elim
      · rename_i hui
        have hui' : isIntD ui.desc = false := by simpa using hui
        have hok := hT t _ ht
        have huo := hT u' ui hu'
        split at hk
        · rename_i ei he
          have heo := hT e ei he
          split at hk
          · rename_i h0
            split at hk
            · rename_i ne hne
              have h00 : (t :: u' :: rest).toArray[0]? = some t := rfl
              have h01 : (t :: u' :: rest).toArray[1]? = some u' := rfl
              obtain ⟨ws, e1, e2, e3, e4⟩ := elems_run (P := P) hs hu hne h0.1
              have hd := hs.world (w' := c.w.drew) rfl rfl rfl rfl
              have hud : VR ⟨c.φ, c.L, c.w.drew⟩ y u := hu.mono (Le.world (w' := c.w.drew) rfl)
              obtain ⟨ws', d1, d2, d3, d4⟩ := elems_run (P := P) hd.1 hud hne h0.1
              split at hk
              · -- nil
                cases hv
                split at hk
                · exact SV.same hs hk (v := .slice none 0 0) (by
                    have := app_fits (P := P) (w := c.w) (ty := ty) (base := none) (sLen := 0) (sCap := 0) h00 h01 hok rfl huo hui' heo e1 e2 (by simp)
                    simpa using this) .nils
                · rename_i e0 es0
                  split at hk
                  · rename_i hroom
                    obtain ⟨newCap, g1, g2⟩ := app_grows (P := P) (w := c.w) (ty := ty) (base := none) (sLen := 0) (sCap := 0) (os := #[]) h00 h01 hok rfl huo hui' heo h0.2 e1 (by simp [Builtin.firstCells]) d2 (by simp) (by simpa using hroom)
                    have hrow : RowR c ei.size 0 (e0 :: es0) (#[] ++ ws' ++ Builtin.zeroCells ei.zero.cells (newCap - (0 + (e0 :: es0).length))) := by
                      have := RowR.append (c := ⟨c.φ, c.L, c.w.drew⟩) (sz := ei.size) (es := []) (fs := e0 :: es0) (vs := #[]) (us := ws') (rest := Builtin.zeroCells ei.zero.cells (newCap - (0 + (e0 :: es0).length)))
                        ⟨by simp, by simp, fun i e j x v g => by simp at g, fun v hv => by simp at hv⟩ d4 (by simp) (ones_zeroCells heo.zsz heo.zone _)
                      rw [List.nil_append] at this
                      exact ⟨this.1, this.2.1, fun i e j x v a b d => (this.2.2.1 i e j x v a b d).mono (Le.world (c := ⟨c.φ, c.L, c.w.drew⟩) (w' := c.w) rfl), this.2.2.2⟩
                    have hnew := sim_newRow hs e (w' := c.w.drew.alloc (.cells (#[] ++ ws' ++ Builtin.zeroCells ei.zero.cells (newCap - (0 + (e0 :: es0).length))) e)) rfl rfl rfl rfl h0.1 hrow false
                    refine ⟨_, _, _, _, hk, hnew.2, hnew.1, g2, ?_⟩
                    have hsz : ((#[] ++ ws' ++ Builtin.zeroCells ei.zero.cells (newCap - (0 + (e0 :: es0).length))) : Array Value).size = newCap * ei.size := by
                      rw [Array.size_append, Array.size_append, d3, zeroCells_size, heo.zsz]
                      show 0 + _ + _ = _
                      rw [Nat.zero_add, ← Nat.add_mul]
                      congr 1; omega
                    have := VR.sl (c := ⟨upd c.φ h.length ⟨c.w.heap.size, 0, (#[] ++ ws' ++ Builtin.zeroCells ei.zero.cells (newCap - (0 + (e0 :: es0).length))).size, ei.size⟩, c.L, c.w.drew.alloc (.cells (#[] ++ ws' ++ Builtin.zeroCells ei.zero.cells (newCap - (0 + (e0 :: es0).length))) e)⟩) (id := h.length) (off := 0) (len := (e0 :: es0).length) (cap := newCap) upd_same (by omega) h0.1 (by rw [hsz]; simp)
                    simpa using this
                  · exact hk.elim
              · rename_i id off len
                split at hk
                · rename_i sz es lk hid
                  split at hk
                  · rename_i hc
                    obtain ⟨rfl, hle, hlk, hroom⟩ := hc
                    obtain ⟨l, f1, f2, f3⟩ := hs.blk id _ hid rfl
                    have harr := hs.rd.arr_cells hid f1
                    -- the old elements
                    have hold : elems? ei.size h (.sl id off len) = some ((es.drop off).take len) := by simp [elems?, hid, hle]
                    have hl2 : ((es.drop off).take len).length = len := by simp; omega
                    obtain ⟨os, o1, o2, o3, o4⟩ := elems_run (P := P) hd.1 (hv.mono (Le.world (w' := c.w.drew) rfl)) hold h0.1
                    rw [hl2] at o2 o3
                    -- the model's slice
                    have hgrow : ∀ (base : Option Addr) (cap : Nat), v = .slice base len cap → ¬ len + ne.length ≤ cap → SV P (Builtin.append_ (t :: u' :: rest).toArray ty #[v, u]) c h K := by
                      intro base cap hveq hnf
                      rw [hveq] at o2 ⊢
                      obtain ⟨newCap, g1, g2⟩ := app_grows (P := P) (w := c.w) (ty := ty) h00 h01 hok rfl huo hui' heo h0.2 e1 o2 d2 hnf hroom
                      have hrow := RowR.append (rest := Builtin.zeroCells ei.zero.cells (newCap - (len + ne.length))) o4 d4 (by rw [hl2]; exact o3) (ones_zeroCells heo.zsz heo.zone _)
                      have hk1 := hs.kill id
                      have hrow' : RowR c ei.size 0 ((es.drop off).take len ++ ne) (os ++ ws' ++ Builtin.zeroCells ei.zero.cells (newCap - (len + ne.length))) :=
                        ⟨hrow.1, hrow.2.1, fun i e j x v a b d => (hrow.2.2.1 i e j x v a b d).mono (Le.world (c := ⟨c.φ, c.L, c.w.drew⟩) (w' := c.w) rfl), hrow.2.2.2⟩
                      have hnew := sim_newRow hk1.1 e (w' := c.w.drew.alloc (.cells (os ++ ws' ++ Builtin.zeroCells ei.zero.cells (newCap - (len + ne.length))) e)) rfl rfl rfl rfl h0.1 hrow' lk
                      refine ⟨_, _, _, _, hk, hk1.2.trans hnew.2, hnew.1, g2, ?_⟩
                      have hsz : ((os ++ ws' ++ Builtin.zeroCells ei.zero.cells (newCap - (len + ne.length))) : Array Value).size = newCap * ei.size := by
                        rw [Array.size_append, Array.size_append, d3, o3, zeroCells_size, heo.zsz, ← Nat.add_mul, ← Nat.add_mul]
                        congr 1; omega
                      have := VR.sl (c := ⟨upd c.φ (h.set id .dead).length ⟨c.w.heap.size, 0, (os ++ ws' ++ Builtin.zeroCells ei.zero.cells (newCap - (len + ne.length))).size, ei.size⟩, c.L, c.w.drew.alloc (.cells (os ++ ws' ++ Builtin.zeroCells ei.zero.cells (newCap - (len + ne.length))) e)⟩) (id := (h.set id .dead).length) (off := 0) (len := len + ne.length) (cap := newCap) upd_same (by omega) h0.1 (by rw [hsz]; simp)
                      simpa using this
                    cases hv with
                    | sl hl hcap hls hn =>
                      rename_i l' cap
                      rw [f1] at hl; cases hl
                      by_cases hfit : len + ne.length ≤ cap
                      · cases f3 with
                        | arr a1 a2 a3 a4 a5 a6 a7 a8 a9 a10 =>
                          rename_i vs TT
                          have hrun := app_fits (P := P) (w := c.w) (ty := ty) (base := some ⟨l.b, l.base + off * l.sz, none⟩) (sLen := len) (sCap := cap) h00 h01 hok rfl huo hui' heo e1 e2 hfit
                          simp only [Addr.add_none] at hrun
                          have hmul : (len + ne.length) * ei.size ≤ cap * ei.size := Nat.mul_le_mul_right _ hfit
                          rw [Nat.add_mul] at hmul
                          rw [a3] at hn
                          have hwl : ws.toList.length = ne.length * ei.size := by simpa using e3
                          obtain ⟨w', r1, r2, r3, r4, r5, r6, r7⟩ := run_storeCells_at P (b := l.b) (o := l.base + off * l.sz + len * ei.size) ws.toList 0 c.w vs a1 e4.2.2.2 (by rw [hwl, a3]; omega)
                          rw [r1] at hrun
                          simp only [Nat.add_zero] at r2
                          have hLle : c.L l.b ≤ l.base + off * ei.size + len * ei.size := by
                            cases lk with
                            | false => rw [a9 rfl]; omega
                            | true =>
                              have := hlk rfl
                              rw [← this, Nat.add_mul] at a8
                              omega
                          have hdt : ∀ (i : Nat) (e' : List AV), i < len → ((es.drop off).take len ++ ne)[i]? = some e' → es[off + i]? = some e' := fun i e' hi g => by
                            rw [List.getElem?_append_left (by rw [hl2]; exact hi), List.getElem?_take_of_lt hi, List.getElem?_drop] at g
                            exact g
                          have hmv := Sim.move hs (b' := .arr ei.size ((es.drop off).take len ++ ne) lk) (l' := ⟨l.b, l.base + off * l.sz, l.n, l.sz⟩) (w' := w') hid rfl f1 rfl r4 r3 (fun o ho => by
                              simp only [World.cell?, r2, a1, Option.isSome_none, Bool.false_eq_true, if_false, setArr_get]
                              rw [if_neg (by rw [a3]; omega)]) r5 r6 r7
                            (fun hle' => by
                              refine .arr (vs := setArr vs (l.base + off * l.sz + len * ei.size) ws.toList) r2 (by rw [setArr_size]; exact a2) a3 h0.1 ?_ (fun e' he' => ?_) (fun i e' j x' v' g1 g2 g3 => ?_) ?_ (fun hlf => a9 hlf) (Ones.setArr e4.2.2.2 a10 _)
                              · rw [setArr_size, List.length_append, hl2, Nat.add_mul, a3]; show l.base + off * ei.size + _ ≤ _; omega
                              · rcases List.mem_append.1 he' with h' | h'
                                · exact a6 e' (List.mem_of_mem_drop (List.mem_of_mem_take h'))
                                · exact e4.2.1 e' h'
                              · have hj := (List.getElem?_eq_some_iff.1 g2).1
                                have g3' : (setArr vs (l.base + off * l.sz + len * ei.size) ws.toList)[l.base + off * l.sz + i * ei.size + j]? = some v' := g3
                                rw [setArr_get, hwl, a3] at g3'
                                rcases Nat.lt_or_ge i len with hi | hi
                                · have g1' := hdt i e' hi g1
                                  rw [a6 e' (List.mem_of_getElem? g1')] at hj
                                  have hb : (i + 1) * ei.size ≤ len * ei.size := Nat.mul_le_mul_right _ (by omega)
                                  rw [Nat.add_mul, Nat.one_mul] at hb
                                  rw [if_neg (by omega)] at g3'
                                  refine (a7 (off + i) e' j x' v' g1' g2 ?_).mono hle'
                                  rw [Nat.add_mul, ← Nat.add_assoc]; exact g3'
                                · rw [List.getElem?_append_right (by rw [hl2]; exact hi), hl2] at g1
                                  rw [e4.2.1 e' (List.mem_of_getElem? g1)] at hj
                                  have hi2 := (List.getElem?_eq_some_iff.1 g1).1
                                  have hb : (i - len + 1) * ei.size ≤ ne.length * ei.size := Nat.mul_le_mul_right _ (by omega)
                                  rw [Nat.add_mul, Nat.one_mul] at hb
                                  have hsp : i * ei.size = len * ei.size + (i - len) * ei.size := by rw [← Nat.add_mul]; congr 1; omega
                                  rw [if_pos (by omega)] at g3'
                                  refine (e4.2.2.1 (i - len) e' j x' v' g1 g2 ?_).mono hle'
                                  rw [Nat.zero_add, show (i - len) * ei.size + j = l.base + off * ei.size + i * ei.size + j - (l.base + off * ei.size + len * ei.size) by omega]
                                  simpa using g3'
                              · show c.L l.b ≤ l.base + off * l.sz + _
                                rw [List.length_append, hl2, Nat.add_mul, a3]; omega)
                          refine ⟨_, _, _, _, hk, hmv.2, hmv.1, hrun, ?_⟩
                          have := VR.sl (c := ⟨upd c.φ h.length ⟨l.b, l.base + off * l.sz, l.n, l.sz⟩, c.L, w'⟩) (id := h.length) (off := 0) (len := len + ne.length) (cap := cap) upd_same hfit hls (by simp only [Nat.zero_mul, Nat.add_zero]; rw [a3]; exact hn)
                          simpa using this
                      · exact hgrow _ _ rfl hfit
                    | sl0 hl =>
                      rw [f1] at hl; cases hl
                      rename_i o
                      by_cases hfit : 0 + ne.length ≤ 0
                      · cases f3 with
                        | arr a1 a2 a3 a4 a5 a6 a7 a8 a9 a10 =>
                          rename_i vs TT
                          have hne0 : ne = [] := List.eq_nil_of_length_eq_zero (by omega)
                          subst hne0
                          have hrun := app_fits (P := P) (w := c.w) (ty := ty) (base := some ⟨l.b, o, none⟩) (sLen := 0) (sCap := 0) h00 h01 hok rfl huo hui' heo e1 e2 hfit
                          have hws : ws.toList = [] := List.eq_nil_of_length_eq_zero (by simpa using e3)
                          rw [hws] at hrun
                          simp only [storeCells, Sem.run_pure, Result.andThen_ok] at hrun
                          have hmv := Sim.move hs (b' := .arr ei.size ((es.drop off).take 0 ++ []) lk) (l' := ⟨l.b, l.base + es.length * ei.size, l.n, l.sz⟩) (w' := c.w) hid rfl f1 rfl rfl (fun _ _ => rfl) (fun _ _ => rfl) rfl rfl rfl
                            (fun hle' => .arr a1 a2 a3 h0.1 (by simpa using a5) (by simp) (fun i e' j x' v' g1 => by simp at g1) (by simpa using a8) a9 a10)
                          refine ⟨_, _, _, _, hk, hmv.2, hmv.1, hrun, ?_⟩
                          exact VR.sl0 (c := ⟨upd c.φ h.length ⟨l.b, l.base + es.length * ei.size, l.n, l.sz⟩, c.L, c.w⟩) (id := h.length) (off := 0) (l := ⟨l.b, l.base + es.length * ei.size, l.n, l.sz⟩) (o := o) upd_same
                      · exact hgrow _ _ rfl hfit
                  · exact hk.elim
                · exact hk.elim
              · exact hk.elim
            · exact hk.elim
          · exact hk.elim
        · exact hk.elim
    · exact hk.elim
  · exact hk.elim

end
end Go.Vm


/- The abstract machine, part 7: numbers, strings, bools, nil; lengths; interface values; maps. -/
namespace Go.Vm
open Go

section
variable {P : Program} {T : Tab} {c : Cx} {h : AH} {K : AV → AH → Prop}

/-! ### Operators of two -/
def aIntOp (op : BinOp) (k : IntKind) (a b : Int) (K : AV → Prop) : Prop :=
  match op with
  | .add => K (.int k (k.wrap (a + b)))
  | .sub => K (.int k (k.wrap (a - b)))
  | .mul => K (.int k (k.wrap (a * b)))
  | .quo => if b = 0 then False else K (.int k (k.wrap (a.tdiv b)))
  | .rem => if b = 0 then False else K (.int k (a.tmod b))
  | .and => K (.int k (k.wrap (BitVec.ofInt k.bits a &&& BitVec.ofInt k.bits b).toNat))
  | .or => K (.int k (k.wrap (BitVec.ofInt k.bits a ||| BitVec.ofInt k.bits b).toNat))
  | .xor => K (.int k (k.wrap (BitVec.ofInt k.bits a ^^^ BitVec.ofInt k.bits b).toNat))
  | .andNot => K (.int k (k.wrap (BitVec.ofInt k.bits a &&& ~~~BitVec.ofInt k.bits b).toNat))
  | .eql => K (.bool (a == b))
  | .neq => K (.bool (a != b))
  | .lss => K (.bool (decide (a < b)))
  | .leq => K (.bool (decide (a ≤ b)))
  | .gtr => K (.bool (decide (a > b)))
  | .geq => K (.bool (decide (a ≥ b)))
  | _ => False

def aStrOp (op : BinOp) (a b : ByteArray) (K : AV → Prop) : Prop :=
  match op with
  | .add => ((a.size + b.size : Nat) : Int) ≤ 9223372036854775807 ∧ K (.str (a ++ b))
  | .eql => K (.bool (a.toList == b.toList))
  | .neq => K (.bool (!(a.toList == b.toList)))
  | .lss => K (.bool (Op.bytesLess a.toList b.toList))
  | .leq => K (.bool (Op.bytesLess a.toList b.toList || a.toList == b.toList))
  | .gtr => K (.bool (!(Op.bytesLess a.toList b.toList || a.toList == b.toList)))
  | .geq => K (.bool (!Op.bytesLess a.toList b.toList))
  | _ => False

/-- Is it nil, for sure, or not, for sure? -/
def AV.nil? : AV → Option Bool
  | .nilp | .nils | .nilm | .nilf | .nili => some true
  | .ptr .. | .ep .. | .rop .. | .sl .. | .vsl .. | .map _ | .fn .. | .iface .. => some false
  | .ro _ (_ :: _) => some false
  | _ => none

/-- A comparison with nil of a type of a kind. -/
def aNilEq (T : Tab) (t : TypeId) (x y : AV) (K : Bool → Prop) : Prop :=
  match T t with
  | none => False
  | some ti => match ti.desc, x, y with
    | .pointer _, .nilp, z => (match z with | .nilp => K true | .ptr .. => K false | .ep .. => K false | .rop .. => K false | _ => False)
    | .pointer _, z, .nilp => (match z with | .ptr .. => K false | .ep .. => K false | .rop .. => K false | _ => False)
    | .slice _, .nils, z => (match z with | .nils => K true | .sl .. => K false | .vsl .. => K false | .ro _ (_ :: _) => K false | _ => False)
    | .slice _, z, .nils => (match z with | .sl .. => K false | .vsl .. => K false | .ro _ (_ :: _) => K false | _ => False)
    | .map _ _, .nilm, z => (match z with | .nilm => K true | .map _ => K false | _ => False)
    | .map _ _, z, .nilm => (match z with | .map _ => K false | _ => False)
    | .func _ _ _, .nilf, z => (match z with | .nilf => K true | .fn .. => K false | _ => False)
    | .func _ _ _, z, .nilf => (match z with | .fn .. => K false | _ => False)
    | .interface _, .nili, z => (match z with | .nili => K true | .iface .. => K false | _ => False)
    | .interface _, z, .nili => (match z with | .iface .. => K false | _ => False)
    | .bool, .bool a, .bool b => K (a == b)
    | _, _, _ => False

def constOp : Operand → Bool
  | .const _ => true
  | _ => false

/-- The operator; 'k': is one of the operands written out? -/
def aBin (T : Tab) (op : BinOp) (t : TypeId) (k : Bool) (x y : AV) (h : AH) (K : AV → AH → Prop) : Prop :=
  match x, y with
  | .int k1 a, .int k2 b => (match op with
    | .shl => if b < 0 then False else K (.int k1 (k1.wrap (a * 2 ^ (min b.toNat k1.bits)))) h
    | .shr => if b < 0 then False else K (.int k1 (a.fdiv (2 ^ (min b.toNat k1.bits)))) h
    | op => if k1 = k2 then aIntOp op k1 a b fun z => K z h else False)
  | .str a, .str b => aStrOp op a b fun z => K z h
  | x, y => (match op with
    | .eql => if k then aNilEq T t x y fun b => K (.bool b) h else (match x with | .bool _ => aNilEq T t x y fun b => K (.bool b) h | _ => False)
    | .neq => if k then aNilEq T t x y fun b => K (.bool (!b)) h else (match x with | .bool _ => aNilEq T t x y fun b => K (.bool (!b)) h | _ => False)
    | _ => False)

theorem aIntOp_sound {t : TypeId} {op : BinOp} {k : IntKind} {a b : Int} (hk : aIntOp op k a b fun z => K z h) : SV0 P (binOp op t (.int k a) (.int k b)) c fun y => K y h := by
  have key : ∀ z v, K z h → (binOp op t (.int k a) (.int k b)).run P c.w = .ok v c.w → VR c z v → SV0 P (binOp op t (.int k a) (.int k b)) c (fun y => K y h) := fun z v h1 h2 h3 => SV0.same h1 h2 h3
  cases op <;> simp only [aIntOp] at hk
  case add => exact key _ _ hk (by simp only [binOp, ne_eq, not_true_eq_false, if_false]; rfl) .int
  case sub => exact key _ _ hk (by simp only [binOp, ne_eq, not_true_eq_false, if_false]; rfl) .int
  case mul => exact key _ _ hk (by simp only [binOp, ne_eq, not_true_eq_false, if_false]; rfl) .int
  case and => exact key _ _ hk (by simp only [binOp, ne_eq, not_true_eq_false, if_false]; rfl) .int
  case or => exact key _ _ hk (by simp only [binOp, ne_eq, not_true_eq_false, if_false]; rfl) .int
  case xor => exact key _ _ hk (by simp only [binOp, ne_eq, not_true_eq_false, if_false]; rfl) .int
  case andNot => exact key _ _ hk (by simp only [binOp, ne_eq, not_true_eq_false, if_false]; rfl) .int
  case eql => exact key _ _ hk (by simp only [binOp, ne_eq, not_true_eq_false, if_false]; rfl) .bool
  case neq => exact key _ _ hk (by simp only [binOp, ne_eq, not_true_eq_false, if_false]; rfl) .bool
  case lss => exact key _ _ hk (by simp only [binOp, ne_eq, not_true_eq_false, if_false]; rfl) .bool
  case leq => exact key _ _ hk (by simp only [binOp, ne_eq, not_true_eq_false, if_false]; rfl) .bool
  case gtr => exact key _ _ hk (by simp only [binOp, ne_eq, not_true_eq_false, if_false]; rfl) .bool
  case geq => exact key _ _ hk (by simp only [binOp, ne_eq, not_true_eq_false, if_false]; rfl) .bool
  all_goals
    split at hk
    · exact hk.elim
    · rename_i hne
      exact key _ _ hk (by simp only [binOp, Op.intDiv, hne, if_false, ne_eq, not_true_eq_false]; rfl) .int

theorem aStrOp_sound {t : TypeId} {op : BinOp} {a b : ByteArray} (hk : aStrOp op a b fun z => K z h) : SV0 P (binOp op t (.string a) (.string b)) c fun y => K y h := by
  have key : ∀ z v, K z h → (binOp op t (.string a) (.string b)).run P c.w = .ok v c.w → VR c z v → SV0 P (binOp op t (.string a) (.string b)) c (fun y => K y h) := fun z v h1 h2 h3 => SV0.same h1 h2 h3
  cases op <;> simp only [aStrOp] at hk
  case add =>
    obtain ⟨hle, hk⟩ := hk
    have hle' : ¬ (((a.size + b.size : Nat) : Int) > IntKind.i64.max) := by
      have : IntKind.i64.max = 9223372036854775807 := by decide
      rw [this]; omega
    refine key _ (.string (a ++ b)) hk ?_ .str
    simp only [binOp, Op.stringOp, hle', if_false, Sem.run_pure]
  case eql => exact key _ _ hk rfl .bool
  case neq => exact key _ _ hk rfl .bool
  case lss => exact key _ _ hk rfl .bool
  case leq => exact key _ _ hk rfl .bool
  case gtr => exact key _ _ hk rfl .bool
  case geq => exact key _ _ hk rfl .bool
  all_goals exact hk.elim

theorem aNilEq_sound (hT : T.OK P) {t : TypeId} {x y : AV} {v u : Value} (w : World) (hv : VR c x v) (hu : VR c y u) {K : Bool → Prop} (hk : aNilEq T t x y K) : ∃ b, K b ∧ (Op.equal t v u).run P w = .ok b w := by
  unfold aNilEq at hk
  split at hk
  · exact hk.elim
  · rename_i ti ht
    have hr := (hT t ti ht).run_underlying w
    generalize hd : ti.desc = dd at hk hr
    split at hk <;> (try exact hk.elim)
    all_goals first
      | (split at hk <;> first
          | exact hk.elim
          | (cases hv <;> cases hu <;> exact ⟨_, hk, by
              show (Op.equalIn (9999 + 1) t _ _).run P w = _
              rw [Op.equalIn]
              simp only [Sem.run_bind, hr, Result.andThen_ok, Sem.run_pure, Option.isNone_none, Option.isNone_some]⟩))
      | (cases hv <;> cases hu <;> exact ⟨_, hk, by
              show (Op.equalIn (9999 + 1) t _ _).run P w = _
              rw [Op.equalIn]
              simp only [Sem.run_bind, hr, Result.andThen_ok, Sem.run_pure, Option.isNone_none, Option.isNone_some]⟩)

end
end Go.Vm


/- The abstract machine, part 8: operators as they stand in an operation; conversions, parts of tuples, interface values, lengths, maps. -/
namespace Go.Vm
open Go

section
variable {P : Program} {T : Tab} {c : Cx} {h : AH} {K : AV → AH → Prop}

/-- Is it no value that the model's guard of comparisons looks at? -/
def Value.plainEq : Value → Bool
  | .agg _ => false
  | _ => true

theorem eqGuard_const {op : BinOp} {t : TypeId} {x y : Operand} {a b : Value} (w : World) (hk : constOp x = true ∨ constOp y = true) (ha : (∀ cs, a ≠ .agg cs) ∨ (∀ cs, b ≠ .agg cs)) :
    (eqGuard op t x y a b).run P w = .ok () w := by
  unfold eqGuard
  by_cases hop : (match op with | .eql => true | .neq => true | _ => false) = true
  · have e1 : ∀ o : Operand, constOp o = true → (match o with | .const _ => true | _ => false) = true := fun o ho => by cases o <;> simp_all [constOp]
    cases op <;> simp at hop
    all_goals
      cases a <;> cases b <;> first
        | rfl
        | (rcases ha with ha | ha <;> exact absurd rfl (ha _))
        | (rcases hk with hk | hk
           · cases x <;> simp [constOp] at hk
             rfl
           · cases y <;> simp [constOp] at hk
             cases x <;> rfl)
  · cases op <;> simp at hop <;> rfl

theorem eqGuard_ne {op : BinOp} {t : TypeId} {x y : Operand} {a b : Value} (w : World) (ha : (∀ cs, a ≠ .agg cs) ∧ a ≠ .nilIface) : (eqGuard op t x y a b).run P w = .ok () w := by
  unfold eqGuard
  cases op <;> first
    | rfl
    | (cases a <;> cases b <;> first
        | rfl
        | exact absurd rfl (ha.1 _)
        | exact absurd rfl ha.2)

/-- A comparison with nil, as the operator has it. -/
theorem binOp_eq {op : BinOp} {t : TypeId} {v u : Value} {w : World} {b : Bool} (hop : op = .eql ∨ op = .neq) (hr : (Op.equal t v u).run P w = .ok b w)
    (hni : (∀ k n, v ≠ .int k n) ∨ (∀ k n, u ≠ .int k n)) (hns : (∀ s, v ≠ .string s) ∨ (∀ s, u ≠ .string s)) (hnf : ∀ k n, v ≠ .float k n) (hnc : ∀ k a b, v ≠ .complex k a b) :
    (binOp op t v u).run P w = .ok (.bool (if op = .eql then b else !b)) w := by
  rcases hop with rfl | rfl
  · have : binOp .eql t v u = (do pure (.bool (← Op.equal t v u))) := by
      cases v <;> cases u <;> first
        | rfl
        | (rcases hni with h' | h' <;> exact absurd rfl (h' _ _))
        | (rcases hns with h' | h' <;> exact absurd rfl (h' _))
        | exact absurd rfl (hnf _ _)
        | exact absurd rfl (hnc _ _ _)
    rw [this]; simp [hr]
  · have : binOp .neq t v u = (do pure (.bool (!(← Op.equal t v u)))) := by
      cases v <;> cases u <;> first
        | rfl
        | (rcases hni with h' | h' <;> exact absurd rfl (h' _ _))
        | (rcases hns with h' | h' <;> exact absurd rfl (h' _))
        | exact absurd rfl (hnf _ _)
        | exact absurd rfl (hnc _ _ _)
    rw [this]; simp [hr]

theorem aNilEq_shape {t : TypeId} {x y : AV} {v u : Value} (hv : VR c x v) (hu : VR c y u) {K : Bool → Prop} (hk : aNilEq T t x y K) :
    (∀ k n, v ≠ .int k n) ∧ (∀ s, v ≠ .string s) ∧ (∀ k n, v ≠ .float k n) ∧ (∀ k a b, v ≠ .complex k a b) ∧ (∀ cs, v ≠ .agg cs) ∧ (∀ cs, u ≠ .agg cs) := by
  unfold aNilEq at hk
  split at hk
  · exact hk.elim
  · split at hk <;> (try exact hk.elim)
    all_goals first
      | (split at hk <;> first
          | exact hk.elim
          | (cases hv <;> cases hu <;> simp))
      | (cases hv <;> cases hu <;> simp)

theorem aBin_sound (hT : T.OK P) (hs : Rd c h) {op : BinOp} {t : TypeId} {ox oy : Operand} {x y : AV} {v u : Value} (hv : VR c x v) (hu : VR c y u)
    (hk : aBin T op t (constOp ox || constOp oy) x y h K) : SV0 P (do eqGuard op t ox oy v u; binOp op t v u) c fun y => K y h := by
  have guard : ∀ {s : Sem Value}, (eqGuard op t ox oy v u).run P c.w = .ok () c.w → SV0 P s c (fun y => K y h) → SV0 P (do eqGuard op t ox oy v u; s) c (fun y => K y h) := fun {s} hg hh => by
    refine SV0.congr (s' := s) ?_ hh
    simp only [Sem.run_bind, hg, Result.andThen_ok]
  unfold aBin at hk
  split at hk
  · rename_i k1 a k2 b
    cases hv; cases hu
    refine guard (eqGuard_ne c.w ⟨by simp, by simp⟩) ?_
    split at hk
    · split at hk
      · exact hk.elim
      · rename_i hb
        exact SV0.same hk (v := .int k1 (k1.wrap (a * 2 ^ (min b.toNat k1.bits)))) (by simp [binOp, Op.shift, hb]) .int
    · split at hk
      · exact hk.elim
      · rename_i hb
        exact SV0.same hk (v := .int k1 (a.fdiv (2 ^ (min b.toNat k1.bits)))) (by simp [binOp, Op.shift, hb]) .int
    · split at hk
      · rename_i hkk
        subst hkk
        exact aIntOp_sound hk
      · exact hk.elim
  · cases hv; cases hu
    refine guard (eqGuard_ne c.w ⟨by simp, by simp⟩) ?_
    exact aStrOp_sound hk
  · rename_i hni hns
    have main : ∀ (neg : Bool) (hop : op = if neg then .neq else .eql) {K' : Bool → Prop}, aNilEq T t x y K' → (∀ b, K' b → K (.bool (if neg then !b else b)) h) → (constOp ox = true ∨ constOp oy = true ∨ v ≠ .nilIface) →
        SV0 P (do eqGuard op t ox oy v u; binOp op t v u) c (fun y => K y h) := by
      intro neg hop K' hne hK hc
      obtain ⟨b, hb, hr⟩ := aNilEq_sound hT c.w hv hu hne
      obtain ⟨s1, s2, s3, s4, s5, s6⟩ := aNilEq_shape hv hu hne
      refine guard ?_ ?_
      · by_cases hnv : v = .nilIface
        · rcases hc with hc | hc | hc
          · exact eqGuard_const c.w (.inl hc) (.inl s5)
          · exact eqGuard_const c.w (.inr hc) (.inl s5)
          · exact absurd hnv hc
        · exact eqGuard_ne c.w ⟨s5, hnv⟩
      · refine SV0.same (hK b hb) ?_ .bool
        rw [binOp_eq (by rw [hop]; cases neg <;> simp) hr (.inl s1) (.inl s2) s3 s4, hop]
        cases neg <;> rfl
    split at hk
    · split at hk
      · rename_i hc
        refine main false rfl hk (fun b hb => by simpa using hb) ?_
        rw [Bool.or_eq_true] at hc
        exact hc.elim .inl fun h' => .inr (.inl h')
      · split at hk
        · exact main false rfl hk (fun b hb => by simpa using hb) (.inr (.inr (by cases hv; simp)))
        · exact hk.elim
    · split at hk
      · rename_i hc
        refine main true rfl hk (fun b hb => by simpa using hb) ?_
        rw [Bool.or_eq_true] at hc
        exact hc.elim .inl fun h' => .inr (.inl h')
      · split at hk
        · exact main true rfl hk (fun b hb => by simpa using hb) (.inr (.inr (by cases hv; simp)))
        · exact hk.elim
    · exact hk.elim

/-! ### Operators of one; conversions -/
def aUn (op : UnOp) (x : AV) (h : AH) (K : AV → AH → Prop) : Prop :=
  match op, x with
  | .neg, .int k n => K (.int k (k.wrap (0 - n))) h
  | .not, .bool b => K (.bool (!b)) h
  | .xor, .int k n => K (.int k (k.wrap (BitVec.ofInt k.bits (if k.signed then -1 else k.max) ^^^ BitVec.ofInt k.bits n).toNat)) h
  | _, _ => False

theorem aUn_sound (hs : Rd c h) {op : UnOp} {x : AV} {v : Value} (hv : VR c x v) (hk : aUn op x h K) : SV0 P (Op.unary op v) c fun y => K y h := by
  unfold aUn at hk
  split at hk
  · cases hv; exact SV0.same hk rfl .int
  · cases hv; exact SV0.same hk rfl .bool
  · cases hv; exact SV0.same hk rfl .int
  · exact hk.elim

def aConvert (T : Tab) (s d : TypeId) (x : AV) (h : AH) (K : AV → AH → Prop) : Prop :=
  match T s, T d with
  | some si, some di => (match si.desc, di.desc, x with
    | .int _, .int k, .int _ n => K (.int k (k.wrap n)) h
    | .string, .string, .str s => K (.str s) h
    | .int _, .string, .int _ n => K (.str (Utf8.encode n)) h
    | .slice e, .string, x => (match T e with
      | some { desc := .int .u8, size := 1, .. } => (match x with
        | .nils => K (.str .empty) h
        | _ => False)
      | _ => False)
    | _, _, _ => False)
  | _, _ => False

theorem aConvert_sound (hT : T.OK P) (hs : Rd c h) {s d : TypeId} {x : AV} {v : Value} (hv : VR c x v) (hk : aConvert T s d x h K) : SV0 P (convert s d v) c fun y => K y h := by
  unfold aConvert at hk
  split at hk
  · rename_i si di hsi hdi
    have h1 := (hT s si hsi).run_underlying c.w
    have h2 := (hT d di hdi).run_underlying c.w
    generalize si.desc = sd at *
    generalize di.desc = dd at *
    split at hk
    · cases hv
      exact SV0.same hk (by simp [convert, h1, h2, Conv.intToInt]) .int
    · cases hv
      exact SV0.same hk (by simp [convert, h1, h2]) .str
    · cases hv
      exact SV0.same hk (by simp [convert, h1, h2, Conv.intToString]) .str
    · split at hk
      · rename_i he
        have h3 := (hT _ _ he).run_underlying c.w
        split at hk
        · cases hv
          exact SV0.same hk (by simp [convert, h1, h2, h3, Conv.bytesToString]) .str
        · exact hk.elim
      · exact hk.elim
    · exact hk.elim
  · exact hk.elim

/-! ### Tuples, interface values -/
def aExtract (x : AV) (i : Nat) (h : AH) (K : AV → AH → Prop) : Prop :=
  match x with
  | .tup xs => (match xs[i]? with
    | some y => K y h
    | none => False)
  | _ => False

theorem aExtract_sound (hs : Rd c h) {x : AV} {v : Value} {i : Nat} (hv : VR c x v) (hk : aExtract x i h K) : SV0 P (Instr.extract v i) c fun y => K y h := by
  unfold aExtract at hk
  split at hk
  · split at hk
    · rename_i y hy
      cases hv with
      | tup h1 h2 =>
        rename_i vs
        have hi : i < vs.size := by have := (List.getElem?_eq_some_iff.1 hy).1; omega
        exact SV0.same hk (v := vs[i]) (by simp [Instr.extract, hi]) (h2 i y _ hy (by simp [hi]))
    · exact hk.elim
  · exact hk.elim

def aMakeIface (T : Tab) (t : TypeId) (x : AV) (h : AH) (K : AV → AH → Prop) : Prop :=
  match T t with
  | some { desc := .interface _, .. } => False
  | some _ => K (.iface t x) h
  | none => False

theorem aMakeIface_sound (hT : T.OK P) (hs : Rd c h) {t : TypeId} {x : AV} {v : Value} (hv : VR c x v) (hk : aMakeIface T t x h K) : SV0 P (Instr.makeInterface t v) c fun y => K y h := by
  unfold aMakeIface at hk
  split at hk
  · exact hk.elim
  · rename_i ti hne ht
    have h1 := (hT t ti ht).run_underlying c.w
    refine SV0.same hk (v := .iface t v) ?_ (.iface hv)
    simp only [Instr.makeInterface, Sem.run_bind, h1, Result.andThen_ok]
    split
    · rename_i hd
      exact absurd ht (by
        obtain ⟨d, s, b, z⟩ := ti
        simp only at hd
        subst hd
        exact fun e => hne _ _ _ _ rfl)
    · rfl
  · exact hk.elim

def aAssert (T : Tab) (x : AV) (t : TypeId) (ok : Bool) (h : AH) (K : AV → AH → Prop) : Prop :=
  match T t with
  | some ti => (match ti.desc with
    | .interface _ => False
    | _ => (match x with
      | .iface u y => if u = t then K (if ok then .tup [y, .bool true] else y) h else if ok then K (.tup [ofVal ti.zero, .bool false]) h else False
      | .nili => if ok then K (.tup [ofVal ti.zero, .bool false]) h else False
      | _ => False))
  | none => False

theorem VR.tup2 {x y : AV} {v u : Value} (hx : VR c x v) (hy : VR c y u) : VR c (.tup [x, y]) (.tuple #[v, u]) :=
  VR.of_tup (vs := [v, u]) (.cons hx (.cons hy .nil))

theorem VR.tup3 {x y z : AV} {v u q : Value} (hx : VR c x v) (hy : VR c y u) (hz : VR c z q) : VR c (.tup [x, y, z]) (.tuple #[v, u, q]) :=
  VR.of_tup (vs := [v, u, q]) (.cons hx (.cons hy (.cons hz .nil)))

theorem aAssert_sound (hT : T.OK P) (hs : Rd c h) {x : AV} {v : Value} {xt t : TypeId} {ok : Bool} (hv : VR c x v) (hk : aAssert T x t ok h K) : SV0 P (Instr.typeAssert v xt t ok) c fun y => K y h := by
  unfold aAssert at hk
  split at hk
  · rename_i ti ht
    have h1 := (hT t ti ht).run_underlying c.w
    have hz := (hT t ti ht).run_zeroValue c.w
    generalize hdd : ti.desc = dd at hk h1
    split at hk
    · exact hk.elim
    · rename_i hnoti
      split at hk
      · rename_i u y
        cases hv with
        | iface hy =>
          rename_i q
          split at hk
          · rename_i hu
            subst hu
            cases ok
            · refine SV0.same hk (v := q) ?_ hy
              simp only [Instr.typeAssert, Sem.run_bind, h1, Result.andThen_ok]
              cases dd <;> first | exact absurd rfl (hnoti _) | (simp)
            · refine SV0.same hk (v := .tuple #[q, .bool true]) ?_ (hy.tup2 .bool)
              simp only [Instr.typeAssert, Sem.run_bind, h1, Result.andThen_ok]
              cases dd <;> first | exact absurd rfl (hnoti _) | (simp)
          · rename_i hu
            split at hk
            · rename_i hok
              subst hok
              refine SV0.same hk (v := .tuple #[ti.zero, .bool false]) ?_ ((VR.ofVal c _).tup2 .bool)
              simp only [Instr.typeAssert, Sem.run_bind, h1, Result.andThen_ok]
              cases dd <;> first | exact absurd rfl (hnoti _) | (simp [hu, hz])
            · exact hk.elim
      · cases hv
        split at hk
        · rename_i hok
          subst hok
          refine SV0.same hk (v := .tuple #[ti.zero, .bool false]) ?_ ((VR.ofVal c _).tup2 .bool)
          simp only [Instr.typeAssert, Sem.run_bind, h1, Result.andThen_ok]
          cases dd <;> first | exact absurd rfl (hnoti _) | (simp [hz])
        · exact hk.elim
      · exact hk.elim
  · exact hk.elim

/-! ### Lengths, the greatest, the least -/
def aLen (T : Tab) (ts : List TypeId) (x : AV) (h : AH) (K : AV → AH → Prop) : Prop :=
  match ts with
  | t :: _ => (match T t with
    | some ti => (match ti.desc, x with
      | .string, .str s => K (.int .i64 s.size) h
      | .slice _, .nils => K (.int .i64 0) h
      | .slice _, .sl _ _ n => K (.int .i64 n) h
      | .slice _, .vsl _ _ n _ => K (.int .i64 n) h
      | .slice _, .ro _ es => K (.int .i64 es.length) h
      | .array n _, _ => K (.int .i64 n) h
      | .map _ _, .nilm => K (.int .i64 0) h
      | .map _ _, .map id => (match h[id]? with
        | some (.map es _) => K (.int .i64 es.length) h
        | _ => False)
      | _, _ => False)
    | none => False)
  | [] => False

theorem run_getObj_map {w : World} {b : Nat} {es : Array MapEntry} {clk : Nat} (hb : w.heap[b]? = some (.map es clk)) : (getObj b).run P w = .ok (.map es clk) w := by
  simp [getObj, Sem.run, hb]

theorem aLen_sound (hT : T.OK P) (hs : Rd c h) {ts : List TypeId} {ty : TypeId} {x : AV} {v : Value} (hv : VR c x v) (hk : aLen T ts x h K) : SV0 P (Builtin.len_ ts.toArray ty #[v]) c fun y => K y h := by
  unfold aLen at hk
  split at hk
  · rename_i t rest
    split at hk
    · rename_i ti ht
      have h1 := (hT t ti ht).run_underlying c.w
      generalize ti.desc = dd at hk h1
      split at hk
      · cases hv; exact SV0.same hk (by simp [Builtin.len_, h1, goInt]) .int
      · cases hv; exact SV0.same hk (by simp [Builtin.len_, h1, goInt]) .int
      · cases hv
        · exact SV0.same hk (by simp [Builtin.len_, h1, goInt]) .int
        · exact SV0.same hk (by simp [Builtin.len_, h1, goInt]) .int
      · cases hv; exact SV0.same hk (by simp [Builtin.len_, h1, goInt]) .int
      · cases hv with
        | ro vals hlen hcap hsz hc hv' =>
          subst hlen
          exact SV0.same hk (by simp [Builtin.len_, h1, goInt]) .int
        | roNil => exact SV0.same hk (by simp [Builtin.len_, h1, goInt]) .int
      · exact SV0.same hk (by simp [Builtin.len_, h1, goInt]) .int
      · cases hv; exact SV0.same hk (by simp [Builtin.len_, h1, goInt]) .int
      · split at hk
        · rename_i es clk hid
          cases hv with
          | map hl =>
            have f3 := hs _ _ _ hid rfl hl
            cases f3 with
            | map hh hL hlen hv' =>
              exact SV0.same hk (by simp [Builtin.len_, h1, goInt, run_getObj_map hh, ← hlen]) .int
        · exact hk.elim
      · exact hk.elim
    · exact hk.elim
  · exact hk.elim

/-- The greatest, or the least, of whole numbers. -/
def aMax (mx : Bool) (k : IntKind) (a : Int) (K : Int → Prop) : List AV → Prop
  | [] => K a
  | .int k' b :: rest => if k = k' then aMax mx k (if mx then (if b > a then b else a) else (if b < a then b else a)) K rest else False
  | _ => False

def aMaxOp (mx : Bool) (xs : List AV) (h : AH) (K : AV → AH → Prop) : Prop :=
  match xs with
  | .int k a :: rest => aMax mx k a (fun n => K (.int k n) h) rest
  | _ => False

theorem aMax_run {mx : Bool} {k : IntKind} {K : Int → Prop} : ∀ {xs : List AV} {vs : List Value} {a : Int}, VRs c xs vs → aMax mx k a K xs →
    ∃ n, K n ∧ (vs.foldlM (if mx then Builtin.max2 else Builtin.min2) (.int k a) : Sem Value).run P c.w = .ok (.int k n) c.w := by
  intro xs
  induction xs with
  | nil =>
    intro vs a hv hk
    have : vs = [] := List.eq_nil_of_length_eq_zero hv.1.symm
    subst this
    exact ⟨a, hk, rfl⟩
  | cons x xs ih =>
    intro vs a hv hk
    cases vs with
    | nil => exact absurd hv.1 (by simp)
    | cons v vs =>
      have hx := hv.2 0 x v rfl rfl
      have hrest : VRs c xs vs := ⟨by simpa using hv.1, fun i y u h1 h2 => hv.2 (i + 1) y u (by simpa using h1) (by simpa using h2)⟩
      cases x <;> simp only [aMax] at hk <;> try exact hk.elim
      rename_i k' b
      split at hk
      · rename_i hkk
        subst hkk
        cases hx
        obtain ⟨n, h1, h2⟩ := ih hrest hk
        refine ⟨n, h1, ?_⟩
        rw [List.foldlM_cons]
        simp only [Sem.run_bind]
        cases mx
        · simp only [Bool.false_eq_true, if_false] at h2 ⊢
          simp only [Builtin.min2, Sem.run_pure, Result.andThen_ok]
          exact h2
        · simp only [if_true] at h2 ⊢
          simp only [Builtin.max2, Sem.run_pure, Result.andThen_ok]
          exact h2
      · exact hk.elim

theorem aMaxOp_sound {mx : Bool} (hs : Rd c h) {xs : List AV} {vs : Array Value} {ts : Array TypeId} {ty : TypeId} (hv : VRs c xs vs.toList) (hk : aMaxOp mx xs h K) :
    SV0 P (if mx then Builtin.max_ ts ty vs else Builtin.min_ ts ty vs) c fun y => K y h := by
  unfold aMaxOp at hk
  split at hk
  · rename_i k a rest
    obtain ⟨l⟩ := vs
    cases l with
    | nil => exact absurd hv.1 (by simp)
    | cons v vs =>
      have hx := hv.2 0 _ v rfl rfl
      cases hx
      have hrest : VRs c rest vs := ⟨by simpa using hv.1, fun i y u h1 h2 => hv.2 (i + 1) y u (by simpa using h1) (by simpa using h2)⟩
      obtain ⟨n, h1, h2⟩ := aMax_run (P := P) hrest hk
      refine SV0.same h1 (v := .int k n) ?_ .int
      cases mx
      · simpa [Builtin.min_] using h2
      · simpa [Builtin.max_] using h2
  · exact hk.elim

end
end Go.Vm


/- The abstract machine, part 9: maps. -/
namespace Go.Vm
open Go

section
variable {P : Program} {T : Tab} {c : Cx} {h : AH} {K : AV → AH → Prop}

theorem bytes_beq_iff (a b : ByteArray) : (a == b) = true ↔ a = b := by
  obtain ⟨a⟩ := a
  obtain ⟨b⟩ := b
  show (a == b) = true ↔ _
  simp

/-- Are two keys of a type the same? -/
def keyEq : TypeDesc → AV → AV → Option Bool
  | .int _, .int k a, .int k' b => if k = k' then some (a == b) else none
  | .string, .str a, .str b => some (a == b)
  | .bool, .bool a, .bool b => some (a == b)
  | _, _, _ => none

/-- Looks for a key, entry by entry. -/
def findA (d : TypeDesc) (k : AV) (Ks : Nat → AV → Prop) (Kn : Prop) : List (AV × AV × Nat) → Nat → Prop
  | [], _ => Kn
  | (k', v, _) :: es, i =>
    match keyEq d k k' with
    | some b => if b = true then Ks i v else findA d k Ks Kn es (i + 1)
    | none => False

/-- A map's entries. -/
def EntsR (c : Cx) (es : List (AV × AV × Nat)) (ents : List MapEntry) : Prop :=
  es.length = ents.length ∧ ∀ (i : Nat) (k v : AV) (n : Nat) (e : MapEntry), es[i]? = some (k, v, n) → ents[i]? = some e → VR c k e.key ∧ VR c v e.val ∧ e.born = n

theorem keyEq_sound {d : TypeDesc} {k k' : AV} {v v' : Value} {b : Bool} (hk : VR c k v) (hk' : VR c k' v') (he : keyEq d k k' = some b) : Instr.sameNow d v v' = some b ∧ (b = true → Instr.sameBits 10000 v' v = true) := by
  unfold keyEq at he
  split at he
  · cases hk; cases hk'
    split at he
    · rename_i hkk
      subst hkk
      cases he
      refine ⟨by simp [Instr.sameNow], fun hb => ?_⟩
      simp only [beq_iff_eq] at hb
      subst hb
      simp [Instr.sameBits]
    · cases he
  · cases hk; cases hk'
    cases he
    refine ⟨by simp [Instr.sameNow], fun hb => ?_⟩
    rw [bytes_beq_iff] at hb
    subst hb
    simp only [Instr.sameBits]
    rw [bytes_beq_iff]
  · cases hk; cases hk'
    cases he
    refine ⟨by simp [Instr.sameNow], fun hb => ?_⟩
    simp only [beq_iff_eq] at hb
    subst hb
    simp [Instr.sameBits]
  · cases he

theorem findA_sound {d : TypeDesc} {k : AV} {v : Value} (hk : VR c k v) {Ks : Nat → AV → Prop} {Kn : Prop} : ∀ {es : List (AV × AV × Nat)} {ents : List MapEntry} {i : Nat}, EntsR c es ents → findA d k Ks Kn es i →
    (∃ (j : Nat) (x y : AV) (n : Nat) (e : MapEntry), es[j]? = some (x, y, n) ∧ ents[j]? = some e ∧ Ks (i + j) y ∧ Instr.findNow d v ents i = some (some (i + j, e.val)) ∧ Instr.sameBits 10000 e.key v = true) ∨
    (Kn ∧ Instr.findNow d v ents i = some none) := by
  intro es
  induction es with
  | nil =>
    intro ents i he hf
    have : ents = [] := List.eq_nil_of_length_eq_zero he.1.symm
    subst this
    exact .inr ⟨hf, rfl⟩
  | cons a es ih =>
    intro ents i he hf
    obtain ⟨k', y, n⟩ := a
    cases ents with
    | nil => exact absurd he.1 (by simp)
    | cons e ents =>
      obtain ⟨h1, h2, h3⟩ := he.2 0 k' y n e rfl rfl
      have hrest : EntsR c es ents := ⟨by simpa using he.1, fun i k v n e a b => he.2 (i + 1) k v n e (by simpa using a) (by simpa using b)⟩
      simp only [findA] at hf
      split at hf
      · rename_i b hb
        obtain ⟨g1, g2⟩ := keyEq_sound hk h1 hb
        split at hf
        · rename_i hbt
          subst hbt
          exact .inl ⟨0, k', y, n, e, rfl, rfl, hf, by simp [Instr.findNow, g1], g2 rfl⟩
        · rename_i hbf
          have hbf' : b = false := by simpa using hbf
          subst hbf'
          rcases ih hrest hf with ⟨j, x', y', n', e', q1, q2, q3, q4, q5⟩ | ⟨q1, q2⟩
          · refine .inl ⟨j + 1, x', y', n', e', by simpa using q1, by simpa using q2, by rw [Nat.add_comm j 1, ← Nat.add_assoc]; exact q3, ?_, q5⟩
            simp only [Instr.findNow, g1]
            rw [q4]; congr 3; omega
          · exact .inr ⟨q1, by simp only [Instr.findNow, g1]; exact q2⟩
      · exact hf.elim

def plainKey : TypeDesc → Bool
  | .int _ | .string | .bool => true
  | _ => false

theorem run_checkKey_plain {kt : TypeId} {ki : TyI} (hk : TyOK P kt ki) (hp : plainKey ki.desc = true) (w : World) (e : Bool) (v : Value) : (Instr.checkKey e 10000 kt v).run P w = .ok () w := by
  show (Instr.checkKey e (9999 + 1) kt v).run P w = _
  have h1 := hk.run_underlying w
  rw [Instr.checkKey]
  simp only [Sem.run_bind, h1, Result.andThen_ok]
  generalize ki.desc = d at hp
  cases d <;> simp [plainKey] at hp <;> rfl

theorem run_findKey_now {kt : TypeId} {ki : TyI} (hk : TyOK P kt ki) {w : World} {v : Value} {ents : List MapEntry} {r : Option (Nat × Value)} (hr : Instr.findNow ki.desc v ents 0 = some r) :
    (Instr.findKey kt v ents).run P w = .ok r w := by
  simp only [Instr.findKey, Sem.run_bind, hk.run_underlying w, Result.andThen_ok, hr, Sem.run_pure]

theorem Rd.map_ents (hs : Rd c h) {id : Nat} {es : List (AV × AV × Nat)} {clk : Nat} {l : Loc} (hid : h[id]? = some (.map es clk)) (hφ : c.φ id = some l) :
    ∃ ents, c.w.heap[l.b]? = some (.map ents clk) ∧ EntsR c es ents.toList ∧ c.L l.b = 0 := by
  have f3 := hs id _ l hid rfl hφ
  cases f3 with
  | map hh hL hlen hv => exact ⟨_, hh, ⟨by simpa using hlen, fun i k v n e a b => hv i k v n e a (by simpa using b)⟩, hL⟩

def aMakeMap (T : Tab) (t : TypeId) (r : Option AV) (h : AH) (K : AV → AH → Prop) : Prop :=
  match r with
  | none => K (.map h.length) (h ++ [.map [] 0])
  | some (.int _ _) => (match T t with
    | some { desc := .map _ _, .. } => K (.map h.length) (h ++ [.map [] 0])
    | _ => False)
  | _ => False

theorem aMakeMap_sound (hT : T.OK P) (hs : Sim c h) {t : TypeId} {r : Option AV} {vr : Option Value} (h1 : ∀ x, r = some x → ∃ v, vr = some v ∧ VR c x v) (n1 : r = none → vr = none) (hk : aMakeMap T t r h K) :
    SV P (Instr.makeMap t vr) c h K := by
  have hnew := Sim.new hs (o := .map #[] 0) (b := .map [] 0) (l := ⟨c.w.heap.size, 0, 0, 0⟩) (w' := c.w.alloc (.map #[] 0)) rfl rfl rfl rfl rfl
    (fun hle hL => .map (ents := #[]) (by show (c.w.heap.push _)[c.w.heap.size]? = _; simp) hL rfl (fun i k v n e a => by simp at a))
  have hv : VR ⟨upd c.φ h.length ⟨c.w.heap.size, 0, 0, 0⟩, c.L, c.w.alloc (.map #[] 0)⟩ (.map h.length) (.map (some c.w.heap.size)) := VR.map (l := ⟨c.w.heap.size, 0, 0, 0⟩) upd_same
  unfold aMakeMap at hk
  split at hk
  · have := n1 rfl; subst this
    exact ⟨_, _, _, _, hk, hnew.2, hnew.1, rfl, hv⟩
  · obtain ⟨v, rfl, hv'⟩ := h1 _ rfl
    cases hv'
    split at hk
    · rename_i ht
      refine ⟨_, _, _, _, hk, hnew.2, hnew.1, ?_, hv⟩
      simp only [Instr.makeMap, Sem.run_bind, (hT t _ ht).run_underlying c.w, Result.andThen_ok, asInt, asIntOf, Sem.run_pure, run_newObj]
      rfl
    · exact hk.elim
  · exact hk.elim

def aLookup (T : Tab) (t : TypeId) (m k : AV) (ok : Bool) (h : AH) (K : AV → AH → Prop) : Prop :=
  match T t with
  | some { desc := .map kt et, .. } => (match T kt, T et with
    | some ki, some ei => if plainKey ki.desc = true then (match m with
      | .nilm => K (if ok then .tup [ofVal ei.zero, .bool false] else ofVal ei.zero) h
      | .map id => (match h[id]? with
        | some (.map es _) => findA ki.desc k (fun _ v => K (if ok then .tup [v, .bool true] else v) h) (K (if ok then .tup [ofVal ei.zero, .bool false] else ofVal ei.zero) h) es 0
        | _ => False)
      | _ => False) else False
    | _, _ => False)
  | _ => False

theorem aLookup_sound (hT : T.OK P) (hs : Rd c h) {t : TypeId} {m k : AV} {vm vk : Value} {ok : Bool} (hm : VR c m vm) (hkv : VR c k vk) (hk : aLookup T t m k ok h K) : SV0 P (Instr.lookup t vm vk ok) c fun y => K y h := by
  have hres : ∀ {x : AV} {v : Value} (b : Bool), VR c x v → VR c (if ok then .tup [x, .bool b] else x) (if ok then .tuple #[v, .bool b] else v) := fun {x v} b hx => by
    cases ok
    · exact hx
    · exact hx.tup2 .bool
  unfold aLookup at hk
  split at hk
  · rename_i kt et s b z ht
    have h1 := (hT t _ ht).run_underlying c.w
    split at hk
    · rename_i ki ei hki hei
      have hko := hT kt ki hki
      have hz := (hT et ei hei).run_zeroValue c.w
      split at hk
      · rename_i hp
        split at hk
        · cases hm
          refine SV0.same hk (v := if ok then .tuple #[ei.zero, .bool false] else ei.zero) ?_ (hres false (VR.ofVal c _))
          have hf : (Instr.findKey kt vk []).run P c.w = .ok none c.w := run_findKey_now hko rfl
          simp only [Instr.lookup, Sem.run_bind, h1, Result.andThen_ok, Sem.run_pure, run_checkKey_plain hko hp, hf, hz]
        · rename_i id
          split at hk
          · rename_i es clk hid
            cases hm with
            | map hl =>
              obtain ⟨ents, e1, e2, _⟩ := hs.map_ents hid hl
              rcases findA_sound hkv e2 hk with ⟨j, x, y, n, e, q1, q2, q3, q4, q5⟩ | ⟨q1, q2⟩
              · refine SV0.same q3 (v := if ok then .tuple #[e.val, .bool true] else e.val) ?_ (hres true (e2.2 j x y n e q1 q2).2.1)
                have hf := run_findKey_now (w := c.w) hko q4
                simp only [Instr.lookup, Sem.run_bind, h1, Result.andThen_ok, Sem.run_pure, run_getObj_map e1, run_checkKey_plain hko hp, hf]
              · refine SV0.same q1 (v := if ok then .tuple #[ei.zero, .bool false] else ei.zero) ?_ (hres false (VR.ofVal c _))
                have hf := run_findKey_now (w := c.w) hko q2
                simp only [Instr.lookup, Sem.run_bind, h1, Result.andThen_ok, Sem.run_pure, run_getObj_map e1, run_checkKey_plain hko hp, hf, hz]
          · exact hk.elim
        · exact hk.elim
      · exact hk.elim
    · exact hk.elim
  · exact hk.elim

def aMapUpd (T : Tab) (t : TypeId) (m k v : AV) (h : AH) (K : AH → Prop) : Prop :=
  match T t with
  | some { desc := .map kt _, .. } => (match T kt with
    | some ki => if plainKey ki.desc = true then (match m with
      | .map id => (match h[id]? with
        | some (.map es clk) => findA ki.desc k (fun i _ => K (h.set id (.map (es.modify i fun p => (k, v, p.2.2)) clk))) (K (h.set id (.map (es ++ [(k, v, clk)]) (clk + 1)))) es 0
        | _ => False)
      | _ => False) else False
    | none => False)
  | _ => False

theorem aMapUpd_sound (hT : T.OK P) (hs : Sim c h) {t : TypeId} {m k v : AV} {vm vk vv : Value} (hm : VR c m vm) (hkv : VR c k vk) (hv : VR c v vv) {K : AH → Prop} (hk : aMapUpd T t m k v h K) : SU P (Instr.mapUpdate t vm vk vv) c h K := by
  unfold aMapUpd at hk
  split at hk
  · rename_i kt et s b z ht
    have h1 := (hT t _ ht).run_underlying c.w
    split at hk
    · rename_i ki hki
      have hko := hT kt ki hki
      split at hk
      · rename_i hp
        split at hk
        · rename_i id
          split at hk
          · rename_i es clk hid
            cases hm with
            | map hl =>
              rename_i l
              obtain ⟨ents, e1, e2, hL⟩ := hs.rd.map_ents hid hl
              have hset : ∀ (o : Obj), (setObj l.b o).run P c.w = .ok () { c.w with heap := c.w.heap.setIfInBounds l.b o } := fun o => by simp [setObj, Sem.run, e1]
              have hlt : l.b < c.w.heap.size := Owns.lt hs ⟨id, l, ⟨_, hid, rfl⟩, hl, rfl⟩
              have step : ∀ (es' : List (AV × AV × Nat)) (ents' : Array MapEntry) (clk' : Nat), EntsR c es' ents'.toList → K (h.set id (.map es' clk')) →
                  (Instr.mapUpdate t (.map (some l.b)) vk vv).run P c.w = .ok () { c.w with heap := c.w.heap.setIfInBounds l.b (.map ents' clk') } → SU P (Instr.mapUpdate t (.map (some l.b)) vk vv) c h K := by
                intro es' ents' clk' he hK hr
                have h2 := Sim.upd hs (b' := .map es' clk') (w' := { c.w with heap := c.w.heap.setIfInBounds l.b (.map ents' clk') }) hid rfl hl (by simp) (fun x hx => by simp [Array.getElem?_setIfInBounds, Ne.symm hx]) (fun o ho => by rw [hL] at ho; omega) rfl rfl rfl
                  (fun hle => .map (ents := ents') (by simp [hlt]) hL (by simpa using he.1) (fun i k v n e a b => by
                    obtain ⟨p, q, r⟩ := he.2 i k v n e a (by simpa using b)
                    exact ⟨p.mono hle, q.mono hle, r⟩))
                exact ⟨_, _, hK, h2.2, h2.1, hr⟩
              rcases findA_sound hkv e2 hk with ⟨j, x, y, n, e, q1, q2, q3, q4, q5⟩ | ⟨q1, q2⟩
              · rw [Nat.zero_add] at q3 q4
                refine step _ (ents.modify j fun e => { e with key := vk, val := vv }) clk ?_ q3 ?_
                · refine ⟨by simpa using e2.1, fun i k' v' n' e' a b => ?_⟩
                  rw [List.getElem?_modify] at a
                  simp only [Array.toList_modify, List.getElem?_modify] at b
                  by_cases hij : j = i
                  · subst hij
                    rw [q1] at a
                    rw [q2] at b
                    simp at a b
                    obtain ⟨rfl, rfl, rfl⟩ := a
                    subst b
                    exact ⟨hkv, hv, (e2.2 j x y n e q1 q2).2.2⟩
                  · simp only [hij, if_false] at a b
                    exact e2.2 i k' v' n' e' (by simpa using a) (by simpa using b)
                · have hf := run_findKey_now (w := c.w) hko q4
                  have hej : ents[j]? = some e := by simpa using q2
                  simp only [Instr.mapUpdate, Sem.run_bind, h1, Result.andThen_ok, run_getObj_map e1, run_checkKey_plain hko hp, hf, hej, Option.map_some, Option.getD_some, Instr.keyThatStays, q5, if_true, Sem.run_pure, hset]
              · refine step _ (ents.push { key := vk, val := vv, born := clk }) (clk + 1) ?_ q1 ?_
                · refine ⟨by simp [e2.1], fun i k' v' n' e' a b => ?_⟩
                  simp only [Array.toList_push] at b
                  rcases Nat.lt_or_ge i es.length with hi | hi
                  · rw [List.getElem?_append_left hi] at a
                    rw [List.getElem?_append_left (by rw [← e2.1]; exact hi)] at b
                    exact e2.2 i k' v' n' e' a b
                  · rw [List.getElem?_append_right hi] at a
                    rw [List.getElem?_append_right (by rw [← e2.1]; exact hi), ← e2.1] at b
                    have hi0 : i - es.length = 0 := by
                      have := (List.getElem?_eq_some_iff.1 a).1
                      simp at this; omega
                    rw [hi0] at a b
                    simp at a b
                    obtain ⟨rfl, rfl, rfl⟩ := a
                    subst b
                    exact ⟨hkv, hv, rfl⟩
                · have hf := run_findKey_now (w := c.w) hko q2
                  simp only [Instr.mapUpdate, Sem.run_bind, h1, Result.andThen_ok, run_getObj_map e1, run_checkKey_plain hko hp, hf, hset]
          · exact hk.elim
        · exact hk.elim
      · exact hk.elim
    · exact hk.elim
  · exact hk.elim

end
end Go.Vm


/- The abstract machine, part 10: one operation, whichever it is. -/
namespace Go.Vm
open Go

/-- What an operation comes to. -/
inductive ANext where
  | val (v : AV)
  | skip
  | enter (f : FuncId) (args : List AV)
  | dfr (f : Fn) (captured args : List AV)
  | pan (v : AV)
  | recov

/-- What the machine asks of a function. -/
structure FnI where
  ntmps : Nat
  results : List ResultVar
  body : Code

structure FnOK (P : Program) (f : FuncId) (fi : FnI) : Prop where
  fn : ∃ fn, P.funcs[f]? = some fn ∧ fn.body = some fi.body ∧ fn.ntmps = fi.ntmps ∧ fn.results.toList = fi.results ∧ (fn.name == "runtime.NumGoroutine") = false

abbrev FTab := FuncId → Option FnI

def FTab.OK (P : Program) (F : FTab) : Prop := ∀ f fi, F f = some fi → FnOK P f fi

def ev (tmps : List AV) : Operand → AV
  | .tmp t => tmps.getD t .undef
  | .const v => ofVal v
  | .global _ => .dead
  | .func f => .fn (.func f) [] []

theorem ev_sound {c : Cx} {tmps : List AV} {a : Act} (h : VRs c tmps a.tmps.toList) (x : Operand) : VR c (ev tmps x) (a.eval x) := by
  cases x with
  | tmp t =>
    have := h.getD t (d := .undef) (e := undef) .undef
    simp only [ev, Act.eval]
    simpa using this
  | const v => exact VR.ofVal c v
  | global g => exact .dead rfl
  | func f => exact .fn rfl rfl (fun i x v h => by simp at h) (fun i x v h => by simp at h)

def pickV (b : Bool) (x y : AV) : AV :=
  match x, y with
  | .bool p, .bool q => .bool (if b then p else q)
  | .int k m, .int k' n => if k = k' then .int k (if b then m else n) else .dead
  | .str s, .str t => .str (if b then s else t)
  | x, y => if b then x else y

theorem VR.pickV {c : Cx} {b : Bool} {x y : AV} {v u : Value} (hx : VR c x v) (hy : VR c y u) : VR c (pickV b x y) (if b then v else u) := by
  unfold Vm.pickV
  split
  · cases hx; cases hy; cases b <;> exact .bool
  · cases hx; cases hy
    split
    · rename_i h; subst h; cases b <;> exact .int
    · cases b <;> exact .dead rfl
  · cases hx; cases hy; cases b <;> exact .str
  · cases b
    · exact hy
    · exact hx

def aBuiltin (T : Tab) (b : Builtin) (ts : List TypeId) (xs : List AV) (h : AH) (K : ANext → AH → Prop) : Prop :=
  match b, xs with
  | .len, [x] => aLen T ts x h fun v h => K (.val v) h
  | .append, [x, y] => aAppend T ts x y h fun v h => K (.val v) h
  | .max, xs => aMaxOp true xs h fun v h => K (.val v) h
  | .min, xs => aMaxOp false xs h fun v h => K (.val v) h
  | .recover, [] => K .recov h
  | .panic, [.iface t x] => K (.pan (.iface t x)) h
  | _, _ => False

def aop (T : Tab) (F : FTab) (ρ : Operand → AV) (h : AH) (o : Oper) (K : ANext → AH → Prop) : Prop :=
  match o.op with
  | .move x => K (.val (ρ x)) h
  | .assign x => K (.val (ρ x)) h
  | .pick x a b => (match ρ x with
    | .bool t => K (.val (pickV t (ρ a) (ρ b))) h
    | _ => False)
  | .alloc t => aAlloc T t h fun v h => K (.val v) h
  | .box _ x => aBox (ρ x) h fun v h => K (.val v) h
  | .build t ps => aBuild T t (ps.toList.map fun p => (p.1, ρ p.2)) h fun v h => K (.val v) h
  | .buildSlice t n ps => aBuildSlice T t n (ps.toList.map fun p => (p.1, ρ p.2)) h fun v h => K (.val v) h
  | .load t x => aLoad T t (ρ x) h fun v h => K (.val v) h
  | .store t x y => aStore T t (ρ x) (ρ y) h fun h => K .skip h
  | .nilCheck x => (match ρ x with
    | .ptr a b => K (.val (.ptr a b)) h
    | .ep a b d => K (.val (.ep a b d)) h
    | .rop a b d e => K (.val (.rop a b d e)) h
    | .fn (.func f) a b => K (.val (.fn (.func f) a b)) h
    | _ => False)
  | .binOp op t x y _ => aBin T op t (constOp x || constOp y) (ρ x) (ρ y) h fun v h => K (.val v) h
  | .unOp op _ x => aUn op (ρ x) h fun v h => K (.val v) h
  | .convert s d x => aConvert T s d (ρ x) h fun v h => K (.val v) h
  | .makeInterface t x => aMakeIface T t (ρ x) h fun v h => K (.val v) h
  | .makeFunc f a b => K (.val (.fn f (a.toList.map ρ) (b.toList.map ρ))) h
  | .makeMap t r => aMakeMap T t (r.map ρ) h fun v h => K (.val v) h
  | .slice t x lo hi none => aSlice T t (ρ x) (lo.map ρ) (hi.map ρ) h fun v h => K (.val v) h
  | .fieldAddr t x f => aFieldAddr T t (ρ x) f h fun v h => K (.val v) h
  | .field t x f => aField T t (ρ x) f h fun v h => K (.val v) h
  | .indexAddr t x i => aIndexAddr T t (ρ x) (ρ i) h fun v h => K (.val v) h
  | .index t x i => aIndex T t (ρ x) (ρ i) h fun v h => K (.val v) h
  | .lookup t x i ok => aLookup T t (ρ x) (ρ i) ok h fun v h => K (.val v) h
  | .mapUpdate t m k v => aMapUpd T t (ρ m) (ρ k) (ρ v) h fun h => K .skip h
  | .insert t m k v => aMapUpd T t (ρ m) (ρ k) (ρ v) h fun h => K .skip h
  | .typeAssert x _ t ok => aAssert T (ρ x) t ok h fun v h => K (.val v) h
  | .extract x i => aExtract (ρ x) i h fun v h => K (.val v) h
  | .panic x => (match ρ x with
    | .iface t y => K (.pan (.iface t y)) h
    | _ => False)
  | .call { callee := .builtin b, args := xs, argTypes := ts } => aBuiltin T b ts.toList (xs.toList.map ρ) h K
  | .call { callee := .value f, args := xs, .. } => (match ρ f with
    | .fn (.func g) first captured => (match F g with
      | some _ => K (.enter g (first ++ xs.toList.map ρ ++ captured)) h
      | none => False)
    | _ => False)
  | .defer { callee := .value f, args := xs, .. } => (match ρ f with
    | .fn g first captured => K (.dfr g captured (first ++ xs.toList.map ρ)) h
    | _ => False)
  | _ => False

/-- What the model's operation came to, as the abstract machine sees it. -/
def Ran (r : Result Next) (c : Cx) : ANext → Prop
  | .val x => ∃ v, r = .ok (.value v) c.w ∧ VR c x v
  | .skip => r = .ok .skip c.w
  | .enter f xs => ∃ vs : Array Value, r = .ok (.enter f vs) c.w ∧ VRs c xs vs.toList
  | .dfr f cs xs => ∃ vs us : Array Value, r = .ok (.defer { target := .fn f vs, args := us }) c.w ∧ VRs c cs vs.toList ∧ VRs c xs us.toList
  | .pan x => ∃ v, r = .halt (.panic v) c.w ∧ VR c x v
  | .recov => r = .ok .recover c.w

section
variable {P : Program} {T : Tab} {F : FTab} {c : Cx} {h : AH} {K : ANext → AH → Prop}

def OpOK (P : Program) (s : Sem Next) (c : Cx) (h : AH) (K : ANext → AH → Prop) : Prop :=
  ∃ nx h' c', K nx h' ∧ Ext c h c' h' ∧ Sim c' h' ∧ Ran (s.run P c.w) c' nx

theorem OpOK.of_sv {s : Sem Value} (hh : SV P s c h fun v h => K (.val v) h) : OpOK P (do pure (.value (← s))) c h K := by
  obtain ⟨x, h', c', v, a, b, d, e, f⟩ := hh
  exact ⟨.val x, h', c', a, b, d, v, by simp [e], f⟩

theorem OpOK.of_su {s : Sem Unit} (hh : SU P s c h fun h => K .skip h) : OpOK P (do s; pure .skip) c h K := by
  obtain ⟨h', c', a, b, d, e⟩ := hh
  exact ⟨.skip, h', c', a, b, d, by show (Sem.run P _ c.w) = _; simp [e]⟩

theorem OpOK.same (hs : Sim c h) {s : Sem Next} {nx : ANext} (hk : K nx h) (hr : Ran (s.run P c.w) c nx) : OpOK P s c h K := ⟨nx, h, c, hk, Ext.refl c h, hs, hr⟩

theorem VRs.map {ρa : Operand → AV} {ρ : Operand → Value} (hρ : ∀ x, VR c (ρa x) (ρ x)) (xs : List Operand) : VRs c (xs.map ρa) (xs.map ρ) := by
  refine ⟨by simp, fun i x v h1 h2 => ?_⟩
  simp only [List.getElem?_map, Option.map_eq_some_iff] at h1 h2
  obtain ⟨o, e1, rfl⟩ := h1
  obtain ⟨o', e2, rfl⟩ := h2
  rw [e1] at e2; cases e2
  exact hρ o

theorem PartsR.map {ρa : Operand → AV} {ρ : Operand → Value} (hρ : ∀ x, VR c (ρa x) (ρ x)) (ps : List (Nat × Operand)) : PartsR c (ps.map fun p => (p.1, ρa p.2)) (ps.map fun p => (p.1, ρ p.2)) := by
  induction ps with
  | nil => exact .nil
  | cons p ps ih => exact .cons (hρ _) ih

theorem run_callFunc (hF : F.OK P) {g : FuncId} {fi : FnI} (hg : F g = some fi) (w : World) (args : Array Value) : (callFunc g args).run P w = .ok (.enter g args) w := by
  obtain ⟨fn, h1, h2, _, _, h4⟩ := (hF g fi hg).fn
  simp only [callFunc, Sem.run_bind, run_program, Result.andThen_ok, h1, h4, Bool.false_eq_true, if_false, h2, Option.isNone_some, Sem.run_pure]

theorem VRs.one {x : AV} {l : List Value} (h : VRs c [x] l) : ∃ v, l = [v] ∧ VR c x v := by
  cases l with
  | nil => exact absurd h.1 (by simp)
  | cons v l =>
    have : l = [] := List.eq_nil_of_length_eq_zero (by have := h.1; simp only [List.length_cons, List.length_nil] at this; omega)
    subst this
    exact ⟨v, rfl, h.2 0 x v rfl rfl⟩

theorem VRs.two {x y : AV} {l : List Value} (h : VRs c [x, y] l) : ∃ v u, l = [v, u] ∧ VR c x v ∧ VR c y u := by
  cases l with
  | nil => exact absurd h.1 (by simp)
  | cons v l =>
    obtain ⟨u, rfl, hu⟩ := VRs.one (c := c) (x := y) (l := l) ⟨by have := h.1; simp only [List.length_cons, List.length_nil] at this ⊢; omega, fun i z w a b => h.2 (i + 1) z w (by simpa using a) (by simpa using b)⟩
    exact ⟨v, u, rfl, h.2 0 x v rfl rfl, hu⟩

theorem aop_sound (hT : T.OK P) (hF : F.OK P) (hs : Sim c h) {ρa : Operand → AV} {ρ : Operand → Value} (hρ : ∀ x, VR c (ρa x) (ρ x)) {o : Oper} (hk : aop T F ρa h o K) : OpOK P (execOp ρ o) c h K := by
  obtain ⟨dst, op, ty, pos, after, guard⟩ := o
  have hm : ∀ xs : Array Operand, VRs c (xs.toList.map ρa) (xs.map ρ).toList := fun xs => by
    rw [Array.toList_map]; exact VRs.map hρ xs.toList
  have hp : ∀ ps : Array (Nat × Operand), PartsR c (ps.toList.map fun p => (p.1, ρa p.2)) (ps.map fun p => (p.1, ρ p.2)).toList := fun ps => by
    rw [Array.toList_map]; exact PartsR.map hρ ps.toList
  have hop1 : ∀ (x : Option Operand) (y : AV), x.map ρa = some y → ∃ v, x.map ρ = some v ∧ VR c y v := fun x y e => by
    cases x with
    | none => cases e
    | some z => cases e; exact ⟨_, rfl, hρ z⟩
  have hop0 : ∀ (x : Option Operand), x.map ρa = none → x.map ρ = none := fun x e => by
    cases x with
    | none => rfl
    | some z => cases e
  cases op <;> simp only [aop] at hk <;> simp only [execOp]
  case move x => exact OpOK.same hs hk ⟨_, rfl, hρ x⟩
  case assign x => exact OpOK.same hs hk ⟨_, rfl, hρ x⟩
  case pick x a b =>
    split at hk
    · rename_i t ht
      have := hρ x
      rw [ht] at this
      refine OpOK.same hs hk ⟨if t then ρ a else ρ b, ?_, (hρ a).pickV (hρ b)⟩
      generalize ρ x = vx at this
      cases this
      simp only [asBool, Sem.run_bind, Sem.run_pure, Result.andThen_ok]
    · exact hk.elim
  case alloc t => exact OpOK.of_sv (aAlloc_sound hT hs hk)
  case box t x => exact OpOK.of_sv (aBox_sound hs (hρ x) hk)
  case build t ps => exact OpOK.of_sv ((aBuild_sound hT hs.rd (hp ps) hk).sv hs)
  case buildSlice t n ps => exact OpOK.of_sv (aBuildSlice_sound hT hs (hp ps) hk)
  case load t x => exact OpOK.of_sv (aLoad_sound hT hs (hρ x) hk)
  case store t x y => exact OpOK.of_su (aStore_sound hT hs (hρ x) (hρ y) hk)
  case nilCheck x =>
    have hx := hρ x
    split at hk <;> (try exact hk.elim)
    all_goals
      rename_i e
      rw [e] at hx
      generalize ρ x = vx at hx
      refine OpOK.same hs hk ⟨vx, ?_, hx⟩
      cases hx; rfl
  case binOp op t x y t' => exact OpOK.of_sv ((aBin_sound hT hs.rd (hρ x) (hρ y) hk).sv hs)
  case unOp op t x => exact OpOK.of_sv ((aUn_sound hs.rd (hρ x) hk).sv hs)
  case convert s d x => exact OpOK.of_sv ((aConvert_sound hT hs.rd (hρ x) hk).sv hs)
  case makeInterface t x => exact OpOK.of_sv ((aMakeIface_sound hT hs.rd (hρ x) hk).sv hs)
  case makeFunc f a b =>
    refine OpOK.same hs hk ⟨.func f (a.map ρ) (b.map ρ), rfl, .fn (by simp) (by simp) (fun i x v h1 h2 => (hm a).2 i x v h1 (by simpa using h2)) (fun i x v h1 h2 => (hm b).2 i x v h1 (by simpa using h2))⟩
  case makeMap t r => exact OpOK.of_sv (aMakeMap_sound hT hs (hop1 r) (hop0 r) hk)
  case slice t x lo hi mx =>
    cases mx with
    | none => exact OpOK.of_sv ((aSlice_sound hT hs.rd (hρ x) (hop1 lo) (hop1 hi) (hop0 lo) (hop0 hi) hk).sv hs)
    | some m => exact hk.elim
  case fieldAddr t x f => exact OpOK.of_sv ((aFieldAddr_sound hT hs.rd (hρ x) hk).sv hs)
  case field t x f => exact OpOK.of_sv ((aField_sound hT hs.rd (hρ x) hk).sv hs)
  case indexAddr t x i => exact OpOK.of_sv ((aIndexAddr_sound hT hs.rd (hρ x) (hρ i) hk).sv hs)
  case index t x i => exact OpOK.of_sv ((aIndex_sound hT hs.rd (hρ x) (hρ i) hk).sv hs)
  case lookup t x i ok => exact OpOK.of_sv ((aLookup_sound hT hs.rd (hρ x) (hρ i) hk).sv hs)
  case mapUpdate t m k v => exact OpOK.of_su (aMapUpd_sound hT hs (hρ m) (hρ k) (hρ v) hk)
  case insert t m k v => exact OpOK.of_su (aMapUpd_sound hT hs (hρ m) (hρ k) (hρ v) hk)
  case typeAssert x xt t ok => exact OpOK.of_sv ((aAssert_sound hT hs.rd (hρ x) hk).sv hs)
  case extract x i => exact OpOK.of_sv ((aExtract_sound hs.rd (hρ x) hk).sv hs)
  case panic x =>
    have hx := hρ x
    split at hk
    · rename_i t y e
      rw [e] at hx
      generalize ρ x = vx at hx
      refine OpOK.same hs hk ⟨vx, ?_, hx⟩
      cases hx; rfl
    · exact hk.elim
  case call cl =>
    obtain ⟨callee, xs, ts⟩ := cl
    cases callee with
    | builtin b =>
      simp only [aop] at hk
      have hxs := hm xs
      generalize hys : xs.toList.map ρa = ys at hk hxs
      have hrun : ∀ r : Result Next, (builtin b ts ty (xs.map fun | .const _ => true | _ => false) (xs.map ρ)).run P c.w = r → ((do let d ← resolve ρ { callee := .builtin b, args := xs, argTypes := ts } ty; invoke d.target d.args : Sem Next)).run P c.w = r := fun r hr => by
        simp only [resolve, Sem.run_bind, Sem.run_pure, Result.andThen_ok, invoke]
        exact hr
      have val : ∀ {s : Sem Value}, builtin b ts ty (xs.map fun | .const _ => true | _ => false) (xs.map ρ) = (do pure (.value (← s))) → (SV P s c h fun v h => K (.val v) h) →
          OpOK P (do let d ← resolve ρ { callee := .builtin b, args := xs, argTypes := ts } ty; invoke d.target d.args) c h K := fun {s} he hh => by
        obtain ⟨nx, h', c', a, b', d, e⟩ := OpOK.of_sv hh
        exact ⟨nx, h', c', a, b', d, by rw [hrun _ rfl, he]; exact e⟩
      unfold aBuiltin at hk
      split at hk
      · obtain ⟨v, hv, hx⟩ := hxs.one
        have hv' : xs.map ρ = #[v] := Array.ext' hv
        refine val (s := Builtin.len_ ts ty #[v]) (by rw [hv']; rfl) ?_
        have := (aLen_sound (P := P) (ty := ty) hT hs.rd hx hk).sv hs
        simpa using this
      · obtain ⟨v, u, hv, hx, hy⟩ := hxs.two
        have hv' : xs.map ρ = #[v, u] := Array.ext' hv
        refine val (s := Builtin.append_ ts ty #[v, u]) (by rw [hv']; rfl) ?_
        have := aAppend_sound (P := P) (ty := ty) hT hs hx hy hk
        simpa using this
      · refine val (s := Builtin.max_ ts ty (xs.map ρ)) rfl ?_
        have := (aMaxOp_sound (P := P) (mx := true) (ts := ts) (ty := ty) hs.rd hxs hk).sv hs
        simpa using this
      · refine val (s := Builtin.min_ ts ty (xs.map ρ)) rfl ?_
        have := (aMaxOp_sound (P := P) (mx := false) (ts := ts) (ty := ty) hs.rd hxs hk).sv hs
        simpa using this
      · exact OpOK.same hs hk (hrun _ rfl)
      · rename_i t x
        obtain ⟨v, hv, hx⟩ := hxs.one
        have hv' : xs.map ρ = #[v] := Array.ext' hv
        cases hx with
        | iface hx' =>
          rename_i u
          refine OpOK.same hs hk ⟨.iface t u, ?_, .iface hx'⟩
          refine hrun _ ?_
          rw [hv']
          rfl
      · exact hk.elim
    | value f =>
      simp only [aop] at hk
      have hf := hρ f
      split at hk
      · rename_i g first captured e
        rw [e] at hf
        split at hk
        · rename_i fi hg
          generalize hvf : ρ f = vf at hf
          cases hf with
          | fn h1 h2 h3 h4 =>
            rename_i fs cs
            refine OpOK.same hs hk ⟨fs ++ xs.map ρ ++ cs, ?_, ?_⟩
            · simp only [resolve, hvf, Deferred.ofValue, Sem.run_bind, Sem.run_pure, Result.andThen_ok, invoke]
              exact run_callFunc hF hg c.w _
            · rw [Array.toList_append, Array.toList_append]
              exact (VRs.append (VRs.of_array h1 h3) (hm xs)).append (VRs.of_array h2 h4)
        · exact hk.elim
      · exact hk.elim
    | invoke r n => exact hk.elim
  case defer cl =>
    obtain ⟨callee, xs, ts⟩ := cl
    cases callee with
    | value f =>
      simp only [aop] at hk
      have hf := hρ f
      split at hk
      · rename_i g first captured e
        rw [e] at hf
        generalize hvf : ρ f = vf at hf
        cases hf with
        | fn h1 h2 h3 h4 =>
          rename_i fs cs
          refine OpOK.same hs hk ⟨cs, fs ++ xs.map ρ, ?_, VRs.of_array h2 h4, ?_⟩
          · simp only [resolve, hvf, Deferred.ofValue, Sem.run_bind, Sem.run_pure, Result.andThen_ok]
          · rw [Array.toList_append]
            exact VRs.append (VRs.of_array h1 h3) (hm xs)
      · exact hk.elim
    | builtin b => exact hk.elim
    | invoke r n => exact hk.elim
  all_goals exact hk.elim

end
end Go.Vm


/- The abstract machine, part 11: control. 'run' goes through a function's code; where a call or a loop stands it asks for what is known of that. -/
namespace Go.Vm
open Go

structure ADef where
  f : Fn
  captured : List AV
  args : List AV

structure AAct where
  tmps : List AV
  defers : List ADef

inductive AExit where
  | norm
  | ret
  | pan (v : AV)

inductive ARes where
  | ret (v : AV)
  | pan (v : AV)

inductive It where
  | code (c : Code)
  | ops (all : Array Oper) (l : List Oper)
  | blk (id : Nat)
  | loop (c : Code)

def DefR (c : Cx) (d : ADef) (D : Deferred) : Prop := ∃ vs : Array Value, D.target = .fn d.f vs ∧ VRs c d.captured vs.toList ∧ VRs c d.args D.args.toList

inductive DefsR (c : Cx) : List ADef → List Deferred → Prop
  | nil : DefsR c [] []
  | cons {d D ds Ds} (h : DefR c d D) (hs : DefsR c ds Ds) : DefsR c (d :: ds) (D :: Ds)

structure ActR (c : Cx) (a : AAct) (act : Act) : Prop where
  tmps : VRs c a.tmps act.tmps.toList
  defers : DefsR c a.defers act.defers

inductive ExR (c : Cx) : AExit → Exit → Prop
  | norm : ExR c .norm .normal
  | ret : ExR c .ret .ret
  | pan {x v} (h : VR c x v) : ExR c (.pan x) (.panic [{ v, recovered := false }])

inductive ResR (c : Cx) : ARes → Ending → Prop
  | ret {x v} (h : VR c x v) : ResR c (.ret x) (.returned v)
  | pan {x v} (h : VR c x v) : ResR c (.pan x) (.panicked [{ v, recovered := false }])

theorem DefR.mono {c c' : Cx} (hle : Le c c') {d : ADef} {D : Deferred} (h : DefR c d D) : DefR c' d D := by
  obtain ⟨vs, h1, h2, h3⟩ := h
  exact ⟨vs, h1, h2.mono hle, h3.mono hle⟩

theorem DefsR.mono {c c' : Cx} (hle : Le c c') {ds : List ADef} {Ds : List Deferred} (h : DefsR c ds Ds) : DefsR c' ds Ds := by
  induction h with
  | nil => exact .nil
  | cons h _ ih => exact .cons (h.mono hle) ih

theorem ActR.mono {c c' : Cx} (hle : Le c c') {a : AAct} {act : Act} (h : ActR c a act) : ActR c' a act := ⟨h.tmps.mono hle, h.defers.mono hle⟩

def AAct.put (a : AAct) (dst : Option Tmp) (v : AV) : AAct :=
  match dst with
  | some d => { a with tmps := a.tmps.set d v }
  | none => a

theorem ActR.put {c : Cx} {a : AAct} {act : Act} (h : ActR c a act) (dst : Option Tmp) {x : AV} {v : Value} (hx : VR c x v) : ActR c (a.put dst x) (act.put dst v) := by
  cases dst with
  | none => exact h
  | some d => exact ⟨by show VRs c _ (act.tmps.setIfInBounds d v).toList; rw [Array.toList_setIfInBounds]; exact h.tmps.set d hx, h.defers⟩

/-! ### Pieces of code, one behind the other -/
/-- A region's operations from one on. -/
def opsL (P : Program) (all : Array Oper) (Q : Exit → Act → World → Prop) : List Oper → Act → World → Prop
  | [], a, w => Q .normal a w
  | o :: rest, a, w => if Region.wanted o (yielded all a.tmps) then o.wp P a w (opsL P all Q rest) Q else opsL P all Q rest (a.put o.dst undef) w

/-- A loop whose body comes next. -/
def wpL (P : Program) (x : Code) (Q : Exit → Act → World → Prop) (a : Act) (w : World) : Prop :=
  ∀ (b : Frame) (k : List Item) (cs : List Frame), ∃ e a' w', Q e a' w' ∧ Arrives P (lone (b.at a (.code x :: .inLoop x :: k)) cs w) b k cs e a' w'

def runsTo (P : Program) (Q : Exit → Act → World → Prop) : List It → Exit → Act → World → Prop
  | [], e, a, w => Q e a w
  | .code x :: k, e, a, w => (match e with
    | .normal => x.wp P (runsTo P Q k) a w
    | e => runsTo P Q k e a w)
  | .ops all l :: k, e, a, w => (match e with
    | .normal => opsL P all (runsTo P Q k) l a w
    | e => runsTo P Q k e a w)
  | .blk id :: k, e, a, w => Exit.inBlock id (runsTo P Q k) e a w
  | .loop x :: k, e, a, w => (match e with
    | .normal => wpL P x (runsTo P Q k) a w
    | e => runsTo P Q k e a w)

section
variable {P : Program} {Q Q' : Exit → Act → World → Prop}

theorem Oper.wp_mono2 {o : Oper} {a : Act} {w : World} {K K' : Act → World → Prop} (h : ∀ a w, K a w → K' a w) (hq : ∀ e a w, Q e a w → Q' e a w) (hh : o.wp P a w K Q) : o.wp P a w K' Q' := by
  unfold Oper.wp at *
  generalize (execOp a.eval o).run P w = r at *
  cases r with
  | ok n w' =>
    cases n <;> simp only [Oper.upon] at hh ⊢ <;>
      first
        | exact h _ _ hh
        | exact Calls.mono hh (fun e w'' he => by cases e <;> first | exact h _ _ he | exact hq _ _ _ he | exact (let ⟨a, w, q⟩ := he; ⟨a, w, hq _ _ _ q⟩))
        | exact Rows.mono hh (fun _ _ he => h _ _ he)
  | halt x w' => cases x <;> simp only [Oper.upon] at hh ⊢ <;> first | exact hq _ _ _ hh | exact hh

theorem opsL_mono {all : Array Oper} (hq : ∀ e a w, Q e a w → Q' e a w) : ∀ {l : List Oper} {a : Act} {w : World}, opsL P all Q l a w → opsL P all Q' l a w := by
  intro l
  induction l with
  | nil => intro a w h; exact hq _ _ _ h
  | cons o l ih =>
    intro a w h
    simp only [opsL] at h ⊢
    split
    · rename_i hw; rw [if_pos hw] at h; exact Oper.wp_mono2 (fun _ _ h => ih h) hq h
    · rename_i hw; rw [if_neg hw] at h; exact ih h

theorem runsTo_mono (hq : ∀ e a w, Q e a w → Q' e a w) : ∀ {k : List It} {e : Exit} {a : Act} {w : World}, runsTo P Q k e a w → runsTo P Q' k e a w := by
  intro k
  induction k with
  | nil => intro e a w h; exact hq _ _ _ h
  | cons x k ih =>
    intro e a w h
    have ih' : ∀ e a w, runsTo P Q k e a w → runsTo P Q' k e a w := fun e a w h => ih h
    cases x with
    | code x => cases e <;> simp only [runsTo] at h ⊢ <;> first | exact wp_mono h ih' | exact ih h
    | ops all l => cases e <;> simp only [runsTo] at h ⊢ <;> first | exact opsL_mono ih' h | exact ih h
    | blk id =>
      simp only [runsTo] at h ⊢
      cases e <;> simp only [Exit.inBlock] at h ⊢ <;> first | exact ih h | (split <;> simp_all <;> exact ih h)
    | loop x => cases e <;> simp only [runsTo] at h ⊢ <;> first | exact (fun b k cs => let ⟨e, a', w', q, r⟩ := h b k cs; ⟨e, a', w', ih q, r⟩) | exact ih h

theorem runsTo_ret {k : List It} {a : Act} {w : World} (h : Q .ret a w) : runsTo P Q k .ret a w := by
  induction k with
  | nil => exact h
  | cons x k ih => cases x <;> simp only [runsTo, Exit.inBlock] <;> exact ih

theorem runsTo_panic {k : List It} {a : Act} {w : World} {ch : List PanicEntry} (h : Q (.panic ch) a w) : runsTo P Q k (.panic ch) a w := by
  induction k with
  | nil => exact h
  | cons x k ih => cases x <;> simp only [runsTo, Exit.inBlock] <;> exact ih

def popBlk (id : Nat) : List It → Option (List It)
  | [] => none
  | .blk id' :: k => if id' = id then some k else popBlk id k
  | _ :: k => popBlk id k

theorem runsTo_exit {id : Nat} {a : Act} {w : World} : ∀ {k k' : List It}, popBlk id k = some k' → runsTo P Q k' .normal a w → runsTo P Q k (.exit id) a w := by
  intro k
  induction k with
  | nil => intro k' h; cases h
  | cons x k ih =>
    intro k' h hr
    cases x with
    | blk id' =>
      simp only [popBlk] at h
      simp only [runsTo, Exit.inBlock]
      split at h
      · rename_i e; subst e; cases h; rw [if_pos rfl]; exact hr
      · rename_i e; rw [if_neg (fun x => e x.symm)]; exact ih h hr
    | code x => exact ih h hr
    | ops all l => exact ih h hr
    | loop x => exact ih h hr

theorem wp_seq_runs {x y : Code} {k : List It} {a : Act} {w : World} (h : runsTo P Q (.code x :: .code y :: k) .normal a w) : runsTo P Q (.code (.seq x y) :: k) .normal a w := by
  simp only [runsTo] at h ⊢
  exact wp_seq (wp_mono h fun e a w he => by cases e <;> exact he)

theorem wp_block_runs {id : Nat} {x : Code} {k : List It} {a : Act} {w : World} (h : runsTo P Q (.code x :: .blk id :: k) .normal a w) : runsTo P Q (.code (.block id x) :: k) .normal a w := by
  simp only [runsTo] at h ⊢
  exact wp_block (wp_mono h fun e a w he => by simpa only [runsTo] using he)

theorem wpL_loop {x : Code} {a : Act} {w : World} (h : wpL P x Q a w) : (Code.loop x).wp P Q a w :=
  fun b k cs => let ⟨e, a', w', q, r⟩ := h b k cs; ⟨e, a', w', q, .of_steps (.one step_loop) r⟩

/-- One round, and then what comes. -/
theorem wpL_round {x : Code} {a : Act} {w : World} (h : x.wp P (Exit.then (wpL P x Q) Q) a w) : wpL P x Q a w := by
  intro b k cs
  obtain ⟨e, a₁, w₁, hq, harr⟩ := h b (.inLoop x :: k) cs
  cases e with
  | normal =>
    obtain ⟨e₂, a₂, w₂, hq₂, harr₂⟩ := hq b k cs
    exact ⟨e₂, a₂, w₂, hq₂, .of_steps (Steps.trans harr (.one step_inLoop)) harr₂⟩
  | exit id => exact ⟨_, a₁, w₁, hq, .pass (x := .inLoop x) rfl (fun _ _ => .inl (by simp)) harr⟩
  | goto l => exact ⟨_, a₁, w₁, hq, .pass (x := .inLoop x) rfl (fun _ _ => .inl (by simp)) harr⟩
  | ret => exact ⟨_, a₁, w₁, hq, .pass (x := .inLoop x) rfl (fun _ _ => .inl (by simp)) harr⟩
  | panic ch => exact ⟨_, a₁, w₁, hq, .pass (x := .inLoop x) rfl (fun _ _ => .inl (by simp)) harr⟩
  | outgrown => exact ⟨_, a₁, w₁, hq, .pass (x := .inLoop x) rfl (fun _ _ => .inl (by simp)) harr⟩

theorem runsTo_round {x : Code} {k : List It} {a : Act} {w : World} (h : runsTo P Q (.code x :: .loop x :: k) .normal a w) : runsTo P Q (.loop x :: k) .normal a w := by
  simp only [runsTo] at h ⊢
  exact wpL_round (wp_mono h fun e a w he => by cases e <;> exact he)

theorem wpOps_of_opsL {all : Array Oper} : ∀ (l : List Oper) (k : Nat) (a : Act) (w : World), (∀ j, l[j]? = all[k + j]?) → opsL P all Q l a w → wpOps P all Q (List.range' k l.length) a w := by
  intro l
  induction l with
  | nil => intro k a w _ h; exact h
  | cons o l ih =>
    intro k a w hl h
    have h0 : all[k]? = some o := by have := hl 0; simpa using this.symm
    have hrest : ∀ a w, opsL P all Q l a w → wpOps P all Q (List.range' (k + 1) l.length) a w := fun a w => ih (k + 1) a w fun j => by
      have := hl (j + 1); simpa [Nat.add_assoc, Nat.add_comm 1 j] using this
    simp only [List.length_cons, List.range'_succ, wpOps, h0]
    simp only [opsL] at h
    split
    · rename_i hw; rw [if_pos hw] at h; exact .inl (Oper.wp_mono hrest h)
    · rename_i hw; rw [if_neg hw] at h; exact hrest _ _ h

theorem wp_region_opsL {id : Nat} {all : Array Oper} {a : Act} {w : World} (h : opsL P all Q all.toList a w) : (Code.region id all false).wp P Q a w := by
  refine wp_region ?_
  have := wpOps_of_opsL all.toList 0 a w (fun j => by simp) h
  rw [List.range_eq_range']
  simpa using this

end

/-! ### The abstract run -/
/-- What a call comes to: to be known of the function. -/
def ACalls (P : Program) (f : FuncId) (args : List AV) (h : AH) (K : ARes → AH → Prop) : Prop :=
  ∀ (c : Cx) (vs : Array Value), Sim c h → VRs c args vs.toList → Calls P f vs c.w fun e w => ∃ c' h' r, c'.w = w ∧ Ext c h c' h' ∧ Sim c' h' ∧ ResR c' r e ∧ K r h'

def QL (c : Cx) (h : AH) (K : AExit → AAct → AH → Prop) : Exit → Act → World → Prop := fun e act w =>
  ∃ c' h' a' e', c'.w = w ∧ Ext c h c' h' ∧ Sim c' h' ∧ ActR c' a' act ∧ ExR c' e' e ∧ K e' a' h'

/-- What the items come to from a state on; 'h0': the heap with which the function began. -/
def AStk (P : Program) (h0 : AH) (k : List It) (a : AAct) (h : AH) (K : AExit → AAct → AH → Prop) : Prop :=
  ∀ (c0 c : Cx) (act : Act), (∀ i, h0.length ≤ i → c0.φ i = none) → Ext c0 h0 c h → Sim c h → ActR c a act → runsTo P (QL c0 h0 K) k .normal act c.w

theorem ACalls.mono {P : Program} {f : FuncId} {args : List AV} {h : AH} {K K' : ARes → AH → Prop} (hh : ACalls P f args h K) (hk : ∀ r h, K r h → K' r h) : ACalls P f args h K' :=
  fun c vs hs hv => (hh c vs hs hv).mono fun e w ⟨c', h', r, a, b, d, e', f'⟩ => ⟨c', h', r, a, b, d, e', hk _ _ f'⟩

theorem AStk.mono {P : Program} {h0 : AH} {k : List It} {a : AAct} {h : AH} {K K' : AExit → AAct → AH → Prop} (hh : AStk P h0 k a h K) (hk : ∀ e a h, K e a h → K' e a h) : AStk P h0 k a h K' :=
  fun c0 c act hd he hs ha => runsTo_mono (fun e a w ⟨c', h', a', e', q1, q2, q3, q4, q5, q6⟩ => ⟨c', h', a', e', q1, q2, q3, q4, q5, hk _ _ _ q6⟩) (hh c0 c act hd he hs ha)

/-- A call's end, back in the caller. -/
def Resume (R : List It → AAct → AH → Prop) (K : AExit → AAct → AH → Prop) (k : List It) (a : AAct) (dst : Option Tmp) : ARes → AH → Prop
  | .ret v, h => R k (a.put dst v) h
  | .pan v, h => K (.pan v) a h

/-- Behind an operation. -/
def After (P : Program) (R : List It → AAct → AH → Prop) (K : AExit → AAct → AH → Prop) (k : List It) (a : AAct) (dst : Option Tmp) : ANext → AH → Prop
  | .val v, h => R k (a.put dst v) h
  | .skip, h => R k (a.put dst .undef) h
  | .enter f args, h => ACalls P f args h (Resume R K k a dst)
  | .dfr f cs args, h => R k (({ a with defers := ⟨f, cs, args⟩ :: a.defers } : AAct).put dst .undef) h
  | .pan v, h => K (.pan v) a h
  | .recov, _ => False

/-- What an operation's guard says: 'none' where that can't be told. -/
def yieldA (all : Array Oper) (tmps : List AV) (j : Nat) : Option (Option Bool) :=
  match (all[j]?).bind (·.dst) with
  | some d => (match tmps[d]? with
    | some (.bool b) => some (some b)
    | some .undef => some none
    | some _ => none
    | none => some none)
  | none => some none

def run (P : Program) (T : Tab) (F : FTab) (h0 : AH) (K : AExit → AAct → AH → Prop) : Nat → List It → AAct → AH → Prop
  | 0, _, _, _ => False
  | _ + 1, [], a, h => K .norm a h
  | n + 1, .code x :: k, a, h => (match x with
    | .skip => run P T F h0 K n k a h
    | .label _ => run P T F h0 K n k a h
    | .region i all draw => if draw = true then AStk P h0 (.code (.region i all true) :: k) a h K else run P T F h0 K n (.ops all all.toList :: k) a h
    | .seq x y => run P T F h0 K n (.code x :: .code y :: k) a h
    | .cond o x y => (match ev a.tmps o with
      | .bool b => if b = true then run P T F h0 K n (.code x :: k) a h else run P T F h0 K n (.code y :: k) a h
      | _ => False)
    | .block id x => run P T F h0 K n (.code x :: .blk id :: k) a h
    | .loop x => AStk P h0 (.loop x :: k) a h K
    | .exit id => (match popBlk id k with
      | some k' => run P T F h0 K n k' a h
      | none => False)
    | .ret => K .ret a h
    | _ => False)
  | n + 1, .ops all l :: k, a, h => (match l with
    | [] => run P T F h0 K n k a h
    | o :: rest => (match o.guard with
      | none => aop T F (ev a.tmps) h o (After P (run P T F h0 K n) K (.ops all rest :: k) a o.dst)
      | some (j, want) => (match yieldA all a.tmps j with
        | some (some b) => if (b == want) = true then aop T F (ev a.tmps) h o (After P (run P T F h0 K n) K (.ops all rest :: k) a o.dst) else run P T F h0 K n (.ops all rest :: k) (a.put o.dst .undef) h
        | some none => run P T F h0 K n (.ops all rest :: k) (a.put o.dst .undef) h
        | none => False)))
  | n + 1, .blk _ :: k, a, h => run P T F h0 K n k a h
  | _ + 1, .loop x :: k, a, h => AStk P h0 (.loop x :: k) a h K

end Go.Vm


/- The abstract machine, part 12: what the abstract run says holds of the model. -/
namespace Go.Vm
open Go

section
variable {P : Program} {T : Tab} {F : FTab} {h0 : AH} {K : AExit → AAct → AH → Prop}

theorem yieldA_sound {c : Cx} {all : Array Oper} {a : AAct} {act : Act} (ha : ActR c a act) {j : Nat} {r : Option Bool} (hy : yieldA all a.tmps j = some r) : yielded all act.tmps j = r := by
  unfold yieldA at hy
  unfold yielded
  cases hd : (all[j]?).bind (·.dst) with
  | none => rw [hd] at hy; cases hy; rfl
  | some d =>
    rw [hd] at hy
    simp only at hy
    simp only [Option.bind_some]
    cases ht : a.tmps[d]? with
    | none =>
      rw [ht] at hy; cases hy
      have : act.tmps[d]? = none := by
        have h1 : a.tmps.length = act.tmps.size := by simpa using ha.tmps.1
        have h2 : a.tmps.length ≤ d := List.getElem?_eq_none_iff.1 ht
        exact Array.getElem?_eq_none (h1 ▸ h2)
      rw [this]
    | some x =>
      rw [ht] at hy
      have hlt : d < act.tmps.size := by
        have h1 : a.tmps.length = act.tmps.size := by simpa using ha.tmps.1
        have h2 : d < a.tmps.length := (List.getElem?_eq_some_iff.1 ht).1
        exact h1 ▸ h2
      have hv := ha.tmps.2 d x act.tmps[d] ht (by simp [hlt])
      rw [Array.getElem?_eq_getElem hlt]
      generalize act.tmps[d] = v at hv
      cases x <;> simp only [reduceCtorEq, Option.some.injEq] at hy
      · cases hv; subst hy; rfl
      · cases hv; subst hy; rfl

/-- One operation that is wanted. -/
theorem oper_sound (hT : T.OK P) (hF : F.OK P) {R : List It → AAct → AH → Prop} (hR : ∀ k a h, R k a h → AStk P h0 k a h K) {all : Array Oper} {o : Oper} {rest : List Oper} {k : List It} {a : AAct} {h : AH}
    (hk : aop T F (ev a.tmps) h o (After P R K (.ops all rest :: k) a o.dst)) {c0 c : Cx} {act : Act} (hd : ∀ i, h0.length ≤ i → c0.φ i = none) (he0 : Ext c0 h0 c h) (hs : Sim c h) (ha : ActR c a act) :
    o.wp P act c.w (opsL P all (runsTo P (QL c0 h0 K) k) rest) (runsTo P (QL c0 h0 K) k) := by
  obtain ⟨nx, h', c', hK, hext, hs', hr⟩ := aop_sound hT hF hs (ρ := act.eval) (fun x => ev_sound ha.tmps x) hk
  have ha' := ha.mono hext.le
  have hext0 := he0.trans hext
  have next : ∀ {a2 : AAct} {h2 : AH} {c2 : Cx} {act2 : Act}, R (.ops all rest :: k) a2 h2 → Sim c2 h2 → Ext c0 h0 c2 h2 → ActR c2 a2 act2 → opsL P all (runsTo P (QL c0 h0 K) k) rest act2 c2.w := fun {a2 h2 c2 act2} hR2 hs2 he2 ha2 => by
    have := hR _ _ _ hR2 c0 c2 act2 hd he2 hs2 ha2
    simpa only [runsTo] using this
  have hpan : ∀ {x : AV} {v : Value} {a2 : AAct} {h2 : AH} {c2 : Cx} {act2 : Act}, K (.pan x) a2 h2 → Sim c2 h2 → Ext c0 h0 c2 h2 → ActR c2 a2 act2 → VR c2 x v → runsTo P (QL c0 h0 K) k (.panic [{ v, recovered := false }]) act2 c2.w := fun hK2 hs2 he2 ha2 hv =>
    runsTo_panic ⟨_, _, _, _, rfl, he2, hs2, ha2, .pan hv, hK2⟩
  unfold Oper.wp
  cases nx with
  | val x =>
    obtain ⟨v, e, hv⟩ := hr
    rw [e]
    exact next hK hs' hext0 (ha'.put o.dst hv)
  | skip =>
    rw [show (execOp act.eval o).run P c.w = _ from hr]
    exact next hK hs' hext0 (ha'.put o.dst .undef)
  | enter f args =>
    obtain ⟨vs, e, hv⟩ := hr
    rw [e]
    refine (hK c' vs hs' hv).mono fun e w ⟨c2, h2, r, q1, q2, q3, q4, q5⟩ => ?_
    subst q1
    cases q4 with
    | ret hx => exact next q5 q3 (hext0.trans q2) ((ha'.mono q2.le).put o.dst hx)
    | pan hx => exact hpan q5 q3 (hext0.trans q2) (ha'.mono q2.le) hx
  | dfr f cs args =>
    obtain ⟨vs, us, e, hv, hu⟩ := hr
    rw [e]
    refine next hK hs' hext0 (ActR.put (a := ⟨a.tmps, ⟨f, cs, args⟩ :: a.defers⟩) (act := { act with defers := { target := .fn f vs, args := us } :: act.defers }) ⟨ha'.tmps, .cons ⟨vs, rfl, hv, hu⟩ ha'.defers⟩ o.dst .undef)
  | pan x =>
    obtain ⟨v, e, hv⟩ := hr
    rw [e]
    exact hpan hK hs' hext0 ha' hv
  | recov => exact hK.elim

theorem run_sound (hT : T.OK P) (hF : F.OK P) : ∀ (n : Nat) (k : List It) (a : AAct) (h : AH), run P T F h0 K n k a h → AStk P h0 k a h K := by
  intro n
  induction n with
  | zero => intro k a h hr; exact hr.elim
  | succ n ih =>
    intro k a h hr c0 c act hd0 he hs ha
    cases k with
    | nil => exact ⟨c, h, a, .norm, rfl, he, hs, ha, .norm, hr⟩
    | cons x k =>
      cases x with
      | code x =>
        cases x with
        | skip => exact wp_skip (ih _ _ _ hr c0 c act hd0 he hs ha)
        | label l => exact wp_label (ih _ _ _ hr c0 c act hd0 he hs ha)
        | region i all draw =>
          simp only [run] at hr
          split at hr
          · rename_i hd; subst hd; exact hr c0 c act hd0 he hs ha
          · rename_i hd
            have : draw = false := by simpa using hd
            subst this
            exact wp_region_opsL (ih _ _ _ hr c0 c act hd0 he hs ha)
        | seq x y => exact wp_seq_runs (ih _ _ _ hr c0 c act hd0 he hs ha)
        | cond o x y =>
          simp only [run] at hr
          split at hr
          · rename_i b hb
            have hv := ev_sound ha.tmps o
            rw [hb] at hv
            have : act.eval o = .bool b := by generalize act.eval o = v at hv; cases hv; rfl
            split at hr
            · rename_i hbt; subst hbt; exact wp_cond_true this (ih _ _ _ hr c0 c act hd0 he hs ha)
            · rename_i hbf
              have hb' : b = false := by simpa using hbf
              subst hb'
              exact wp_cond_false this (ih _ _ _ hr c0 c act hd0 he hs ha)
          · exact hr.elim
        | block id x => exact wp_block_runs (ih _ _ _ hr c0 c act hd0 he hs ha)
        | loop x => exact wpL_loop (hr c0 c act hd0 he hs ha)
        | exit id =>
          simp only [run] at hr
          split at hr
          · rename_i k' hk'
            exact wp_exit (runsTo_exit hk' (ih _ _ _ hr c0 c act hd0 he hs ha))
          · exact hr.elim
        | ret => exact wp_ret (runsTo_ret ⟨c, h, a, .ret, rfl, he, hs, ha, .ret, hr⟩)
        | rangeFunc f ps x y => exact hr.elim
        | scope x => exact hr.elim
        | goto l => exact hr.elim
        | refuse s => exact hr.elim
      | ops all l =>
        cases l with
        | nil => exact ih _ _ _ hr c0 c act hd0 he hs ha
        | cons o rest =>
          have off : run P T F h0 K n (.ops all rest :: k) (a.put o.dst .undef) h → opsL P all (runsTo P (QL c0 h0 K) k) rest (act.put o.dst undef) c.w := fun hr => ih _ _ _ hr c0 c _ hd0 he hs (ha.put o.dst .undef)
          have on : aop T F (ev a.tmps) h o (After P (run P T F h0 K n) K (.ops all rest :: k) a o.dst) → o.wp P act c.w (opsL P all (runsTo P (QL c0 h0 K) k) rest) (runsTo P (QL c0 h0 K) k) := fun hr => oper_sound hT hF ih hr hd0 he hs ha
          show opsL P all (runsTo P (QL c0 h0 K) k) (o :: rest) act c.w
          simp only [opsL]
          simp only [run] at hr
          cases hg : o.guard with
          | none =>
            rw [hg] at hr
            rw [if_pos (by simp [Region.wanted, hg])]
            exact on hr
          | some g =>
            obtain ⟨j, want⟩ := g
            rw [hg] at hr
            simp only at hr
            cases hy : yieldA all a.tmps j with
            | none => rw [hy] at hr; exact hr.elim
            | some r =>
              have hyr := yieldA_sound ha hy
              rw [hy] at hr
              cases r with
              | none =>
                rw [if_neg (by simp [Region.wanted, hg, hyr])]
                exact off hr
              | some b =>
                simp only at hr
                by_cases hbw : (b == want) = true
                · rw [if_pos hbw] at hr
                  rw [if_pos (by simpa [Region.wanted, hg, hyr] using hbw)]
                  exact on hr
                · rw [if_neg hbw] at hr
                  rw [if_neg (by simpa [Region.wanted, hg, hyr] using hbw)]
                  exact off hr
      | blk id => exact ih _ _ _ hr c0 c act hd0 he hs ha
      | loop x => exact hr c0 c act hd0 he hs ha

/-- A loop, one round on. -/
theorem AStk.round {x : Code} {k : List It} {a : AAct} {h : AH} (hh : AStk P h0 (.code x :: .loop x :: k) a h K) : AStk P h0 (.loop x :: k) a h K :=
  fun c0 c act hd0 he hs ha => runsTo_round (hh c0 c act hd0 he hs ha)

/-! ### Functions -/
def aResults (T : Tab) (tmps : List AV) (h : AH) : List ResultVar → (List AV → Prop) → Prop
  | [], K => K []
  | .tmp t :: rs, K => aResults T tmps h rs fun l => K (tmps.getD t .undef :: l)
  | .cell a t :: rs, K => aLoad T t (tmps.getD a .undef) h fun v _ => aResults T tmps h rs fun l => K (v :: l)

def resultOf : List AV → AV
  | [x] => x
  | l => .tup l

/-- The model's results, put together. -/
def tupleOf : List Value → Value
  | [v] => v
  | l => .tuple l.toArray

def oneResult (tmps : Array Value) : ResultVar → Sem Value
  | .tmp t => pure (tmps.getD t undef)
  | .cell a t => do loadVar t (← asAddr (tmps.getD a undef))

theorem aResults_run (hT : T.OK P) {c : Cx} {h : AH} (hs : Sim c h) {tmps : List AV} {vt : Array Value} (ht : VRs c tmps vt.toList) : ∀ {rs : List ResultVar} {K : List AV → Prop}, aResults T tmps h rs K →
    ∃ l vs, K l ∧ (rs.mapM (oneResult vt)).run P c.w = .ok vs c.w ∧ VRs c l vs := by
  intro rs
  induction rs with
  | nil => intro K hk; exact ⟨[], [], hk, rfl, .nil⟩
  | cons r rs ih =>
    intro K hk
    cases r with
    | tmp t =>
      obtain ⟨l, vs, h1, h2, h3⟩ := ih hk
      have hv := ht.getD t (d := .undef) (e := undef) .undef
      refine ⟨_, vt.getD t undef :: vs, h1, ?_, .cons (by simpa using hv) h3⟩
      rw [List.mapM_cons]
      simp only [oneResult, Sem.run_bind, Sem.run_pure, Result.andThen_ok]
      rw [h2]; rfl
    | cell a t =>
      have hv := ht.getD a (d := .undef) (e := undef) .undef
      obtain ⟨x, v, g1, g2, g3⟩ := aLoad_sound0 hT hs.rd hv hk
      obtain ⟨l, vs, h1, h2, h3⟩ := ih g1
      refine ⟨_, v :: vs, h1, ?_, .cons g3 h3⟩
      rw [List.mapM_cons]
      have hl : (oneResult vt (.cell a t)).run P c.w = .ok v c.w := by
        simp only [oneResult]
        have e : vt.toList.getD a undef = vt.getD a undef := by simp
        rw [e] at g2
        generalize vt.getD a undef = ad at g2
        simp only [Instr.loadAt, Sem.run_bind] at g2
        cases ad <;> simp only [Instr.sureAddr, run_stuck, Result.andThen_halt, reduceCtorEq] at g2
        rename_i ad
        cases ad with
        | none => simp [Instr.sureAddr] at g2
        | some ad => simpa [Instr.sureAddr, asAddr] using g2
      simp only [Sem.run_bind, hl, Result.andThen_ok, h2]
      rfl

/-- A function's end, where nothing has been deferred. -/
def EndsV (T : Tab) (rs : List ResultVar) (K : ARes → AH → Prop) : AExit → AAct → AH → Prop
  | .pan v, a, h => (match a.defers with
    | [] => K (.pan v) h
    | _ => False)
  | _, a, h => (match a.defers with
    | [] => aResults T a.tmps h rs fun l => K (.ret (resultOf l)) h
    | _ => False)

theorem results_run {fn : Func} {fi : FnI} (hr : fn.results.toList = fi.results) {w : World} {vt : Array Value} {vs : List Value} (h : (fi.results.mapM (oneResult vt)).run P w = .ok vs w) :
    (results fn vt).run P w = .ok (tupleOf vs) w := by
  have h1 : (fn.results.mapM (oneResult vt)).run P w = .ok vs.toArray w := by
    rw [Array.mapM_eq_mapM_toList, hr]
    simp [h]
  have h2 : results fn vt = (do let vs ← fn.results.mapM (oneResult vt); pure (if h : vs.size = 1 then vs[0] else .tuple vs)) := by
    unfold results
    congr 1
  rw [h2]
  simp only [Sem.run_bind, h1, Result.andThen_ok, Sem.run_pure]
  congr 1
  match vs with
  | [] => rfl
  | [v] => rfl
  | v :: u :: l => simp [tupleOf]

theorem calls_of_stk (hT : T.OK P) {f : FuncId} {fi : FnI} (hf : FnOK P f fi) {args : List AV} {h : AH} {K : ARes → AH → Prop}
    (hh : AStk P h [.code fi.body] ⟨args ++ List.replicate (fi.ntmps - args.length) .undef, []⟩ h (EndsV T fi.results K)) : ACalls P f args h K := by
  intro c vs hs hv
  obtain ⟨fn, h1, h2, h3, h4, _⟩ := hf.fn
  refine calls_of_wp h1 h2 ?_
  have hlen : args.length = vs.size := by simpa using hv.1
  have hrep : ∀ n, VRs c (List.replicate n AV.undef) (List.replicate n undef) := fun n => ⟨by simp, fun i x v a b => by
    have := List.mem_of_getElem? a
    have hb := List.mem_of_getElem? b
    rw [List.mem_replicate] at this hb
    rw [this.2, hb.2]; exact .undef⟩
  have ha : ActR c ⟨args ++ List.replicate (fi.ntmps - args.length) .undef, []⟩ { tmps := vs ++ Array.replicate (fn.ntmps - vs.size) undef, defers := [] } :=
    ⟨by simp only [Array.toList_append, Array.toList_replicate, h3, ← hlen]; exact hv.append (hrep _), .nil⟩
  have := hh c c _ hs.dom (Ext.refl c h) hs ha
  simp only [runsTo] at this
  refine wp_mono this fun e act w hq => ?_
  obtain ⟨c', h', a', e', q1, q2, q3, q4, q5, q6⟩ := hq
  subst q1
  have hend : ∀ {l : List AV} {us : List Value}, VRs c' l us → VR c' (resultOf l) (tupleOf us) := fun {l us} hl => by
    match l, us, hl with
    | [], [], hl => exact VR.of_tup hl
    | [x], [v], hl => exact hl.2 0 x v rfl rfl
    | x :: y :: l, v :: u :: us, hl => exact VR.of_tup hl
    | [], _ :: _, hl => exact absurd hl.1 (by simp)
    | [_], [], hl => exact absurd hl.1 (by simp)
    | [_], _ :: _ :: _, hl => exact absurd hl.1 (by simp)
    | _ :: _ :: _, [], hl => exact absurd hl.1 (by simp)
    | _ :: _ :: _, [_], hl => exact absurd hl.1 (by simp)
  cases q5 with
  | norm =>
    simp only [EndsV] at q6
    split at q6
    · rename_i hd
      obtain ⟨l, us, g1, g2, g3⟩ := aResults_run hT q3 q4.tmps q6
      have hdd := q4.defers
      rw [hd] at hdd
      refine ⟨?_, _, results_run h4 g2, c', h', _, rfl, q2, q3, .ret (hend g3), g1⟩
      generalize act.defers = dd at hdd
      cases hdd; rfl
    · exact q6.elim
  | ret =>
    simp only [EndsV] at q6
    split at q6
    · rename_i hd
      obtain ⟨l, us, g1, g2, g3⟩ := aResults_run hT q3 q4.tmps q6
      have hdd := q4.defers
      rw [hd] at hdd
      refine ⟨?_, _, results_run h4 g2, c', h', _, rfl, q2, q3, .ret (hend g3), g1⟩
      generalize act.defers = dd at hdd
      cases hdd; rfl
    · exact q6.elim
  | pan hx =>
    simp only [EndsV] at q6
    split at q6
    · rename_i hd
      have hdd := q4.defers
      rw [hd] at hdd
      refine ⟨?_, c', h', _, rfl, q2, q3, .pan hx, q6⟩
      generalize act.defers = dd at hdd
      cases hdd; rfl
    · exact q6.elim

/-- A call, by the function's own code. -/
theorem calls_of_run (hT : T.OK P) (hF : F.OK P) {f : FuncId} {fi : FnI} (hf : F f = some fi) (n : Nat) {args : List AV} {h : AH} {K : ARes → AH → Prop}
    (hh : run P T F h (EndsV T fi.results K) n [.code fi.body] ⟨args ++ List.replicate (fi.ntmps - args.length) .undef, []⟩ h) : ACalls P f args h K :=
  calls_of_stk hT (hF f fi hf) (run_sound hT hF n _ _ _ hh)

end
end Go.Vm


/- The abstract machine, part 13: the tables, read off a program. -/
namespace Go.Vm
open Go

def tabOf (P : Program) : Tab := fun t =>
  match P.underlying t, P.info? t with
  | some d, some i => (match i.zero with
    | some z => if z.cells.size = i.size ∧ z.cells.toList.all Value.oneCell' = true then some ⟨d, i.size, i.bytes, z⟩ else none
    | none => none)
  | _, _ => none

theorem tabOf_ok (P : Program) : (tabOf P).OK P := by
  intro t ti h
  unfold tabOf at h
  split at h
  · rename_i d i hd hi
    split at h
    · rename_i z hz
      split at h
      · rename_i hc
        cases h
        exact ⟨hd, ⟨i, hi, rfl, rfl, hz⟩, hc.1, fun v hv => by have := hc.2; rw [List.all_eq_true] at this; exact this v hv⟩
      · cases h
    · cases h
  · cases h

def fnOf (P : Program) : FTab := fun f =>
  match P.funcs[f]? with
  | some fn => (match fn.body with
    | some b => if (fn.name == "runtime.NumGoroutine") = false then some ⟨fn.ntmps, fn.results.toList, b⟩ else none
    | none => none)
  | none => none

theorem fnOf_ok (P : Program) : (fnOf P).OK P := by
  intro f fi h
  unfold fnOf at h
  split at h
  · rename_i fn hf
    split at h
    · rename_i b hb
      split at h
      · rename_i hn
        cases h
        exact ⟨fn, hf, hb, rfl, rfl, hn⟩
      · cases h
    · cases h
  · cases h

/-- A call, by the function's own code. -/
theorem calls_run {P : Program} (n : Nat) {f : FuncId} {fi : FnI} (hf : fnOf P f = some fi) {args : List AV} {h : AH} {K : ARes → AH → Prop}
    (hh : run P (tabOf P) (fnOf P) h (EndsV (tabOf P) fi.results K) n [.code fi.body] ⟨args ++ List.replicate (fi.ntmps - args.length) .undef, []⟩ h) : ACalls P f args h K :=
  calls_of_run (tabOf_ok P) (fnOf_ok P) hf n hh

/-- Further on in a function. -/
theorem stk_run {P : Program} (n : Nat) {h0 : AH} {k : List It} {a : AAct} {h : AH} {K : AExit → AAct → AH → Prop} (hh : run P (tabOf P) (fnOf P) h0 K n k a h) : AStk P h0 k a h K :=
  run_sound (tabOf_ok P) (fnOf_ok P) n k a h hh

end Go.Vm


/- The abstract machine, part 14: values that name no block; calls that are known without any block; a new block in a free place. -/
namespace Go.Vm
open Go

/-- It names no block: what it stands for doesn't hang on where the blocks lie. -/
def Closed (x : AV) : Prop := ∀ (c : Cx) (φ : Nat → Option Loc) (v : Value), VR c x v → VR ⟨φ, c.L, c.w⟩ x v

theorem Closed.int {k : IntKind} {n : Int} : Closed (.int k n) := fun c φ v h => by cases h; exact .int
theorem Closed.bool {b : Bool} : Closed (.bool b) := fun c φ v h => by cases h; exact .bool
theorem Closed.str {s : ByteArray} : Closed (.str s) := fun c φ v h => by cases h; exact .str
theorem Closed.nilp : Closed .nilp := fun c φ v h => by cases h; exact .nilp
theorem Closed.nils : Closed .nils := fun c φ v h => by cases h; exact .nils
theorem Closed.nilm : Closed .nilm := fun c φ v h => by cases h; exact .nilm
theorem Closed.nilf : Closed .nilf := fun c φ v h => by cases h; exact .nilf
theorem Closed.nili : Closed .nili := fun c φ v h => by cases h; exact .nili
theorem Closed.undef : Closed .undef := fun c φ v h => by cases h; exact .undef
theorem Closed.dead : Closed .dead := fun c φ v h => by cases h; exact .dead (by assumption)
theorem Closed.any : Closed .any := fun c φ v h => by cases h; exact .any
theorem Closed.iface {t : TypeId} {x : AV} (hx : Closed x) : Closed (.iface t x) := fun c φ v h => by cases h with | iface h => exact .iface (hx c φ _ h)
theorem Closed.agg {cs : List AV} (hx : ∀ x ∈ cs, Closed x) : Closed (.agg cs) := fun c φ v h => by
  cases h with | agg h0 h1 h2 => exact .agg h0 h1 fun i x v a b => hx x (List.mem_of_getElem? a) c φ v (h2 i x v a b)
theorem Closed.tup {cs : List AV} (hx : ∀ x ∈ cs, Closed x) : Closed (.tup cs) := fun c φ v h => by
  cases h with | tup h1 h2 => exact .tup h1 fun i x v a b => hx x (List.mem_of_getElem? a) c φ v (h2 i x v a b)
theorem Closed.fn {f : Fn} {xs ys : List AV} (hx : ∀ x ∈ xs, Closed x) (hy : ∀ x ∈ ys, Closed x) : Closed (.fn f xs ys) := fun c φ v h => by
  cases h with | fn h1 h2 h3 h4 => exact .fn h1 h2 (fun i x v a b => hx x (List.mem_of_getElem? a) c φ v (h3 i x v a b)) (fun i x v a b => hy x (List.mem_of_getElem? a) c φ v (h4 i x v a b))
theorem Closed.ro {sz : Nat} {es : List (List AV)} (hx : ∀ e ∈ es, ∀ x ∈ e, Closed x) : Closed (.ro sz es) := fun c φ v h => by
  cases h with
  | ro vals hlen hcap hsz hc hv => exact .ro vals hlen hcap hsz hc fun i e j x a b => hx e (List.mem_of_getElem? a) x (List.mem_of_getElem? b) c φ _ (hv i e j x a b)
  | roNil => exact .roNil
theorem Closed.rop {sz i off : Nat} {es : List (List AV)} (hx : ∀ e ∈ es, ∀ x ∈ e, Closed x) : Closed (.rop sz es i off) := fun c φ v h => by
  cases h with
  | rop vals hi hsz hc hv => exact .rop vals hi hsz hc fun i e j x a b => hx e (List.mem_of_getElem? a) x (List.mem_of_getElem? b) c φ _ (hv i e j x a b)

def ResClosed : ARes → Prop
  | .ret x => Closed x
  | .pan x => Closed x

theorem ResR.closed {c : Cx} {r : ARes} {e : Ending} (hr : ResClosed r) (h : ResR c r e) (φ : Nat → Option Loc) : ResR ⟨φ, c.L, c.w⟩ r e := by
  cases h with
  | ret hx => exact .ret (hr c φ _ hx)
  | pan hx => exact .pan (hr c φ _ hx)

/-- What is known of a call without any block holds whatever blocks there are. -/
theorem ACalls.frame {P : Program} {f : FuncId} {args : List AV} {h : AH} {K0 K : ARes → AH → Prop} (ha : ∀ x ∈ args, Closed x) (hh : ACalls P f args [] K0) (hk : ∀ r h', K0 r h' → ResClosed r ∧ K r h) : ACalls P f args h K := by
  intro c vs hs hv
  have hs0 : Sim ⟨fun _ => none, c.L, c.w⟩ [] := ⟨fun _ _ => rfl, fun i b e => by simp at e, fun i j li lj ⟨b, e, _⟩ => by simp at e, hs.lock⟩
  have hv0 : VRs ⟨fun _ => none, c.L, c.w⟩ args vs.toList := ⟨hv.1, fun i x v a b => ha x (List.mem_of_getElem? a) c _ v (hv.2 i x v a b)⟩
  refine (hh ⟨fun _ => none, c.L, c.w⟩ vs hs0 hv0).mono fun e w ⟨c1, h1, r, q1, q2, q3, q4, q5⟩ => ?_
  subst q1
  obtain ⟨k1, k2⟩ := hk r h1 q5
  have hno : ∀ b, ¬ Owns ⟨fun _ => none, c.L, c.w⟩ [] b := fun b ⟨i, l, ⟨bl, e, _⟩, _⟩ => by simp at e
  have hle : Le c ⟨c.φ, c1.L, c1.w⟩ := ⟨fun _ _ e => e, q2.le.L, q2.le.cell⟩
  refine ⟨⟨c.φ, c1.L, c1.w⟩, h, r, rfl, ⟨hle, q2.size, fun b hb _ => q2.frame b hb (hno b), fun b hb => .inr hb, q2.os, q2.tape, q2.output⟩, ⟨hs.dom, fun i b e1 e2 => ?_, hs.inj, q3.lock⟩, q4.closed k1 c.φ, k2⟩
  obtain ⟨l, f1, f2, f3⟩ := hs.blk i b e1 e2
  obtain ⟨g1, g2⟩ := q2.frame l.b f2 (hno _)
  exact ⟨l, f1, Nat.lt_of_lt_of_le f2 q2.size, f3.mono hle g1 g2⟩

section
variable {c : Cx} {h : AH}

/-- A new block in a free place. -/
theorem Sim.newAt (hs : Sim c h) {k : Nat} {o : Obj} {b : AB} {l : Loc} {w' : World} (hk : h[k]? = some .dead) (hφ : c.φ k = none) (hl : l.b = c.w.heap.size) (hw : w'.heap = c.w.heap.push o)
    (h1 : w'.os = c.w.os) (h2 : w'.tape = c.w.tape) (h3 : w'.output = c.w.output)
    (hBR : Le c ⟨Vm.upd c.φ k l, c.L, w'⟩ → c.L l.b = 0 → BR ⟨Vm.upd c.φ k l, c.L, w'⟩ l b) :
    Sim ⟨Vm.upd c.φ k l, c.L, w'⟩ (h.set k b) ∧ Ext c h ⟨Vm.upd c.φ k l, c.L, w'⟩ (h.set k b) := by
  have hlt : k < h.length := (List.getElem?_eq_some_iff.1 hk).1
  have hold : ∀ x, x < c.w.heap.size → w'.heap[x]? = c.w.heap[x]? := fun x hx => by rw [hw, Array.getElem?_push, if_neg (by omega)]
  have hsz : w'.heap.size = c.w.heap.size + 1 := by rw [hw]; simp
  have hle : Le c ⟨Vm.upd c.φ k l, c.L, w'⟩ := by
    refine ⟨fun i l' e => ?_, fun _ => Nat.le_refl _, fun b o ho => World.cell?_heap (hold b (hs.lock b (by omega)))⟩
    show Vm.upd c.φ k l i = some l'
    rw [upd_ne]; · exact e
    intro hi; rw [hi, hφ] at e; cases e
  have hL : c.L l.b = 0 := by
    rcases Nat.eq_zero_or_pos (c.L l.b) with h' | h'
    · exact h'
    · have := hs.lock _ h'; omega
  have hB := hBR hle hL
  have hown : ∀ i l', liveAt (h.set k b) i → Vm.upd c.φ k l i = some l' → (i = k ∧ l' = l) ∨ (i ≠ k ∧ liveAt h i ∧ c.φ i = some l') := by
    intro i l' hli e
    by_cases hi : i = k
    · subst hi; rw [upd_same] at e; cases e; exact .inl ⟨rfl, rfl⟩
    · rw [upd_ne hi] at e
      exact .inr ⟨hi, (liveAt_set_ne hi).1 hli, e⟩
  have hltb : ∀ i l', liveAt h i → c.φ i = some l' → l'.b < c.w.heap.size := fun i l' hli e => Owns.lt hs ⟨i, l', hli, e, rfl⟩
  refine ⟨⟨fun i hi => ?_, fun i bl e1 e2 => ?_, fun i j li lj hi hj hij ei ej => ?_, fun b hb => ?_⟩, ⟨hle, by simp [hsz], fun b hb _ => ⟨hold b hb, rfl⟩, fun b hb => ?_, h1, h2, h3⟩⟩
  · simp at hi
    show Vm.upd c.φ k l i = none
    rw [upd_ne (by omega)]; exact hs.dom i (by omega)
  · by_cases hi : i = k
    · subst hi
      rw [List.getElem?_set_self hlt] at e1
      cases e1
      exact ⟨l, upd_same, by show l.b < w'.heap.size; omega, hB⟩
    · rw [List.getElem?_set_ne (Ne.symm hi)] at e1
      obtain ⟨l', f1, f2, f3⟩ := hs.blk i bl e1 e2
      exact ⟨l', (upd_ne hi).trans f1, by show l'.b < w'.heap.size; omega, f3.mono hle (hold _ f2) rfl⟩
  · rcases hown i li hi ei with ⟨e1, e2⟩ | ⟨e1, e2, e3⟩ <;> rcases hown j lj hj ej with ⟨g1, g2⟩ | ⟨g1, g2, g3⟩
    · omega
    · subst e2; have := hltb j lj g2 g3; omega
    · subst g2; have := hltb i li e2 e3; omega
    · exact hs.inj i j li lj e2 g2 hij e3 g3
  · have := hs.lock b hb; show b < w'.heap.size; omega
  · obtain ⟨i, l', hli, e, rfl⟩ := hb
    rcases hown i l' hli e with ⟨_, e2⟩ | ⟨_, e2, e3⟩
    · subst e2; exact .inl (by omega)
    · exact .inr ⟨i, l', e2, e3, rfl⟩

/-- More free places. -/
theorem Sim.pad (hs : Sim c h) (n : Nat) : Sim c (h ++ List.replicate n .dead) ∧ Ext c h c (h ++ List.replicate n .dead) := by
  have hlv : ∀ i, liveAt (h ++ List.replicate n .dead) i → liveAt h i := fun i ⟨b, e1, e2⟩ => by
    rcases Nat.lt_or_ge i h.length with hi | hi
    · rw [List.getElem?_append_left hi] at e1; exact ⟨b, e1, e2⟩
    · rw [List.getElem?_append_right hi] at e1
      have := List.mem_of_getElem? e1
      rw [List.mem_replicate] at this
      rw [this.2] at e2; cases e2
  refine ⟨⟨fun i hi => hs.dom i (by simp at hi; omega), fun i b e1 e2 => ?_, fun i j li lj hi hj => hs.inj i j li lj (hlv i hi) (hlv j hj), hs.lock⟩, ⟨Le.refl c, Nat.le_refl _, fun _ _ _ => ⟨rfl, rfl⟩, fun b hb => ?_, rfl, rfl, rfl⟩⟩
  · obtain ⟨b', f1, f2⟩ := hlv i ⟨b, e1, e2⟩
    have : i < h.length := liveAt_lt ⟨b', f1, f2⟩
    rw [List.getElem?_append_left this] at e1
    exact hs.blk i b e1 e2
  · obtain ⟨i, l, hi, e, rfl⟩ := hb
    exact .inr ⟨i, l, hlv i hi, e, rfl⟩

end
end Go.Vm
