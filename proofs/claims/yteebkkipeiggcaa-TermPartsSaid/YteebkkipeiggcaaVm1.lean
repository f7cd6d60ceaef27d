/- The abstract machine, part 1: what a new block, a store, an append in place, a block that falls away or is written no more do to the relation. -/
import Derived.Test.YteebkkipeiggcaaVm0
set_option linter.unusedVariables false
set_option linter.unusedSimpArgs false
namespace Go.Vm
open Go

def upd (φ : Nat → Option Loc) (k : Nat) (l : Loc) : Nat → Option Loc := fun i => if i = k then some l else φ i

theorem upd_same {φ : Nat → Option Loc} {k : Nat} {l : Loc} : upd φ k l k = some l := by simp [upd]
theorem upd_ne {φ : Nat → Option Loc} {k i : Nat} {l : Loc} (h : i ≠ k) : upd φ k l i = φ i := by simp [upd, h]

theorem World.cell?_heap {w w' : World} {a : Addr} (h : w'.heap[a.block]? = w.heap[a.block]?) : w'.cell? a = w.cell? a := by simp [World.cell?, h]

theorem liveAt_append {h : AH} {b : AB} {i : Nat} (hi : i < h.length) : liveAt (h ++ [b]) i ↔ liveAt h i := by
  simp [liveAt, List.getElem?_append_left hi]

theorem liveAt_lt {h : AH} {i : Nat} (hl : liveAt h i) : i < h.length := by
  obtain ⟨b, hb, _⟩ := hl
  exact (List.getElem?_eq_some_iff.1 hb).1

theorem liveAt_set_ne {h : AH} {b : AB} {i id : Nat} (hi : i ≠ id) : liveAt (h.set id b) i ↔ liveAt h i := by
  simp [liveAt, List.getElem?_set_ne (Ne.symm hi)]

section
variable {c : Cx} {h : AH}

/-- Only the world's count of draws, or nothing that matters, has turned. -/
theorem Le.world {w' : World} (hh : w'.heap = c.w.heap) : Le c ⟨c.φ, c.L, w'⟩ :=
  ⟨fun _ _ e => e, fun _ => Nat.le_refl _, fun b o _ => World.cell?_heap (by rw [hh])⟩

theorem Sim.world (hs : Sim c h) {w' : World} (hh : w'.heap = c.w.heap) (h1 : w'.os = c.w.os) (h2 : w'.tape = c.w.tape) (h3 : w'.output = c.w.output) :
    Sim ⟨c.φ, c.L, w'⟩ h ∧ Ext c h ⟨c.φ, c.L, w'⟩ h := by
  refine ⟨⟨hs.dom, fun i b e1 e2 => ?_, hs.inj, fun b hb => by rw [hh]; exact hs.lock b hb⟩, ⟨Le.world hh, by simp [hh], fun b _ _ => ⟨by simp [hh], rfl⟩, fun b hb => .inr hb, h1, h2, h3⟩⟩
  obtain ⟨l, f1, f2, f3⟩ := hs.blk i b e1 e2
  exact ⟨l, f1, by rw [hh]; exact f2, f3.mono (Le.world hh) (by simp [hh]) rfl⟩

/-- A new block. -/
theorem Sim.new (hs : Sim c h) {o : Obj} {b : AB} {l : Loc} {w' : World} (hl : l.b = c.w.heap.size) (hw : w'.heap = c.w.heap.push o)
    (h1 : w'.os = c.w.os) (h2 : w'.tape = c.w.tape) (h3 : w'.output = c.w.output)
    (hBR : Le c ⟨upd c.φ h.length l, c.L, w'⟩ → c.L l.b = 0 → BR ⟨upd c.φ h.length l, c.L, w'⟩ l b) :
    Sim ⟨upd c.φ h.length l, c.L, w'⟩ (h ++ [b]) ∧ Ext c h ⟨upd c.φ h.length l, c.L, w'⟩ (h ++ [b]) := by
  have hold : ∀ x, x < c.w.heap.size → w'.heap[x]? = c.w.heap[x]? := fun x hx => by rw [hw, Array.getElem?_push, if_neg (by omega)]
  have hsz : w'.heap.size = c.w.heap.size + 1 := by rw [hw]; simp
  have hle : Le c ⟨upd c.φ h.length l, c.L, w'⟩ := by
    refine ⟨fun i l' e => ?_, fun _ => Nat.le_refl _, fun b o ho => World.cell?_heap (hold b (hs.lock b (by omega)))⟩
    show upd c.φ h.length l i = some l'
    rw [upd_ne]; · exact e
    intro hi; rw [hs.dom i (by omega)] at e; cases e
  have hL : c.L l.b = 0 := by
    rcases Nat.eq_zero_or_pos (c.L l.b) with h' | h'
    · exact h'
    · have := hs.lock _ h'; omega
  have hB := hBR hle hL
  have hblk : ∀ i bl, i < h.length → h[i]? = some bl → bl.live = true → ∃ l', upd c.φ h.length l i = some l' ∧ l'.b < c.w.heap.size ∧ BR ⟨upd c.φ h.length l, c.L, w'⟩ l' bl := by
    intro i bl hi e1 e2
    obtain ⟨l', f1, f2, f3⟩ := hs.blk i bl e1 e2
    exact ⟨l', by rw [upd_ne (by omega)]; exact f1, f2, f3.mono hle (hold _ f2) rfl⟩
  have hown : ∀ i l', liveAt (h ++ [b]) i → upd c.φ h.length l i = some l' → (i = h.length ∧ l' = l) ∨ (i < h.length ∧ liveAt h i ∧ c.φ i = some l') := by
    intro i l' hli e
    have hlt := liveAt_lt hli
    simp at hlt
    by_cases hi : i = h.length
    · subst hi; rw [upd_same] at e; cases e; exact .inl ⟨rfl, rfl⟩
    · have hi' : i < h.length := by omega
      rw [upd_ne hi] at e
      exact .inr ⟨hi', (liveAt_append hi').1 hli, e⟩
  have hltb : ∀ i l', liveAt h i → c.φ i = some l' → l'.b < c.w.heap.size := fun i l' hli e => Owns.lt hs ⟨i, l', hli, e, rfl⟩
  refine ⟨⟨fun i hi => ?_, fun i bl e1 e2 => ?_, fun i j li lj hi hj hij ei ej => ?_, fun b hb => ?_⟩, ⟨hle, by simp [hsz], fun b hb _ => ⟨hold b hb, rfl⟩, fun b hb => ?_, h1, h2, h3⟩⟩
  · simp at hi
    show upd c.φ h.length l i = none
    rw [upd_ne (by omega)]; exact hs.dom i (by omega)
  · rcases Nat.lt_or_ge i h.length with hi | hi
    · rw [List.getElem?_append_left hi] at e1
      obtain ⟨l', f1, f2, f3⟩ := hblk i bl hi e1 e2
      exact ⟨l', f1, by show l'.b < w'.heap.size; omega, f3⟩
    · rw [List.getElem?_append_right hi] at e1
      have hi2 : i - h.length = 0 := by
        rcases Nat.eq_zero_or_pos (i - h.length) with h' | h'
        · exact h'
        · rw [List.getElem?_eq_none (by simp; omega)] at e1; cases e1
      have : i = h.length := by omega
      subst this
      simp at e1; subst e1
      exact ⟨l, upd_same, by show l.b < w'.heap.size; omega, hB⟩
  · rcases hown i li hi ei with ⟨e1, e2⟩ | ⟨e1, e2, e3⟩ <;> rcases hown j lj hj ej with ⟨g1, g2⟩ | ⟨g1, g2, g3⟩
    · omega
    · subst e2; have := hltb j lj g2 g3; omega
    · subst g2; have := hltb i li e2 e3; omega
    · exact hs.inj i j li lj e2 g2 hij e3 g3
  · have := hs.lock b hb; show b < w'.heap.size; omega
  · obtain ⟨i, l', hli, e, rfl⟩ := hb
    rcases hown i l' hli e with ⟨_, e2⟩ | ⟨_, e2, e3⟩
    · subst e2; exact .inl (by omega)
    · exact .inr ⟨i, l', e2, e3, rfl⟩

theorem Le.upd_world {id : Nat} {l : Loc} {w' : World} (hoth : ∀ x, x ≠ l.b → w'.heap[x]? = c.w.heap[x]?)
    (hcell : ∀ o, o < c.L l.b → w'.cell? ⟨l.b, o, none⟩ = c.w.cell? ⟨l.b, o, none⟩) : Le c ⟨c.φ, c.L, w'⟩ := by
  have _ := id
  refine ⟨fun _ _ e => e, fun _ => Nat.le_refl _, fun b o ho => ?_⟩
  by_cases hb : b = l.b
  · subst hb; exact hcell o ho
  · exact World.cell?_heap (hoth b hb)

/-- A block's content turns. -/
theorem Sim.upd (hs : Sim c h) {id : Nat} {b b' : AB} {l : Loc} {w' : World} (hid : h[id]? = some b) (hlive : b.live = true) (hφ : c.φ id = some l)
    (hsz : w'.heap.size = c.w.heap.size) (hoth : ∀ x, x ≠ l.b → w'.heap[x]? = c.w.heap[x]?)
    (hcell : ∀ o, o < c.L l.b → w'.cell? ⟨l.b, o, none⟩ = c.w.cell? ⟨l.b, o, none⟩)
    (h1 : w'.os = c.w.os) (h2 : w'.tape = c.w.tape) (h3 : w'.output = c.w.output)
    (hBR : Le c ⟨c.φ, c.L, w'⟩ → BR ⟨c.φ, c.L, w'⟩ l b') : Sim ⟨c.φ, c.L, w'⟩ (h.set id b') ∧ Ext c h ⟨c.φ, c.L, w'⟩ (h.set id b') := by
  have hle : Le c ⟨c.φ, c.L, w'⟩ := Le.upd_world (id := id) hoth hcell
  have hB := hBR hle
  have hll : liveAt h id := ⟨b, hid, hlive⟩
  have hlt : id < h.length := liveAt_lt hll
  have hlv : ∀ i, liveAt (h.set id b') i → liveAt h i := fun i hi => by
    by_cases hii : i = id
    · subst hii; exact hll
    · exact (liveAt_set_ne hii).1 hi
  refine ⟨⟨fun i hi => hs.dom i (by simpa using hi), fun i bl e1 e2 => ?_, fun i j li lj hi hj => hs.inj i j li lj (hlv i hi) (hlv j hj), fun x hx => ?_⟩, ⟨hle, by simp [hsz], fun x hx hno => ⟨hoth x fun hxe => hno ⟨id, l, hll, hφ, hxe.symm⟩, rfl⟩, fun x hx => ?_, h1, h2, h3⟩⟩
  · by_cases hii : i = id
    · subst hii
      rw [List.getElem?_set_self hlt] at e1
      cases e1
      refine ⟨l, hφ, ?_, hB⟩
      show l.b < w'.heap.size
      rw [hsz]; exact Owns.lt hs ⟨i, l, hll, hφ, rfl⟩
    · rw [List.getElem?_set_ne (Ne.symm hii)] at e1
      obtain ⟨l', f1, f2, f3⟩ := hs.blk i bl e1 e2
      exact ⟨l', f1, by show l'.b < w'.heap.size; rw [hsz]; exact f2, f3.mono hle (hoth _ (hs.inj i id l' l ⟨bl, e1, e2⟩ hll hii f1 hφ)) rfl⟩
  · show x < w'.heap.size
    rw [hsz]; exact hs.lock x hx
  · obtain ⟨i, l', hi, e, rfl⟩ := hx
    exact .inr ⟨i, l', hlv i hi, e, rfl⟩

/-- A block falls away. -/
theorem Sim.kill (hs : Sim c h) (id : Nat) : Sim c (h.set id .dead) ∧ Ext c h c (h.set id .dead) := by
  have hlv : ∀ i, liveAt (h.set id .dead) i → liveAt h i ∧ i ≠ id := fun i hi => by
    by_cases hii : i = id
    · subst hii
      obtain ⟨b, e1, e2⟩ := hi
      rw [List.getElem?_set_self (by simpa using (List.getElem?_eq_some_iff.1 e1).1)] at e1
      cases e1; cases e2
    · exact ⟨(liveAt_set_ne hii).1 hi, hii⟩
  refine ⟨⟨fun i hi => hs.dom i (by simpa using hi), fun i bl e1 e2 => ?_, fun i j li lj hi hj => hs.inj i j li lj (hlv i hi).1 (hlv j hj).1, hs.lock⟩,
    ⟨Le.refl c, Nat.le_refl _, fun _ _ _ => ⟨rfl, rfl⟩, fun b hb => ?_, rfl, rfl, rfl⟩⟩
  · have hii := (hlv i ⟨bl, e1, e2⟩).2
    rw [List.getElem?_set_ne (Ne.symm hii)] at e1
    exact hs.blk i bl e1 e2
  · obtain ⟨i, l', hi, e, rfl⟩ := hb
    exact .inr ⟨i, l', (hlv i hi).1, e, rfl⟩

/-- A block that is the last user of a row of the model's memory hands it on to a new one: an append in place. -/
theorem Sim.move (hs : Sim c h) {id : Nat} {b b' : AB} {l l' : Loc} {w' : World} (hid : h[id]? = some b) (hlive : b.live = true) (hφ : c.φ id = some l) (hl : l'.b = l.b)
    (hsz : w'.heap.size = c.w.heap.size) (hoth : ∀ x, x ≠ l.b → w'.heap[x]? = c.w.heap[x]?)
    (hcell : ∀ o, o < c.L l.b → w'.cell? ⟨l.b, o, none⟩ = c.w.cell? ⟨l.b, o, none⟩)
    (h1 : w'.os = c.w.os) (h2 : w'.tape = c.w.tape) (h3 : w'.output = c.w.output)
    (hBR : Le c ⟨Vm.upd c.φ h.length l', c.L, w'⟩ → BR ⟨Vm.upd c.φ h.length l', c.L, w'⟩ l' b') :
    Sim ⟨Vm.upd c.φ h.length l', c.L, w'⟩ (h.set id .dead ++ [b']) ∧ Ext c h ⟨Vm.upd c.φ h.length l', c.L, w'⟩ (h.set id .dead ++ [b']) := by
  have hle0 : Le c ⟨c.φ, c.L, w'⟩ := Le.upd_world (id := id) hoth hcell
  have hle : Le c ⟨Vm.upd c.φ h.length l', c.L, w'⟩ := by
    refine ⟨fun i l'' e => ?_, hle0.L, hle0.cell⟩
    show Vm.upd c.φ h.length l' i = some l''
    rw [upd_ne]; · exact e
    intro hi; rw [hs.dom i (by omega)] at e; cases e
  have hB := hBR hle
  have hll : liveAt h id := ⟨b, hid, hlive⟩
  have hlt : id < h.length := liveAt_lt hll
  have hlen : (h.set id .dead).length = h.length := by simp
  have hlv : ∀ i l'', liveAt (h.set id .dead ++ [b']) i → Vm.upd c.φ h.length l' i = some l'' → (i = h.length ∧ l'' = l') ∨ (i ≠ id ∧ i < h.length ∧ liveAt h i ∧ c.φ i = some l'') := by
    intro i l'' hi e
    have hlti := liveAt_lt hi
    simp at hlti
    by_cases hie : i = h.length
    · subst hie; rw [upd_same] at e; cases e; exact .inl ⟨rfl, rfl⟩
    · have hi' : i < h.length := by omega
      rw [upd_ne hie] at e
      have hi2 := (liveAt_append (by rw [hlen]; exact hi')).1 hi
      by_cases hii : i = id
      · subst hii
        obtain ⟨bb, e1, e2⟩ := hi2
        rw [List.getElem?_set_self hlt] at e1
        cases e1; cases e2
      · exact .inr ⟨hii, hi', (liveAt_set_ne hii).1 hi2, e⟩
  refine ⟨⟨fun i hi => ?_, fun i bl e1 e2 => ?_, fun i j li lj hi hj hij ei ej => ?_, fun x hx => ?_⟩, ⟨hle, by simp [hsz], fun x hx hno => ⟨hoth x fun hxe => hno ⟨id, l, hll, hφ, hxe.symm⟩, rfl⟩, fun x hx => ?_, h1, h2, h3⟩⟩
  · simp at hi
    show Vm.upd c.φ h.length l' i = none
    rw [upd_ne (by omega)]; exact hs.dom i (by omega)
  · rcases Nat.lt_or_ge i h.length with hi | hi
    · rw [List.getElem?_append_left (by rw [hlen]; exact hi)] at e1
      by_cases hii : i = id
      · subst hii; rw [List.getElem?_set_self hlt] at e1; cases e1; cases e2
      · rw [List.getElem?_set_ne (Ne.symm hii)] at e1
        obtain ⟨l'', f1, f2, f3⟩ := hs.blk i bl e1 e2
        exact ⟨l'', (upd_ne (by omega)).trans f1, by show l''.b < w'.heap.size; rw [hsz]; exact f2, f3.mono hle (hoth _ (hs.inj i id l'' l ⟨bl, e1, e2⟩ hll hii f1 hφ)) rfl⟩
    · rw [List.getElem?_append_right (by rw [hlen]; exact hi)] at e1
      have hi2 : i - (h.set id .dead).length = 0 := by
        rcases Nat.eq_zero_or_pos (i - (h.set id .dead).length) with h' | h'
        · exact h'
        · rw [List.getElem?_eq_none (by simp at h' ⊢; omega)] at e1; cases e1
      rw [hlen] at hi2
      have : i = h.length := by omega
      subst this
      simp at e1; subst e1
      exact ⟨l', upd_same, by show l'.b < w'.heap.size; rw [hsz, hl]; exact Owns.lt hs ⟨id, l, hll, hφ, rfl⟩, hB⟩
  · rcases hlv i li hi ei with ⟨e1, e2⟩ | ⟨e0, e1, e2, e3⟩ <;> rcases hlv j lj hj ej with ⟨g1, g2⟩ | ⟨g0, g1, g2, g3⟩
    · omega
    · subst e2; rw [hl]; exact hs.inj id j l lj hll g2 (Ne.symm g0) hφ g3
    · subst g2; rw [hl]; exact hs.inj i id li l e2 hll e0 e3 hφ
    · exact hs.inj i j li lj e2 g2 hij e3 g3
  · show x < w'.heap.size
    rw [hsz]; exact hs.lock x hx
  · obtain ⟨i, l'', hi, e, rfl⟩ := hx
    rcases hlv i l'' hi e with ⟨_, e2⟩ | ⟨_, _, e2, e3⟩
    · subst e2; exact .inr ⟨id, l, hll, hφ, hl.symm⟩
    · exact .inr ⟨i, l'', e2, e3, rfl⟩

/-- An own row is written no more (as far as it reaches). -/
theorem Sim.lockRow (hs : Sim c h) {id sz : Nat} {es : List (List AV)} {lk : Bool} {l : Loc} (hid : h[id]? = some (.arr sz es lk)) (hφ : c.φ id = some l) :
    let L' := fun x => if x = l.b then l.base + es.length * sz else c.L x
    Sim ⟨c.φ, L', c.w⟩ (h.set id (.arr sz es true)) ∧ Ext c h ⟨c.φ, L', c.w⟩ (h.set id (.arr sz es true)) := by
  intro L'
  have hll : liveAt h id := ⟨_, hid, rfl⟩
  have hlt : id < h.length := liveAt_lt hll
  obtain ⟨l0, f1, f2, f3⟩ := hs.blk id _ hid rfl
  rw [hφ] at f1; cases f1
  have hle : Le c ⟨c.φ, L', c.w⟩ := by
    refine ⟨fun _ _ e => e, fun x => ?_, fun _ _ _ => rfl⟩
    show c.L x ≤ L' x
    by_cases hx : x = l.b
    · subst hx
      cases f3 with
      | arr _ _ _ _ _ _ _ hL _ _ => simp [L']; exact hL
    · simp [L', hx]
  have hlv : ∀ i, liveAt (h.set id (.arr sz es true)) i → liveAt h i := fun i hi => by
    by_cases hii : i = id
    · subst hii; exact hll
    · exact (liveAt_set_ne hii).1 hi
  have hsame : ∀ x, x ≠ l.b → L' x = c.L x := fun x hx => by simp [L', hx]
  refine ⟨⟨fun i hi => hs.dom i (by simpa using hi), fun i bl e1 e2 => ?_, fun i j li lj hi hj => hs.inj i j li lj (hlv i hi) (hlv j hj), fun x hx => ?_⟩, ⟨hle, Nat.le_refl _, fun x hx hno => ⟨rfl, hsame x fun hxe => hno ⟨id, l, hll, hφ, hxe.symm⟩⟩, fun x hx => ?_, rfl, rfl, rfl⟩⟩
  · by_cases hii : i = id
    · subst hii
      rw [List.getElem?_set_self hlt] at e1
      cases e1
      refine ⟨l, hφ, f2, ?_⟩
      cases f3 with
      | arr a1 a2 a3 a4 a5 a6 a7 a8 a9 a10 => exact .arr a1 a2 a3 a4 a5 a6 (fun i e j x v p q r => (a7 i e j x v p q r).mono hle) (by simp [L']) (by simp) a10
    · rw [List.getElem?_set_ne (Ne.symm hii)] at e1
      obtain ⟨l', g1, g2, g3⟩ := hs.blk i bl e1 e2
      exact ⟨l', g1, g2, g3.mono hle rfl (hsame _ (hs.inj i id l' l ⟨bl, e1, e2⟩ hll hii g1 hφ))⟩
  · by_cases hxe : x = l.b
    · rw [hxe]; exact f2
    · have hx' : 0 < L' x := hx
      rw [hsame x hxe] at hx'; exact hs.lock x hx'
  · obtain ⟨i, l', hi, e, rfl⟩ := hx
    exact .inr ⟨i, l', hlv i hi, e, rfl⟩

/-- A slice of an own row that is written no more, as a value. -/
theorem VR.sl_ro (hs : Sim c h) {id off len sz : Nat} {es : List (List AV)} {v : Value} {l : Loc} (hid : h[id]? = some (.arr sz es true)) (hφ : c.φ id = some l)
    (hL : c.L l.b = l.base + es.length * sz) (hlen : off + len ≤ es.length) (hv : VR c (.sl id off len) v) : VR c (.ro sz ((es.drop off).take len)) v := by
  obtain ⟨l0, f1, f2, f3⟩ := hs.blk id _ hid rfl
  rw [hφ] at f1; cases f1
  cases f3 with
  | arr a1 a2 a3 a4 a5 a6 a7 a8 a9 a10 =>
    have hl2 : ((es.drop off).take len).length = len := by simp; omega
    have hsub : ∀ e, e ∈ (es.drop off).take len → e ∈ es := fun e he => List.mem_of_mem_drop (List.mem_of_mem_take he)
    rename_i vs T
    cases hv with
    | sl0 hl' =>
      have h0 : (es.drop off).take 0 = [] := by simp
      rw [h0]
      exact .ro (fun _ _ => default) rfl (Nat.le_refl _) (by simp) (fun i e j x hh => by simp at hh) (fun i e j x hh => by simp at hh)
    | sl hl' hcap hsz hn =>
      rw [hφ] at hl'; cases hl'
      have hget : ∀ (i : Nat) (e : List AV) (j : Nat) (x : AV), ((es.drop off).take len)[i]? = some e → e[j]? = some x → es[off + i]? = some e ∧ i < len ∧ j < sz := by
        intro i e j x g1 g2
        have hi : i < len := by
          have := (List.getElem?_eq_some_iff.1 g1).1
          omega
        rw [List.getElem?_take_of_lt hi, List.getElem?_drop] at g1
        have hj := (List.getElem?_eq_some_iff.1 g2).1
        rw [a6 e (List.mem_of_getElem? g1)] at hj
        exact ⟨g1, hi, hj⟩
      have hb : ∀ i j, i < len → j < sz → (off + i) * sz + j < es.length * sz := by
        intro i j hi hj
        have : (off + i + 1) * sz ≤ es.length * sz := Nat.mul_le_mul_right _ (by omega)
        rw [Nat.add_mul, Nat.one_mul] at this
        omega
      refine .ro (fun i j => (vs[l.base + (off + i) * sz + j]?).getD default) hl2.symm hcap (fun e he => a6 e (hsub e he)) (fun i e j x g1 g2 => ?_) (fun i e j x g1 g2 => ?_)
      · obtain ⟨k1, k2, k3⟩ := hget i e j x g1 g2
        have hbb := hb i j k2 k3
        have hidx : l.base + off * l.sz + i * sz + j = l.base + (off + i) * sz + j := by rw [a3, Nat.add_mul]; omega
        have hlt : l.base + (off + i) * sz + j < vs.size := by omega
        refine ⟨by rw [hidx, hL]; omega, ?_, ?_⟩
        · rw [hidx]
          simp only [World.cell?, a1]
          rw [Array.getElem?_eq_getElem hlt]
          simp
        · rw [Array.getElem?_eq_getElem hlt]
          exact a10 _ (by simp)
      · obtain ⟨k1, k2, k3⟩ := hget i e j x g1 g2
        have hbb := hb i j k2 k3
        rw [Array.getElem?_eq_getElem (by omega)]
        exact a7 (off + i) e j x _ k1 g2 (Array.getElem?_eq_getElem (by omega))

end
end Go.Vm
