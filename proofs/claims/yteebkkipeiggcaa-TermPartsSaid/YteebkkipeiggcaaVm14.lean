/- The abstract machine, part 14: values that name no block; calls that are known without any block; a new block in a free place. -/
import Derived.Test.YteebkkipeiggcaaVm13
set_option linter.unusedVariables false
set_option linter.unusedSimpArgs false
namespace Go.Vm
open Go

/-- It names no block: what it stands for doesn't hang on where the blocks lie. -/
def Closed (x : AV) : Prop := ∀ (c : Cx) (φ : Nat → Option Loc) (v : Value), VR c x v → VR ⟨φ, c.L, c.w⟩ x v

theorem Closed.int {k : IntKind} {n : Int} : Closed (.int k n) := fun c φ v h => by cases h; exact .int
theorem Closed.bool {b : Bool} : Closed (.bool b) := fun c φ v h => by cases h; exact .bool
theorem Closed.str {s : ByteArray} : Closed (.str s) := fun c φ v h => by cases h; exact .str
theorem Closed.nilp : Closed .nilp := fun c φ v h => by cases h; exact .nilp
theorem Closed.nils : Closed .nils := fun c φ v h => by cases h; exact .nils
theorem Closed.nilm : Closed .nilm := fun c φ v h => by cases h; exact .nilm
theorem Closed.nilf : Closed .nilf := fun c φ v h => by cases h; exact .nilf
theorem Closed.nili : Closed .nili := fun c φ v h => by cases h; exact .nili
theorem Closed.undef : Closed .undef := fun c φ v h => by cases h; exact .undef
theorem Closed.dead : Closed .dead := fun c φ v h => by cases h; exact .dead (by assumption)
theorem Closed.any : Closed .any := fun c φ v h => by cases h; exact .any
theorem Closed.iface {t : TypeId} {x : AV} (hx : Closed x) : Closed (.iface t x) := fun c φ v h => by cases h with | iface h => exact .iface (hx c φ _ h)
theorem Closed.agg {cs : List AV} (hx : ∀ x ∈ cs, Closed x) : Closed (.agg cs) := fun c φ v h => by
  cases h with | agg h0 h1 h2 => exact .agg h0 h1 fun i x v a b => hx x (List.mem_of_getElem? a) c φ v (h2 i x v a b)
theorem Closed.tup {cs : List AV} (hx : ∀ x ∈ cs, Closed x) : Closed (.tup cs) := fun c φ v h => by
  cases h with | tup h1 h2 => exact .tup h1 fun i x v a b => hx x (List.mem_of_getElem? a) c φ v (h2 i x v a b)
theorem Closed.fn {f : Fn} {xs ys : List AV} (hx : ∀ x ∈ xs, Closed x) (hy : ∀ x ∈ ys, Closed x) : Closed (.fn f xs ys) := fun c φ v h => by
  cases h with | fn h1 h2 h3 h4 => exact .fn h1 h2 (fun i x v a b => hx x (List.mem_of_getElem? a) c φ v (h3 i x v a b)) (fun i x v a b => hy x (List.mem_of_getElem? a) c φ v (h4 i x v a b))
theorem Closed.ro {sz : Nat} {es : List (List AV)} (hx : ∀ e ∈ es, ∀ x ∈ e, Closed x) : Closed (.ro sz es) := fun c φ v h => by
  cases h with
  | ro vals hlen hcap hsz hc hv => exact .ro vals hlen hcap hsz hc fun i e j x a b => hx e (List.mem_of_getElem? a) x (List.mem_of_getElem? b) c φ _ (hv i e j x a b)
  | roNil => exact .roNil
theorem Closed.rop {sz i off : Nat} {es : List (List AV)} (hx : ∀ e ∈ es, ∀ x ∈ e, Closed x) : Closed (.rop sz es i off) := fun c φ v h => by
  cases h with
  | rop vals hi hsz hc hv => exact .rop vals hi hsz hc fun i e j x a b => hx e (List.mem_of_getElem? a) x (List.mem_of_getElem? b) c φ _ (hv i e j x a b)

def ResClosed : ARes → Prop
  | .ret x => Closed x
  | .pan x => Closed x

theorem ResR.closed {c : Cx} {r : ARes} {e : Ending} (hr : ResClosed r) (h : ResR c r e) (φ : Nat → Option Loc) : ResR ⟨φ, c.L, c.w⟩ r e := by
  cases h with
  | ret hx => exact .ret (hr c φ _ hx)
  | pan hx => exact .pan (hr c φ _ hx)

/-- What is known of a call without any block holds whatever blocks there are. -/
theorem ACalls.frame {P : Program} {f : FuncId} {args : List AV} {h : AH} {K0 K : ARes → AH → Prop} (ha : ∀ x ∈ args, Closed x) (hh : ACalls P f args [] K0) (hk : ∀ r h', K0 r h' → ResClosed r ∧ K r h) : ACalls P f args h K := by
  intro c vs hs hv
  have hs0 : Sim ⟨fun _ => none, c.L, c.w⟩ [] := ⟨fun _ _ => rfl, fun i b e => by simp at e, fun i j li lj ⟨b, e, _⟩ => by simp at e, hs.lock⟩
  have hv0 : VRs ⟨fun _ => none, c.L, c.w⟩ args vs.toList := ⟨hv.1, fun i x v a b => ha x (List.mem_of_getElem? a) c _ v (hv.2 i x v a b)⟩
  refine (hh ⟨fun _ => none, c.L, c.w⟩ vs hs0 hv0).mono fun e w ⟨c1, h1, r, q1, q2, q3, q4, q5⟩ => ?_
  subst q1
  obtain ⟨k1, k2⟩ := hk r h1 q5
  have hno : ∀ b, ¬ Owns ⟨fun _ => none, c.L, c.w⟩ [] b := fun b ⟨i, l, ⟨bl, e, _⟩, _⟩ => by simp at e
  have hle : Le c ⟨c.φ, c1.L, c1.w⟩ := ⟨fun _ _ e => e, q2.le.L, q2.le.cell⟩
  refine ⟨⟨c.φ, c1.L, c1.w⟩, h, r, rfl, ⟨hle, q2.size, fun b hb _ => q2.frame b hb (hno b), fun b hb => .inr hb, q2.os, q2.tape, q2.output⟩, ⟨hs.dom, fun i b e1 e2 => ?_, hs.inj, q3.lock⟩, q4.closed k1 c.φ, k2⟩
  obtain ⟨l, f1, f2, f3⟩ := hs.blk i b e1 e2
  obtain ⟨g1, g2⟩ := q2.frame l.b f2 (hno _)
  exact ⟨l, f1, Nat.lt_of_lt_of_le f2 q2.size, f3.mono hle g1 g2⟩

section
variable {c : Cx} {h : AH}

/-- A new block in a free place. -/
theorem Sim.newAt (hs : Sim c h) {k : Nat} {o : Obj} {b : AB} {l : Loc} {w' : World} (hk : h[k]? = some .dead) (hφ : c.φ k = none) (hl : l.b = c.w.heap.size) (hw : w'.heap = c.w.heap.push o)
    (h1 : w'.os = c.w.os) (h2 : w'.tape = c.w.tape) (h3 : w'.output = c.w.output)
    (hBR : Le c ⟨Vm.upd c.φ k l, c.L, w'⟩ → c.L l.b = 0 → BR ⟨Vm.upd c.φ k l, c.L, w'⟩ l b) :
    Sim ⟨Vm.upd c.φ k l, c.L, w'⟩ (h.set k b) ∧ Ext c h ⟨Vm.upd c.φ k l, c.L, w'⟩ (h.set k b) := by
  have hlt : k < h.length := (List.getElem?_eq_some_iff.1 hk).1
  have hold : ∀ x, x < c.w.heap.size → w'.heap[x]? = c.w.heap[x]? := fun x hx => by rw [hw, Array.getElem?_push, if_neg (by omega)]
  have hsz : w'.heap.size = c.w.heap.size + 1 := by rw [hw]; simp
  have hle : Le c ⟨Vm.upd c.φ k l, c.L, w'⟩ := by
    refine ⟨fun i l' e => ?_, fun _ => Nat.le_refl _, fun b o ho => World.cell?_heap (hold b (hs.lock b (by omega)))⟩
    show Vm.upd c.φ k l i = some l'
    rw [upd_ne]; · exact e
    intro hi; rw [hi, hφ] at e; cases e
  have hL : c.L l.b = 0 := by
    rcases Nat.eq_zero_or_pos (c.L l.b) with h' | h'
    · exact h'
    · have := hs.lock _ h'; omega
  have hB := hBR hle hL
  have hown : ∀ i l', liveAt (h.set k b) i → Vm.upd c.φ k l i = some l' → (i = k ∧ l' = l) ∨ (i ≠ k ∧ liveAt h i ∧ c.φ i = some l') := by
    intro i l' hli e
    by_cases hi : i = k
    · subst hi; rw [upd_same] at e; cases e; exact .inl ⟨rfl, rfl⟩
    · rw [upd_ne hi] at e
      exact .inr ⟨hi, (liveAt_set_ne hi).1 hli, e⟩
  have hltb : ∀ i l', liveAt h i → c.φ i = some l' → l'.b < c.w.heap.size := fun i l' hli e => Owns.lt hs ⟨i, l', hli, e, rfl⟩
  refine ⟨⟨fun i hi => ?_, fun i bl e1 e2 => ?_, fun i j li lj hi hj hij ei ej => ?_, fun b hb => ?_⟩, ⟨hle, by simp [hsz], fun b hb _ => ⟨hold b hb, rfl⟩, fun b hb => ?_, h1, h2, h3⟩⟩
  · simp at hi
    show Vm.upd c.φ k l i = none
    rw [upd_ne (by omega)]; exact hs.dom i (by omega)
  · by_cases hi : i = k
    · subst hi
      rw [List.getElem?_set_self hlt] at e1
      cases e1
      exact ⟨l, upd_same, by show l.b < w'.heap.size; omega, hB⟩
    · rw [List.getElem?_set_ne (Ne.symm hi)] at e1
      obtain ⟨l', f1, f2, f3⟩ := hs.blk i bl e1 e2
      exact ⟨l', (upd_ne hi).trans f1, by show l'.b < w'.heap.size; omega, f3.mono hle (hold _ f2) rfl⟩
  · rcases hown i li hi ei with ⟨e1, e2⟩ | ⟨e1, e2, e3⟩ <;> rcases hown j lj hj ej with ⟨g1, g2⟩ | ⟨g1, g2, g3⟩
    · omega
    · subst e2; have := hltb j lj g2 g3; omega
    · subst g2; have := hltb i li e2 e3; omega
    · exact hs.inj i j li lj e2 g2 hij e3 g3
  · have := hs.lock b hb; show b < w'.heap.size; omega
  · obtain ⟨i, l', hli, e, rfl⟩ := hb
    rcases hown i l' hli e with ⟨_, e2⟩ | ⟨_, e2, e3⟩
    · subst e2; exact .inl (by omega)
    · exact .inr ⟨i, l', e2, e3, rfl⟩

/-- More free places. -/
theorem Sim.pad (hs : Sim c h) (n : Nat) : Sim c (h ++ List.replicate n .dead) ∧ Ext c h c (h ++ List.replicate n .dead) := by
  have hlv : ∀ i, liveAt (h ++ List.replicate n .dead) i → liveAt h i := fun i ⟨b, e1, e2⟩ => by
    rcases Nat.lt_or_ge i h.length with hi | hi
    · rw [List.getElem?_append_left hi] at e1; exact ⟨b, e1, e2⟩
    · rw [List.getElem?_append_right hi] at e1
      have := List.mem_of_getElem? e1
      rw [List.mem_replicate] at this
      rw [this.2] at e2; cases e2
  refine ⟨⟨fun i hi => hs.dom i (by simp at hi; omega), fun i b e1 e2 => ?_, fun i j li lj hi hj => hs.inj i j li lj (hlv i hi) (hlv j hj), hs.lock⟩, ⟨Le.refl c, Nat.le_refl _, fun _ _ _ => ⟨rfl, rfl⟩, fun b hb => ?_, rfl, rfl, rfl⟩⟩
  · obtain ⟨b', f1, f2⟩ := hlv i ⟨b, e1, e2⟩
    have : i < h.length := liveAt_lt ⟨b', f1, f2⟩
    rw [List.getElem?_append_left this] at e1
    exact hs.blk i b e1 e2
  · obtain ⟨i, l, hi, e, rfl⟩ := hb
    exact .inr ⟨i, l, hlv i hi, e, rfl⟩

end
end Go.Vm
