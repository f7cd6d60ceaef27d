/- The abstract machine, part 2: the table of types, and the operations on values and memory: what each does to abstract values, and that the model does the same. -/
import Derived.Test.YteebkkipeiggcaaVm1
import Derived.Laws.Cells
set_option linter.unusedVariables false
set_option linter.unusedSimpArgs false
namespace Go.Vm
open Go

/-- What the machine asks of a type: its underlying form, its cells, its bytes, its zero value. -/
structure TyI where
  desc : TypeDesc
  size : Nat
  bytes : Nat
  zero : Value

structure TyOK (P : Program) (t : TypeId) (ti : TyI) : Prop where
  desc : P.underlying t = some ti.desc
  info : ∃ i, P.info? t = some i ∧ i.size = ti.size ∧ i.bytes = ti.bytes ∧ i.zero = some ti.zero
  zsz : ti.zero.cells.size = ti.size
  zone : Ones ti.zero.cells.toList

abbrev Tab := TypeId → Option TyI

def Tab.OK (P : Program) (T : Tab) : Prop := ∀ t ti, T t = some ti → TyOK P t ti

def TyI.isAgg (ti : TyI) : Bool :=
  match ti.desc with
  | .struct _ => true
  | .array _ _ => true
  | _ => false

section
variable {P : Program} {T : Tab} {t : TypeId} {ti : TyI} (w : World)

theorem TyOK.run_underlying (h : TyOK P t ti) : (underlying t).run P w = .ok ti.desc w := by
  simp [underlying, h.desc]

theorem TyOK.run_typeInfo (h : TyOK P t ti) : ∃ i, (typeInfo t).run P w = .ok i w ∧ i.size = ti.size ∧ i.bytes = ti.bytes ∧ i.zero = some ti.zero := by
  obtain ⟨i, h1, h2⟩ := h.info
  exact ⟨i, by simp [typeInfo, h1], h2⟩

theorem TyOK.run_sizeOf (h : TyOK P t ti) : (sizeOf t).run P w = .ok ti.size w := by
  obtain ⟨i, h1, h2, _⟩ := h.run_typeInfo w
  simp [sizeOf, h1, h2]

theorem TyOK.run_zeroValue (h : TyOK P t ti) : (zeroValue t).run P w = .ok ti.zero w := by
  obtain ⟨i, h1, _, _, h2⟩ := h.run_typeInfo w
  simp [zeroValue, h1, h2]

theorem TyOK.run_isAgg (h : TyOK P t ti) : (isAgg t).run P w = .ok ti.isAgg w := by
  simp only [isAgg, Sem.run_bind, h.run_underlying w, Result.andThen_ok, TyI.isAgg]
  cases ti.desc <;> rfl
end

/-- A cell of a constant. -/
def ofCell : Value → AV
  | .bool b => .bool b
  | .int k n => .int k n
  | .string s => .str s
  | .pointer none => .nilp
  | .slice none 0 0 => .nils
  | .map none => .nilm
  | .nilFunc => .nilf
  | .nilIface => .nili
  | .agg _ => .any
  | .tuple _ => .any
  | _ => .dead

/-- A constant. -/
def ofVal : Value → AV
  | .agg cs => if cs.toList.all Value.oneCell' then .agg (cs.toList.map ofCell) else .any
  | .tuple vs => if vs.isEmpty then .undef else .any
  | v => ofCell v

theorem VR.ofCell (c : Cx) (v : Value) : VR c (ofCell v) v := by
  unfold Vm.ofCell
  split <;> first
    | exact .bool | exact .int | exact .str | exact .nilp | exact .nils | exact .nilm | exact .nilf | exact .nili | exact .any
    | (refine .dead ?_; cases v <;> first | rfl | simp_all)

theorem VR.ofVal (c : Cx) (v : Value) : VR c (ofVal v) v := by
  unfold Vm.ofVal
  split
  · rename_i cs
    split
    · rename_i hall
      refine .agg (fun v hv => by rw [List.all_eq_true] at hall; exact hall v hv) (by simp) fun i x v h1 h2 => ?_
      simp only [List.getElem?_map, Array.getElem?_toList] at h1
      rw [h2] at h1
      cases h1
      exact VR.ofCell c v
    · exact .any
  · rename_i vs
    split
    · rename_i h
      have : vs = #[] := by simpa using h
      subst this
      exact .undef
    · exact .any
  · exact VR.ofCell c _

/-- Is it of one cell, for sure? -/
def AV.one : AV → Bool
  | .undef | .any | .agg _ | .tup _ => false
  | _ => true

theorem VR.one {c : Cx} {x : AV} {v : Value} (h : VR c x v) (h1 : x.one = true) : v.oneCell' = true := by
  cases h <;> first | rfl | assumption | (simp [AV.one] at h1)

def AV.cells? : AV → Option (List AV)
  | .agg cs => some cs
  | .undef => none
  | .any => none
  | .tup _ => none
  | x => some [x]

theorem VR.cells {c : Cx} {x : AV} {v : Value} (h : VR c x v) {cs : List AV} (h1 : x.cells? = some cs) : VRs c cs v.cells.toList ∧ Ones v.cells.toList := by
  have one : ∀ {x : AV} {v : Value}, VR c x v → v.cells = #[v] → v.oneCell' = true → VRs c [x] v.cells.toList ∧ Ones v.cells.toList := fun {x v} h hv h1 => by
    rw [hv]; exact ⟨.cons h .nil, fun u hu => by simp at hu; subst hu; exact h1⟩
  cases h <;> simp only [AV.cells?, Option.some.injEq, reduceCtorEq] at h1 <;> (try subst h1)
  case agg cs vs h0 h2 h3 => exact ⟨VRs.of_array h2 h3, h0⟩
  case dead hv => exact one (.dead hv) (by cases v <;> first | rfl | (simp [Value.oneCell'] at hv)) hv
  all_goals refine one ?_ rfl rfl
  case int => exact .int
  case bool => exact .bool
  case str => exact .str
  case nilp => exact .nilp
  case nils => exact .nils
  case nilm => exact .nilm
  case nilf => exact .nilf
  case nili => exact .nili
  case vsl h2 h3 => exact .vsl h2 h3
  case ptr h2 => exact .ptr h2
  case ep h2 => exact .ep h2
  case rop h1 h2 h3 h4 h5 => exact .rop h1 h2 h3 h4 h5
  case sl h1 h2 h3 h4 => exact .sl h1 h2 h3 h4
  case sl0 h1 => exact .sl0 h1
  case ro h1 h2 h3 h4 h5 h6 => exact .ro h1 h2 h3 h4 h5 h6
  case roNil => exact .roNil
  case map h1 => exact .map h1
  case fn h1 h2 h3 h4 => exact .fn h1 h2 h3 h4
  case iface h1 => exact .iface h1

/-- A computation of the model's that yields a value, as the abstract machine sees it. -/
def SV (P : Program) (s : Sem Value) (c : Cx) (h : AH) (K : AV → AH → Prop) : Prop :=
  ∃ x h' c' v, K x h' ∧ Ext c h c' h' ∧ Sim c' h' ∧ s.run P c.w = .ok v c'.w ∧ VR c' x v

def SU (P : Program) (s : Sem Unit) (c : Cx) (h : AH) (K : AH → Prop) : Prop :=
  ∃ h' c', K h' ∧ Ext c h c' h' ∧ Sim c' h' ∧ s.run P c.w = .ok () c'.w

theorem SV.same {P : Program} {s : Sem Value} {c : Cx} {h : AH} {K : AV → AH → Prop} (hs : Sim c h) {x : AV} {v : Value} (hK : K x h) (hr : s.run P c.w = .ok v c.w) (hv : VR c x v) : SV P s c h K :=
  ⟨x, h, c, v, hK, Ext.refl c h, hs, hr, hv⟩

theorem SV.congr {P : Program} {s s' : Sem Value} {c : Cx} {h : AH} {K : AV → AH → Prop} (he : s.run P c.w = s'.run P c.w) (hh : SV P s' c h K) : SV P s c h K := by
  obtain ⟨x, h', c', v, a, b, d, e, f⟩ := hh
  exact ⟨x, h', c', v, a, b, d, he.trans e, f⟩

/-- The same, of what leaves the world alone. -/
def SV0 (P : Program) (s : Sem Value) (c : Cx) (K : AV → Prop) : Prop := ∃ x v, K x ∧ s.run P c.w = .ok v c.w ∧ VR c x v

theorem SV0.sv {P : Program} {s : Sem Value} {c : Cx} {h : AH} {K : AV → AH → Prop} (hs : Sim c h) (hh : SV0 P s c fun y => K y h) : SV P s c h K := by
  obtain ⟨x, v, a, b, d⟩ := hh
  exact SV.same hs a b d

theorem SV0.same {P : Program} {s : Sem Value} {c : Cx} {K : AV → Prop} {x : AV} {v : Value} (hK : K x) (hr : s.run P c.w = .ok v c.w) (hv : VR c x v) : SV0 P s c K := ⟨x, v, hK, hr, hv⟩

theorem SV0.congr {P : Program} {s s' : Sem Value} {c : Cx} {K : AV → Prop} (he : s.run P c.w = s'.run P c.w) (hh : SV0 P s' c K) : SV0 P s c K := by
  obtain ⟨x, v, a, b, d⟩ := hh
  exact ⟨x, v, a, he.trans b, d⟩

/-! ### New variables -/
def zeroCells (ti : TyI) : List AV := ti.zero.cells.toList.map ofCell

theorem VRs.map_ofCell (c : Cx) (vs : List Value) : VRs c (vs.map ofCell) vs := by
  refine ⟨by simp, fun i x v h1 h2 => ?_⟩
  simp only [List.getElem?_map, h2, Option.map_some, Option.some.injEq] at h1
  subst h1
  exact VR.ofCell c v

section
variable {P : Program} {T : Tab} {c : Cx} {h : AH} {K : AV → AH → Prop}

/-- A new variable of some cells. -/
theorem sv_newVar (hs : Sim c h) {cs : List AV} {vs : Array Value} (e : TypeId) (hv : VRs c cs vs.toList) (h1 : Ones vs.toList) (hK : K (.ptr h.length 0) (h ++ [.var cs])) :
    SV P (do pure (.pointer (some (← newRow e vs)))) c h K := by
  have h0 := Sim.new hs (o := .cells vs e) (b := .var cs) (l := ⟨c.w.heap.size, 0, 0, 0⟩) (w' := c.w.alloc (.cells vs e)) rfl rfl rfl rfl rfl
    (fun hle hL => .var (T := e) (vs := vs) (by show (c.w.heap.push _)[c.w.heap.size]? = _; simp) rfl hL (hv.mono hle) h1)
  exact ⟨_, _, _, _, hK, h0.2, h0.1, rfl, VR.ptr (id := h.length) (off := 0) (l := ⟨c.w.heap.size, 0, 0, 0⟩) upd_same⟩

def aAlloc (T : Tab) (t : TypeId) (h : AH) (K : AV → AH → Prop) : Prop :=
  match T t with
  | some ti => K (.ptr h.length 0) (h ++ [.var (zeroCells ti)])
  | none => False

theorem aAlloc_sound (hT : T.OK P) (hs : Sim c h) {t : TypeId} (hk : aAlloc T t h K) : SV P (Instr.alloc t true (.tuple #[])) c h K := by
  unfold aAlloc at hk
  split at hk
  · rename_i ti ht
    refine SV.congr ?_ (sv_newVar (P := P) hs t (VRs.map_ofCell c ti.zero.cells.toList) (hT t ti ht).zone hk)
    simp [Instr.alloc, (hT t ti ht).run_zeroValue c.w, newVar]
  · exact hk.elim

def aBox (x : AV) (h : AH) (K : AV → AH → Prop) : Prop :=
  match x.cells? with
  | some cs => K (.ptr h.length 0) (h ++ [.var cs])
  | none => False

theorem aBox_sound (hs : Sim c h) {t : TypeId} {x : AV} {v : Value} (hv : VR c x v) (hk : aBox x h K) : SV P (Instr.box t v) c h K := by
  unfold aBox at hk
  split at hk
  · rename_i cs hc
    exact sv_newVar (P := P) hs t (hv.cells hc).1 (hv.cells hc).2 hk
  · exact hk.elim

/-! ### Reading -/
/-- The part of type 'ti' at cell 'off' of some cells. -/
def aPart (ti : TyI) (cs : List AV) (off : Nat) (K : AV → Prop) : Prop :=
  if ti.isAgg then (if off + ti.size ≤ cs.length then K (.agg ((cs.drop off).take ti.size)) else False)
  else match cs[off]? with
    | some x => K x
    | none => False

def aLoad (T : Tab) (t : TypeId) (x : AV) (h : AH) (K : AV → AH → Prop) : Prop :=
  match T t with
  | none => False
  | some ti =>
    match x with
    | .ptr id off => (match h[id]? with
      | some (.var cs) => aPart ti cs off fun y => K y h
      | _ => False)
    | .ep id i off => (match h[id]? with
      | some (.arr _ es _) => (match es[i]? with
        | some e => aPart ti e off fun y => K y h
        | none => False)
      | _ => False)
    | .rop _ es i off => (match es[i]? with
      | some e => aPart ti e off fun y => K y h
      | none => False)
    | _ => False

theorem Addr.add_none (b o n : Nat) : (⟨b, o, none⟩ : Addr).add n = ⟨b, o + n, none⟩ := by
  unfold Addr.add
  split
  · rename_i h; subst h; rfl
  · rfl

/-- What a piece of memory reads as: cells 'cs' from cell 'o' of block 'b' on. -/
def CellsAt (c : Cx) (b o : Nat) (cs : List AV) : Prop := ∀ (j : Nat) (x : AV), cs[j]? = some x → ∃ v, c.w.cell? ⟨b, o + j, none⟩ = some v ∧ VR c x v ∧ v.oneCell' = true

theorem CellsAt.part {b o : Nat} {cs : List AV} (hc : CellsAt c b o cs) {off : Nat} : CellsAt c b (o + off) (cs.drop off) := by
  intro j x hx
  rw [List.getElem?_drop] at hx
  obtain ⟨v, h1, h2⟩ := hc _ _ hx
  exact ⟨v, by rw [Nat.add_assoc]; exact h1, h2⟩

theorem run_loadCells_at {b o : Nat} {cs : List AV} (hc : CellsAt c b o cs) : ∃ vs : List Value, (loadCells ⟨b, o, none⟩ cs.length).run P c.w = .ok vs.toArray c.w ∧ VRs c cs vs ∧ Ones vs := by
  have hex : ∀ j (hj : j < cs.length), ∃ v, c.w.cell? ⟨b, o + j, none⟩ = some v ∧ VR c cs[j] v ∧ v.oneCell' = true := fun j hj => hc j _ (List.getElem?_eq_getElem hj)
  let f : Nat → Value := fun j => (c.w.cell? ⟨b, o + j, none⟩).getD default
  have hf : ∀ j, j < cs.length → c.w.cell? (Addr.add ⟨b, o, none⟩ j) = some (f j) := fun j hj => by
    obtain ⟨v, h1, _⟩ := hex j hj
    rw [Addr.add_none, h1]; simp [f, h1]
  refine ⟨(List.range cs.length).map f, ?_, ⟨by simp, fun i x v h1 h2 => ?_⟩, fun v hv => ?_⟩
  · have := run_loadCells (P := P) (w := c.w) ⟨b, o, none⟩ cs.length f hf
    rw [this]
  · have hi : i < cs.length := (List.getElem?_eq_some_iff.1 h1).1
    simp only [List.getElem?_map, List.getElem?_range hi, Option.map_some, Option.some.injEq] at h2
    obtain ⟨u, k1, k2⟩ := hex i hi
    rw [List.getElem?_eq_getElem hi] at h1
    cases h1
    subst h2
    simp only [f, k1, Option.getD_some]
    exact k2.1
  · obtain ⟨j, hj, rfl⟩ := List.mem_map.1 hv
    obtain ⟨u, k1, k2⟩ := hex j (by simpa using hj)
    simp only [f, k1, Option.getD_some]
    exact k2.2

theorem aPart_sound {t : TypeId} {ti : TyI} (ht : TyOK P t ti) {b o off : Nat} {cs : List AV} (hc : CellsAt c b o cs) {K : AV → Prop} (hk : aPart ti cs off K) :
    SV0 P (loadVar t ⟨b, o + off, none⟩) c K := by
  unfold aPart at hk
  have hr : ∀ r, (loadVar t ⟨b, o + off, none⟩).run P c.w = r ↔ (if ti.isAgg then (do pure (.agg (← loadCells ⟨b, o + off, none⟩ ti.size)) : Sem Value) else load ⟨b, o + off, none⟩).run P c.w = r := fun r => by
    unfold loadVar
    simp only [Sem.run_bind, ht.run_isAgg c.w, Result.andThen_ok]
    cases ti.isAgg <;> simp [ht.run_sizeOf c.w]
  split at hk
  · rename_i hag
    split at hk
    · rename_i hle
      have hp : CellsAt c b (o + off) ((cs.drop off).take ti.size) := fun j x hx => by
        have hj : j < ti.size := by
          have := (List.getElem?_eq_some_iff.1 hx).1
          simp at this; omega
        rw [List.getElem?_take_of_lt hj] at hx
        exact hc.part j x hx
      obtain ⟨vs, h1, h2⟩ := run_loadCells_at (P := P) hp
      have hlen : ((cs.drop off).take ti.size).length = ti.size := by simp; omega
      rw [hlen] at h1
      exact ⟨_, _, hk, (hr _).2 (by simp [hag, h1]), VR.of_agg h2.1 h2.2⟩
    · exact hk.elim
  · rename_i hag
    split at hk
    · rename_i x hx
      obtain ⟨v, h1, h2⟩ := hc off x hx
      exact ⟨_, _, hk, (hr _).2 (by simp [hag, h1]), h2.1⟩
    · exact hk.elim

/-- What the abstract heap says of the blocks that are there. -/
def Rd (c : Cx) (h : AH) : Prop := ∀ (i : Nat) (b : AB) (l : Loc), h[i]? = some b → b.live = true → c.φ i = some l → BR c l b

theorem Sim.rd (hs : Sim c h) : Rd c h := fun i b l e1 e2 e3 => by
  obtain ⟨l', f1, _, f3⟩ := hs.blk i b e1 e2
  rw [e3] at f1; cases f1; exact f3

theorem Rd.var_cells (hs : Rd c h) {id : Nat} {cs : List AV} {l : Loc} (hid : h[id]? = some (.var cs)) (hφ : c.φ id = some l) : l.base = 0 ∧ CellsAt c l.b 0 cs := by
  have f3 := hs id _ l hid rfl hφ
  cases f3 with
  | var hh hb hL hv h1 =>
    refine ⟨hb, fun j x hx => ?_⟩
    have hj := (List.getElem?_eq_some_iff.1 hx).1
    rw [hv.1] at hj
    rename_i vs T
    have hj' : j < vs.size := by simpa using hj
    refine ⟨vs[j], ?_, hv.2 j x _ hx (by simp), h1 _ (by simp)⟩
    simp [World.cell?, hh]

theorem Rd.arr_cells (hs : Rd c h) {id sz : Nat} {es : List (List AV)} {lk : Bool} {l : Loc} (hid : h[id]? = some (.arr sz es lk)) (hφ : c.φ id = some l) :
    l.sz = sz ∧ ∀ i e, es[i]? = some e → CellsAt c l.b (l.base + i * sz) e := by
  have f3 := hs id _ l hid rfl hφ
  cases f3 with
  | arr a1 a2 a3 a4 a5 a6 a7 a8 a9 a10 =>
    rename_i vs T
    refine ⟨a3, fun i e he j x hx => ?_⟩
    have hi := (List.getElem?_eq_some_iff.1 he).1
    have hj := (List.getElem?_eq_some_iff.1 hx).1
    rw [a6 e (List.mem_of_getElem? he)] at hj
    have hb : i * sz + j < es.length * sz := by
      have : (i + 1) * sz ≤ es.length * sz := Nat.mul_le_mul_right _ (by omega)
      rw [Nat.add_mul, Nat.one_mul] at this; omega
    have hlt : l.base + i * sz + j < vs.size := by omega
    refine ⟨vs[l.base + i * sz + j], by simp [World.cell?, a1, hlt], a7 i e j x _ he hx (by simp [hlt]), a10 _ (by simp)⟩

theorem aLoad_sound0 (hT : T.OK P) (hs : Rd c h) {t : TypeId} {x : AV} {v : Value} (hv : VR c x v) (hk : aLoad T t x h K) : SV0 P (Instr.loadAt t v) c fun y => K y h := by
  unfold aLoad at hk
  split at hk
  · exact hk.elim
  · rename_i ti ht
    have hok := hT t ti ht
    cases hv <;> simp only at hk <;> try exact hk.elim
    case ptr id off l hl =>
      split at hk
      · rename_i cs hid
        obtain ⟨hb, hc⟩ := hs.var_cells hid hl
        have := aPart_sound hok hc hk
        rw [hb]
        exact SV0.congr (by simp [Instr.loadAt, Instr.sureAddr]) this
      · exact hk.elim
    case ep id i off l hl =>
      split at hk
      · rename_i sz es lk hid
        split at hk
        · rename_i e he
          obtain ⟨hb, hc⟩ := hs.arr_cells hid hl
          have := aPart_sound hok (hc i e he) hk
          rw [hb]
          exact SV0.congr (by simp [Instr.loadAt, Instr.sureAddr]) this
        · exact hk.elim
      · exact hk.elim
    case rop sz es i off b o vals hi hsz hc hv =>
      split at hk
      · rename_i e he
        have hce : CellsAt c b (o + i * sz) e := fun j x hx => ⟨vals i j, (hc i e j x he hx).2.1, hv i e j x he hx, (hc i e j x he hx).2.2⟩
        exact SV0.congr (by simp [Instr.loadAt, Instr.sureAddr]) (aPart_sound hok hce hk)
      · exact hk.elim

theorem aLoad_sound (hT : T.OK P) (hs : Sim c h) {t : TypeId} {x : AV} {v : Value} (hv : VR c x v) (hk : aLoad T t x h K) : SV P (Instr.loadAt t v) c h K := (aLoad_sound0 hT hs.rd hv hk).sv hs

end
end Go.Vm
