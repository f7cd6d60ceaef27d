/- The abstract machine, part 5: slices that are built, appended to; lengths; numbers, strings, bools, nil; interface values. -/
import Derived.Test.YteebkkipeiggcaaVm4
set_option linter.unusedVariables false
set_option linter.unusedSimpArgs false
namespace Go.Vm
open Go

section
variable {P : Program} {T : Tab} {c : Cx} {h : AH} {K : AV → AH → Prop}

/-! ### A slice that is written out -/
def fillE (sz : Nat) (es : List (List AV)) : List (Nat × AV) → Option (List (List AV))
  | [] => some es
  | (i, x) :: rest =>
    match x.cells? with
    | some xs => if xs.length = sz ∧ i < es.length then fillE sz (es.set i xs) rest else none
    | none => none

def aBuildSlice (T : Tab) (t : TypeId) (len : Nat) (ps : List (Nat × AV)) (h : AH) (K : AV → AH → Prop) : Prop :=
  match T t with
  | some { desc := .slice e, .. } => (match T e with
    | some ei => if 0 < ei.size ∧ len * ei.size ≤ 16777216 then (match fillE ei.size (List.replicate len (zeroCells ei)) ps with
      | some es => K (.sl h.length 0 len) (h ++ [.arr ei.size es false])
      | none => False) else False
    | none => False)
  | _ => False

/-- Elements as cells. -/
def RowR (c : Cx) (sz base : Nat) (es : List (List AV)) (vs : Array Value) : Prop :=
  base + es.length * sz ≤ vs.size ∧ (∀ e ∈ es, e.length = sz) ∧ (∀ (i : Nat) (e : List AV) (j : Nat) (x : AV) (v : Value), es[i]? = some e → e[j]? = some x → vs[base + i * sz + j]? = some v → VR c x v) ∧ Ones vs.toList

theorem RowR.set {sz : Nat} {es : List (List AV)} {vs : Array Value} (hr : RowR c sz 0 es vs) {i : Nat} {xs : List AV} {ys : List Value} (hx : VRs c xs ys) (hy : Ones ys) (hl : xs.length = sz) (hi : i < es.length) :
    RowR c sz 0 (es.set i xs) (setArr vs (i * sz) ys) := by
  obtain ⟨r1, r2, r3, r4⟩ := hr
  refine ⟨by rw [setArr_size]; simpa using r1, fun e he => ?_, fun i' e j x v g1 g2 g3 => ?_, Ones.setArr hy r4 _⟩
  · rcases List.mem_or_eq_of_mem_set he with h' | h'
    · exact r2 e h'
    · rw [h']; exact hl
  · have hb1 : (i + 1) * sz ≤ es.length * sz := Nat.mul_le_mul_right _ (by omega)
    rw [Nat.add_mul, Nat.one_mul] at hb1
    rw [List.getElem?_set] at g1
    rw [setArr_get, ← hx.1] at g3
    by_cases hii : i = i'
    · subst hii
      simp only [if_true] at g1
      rw [if_pos hi] at g1
      cases g1
      have hj := (List.getElem?_eq_some_iff.1 g2).1
      rw [if_pos (by omega)] at g3
      have : 0 + i * sz + j - i * sz = j := by omega
      rw [this] at g3
      exact hx.2 j x v g2 g3
    · rw [if_neg hii] at g1
      have hj := (List.getElem?_eq_some_iff.1 g2).1
      have hel := r2 e (List.mem_of_getElem? g1)
      have hne : ¬ (i * sz ≤ 0 + i' * sz + j ∧ 0 + i' * sz + j < i * sz + xs.length ∧ 0 + i' * sz + j < vs.size) := by
        rintro ⟨p, q, _⟩
        rcases Nat.lt_or_gt_of_ne hii with hlt | hlt
        · have : (i + 1) * sz ≤ i' * sz := Nat.mul_le_mul_right _ (by omega)
          rw [Nat.add_mul, Nat.one_mul] at this
          omega
        · have : (i' + 1) * sz ≤ i * sz := Nat.mul_le_mul_right _ (by omega)
          rw [Nat.add_mul, Nat.one_mul] at this
          omega
      rw [if_neg hne] at g3
      exact r3 i' e j x v g1 g2 g3

theorem fillE_sound {sz : Nat} : ∀ {ps : List (Nat × AV)} {qs : List (Nat × Value)} {es out : List (List AV)} {vs : Array Value},
    PartsR c ps qs → RowR c sz 0 es vs → fillE sz es ps = some out → ∃ ws : Array Value, Instr.fill (fun i => some (i * sz, sz)) vs qs = some ws ∧ ws.size = vs.size ∧ out.length = es.length ∧ RowR c sz 0 out ws := by
  intro ps
  induction ps with
  | nil =>
    intro qs es out vs hp hr ho
    cases hp
    simp only [fillE, Option.some.injEq] at ho
    subst ho
    exact ⟨vs, rfl, rfl, rfl, hr⟩
  | cons p ps ih =>
    intro qs es out vs hp hr ho
    cases hp with
    | cons hv h2 =>
      rename_i i x v qs
      simp only [fillE] at ho
      split at ho
      · rename_i xs e2
        split at ho
        · rename_i hle
          have hxs := (hv.cells e2).1
          have hl1 : v.cells.size = xs.length := by have := hxs.1; simp at this; omega
          obtain ⟨ws, g1, g2, g3, g4⟩ := ih h2 (hr.set hxs (hv.cells e2).2 hle.1 hle.2) ho
          have hb1 : (i + 1) * sz ≤ es.length * sz := Nat.mul_le_mul_right _ (by omega)
          rw [Nat.add_mul, Nat.one_mul] at hb1
          have := hr.1
          refine ⟨ws, ?_, by rw [g2, setArr_size], by rw [g3]; simp, g4⟩
          simp only [Instr.fill]
          rw [if_neg (by simp; omega)]
          have := foldl_setArr v.cells.toList vs (i * sz)
          simp only [Array.toArray_toList] at this
          rw [← g1]
          congr 1
        · cases ho
      · cases ho

theorem RowR.replicate {ei : TyI} (hz : ei.zero.cells.size = ei.size) (hone : Ones ei.zero.cells.toList) (h0 : 0 < ei.size) (len : Nat) :
    RowR c ei.size 0 (List.replicate len (zeroCells ei)) ((Array.range (len * ei.size)).map (ei.zero.cells[· % ei.zero.cells.size]!)) := by
  refine ⟨by simp, fun e he => ?_, fun i e j x v g1 g2 g3 => ?_, fun v hv => ?_⟩
  · obtain ⟨_, rfl⟩ := List.mem_replicate.1 he
    simp [zeroCells, hz]
  · obtain ⟨_, rfl⟩ := List.mem_replicate.1 (List.mem_of_getElem? g1)
    have hj := (List.getElem?_eq_some_iff.1 g2).1
    simp [zeroCells, hz] at hj
    rw [Array.getElem?_map] at g3
    have hlt : 0 + i * ei.size + j < len * ei.size := by
      have hi := (List.getElem?_eq_some_iff.1 g1).1
      simp at hi
      have : (i + 1) * ei.size ≤ len * ei.size := Nat.mul_le_mul_right _ (by omega)
      rw [Nat.add_mul, Nat.one_mul] at this
      omega
    rw [Array.getElem?_range] at g3
    rw [if_pos hlt] at g3
    simp only [Option.map_some, Option.some.injEq] at g3
    have hmod : (0 + i * ei.size + j) % ei.zero.cells.size = j := by
      rw [hz, Nat.zero_add, Nat.add_comm, Nat.add_mul_mod_self_right, Nat.mod_eq_of_lt hj]
    rw [hmod] at g3
    simp only [zeroCells, List.getElem?_map, Array.getElem?_toList] at g2
    rw [getElem!_pos _ _ (by omega)] at g3
    rw [Array.getElem?_eq_getElem (by omega)] at g2
    simp only [Option.map_some, Option.some.injEq] at g2
    subst g2; subst g3
    exact VR.ofCell c _
  · simp only [Array.toList_map, Array.toList_range, List.mem_map, List.mem_range] at hv
    obtain ⟨j, hj, rfl⟩ := hv
    rw [getElem!_pos _ _ (by rw [hz]; exact Nat.mod_lt _ h0)]
    exact hone _ (by simp)

/-- A new row. -/
theorem sim_newRow (hs : Sim c h) {sz : Nat} {es : List (List AV)} {vs : Array Value} (e : TypeId) {w' : World} (hw : w'.heap = c.w.heap.push (.cells vs e)) (h1 : w'.os = c.w.os) (h2 : w'.tape = c.w.tape) (h3 : w'.output = c.w.output)
    (h0 : 0 < sz) (hr : RowR c sz 0 es vs) (lk : Bool) :
    let l : Loc := ⟨c.w.heap.size, 0, vs.size, sz⟩
    Sim ⟨upd c.φ h.length l, c.L, w'⟩ (h ++ [.arr sz es lk]) ∧ Ext c h ⟨upd c.φ h.length l, c.L, w'⟩ (h ++ [.arr sz es lk]) := by
  intro l
  refine Sim.new hs (o := .cells vs e) (l := l) rfl hw h1 h2 h3 (fun hle hL => ?_)
  refine .arr (vs := vs) (T := e) ?_ rfl rfl h0 hr.1 hr.2.1 (fun i e j x v g1 g2 g3 => (hr.2.2.1 i e j x v g1 g2 g3).mono hle) (by show c.L l.b ≤ _; rw [hL]; omega) (fun _ => hL) hr.2.2.2
  show w'.heap[c.w.heap.size]? = _
  rw [hw]; simp

theorem aBuildSlice_sound (hT : T.OK P) (hs : Sim c h) {t : TypeId} {len : Nat} {ps : List (Nat × AV)} {qs : Array (Nat × Value)} (hp : PartsR c ps qs.toList) (hk : aBuildSlice T t len ps h K) : SV P (Instr.buildSlice t len qs) c h K := by
  unfold aBuildSlice at hk
  split at hk
  · rename_i e s b z ht
    have hok := hT t _ ht
    split at hk
    · rename_i ei he
      have heo := hT e ei he
      split at hk
      · rename_i hle
        split at hk
        · rename_i es hes
          obtain ⟨ws, g1, g2, g3, g4⟩ := fillE_sound hp (RowR.replicate heo.zsz heo.zone hle.1 len) hes
          have hlen : es.length = len := by rw [g3]; simp
          have hnew := sim_newRow hs (es := es) (vs := ws) e (w' := c.w.alloc (.cells ws e)) rfl rfl rfl rfl hle.1 g4 false
          refine ⟨_, _, _, .slice (some ⟨c.w.heap.size, 0, none⟩) len len, hk, hnew.2, hnew.1, ?_, ?_⟩
          · by_cases hz : len * ei.size = 0
            · have hl0 : len = 0 := by
                rcases Nat.eq_zero_or_pos len with h' | h'
                · exact h'
                · have := Nat.mul_pos h' hle.1; omega
              subst hl0
              have hE : ((Array.range (0 * ei.size)).map (ei.zero.cells[· % ei.zero.cells.size]!)) = #[] := by simp
              rw [hE] at g1
              simp only [Instr.buildSlice, Sem.run_bind, hok.run_underlying c.w, Result.andThen_ok, heo.run_sizeOf c.w, Nat.zero_mul, if_true, Sem.run_pure, Sem.run_ite]
              rw [if_neg (by decide)]
              have hE2 : ((Array.range 0).map ((#[] : Array Value)[· % (#[] : Array Value).size]!)) = #[] := by simp
              rw [hE2, g1]
              rfl
            · have hgt : ¬ (len * ei.size > 2 ^ 24) := by omega
              simp only [Instr.buildSlice, Sem.run_bind, hok.run_underlying c.w, Result.andThen_ok, heo.run_sizeOf c.w, hgt, if_false, hz, heo.run_zeroValue c.w, Sem.run_pure, Sem.run_ite]
              rw [g1]
              rfl
          · have := VR.sl (c := ⟨upd c.φ h.length ⟨c.w.heap.size, 0, ws.size, ei.size⟩, c.L, c.w.alloc (.cells ws e)⟩) (id := h.length) (off := 0) (len := len) (cap := len) (l := ⟨c.w.heap.size, 0, ws.size, ei.size⟩) upd_same (Nat.le_refl _) hle.1 (by have := g4.1; rw [hlen] at this; simp only [Nat.zero_mul, Nat.zero_add] at this ⊢; omega)
            simpa using this
        · exact hk.elim
      · exact hk.elim
    · exact hk.elim
  · exact hk.elim

/-! ### Append -/
/-- The elements of a slice, as cells. -/
def elems? (sz : Nat) (h : AH) : AV → Option (List (List AV))
  | .nils => some []
  | .sl id off len => (match h[id]? with
    | some (.arr sz' es _) => if sz' = sz ∧ off + len ≤ es.length then some ((es.drop off).take len) else none
    | _ => none)
  | .ro sz' es => if sz' = sz then some es else none
  | .str s => if sz = 1 then some (s.data.toList.map fun b => [.int .u8 b.toNat]) else none
  | _ => none

/-- Is it a type of whole numbers? -/
def isIntD : TypeDesc → Bool
  | .int _ => true
  | _ => false

def aAppend (T : Tab) (ts : List TypeId) (x y : AV) (h : AH) (K : AV → AH → Prop) : Prop :=
  match ts with
  | t :: u :: _ => (match T t, T u with
    | some { desc := .slice e, .. }, some ui => if isIntD ui.desc then False else (match T e with
      | some ei => if 0 < ei.size ∧ 0 < ei.bytes then (match elems? ei.size h y with
        | some ne => (match x with
          | .nils => (match ne with
            | [] => K .nils h
            | _ :: _ => if ne.length * ei.bytes ≤ 140737488355328 then K (.sl h.length 0 ne.length) (h ++ [.arr ei.size ne false]) else False)
          | .sl id off len => (match h[id]? with
            | some (.arr sz es lk) => if sz = ei.size ∧ off + len ≤ es.length ∧ (lk = true → off + len = es.length) ∧ (len + ne.length) * ei.bytes ≤ 140737488355328 then
                K (.sl h.length 0 (len + ne.length)) (h.set id .dead ++ [.arr sz ((es.drop off).take len ++ ne) lk]) else False
            | _ => False)
          | _ => False)
        | none => False) else False
      | none => False)
    | _, _ => False)
  | _ => False

/-- What is appended, as cells. -/
theorem elems_run (hs : Sim c h) {sz : Nat} {y : AV} {v : Value} (hv : VR c y v) {ne : List (List AV)} (he : elems? sz h y = some ne) (h0 : 0 < sz) :
    ∃ ws : Array Value, (Builtin.lenOf v).run P c.w = .ok ne.length c.w ∧ (Builtin.firstCells sz ne.length v).run P c.w = .ok ws c.w ∧ ws.size = ne.length * sz ∧ RowR c sz 0 ne ws := by
  have ofCells : ∀ (b o : Nat) (len cap : Nat) (es : List (List AV)), v = .slice (some ⟨b, o, none⟩) len cap → es = ne → len = ne.length → (∀ e ∈ es, e.length = sz) → (∀ (i : Nat) (e : List AV), es[i]? = some e → CellsAt c b (o + i * sz) e) →
      ∃ ws : Array Value, (Builtin.lenOf v).run P c.w = .ok ne.length c.w ∧ (Builtin.firstCells sz ne.length v).run P c.w = .ok ws c.w ∧ ws.size = ne.length * sz ∧ RowR c sz 0 ne ws := by
    intro b o len cap es hveq hes hlen hall hc
    subst hveq; subst hes; subst hlen
    have hat : CellsAt c b o es.flatten := by
      intro j x hx
      have aux : ∀ (es : List (List AV)) (o : Nat), (∀ e ∈ es, e.length = sz) → (∀ (i : Nat) (e : List AV), es[i]? = some e → CellsAt c b (o + i * sz) e) → CellsAt c b o es.flatten := by
        intro es
        induction es with
        | nil => intro o _ _ j x hx; simp at hx
        | cons e es ih =>
          intro o hall hc j x hx
          have he1 := hall e (List.mem_cons_self ..)
          rw [List.flatten_cons] at hx
          rcases Nat.lt_or_ge j e.length with hj | hj
          · rw [List.getElem?_append_left hj] at hx
            have := hc 0 e rfl j x hx
            simpa using this
          · rw [List.getElem?_append_right hj] at hx
            have := ih (o + sz) (fun e' h' => hall e' (List.mem_cons_of_mem _ h')) (fun i e' h' => by
              have := hc (i + 1) e' (by simpa using h')
              rw [Nat.add_mul, Nat.one_mul] at this
              rw [show o + sz + i * sz = o + (i * sz + sz) by omega]; exact this) _ x hx
            rw [show o + sz + (j - e.length) = o + j by omega] at this
            exact this
      exact aux es o hall hc j x hx
    have hfl : es.flatten.length = es.length * sz := by
      clear hat hc he hv
      induction es with
      | nil => simp
      | cons e es ih =>
        rw [List.flatten_cons, List.length_append, hall e (List.mem_cons_self ..), ih (fun e' h' => hall e' (List.mem_cons_of_mem _ h'))]
        simp [Nat.add_mul]; omega
    obtain ⟨vs, r1, r2⟩ := run_loadCells_at (P := P) hat
    rw [hfl] at r1
    refine ⟨vs.toArray, by simp [Builtin.lenOf], by simp [Builtin.firstCells, r1], by simp [← r2.1.1, hfl], by simp [← r2.1.1, hfl], hall, fun i e j x u g1 g2 g3 => ?_, by simpa using r2.2⟩
    have hj := (List.getElem?_eq_some_iff.1 g2).1
    rw [hall e (List.mem_of_getElem? g1)] at hj
    have hfg : ∀ (es : List (List AV)) (i j : Nat) (e : List AV) (x : AV), (∀ e ∈ es, e.length = sz) → es[i]? = some e → e[j]? = some x → es.flatten[i * sz + j]? = some x := by
      intro es
      induction es with
      | nil => intro i j e x _ g; simp at g
      | cons e0 es ih =>
        intro i j e x hall g1 g2
        have he1 := hall e0 (List.mem_cons_self ..)
        have hj := (List.getElem?_eq_some_iff.1 g2).1
        rw [List.flatten_cons]
        cases i with
        | zero =>
          simp at g1; subst g1
          rw [Nat.zero_mul, Nat.zero_add, List.getElem?_append_left hj]; exact g2
        | succ i =>
          simp at g1
          rw [List.getElem?_append_right (by rw [he1, Nat.add_mul]; omega)]
          have := ih i j e x (fun e' h' => hall e' (List.mem_cons_of_mem _ h')) g1 g2
          rw [show (i + 1) * sz + j - e0.length = i * sz + j by rw [he1, Nat.add_mul]; omega]
          exact this
    have := hfg es i j e x hall g1 g2
    rw [Nat.zero_add] at g3
    exact r2.1.2 _ x u this (by simpa using g3)
  cases y <;> simp only [elems?, reduceCtorEq] at he
  case nils =>
    cases he; cases hv
    exact ⟨#[], by simp [Builtin.lenOf], by simp [Builtin.firstCells], by simp, by simp, by simp, fun i e j x v g => by simp at g, fun v hv => by simp at hv⟩
  case str s =>
    split at he
    · rename_i h1
      cases he; cases hv; subst h1
      refine ⟨s.data.map fun b => .int .u8 b.toNat, ?_, ?_, by simp, by simp, fun e he => ?_, fun i e j x v g1 g2 g3 => ?_, fun v hv => ?_⟩
      · have : (s.data.toList.map fun b => ([AV.int .u8 b.toNat] : List AV)).length = s.size := by simp
        rw [this]; rfl
      · have : (s.data.toList.map fun b => ([AV.int .u8 b.toNat] : List AV)).length = s.size := by simp
        rw [this]
        simp only [Builtin.firstCells, ByteArray.extract_zero_size]
        rfl
      · obtain ⟨b, _, rfl⟩ := List.mem_map.1 he; rfl
      · simp only [List.getElem?_map, Array.getElem?_toList, Option.map_eq_some_iff] at g1
        obtain ⟨b, g1, rfl⟩ := g1
        have hj := (List.getElem?_eq_some_iff.1 g2).1
        simp at hj; subst hj
        simp only [List.getElem?_cons_zero, Option.some.injEq] at g2
        subst g2
        simp only [Nat.zero_add, Nat.mul_one, Nat.add_zero, Array.getElem?_map, g1, Option.map_some, Option.some.injEq] at g3
        subst g3
        exact .int
      · simp only [Array.toList_map, List.mem_map] at hv
        obtain ⟨b, _, rfl⟩ := hv
        rfl
    · cases he
  case sl id off len =>
    split at he
    · rename_i sz' es lk hid
      split at he
      · rename_i hle
        cases he
        have hl2 : ((es.drop off).take len).length = len := by simp; omega
        obtain ⟨l, f1, f2, f3⟩ := hs.blk id _ hid rfl
        have harr := hs.rd.arr_cells hid f1
        have hall : ∀ e ∈ (es.drop off).take len, e.length = sz := fun e he => by
          cases f3 with
          | arr a1 a2 a3 a4 a5 a6 a7 a8 a9 a10 => rw [← hle.1]; exact a6 e (List.mem_of_mem_drop (List.mem_of_mem_take he))
        have hget : ∀ (i : Nat) (e : List AV), ((es.drop off).take len)[i]? = some e → es[off + i]? = some e := fun i e g => by
          have hi : i < len := by have := (List.getElem?_eq_some_iff.1 g).1; omega
          rwa [List.getElem?_take_of_lt hi, List.getElem?_drop] at g
        cases hv with
        | sl hl hcap h0' hn =>
          rename_i l' cap
          rw [f1] at hl; cases hl
          refine ofCells l.b (l.base + off * l.sz) len cap _ rfl rfl hl2.symm hall (fun i e g => ?_)
          have := harr.2 _ _ (hget i e g)
          rw [harr.1, hle.1, show l.base + off * sz + i * sz = l.base + (off + i) * sz by rw [Nat.add_mul]; omega]
          rw [hle.1] at this
          exact this
        | sl0 hl =>
          rw [f1] at hl; cases hl
          rename_i o
          refine ofCells l.b o 0 0 _ rfl rfl hl2.symm hall (fun i e g => ?_)
          simp at g
      · cases he
    · cases he
  case ro sz' es =>
    split at he
    · rename_i hle
      cases he; subst hle
      cases hv with
      | ro vals hlen hcap hsz hc hv' => exact ofCells _ _ _ _ _ rfl rfl hlen hsz (fun i e g j x hx => ⟨vals i j, (hc i e j x g hx).2.1, hv' i e j x g hx, (hc i e j x g hx).2.2⟩)
      | roNil => exact ⟨#[], by simp [Builtin.lenOf], by simp [Builtin.firstCells], by simp, by simp, by simp, fun i e j x v g => by simp at g, fun v hv => by simp at hv⟩
    · cases he

theorem RowR.append {sz : Nat} {es fs : List (List AV)} {vs us rest : Array Value} (h1 : RowR c sz 0 es vs) (h2 : RowR c sz 0 fs us) (hv : vs.size = es.length * sz) (hrest : Ones rest.toList) : RowR c sz 0 (es ++ fs) (vs ++ us ++ rest) := by
  refine ⟨?_, fun e he => ?_, fun i e j x v g1 g2 g3 => ?_, fun v hv => ?_⟩
  · have := h2.1
    simp [Nat.add_mul] at this ⊢; omega
  · rcases List.mem_append.1 he with h' | h'
    · exact h1.2.1 e h'
    · exact h2.2.1 e h'
  · have hj := (List.getElem?_eq_some_iff.1 g2).1
    rw [Nat.zero_add] at g3
    rcases Nat.lt_or_ge i es.length with hi | hi
    · rw [List.getElem?_append_left hi] at g1
      have hel := h1.2.1 e (List.mem_of_getElem? g1)
      have : (i + 1) * sz ≤ es.length * sz := Nat.mul_le_mul_right _ (by omega)
      rw [Nat.add_mul, Nat.one_mul] at this
      rw [Array.append_assoc, Array.getElem?_append_left (by omega)] at g3
      exact h1.2.2.1 i e j x v g1 g2 (by rw [Nat.zero_add]; exact g3)
    · rw [List.getElem?_append_right hi] at g1
      have hel := h2.2.1 e (List.mem_of_getElem? g1)
      have hi2 := (List.getElem?_eq_some_iff.1 g1).1
      have hb : (i - es.length + 1) * sz ≤ fs.length * sz := Nat.mul_le_mul_right _ (by omega)
      rw [Nat.add_mul, Nat.one_mul] at hb
      have hsplit : i * sz = es.length * sz + (i - es.length) * sz := by rw [← Nat.add_mul]; congr 1; omega
      have h21 := h2.1
      rw [Array.getElem?_append_left (by simp; omega), Array.getElem?_append_right (by omega)] at g3
      exact h2.2.2.1 (i - es.length) e j x v g1 g2 (by rw [Nat.zero_add, show (i - es.length) * sz + j = i * sz + j - vs.size by omega]; exact g3)
  · simp only [Array.toList_append, List.mem_append] at hv
    rcases hv with (hv | hv) | hv
    · exact h1.2.2.2 v hv
    · exact h2.2.2.2 v hv
    · exact hrest v hv

end
end Go.Vm
