/- The abstract machine, part 3: stores, addresses, parts, slices, what is built. -/
import Derived.Test.YteebkkipeiggcaaVm2
set_option linter.unusedVariables false
set_option linter.unusedSimpArgs false
namespace Go.Vm
open Go

def setAt (cs : List AV) (o : Nat) : List AV → List AV
  | [] => cs
  | x :: xs => setAt (cs.set o x) (o + 1) xs

def setArr (vs : Array Value) (o : Nat) : List Value → Array Value
  | [] => vs
  | y :: ys => setArr (vs.setIfInBounds o y) (o + 1) ys

theorem setAt_length (xs : List AV) : ∀ (cs : List AV) (o : Nat), (setAt cs o xs).length = cs.length := by
  induction xs with
  | nil => intro cs o; rfl
  | cons x xs ih => intro cs o; simp [setAt, ih]

theorem setArr_size (ys : List Value) : ∀ (vs : Array Value) (o : Nat), (setArr vs o ys).size = vs.size := by
  induction ys with
  | nil => intro vs o; rfl
  | cons y ys ih => intro vs o; simp [setArr, ih]

theorem setArr_get (ys : List Value) : ∀ (vs : Array Value) (o j : Nat), (setArr vs o ys)[j]? = if o ≤ j ∧ j < o + ys.length ∧ j < vs.size then ys[j - o]? else vs[j]? := by
  induction ys with
  | nil => intro vs o j; simp [setArr]; omega
  | cons y ys ih =>
    intro vs o j
    simp only [setArr, ih, Array.size_setIfInBounds, List.length_cons, Array.getElem?_setIfInBounds]
    by_cases h1 : o = j
    · subst h1
      simp only [Nat.sub_self, List.getElem?_cons_zero]
      rw [if_neg (by omega)]
      by_cases h2 : o < vs.size
      · simp [h2]
      · simp [h2]
    · by_cases h2 : o + 1 ≤ j ∧ j < o + 1 + ys.length ∧ j < vs.size
      · rw [if_pos h2, if_pos (by omega)]
        have : j - o = (j - (o + 1)) + 1 := by omega
        rw [this, List.getElem?_cons_succ]
      · rw [if_neg h2, if_neg h1, if_neg (by omega)]

theorem setAt_get (xs : List AV) : ∀ (cs : List AV) (o j : Nat), (setAt cs o xs)[j]? = if o ≤ j ∧ j < o + xs.length ∧ j < cs.length then xs[j - o]? else cs[j]? := by
  induction xs with
  | nil => intro cs o j; simp [setAt]; omega
  | cons x xs ih =>
    intro cs o j
    simp only [setAt, ih, List.length_set, List.length_cons, List.getElem?_set]
    by_cases h1 : o = j
    · subst h1
      simp only [Nat.sub_self, List.getElem?_cons_zero]
      rw [if_neg (by omega)]
      by_cases h2 : o < cs.length
      · simp [h2]
      · simp [h2]
    · by_cases h2 : o + 1 ≤ j ∧ j < o + 1 + xs.length ∧ j < cs.length
      · rw [if_pos h2, if_pos (by omega)]
        have : j - o = (j - (o + 1)) + 1 := by omega
        rw [this, List.getElem?_cons_succ]
      · rw [if_neg h2, if_neg h1, if_neg (by omega)]

/-- A row's block behind a store of some cells. -/
theorem run_storeCells_at (P : Program) {b o : Nat} {T : TypeId} (ys : List Value) : ∀ (i : Nat) (w : World) (vs : Array Value), w.heap[b]? = some (.cells vs T (0, 0)) → (∀ y ∈ ys, y.oneCell' = true) → o + i + ys.length ≤ vs.size →
    ∃ w', (storeCells ⟨b, o, none⟩ ys i).run P w = .ok () w' ∧ w'.heap[b]? = some (.cells (setArr vs (o + i) ys) T (0, 0)) ∧ (∀ x, x ≠ b → w'.heap[x]? = w.heap[x]?) ∧
      w'.heap.size = w.heap.size ∧ w'.os = w.os ∧ w'.tape = w.tape ∧ w'.output = w.output := by
  induction ys with
  | nil => intro i w vs hh _ _; exact ⟨w, rfl, hh, fun _ _ => rfl, rfl, rfl, rfl, rfl⟩
  | cons y ys ih =>
    intro i w vs hh hone hle
    simp only [List.length_cons] at hle
    have hcell : w.cell? ⟨b, o + i, none⟩ = some vs[o + i] := by simp [World.cell?, hh, show o + i < vs.size by omega]
    have hfz : w.frozen? ⟨b, o + i, none⟩ = false := by simp [World.frozen?, hh]
    have hheap : (w.setCell ⟨b, o + i, none⟩ y).heap[b]? = some (.cells (vs.setIfInBounds (o + i) y) T (0, 0)) := by
      simp [World.setCell, Array.getElem?_modify, hh]
    obtain ⟨w', h1, h2, h3, h4, h5, h6, h7⟩ := ih (i + 1) (w.setCell ⟨b, o + i, none⟩ y) _ hheap (fun z hz => hone z (List.mem_cons_of_mem _ hz)) (by simp; omega)
    refine ⟨w', ?_, ?_, fun x hx => ?_, by rw [h4]; simp, h5, h6, h7⟩
    · simp only [storeCells, Sem.run_bind, Addr.add_none, run_store P w _ y .plain (hone y (List.mem_cons_self ..)), hcell, hfz, Result.andThen_ok, Bool.false_eq_true, if_false, h1]
    · rw [h2]; simp [setArr, Nat.add_assoc]
    · rw [h3 x hx]
      simp only [World.setCell, Array.getElem?_modify]
      rw [if_neg (fun e => hx e.symm)]

section
variable {P : Program} {T : Tab} {c : Cx} {h : AH}

def aStore (T : Tab) (t : TypeId) (a x : AV) (h : AH) (K : AH → Prop) : Prop :=
  match T t, x.cells? with
  | some ti, some xs =>
    if xs.length = ti.size then
      match a with
      | .ptr id off => (match h[id]? with
        | some (.var cs) => if off + xs.length ≤ cs.length then K (h.set id (.var (setAt cs off xs))) else False
        | _ => False)
      | .ep id i off => (match h[id]? with
        | some (.arr sz es false) => (match es[i]? with
          | some e => if off + xs.length ≤ sz then K (h.set id (.arr sz (es.set i (setAt e off xs)) false)) else False
          | none => False)
        | _ => False)
      | _ => False
    else False
  | _, _ => False

theorem VRs.setAt {xs : List AV} {ys : List Value} (hx : VRs c xs ys) {cs : List AV} {vs : Array Value} (hc : VRs c cs vs.toList) (o : Nat) : VRs c (setAt cs o xs) (setArr vs o ys).toList := by
  refine ⟨by simp [setAt_length, setArr_size, hc.1], fun j x v h1 h2 => ?_⟩
  simp only [Array.getElem?_toList, setArr_get] at h2
  rw [setAt_get] at h1
  have hl1 : cs.length = vs.size := by simpa using hc.1
  rw [← hx.1, ← hl1] at h2
  by_cases hj : o ≤ j ∧ j < o + xs.length ∧ j < cs.length
  · rw [if_pos hj] at h1 h2
    exact hx.2 _ x v h1 h2
  · rw [if_neg hj] at h1 h2
    exact hc.2 j x v h1 (by simpa using h2)

theorem Ones.setArr {ys : List Value} (hy : Ones ys) : ∀ {vs : Array Value} (_ : Ones vs.toList) (o : Nat), Ones (setArr vs o ys).toList := by
  induction ys with
  | nil => intro vs h o; exact h
  | cons y ys ih =>
    intro vs h o
    refine ih (fun v hv => hy v (List.mem_cons_of_mem _ hv)) (fun v hv => ?_) (o + 1)
    rw [Array.toList_setIfInBounds] at hv
    rcases List.mem_or_eq_of_mem_set hv with h' | h'
    · exact h v h'
    · rw [h']; exact hy y (List.mem_cons_self ..)

theorem VRs.all_one {xs : List AV} {ys : List Value} (hx : VRs c xs ys) (h1 : xs.all AV.one = true) : ∀ y ∈ ys, y.oneCell' = true := by
  intro y hy
  obtain ⟨i, hi, rfl⟩ := List.mem_iff_getElem.1 hy
  have hi' : i < xs.length := by rw [hx.1]; exact hi
  have := hx.2 i xs[i] ys[i] (by simp [hi']) (by simp [hi])
  exact this.one (by rw [List.all_eq_true] at h1; exact h1 _ (List.getElem_mem hi'))

theorem aStore_sound (hT : T.OK P) (hs : Sim c h) {t : TypeId} {a x : AV} {va vx : Value} (ha : VR c a va) (hx : VR c x vx) {K : AH → Prop} (hk : aStore T t a x h K) : SU P (Instr.storeAt t va vx) c h K := by
  unfold aStore at hk
  split at hk
  · rename_i ti xs ht hcs
    have hok := hT t ti ht
    have hxs := (hx.cells hcs).1
    have hys := (hx.cells hcs).2
    split at hk
    · rename_i hone
      have hlen : vx.cells.size = ti.size := by have := hxs.1; simp at this; omega
      have hrun : ∀ ad : Addr, (Instr.storeAt t (.pointer (some ad)) vx).run P c.w = (storeCells ad vx.cells.toList).run P c.w := fun ad => by
        simp [Instr.storeAt, Instr.sureAddr, storeVar, hok.run_sizeOf c.w, hlen]
      cases ha <;> simp only at hk <;> try exact hk.elim
      case ptr id off l hl =>
        split at hk
        · rename_i cs hid
          split at hk
          · rename_i hle
            obtain ⟨l0, f1, f2, f3⟩ := hs.blk id _ hid rfl
            rw [hl] at f1; cases f1
            cases f3 with
            | var hh hb hL hv h1 =>
              rename_i vs TT
              have hsz : cs.length = vs.size := by simpa using hv.1
              obtain ⟨w', r1, r2, r3, r4, r5, r6, r7⟩ := run_storeCells_at P (b := l.b) (o := l.base + off) vx.cells.toList 0 c.w vs hh hys (by rw [← hxs.1, hb]; omega)
              have h2 := Sim.upd hs (b' := .var (Vm.setAt cs off xs)) (w' := w') hid rfl hl r4 r3 (fun o ho => by rw [hL] at ho; omega) r5 r6 r7
                (fun hle => .var r2 hb hL (by rw [hb]; simpa using (hxs.setAt hv off).mono hle) (Ones.setArr hys h1 _))
              exact ⟨_, _, hk, h2.2, h2.1, by rw [hrun]; exact r1⟩
          · exact hk.elim
        · exact hk.elim
      case ep id i off l hl =>
        split at hk
        · rename_i sz es hid
          split at hk
          · rename_i e he
            split at hk
            · rename_i hle
              obtain ⟨l0, f1, f2, f3⟩ := hs.blk id _ hid rfl
              rw [hl] at f1; cases f1
              cases f3 with
              | arr a1 a2 a3 a4 a5 a6 a7 a8 a9 a10 =>
                rename_i vs TT
                have hi := (List.getElem?_eq_some_iff.1 he).1
                have hel : e.length = sz := a6 e (List.mem_of_getElem? he)
                have hb1 : (i + 1) * sz ≤ es.length * sz := Nat.mul_le_mul_right _ (by omega)
                rw [Nat.add_mul, Nat.one_mul] at hb1
                have hlen2 : vx.cells.toList.length = xs.length := hxs.1.symm
                obtain ⟨w', r1, r2, r3, r4, r5, r6, r7⟩ := run_storeCells_at P (b := l.b) (o := l.base + i * l.sz + off) vx.cells.toList 0 c.w vs a1 hys (by rw [hlen2, a3]; omega)
                have hL0 := a9 rfl
                have h2 := Sim.upd hs (b' := .arr sz (es.set i (Vm.setAt e off xs)) false) (w' := w') hid rfl hl r4 r3 (fun o ho => by rw [hL0] at ho; omega) r5 r6 r7
                  (fun hle => by
                    refine .arr r2 (by rw [setArr_size]; exact a2) a3 a4 (by rw [setArr_size]; simpa using a5) (fun e' he' => ?_) (fun i' e' j x v g1 g2 g3 => ?_) (by show c.L l.b ≤ _; rw [hL0]; omega) (fun _ => hL0) (Ones.setArr hys a10 _)
                    · rcases List.mem_or_eq_of_mem_set he' with h' | h'
                      · exact a6 e' h'
                      · rw [h', setAt_length]; exact hel
                    · rw [Nat.add_zero, setArr_get] at g3
                      rw [List.getElem?_set] at g1
                      by_cases hii : i = i'
                      · subst hii
                        simp only [if_true] at g1
                        rw [if_pos hi] at g1
                        cases g1
                        rw [setAt_get] at g2
                        rw [a3, hlen2] at g3
                        by_cases hj : off ≤ j ∧ j < off + xs.length ∧ j < e.length
                        · rw [if_pos hj] at g2
                          rw [if_pos (by omega)] at g3
                          have : l.base + i * sz + j - (l.base + i * sz + off) = j - off := by omega
                          rw [this] at g3
                          exact (hxs.2 _ x v g2 g3).mono hle
                        · rw [if_neg hj] at g2
                          have hje := (List.getElem?_eq_some_iff.1 g2).1
                          rw [if_neg (by omega)] at g3
                          exact (a7 i e j x v he g2 g3).mono hle
                      · rw [if_neg hii] at g1
                        have hje := (List.getElem?_eq_some_iff.1 g2).1
                        have hel' := a6 e' (List.mem_of_getElem? g1)
                        have hne : ¬ (l.base + i * l.sz + off ≤ l.base + i' * sz + j ∧ l.base + i' * sz + j < l.base + i * l.sz + off + vx.cells.toList.length ∧ l.base + i' * sz + j < vs.size) := by
                          rw [a3, hlen2]
                          rintro ⟨p, q, _⟩
                          rcases Nat.lt_or_gt_of_ne hii with hlt | hlt
                          · have : (i + 1) * sz ≤ i' * sz := Nat.mul_le_mul_right _ (by omega)
                            rw [Nat.add_mul, Nat.one_mul] at this
                            omega
                          · have : (i' + 1) * sz ≤ i * sz := Nat.mul_le_mul_right _ (by omega)
                            rw [Nat.add_mul, Nat.one_mul] at this
                            omega
                        rw [if_neg hne] at g3
                        exact (a7 i' e' j x v g1 g2 g3).mono hle)
                exact ⟨_, _, hk, h2.2, h2.1, by rw [hrun]; exact r1⟩
            · exact hk.elim
          · exact hk.elim
        · exact hk.elim
    · exact hk.elim
  · exact hk.elim

/-! ### Addresses and parts -/
variable {K : AV → AH → Prop}

def aOff (x : AV) (n : Nat) (h : AH) (K : AV → AH → Prop) : Prop :=
  match x with
  | .ptr id off => K (.ptr id (off + n)) h
  | .ep id i off => K (.ep id i (off + n)) h
  | .rop sz es i off => K (.rop sz es i (off + n)) h
  | _ => False

def aFieldAddr (T : Tab) (t : TypeId) (x : AV) (f : Nat) (h : AH) (K : AV → AH → Prop) : Prop :=
  match T t with
  | some { desc := .struct fs, .. } => (match fs[f]? with
    | some fd => (match T fd.type with
      | some fi => if fi.size = 0 then False else aOff x fd.offset h K
      | none => False)
    | none => False)
  | _ => False

theorem aFieldAddr_sound (hT : T.OK P) (hs : Rd c h) {t : TypeId} {f : Nat} {x : AV} {v : Value} (hv : VR c x v) (hk : aFieldAddr T t x f h K) : SV0 P (Instr.fieldAt t v f) c fun y => K y h := by
  unfold aFieldAddr at hk
  split at hk
  · rename_i fs sz by_ z ht
    have hok := hT t _ ht
    split at hk
    · rename_i fd hf
      split at hk
      · rename_i fi hfi
        have hfo := hT _ fi hfi
        split at hk
        · exact hk.elim
        · rename_i hne
          have hrun : ∀ a, (Instr.fieldAt t (.pointer (some a)) f).run P c.w = .ok (.pointer (some (a.add fd.offset))) c.w := fun a => by
            simp [Instr.fieldAt, hok.run_underlying c.w, hf, Instr.sureAddr, fieldPlace, hfo.run_sizeOf c.w, hne]
          unfold aOff at hk
          cases hv <;> simp only at hk <;> try exact hk.elim
          case ptr id off l hl => exact SV0.same hk (hrun _) (by rw [Addr.add_none, Nat.add_assoc]; exact .ptr hl)
          case ep id i off l hl => exact SV0.same hk (hrun _) (by rw [Addr.add_none, Nat.add_assoc]; exact .ep hl)
          case rop sz es i off b o vals h1 h2 h3 h4 => exact SV0.same hk (hrun _) (by rw [Addr.add_none, Nat.add_assoc]; exact .rop vals h1 h2 h3 h4)
      · exact hk.elim
    · exact hk.elim
  · exact hk.elim

theorem part_sound {t : TypeId} {ti : TyI} (ht : TyOK P t ti) {cs : List AV} {vs : Array Value} (hv : VRs c cs vs.toList) (hone : Ones vs.toList) {off : Nat} {K : AV → Prop} (hk : aPart ti cs off K) : SV0 P (part t vs off) c K := by
  have hlen : cs.length = vs.size := by simpa using hv.1
  unfold aPart at hk
  split at hk
  · rename_i hag
    split at hk
    · rename_i hle
      refine SV0.same hk (v := .agg (vs.extract off (off + ti.size))) (by simp [part, ht.run_isAgg c.w, hag, ht.run_sizeOf c.w]) (.agg (fun v hv => hone v (by rw [Array.toList_extract] at hv; exact List.mem_of_mem_drop (List.mem_of_mem_take hv) )) (by simp; omega) fun i x v h1 h2 => ?_)
      have hi : i < ti.size := by have := (List.getElem?_eq_some_iff.1 h1).1; simp at this; omega
      rw [List.getElem?_take_of_lt hi, List.getElem?_drop] at h1
      rw [Array.getElem?_extract] at h2
      split at h2
      · exact hv.2 _ x v h1 (by simpa using h2)
      · cases h2
    · exact hk.elim
  · rename_i hag
    split at hk
    · rename_i x hx
      have hi : off < vs.size := by have := (List.getElem?_eq_some_iff.1 hx).1; omega
      exact SV0.same hk (v := vs[off]) (by simp [part, ht.run_isAgg c.w, hag, hi]) (hv.2 off x _ hx (by simp [hi]))
    · exact hk.elim

def aField (T : Tab) (t : TypeId) (x : AV) (f : Nat) (h : AH) (K : AV → AH → Prop) : Prop :=
  match T t, x with
  | some { desc := .struct fs, .. }, .agg cs => (match fs[f]? with
    | some fd => (match T fd.type with
      | some fi => aPart fi cs fd.offset fun y => K y h
      | none => False)
    | none => False)
  | _, _ => False

theorem aField_sound (hT : T.OK P) (hs : Rd c h) {t : TypeId} {f : Nat} {x : AV} {v : Value} (hv : VR c x v) (hk : aField T t x f h K) : SV0 P (Instr.field t v f) c fun y => K y h := by
  unfold aField at hk
  split at hk
  · rename_i fs sz by_ z cs ht
    have hok := hT t _ ht
    split at hk
    · rename_i fd hf
      split at hk
      · rename_i fi hfi
        cases hv with
        | agg h0 h1 h2 =>
          rename_i vs
          exact SV0.congr (by simp [Instr.field, hok.run_underlying c.w, hf, asAgg]) (part_sound (hT _ fi hfi) (VRs.of_array h1 h2) h0 hk)
      · exact hk.elim
    · exact hk.elim
  · exact hk.elim

def aIndexAddr (T : Tab) (t : TypeId) (x i : AV) (h : AH) (K : AV → AH → Prop) : Prop :=
  match T t, i with
  | some { desc := .slice e, .. }, .int _ n => (match T e with
    | some ei =>
      (match x with
      | .sl id off len => (match h[id]? with
        | some (.arr sz _ _) => if sz = ei.size then (if 0 ≤ n ∧ n < len then K (.ep id (off + n.toNat) 0) h else False) else False
        | _ => False)
      | .vsl id off len sz => if sz = ei.size then (if 0 ≤ n ∧ n < len then K (.ptr id (off + n.toNat * sz)) h else False) else False
      | .ro sz es => if sz = ei.size then (if 0 ≤ n ∧ n < es.length then K (.rop sz es n.toNat 0) h else False) else False
      | _ => False)
    | none => False)
  | some { desc := .array len e, .. }, .int _ n => (match T e with
    | some ei => if 0 ≤ n ∧ n < len then aOff x (n.toNat * ei.size) h K else False
    | none => False)
  | _, _ => False

theorem aIndexAddr_sound (hT : T.OK P) (hs : Rd c h) {t : TypeId} {x i : AV} {v u : Value} (hv : VR c x v) (hu : VR c i u) (hk : aIndexAddr T t x i h K) : SV0 P (Instr.indexAt t v u) c fun y => K y h := by
  unfold aIndexAddr at hk
  split at hk
  · rename_i e s b z k n ht
    have hok := hT t _ ht
    cases hu
    split at hk
    · rename_i ei he
      have heo := hT e ei he
      have hrun : ∀ (a : Addr) (len cap : Nat), 0 ≤ n → n < len → (Instr.indexAt t (.slice (some a) len cap) (.int k n)).run P c.w = .ok (.pointer (some (a.add (n.toNat * ei.size)))) c.w := fun a len cap h1 h2 => by
        simp [Instr.indexAt, asIntOf, hok.run_underlying c.w, h1, h2, heo.run_sizeOf c.w]
      split at hk
      · rename_i id off len
        split at hk
        · rename_i sz es lk hid
          split at hk
          · rename_i hsz
            subst hsz
            split at hk
            · rename_i hin
              cases hv with
              | sl hl hcap h0 hn =>
                rename_i l cap
                have := (hs.arr_cells hid hl).1
                refine SV0.same hk (hrun _ _ _ hin.1 hin.2) ?_
                rw [Addr.add_none]
                have e2 : l.base + off * l.sz + n.toNat * ei.size = l.base + (off + n.toNat) * l.sz + 0 := by rw [this, Nat.add_mul]; omega
                rw [e2]
                exact .ep hl
              | sl0 hl => exact absurd hin.2 (by simp; omega)
            · exact hk.elim
          · exact hk.elim
        · exact hk.elim
      · rename_i id off len sz
        split at hk
        · rename_i hsz
          subst hsz
          split at hk
          · rename_i hin
            cases hv with
            | vsl hl hcap => exact SV0.same hk (hrun _ _ _ hin.1 hin.2) (by rw [Addr.add_none, Nat.add_assoc]; exact .ptr hl)
          · exact hk.elim
        · exact hk.elim
      · rename_i sz es
        split at hk
        · rename_i hsz
          subst hsz
          split at hk
          · rename_i hin
            cases hv with
            | ro vals hlen hcap hsz hc hv' =>
              rename_i b o len cap
              subst hlen
              refine SV0.same hk (hrun _ _ _ hin.1 hin.2) ?_
              rw [Addr.add_none]
              exact .rop vals (off := 0) (by omega) hsz hc hv'
            | roNil => exact absurd hin.2 (by simp; omega)
          · exact hk.elim
        · exact hk.elim
      · exact hk.elim
    · exact hk.elim
  · rename_i len e s b z k n ht
    have hok := hT t _ ht
    cases hu
    split at hk
    · rename_i ei he
      have heo := hT e ei he
      split at hk
      · rename_i hin
        have hrun : ∀ (a : Addr), (Instr.indexAt t (.pointer (some a)) (.int k n)).run P c.w = .ok (.pointer (some (a.add (n.toNat * ei.size)))) c.w := fun a => by
          simp [Instr.indexAt, asIntOf, hok.run_underlying c.w, hin.1, hin.2, heo.run_sizeOf c.w, Instr.sureAddr]
        unfold aOff at hk
        cases hv <;> simp only at hk <;> try exact hk.elim
        case ptr id off l hl => exact SV0.same hk (hrun _) (by rw [Addr.add_none, Nat.add_assoc]; exact .ptr hl)
        case ep id i off l hl => exact SV0.same hk (hrun _) (by rw [Addr.add_none, Nat.add_assoc]; exact .ep hl)
        case rop sz es i off b o vals h1 h2 h3 h4 => exact SV0.same hk (hrun _) (by rw [Addr.add_none, Nat.add_assoc]; exact .rop vals h1 h2 h3 h4)
      · exact hk.elim
    · exact hk.elim
  · exact hk.elim

end
end Go.Vm
