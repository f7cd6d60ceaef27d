/- The abstract machine, part 4: what is indexed, cut, built, reckoned, converted, asserted. -/
import Derived.Test.YteebkkipeiggcaaVm3
import Derived.Laws.Append
set_option linter.unusedVariables false
set_option linter.unusedSimpArgs false
namespace Go.Vm
open Go

section
variable {P : Program} {T : Tab} {c : Cx} {h : AH} {K : AV → AH → Prop}

/-! ### Index -/
def aIndex (T : Tab) (t : TypeId) (x i : AV) (h : AH) (K : AV → AH → Prop) : Prop :=
  match T t, x, i with
  | some { desc := .string, .. }, .str s, .int _ n => if 0 ≤ n then (match s[n.toNat]? with
    | some b => K (.int .u8 b.toNat) h
    | none => False) else False
  | some { desc := .array len e, .. }, .agg cs, .int _ n => if 0 ≤ n ∧ n < len then (match T e with
    | some ei => aPart ei cs (n.toNat * ei.size) fun y => K y h
    | none => False) else False
  | _, _, _ => False

theorem aIndex_sound (hT : T.OK P) (hs : Rd c h) {t : TypeId} {x i : AV} {v u : Value} (hv : VR c x v) (hu : VR c i u) (hk : aIndex T t x i h K) : SV0 P (Instr.index t v u) c fun y => K y h := by
  unfold aIndex at hk
  split at hk
  · rename_i ht
    have hok := hT t _ ht
    cases hv; cases hu
    split at hk
    · rename_i h0
      split at hk
      · rename_i b hb
        exact SV0.same hk (v := .int .u8 b.toNat) (by simp [Instr.index, asIntOf, hok.run_underlying c.w, h0, hb]) .int
      · exact hk.elim
    · exact hk.elim
  · rename_i ht
    have hok := hT t _ ht
    cases hu
    split at hk
    · rename_i h0
      split at hk
      · rename_i ei he
        cases hv with
        | agg h00 h1 h2 =>
          refine SV0.congr ?_ (part_sound (hT _ ei he) (VRs.of_array h1 h2) h00 hk)
          simp [Instr.index, asIntOf, hok.run_underlying c.w, h0.1, h0.2, (hT _ ei he).run_sizeOf c.w]
      · exact hk.elim
    · exact hk.elim
  · exact hk.elim

/-! ### Slices of strings, slices, arrays -/
def aBound (x : Option AV) (d y : Nat) (K : Nat → Prop) : Prop :=
  match x with
  | none => K d
  | some (.int _ n) => if 0 ≤ n ∧ n ≤ y then K n.toNat else False
  | some _ => False

def aSlice (T : Tab) (t : TypeId) (x : AV) (lo hi : Option AV) (h : AH) (K : AV → AH → Prop) : Prop :=
  match T t with
  | some { desc := .string, .. } => (match x with
    | .str s => aBound hi s.size s.size fun b => aBound lo 0 b fun a => K (.str (s.extract a b)) h
    | _ => False)
  | some { desc := .slice e, .. } => (match T e with
    | some ei => (match x with
      | .sl id off len => (match h[id]? with
        | some (.arr sz _ _) => if sz = ei.size then aBound hi len len fun b => aBound lo 0 b fun a => K (.sl id (off + a) (b - a)) h else False
        | _ => False)
      | .vsl id off len sz => if sz = ei.size then aBound hi len len fun b => aBound lo 0 b fun a => if a < len then K (.vsl id (off + a * sz) (b - a) sz) h else False else False
      | .ro sz es => if sz = ei.size then aBound hi es.length es.length fun b => aBound lo 0 b fun a => K (.ro sz ((es.drop a).take (b - a))) h else False
      | .nils => aBound hi 0 0 fun b => aBound lo 0 b fun _ => K .nils h
      | _ => False)
    | none => False)
  | some { desc := .array n e, .. } => (match T e with
    | some ei => (match x with
      | .ptr id off => aBound hi n n fun b => aBound lo 0 b fun a => if a < n then K (.vsl id (off + a * ei.size) (b - a) ei.size) h else False
      | _ => False)
    | none => False)
  | _ => False

/-- The model's bounds, as the abstract machine reckons them: 'y' is what the upper one may be there, at least 'd'. -/
theorem aBounds_run {lo hi : Option AV} {vlo vhi : Option Value} {isSl : Bool} {len cap : Nat} (hl : len ≤ cap)
    (h1 : ∀ x, lo = some x → ∃ v, vlo = some v ∧ VR c x v) (h2 : ∀ x, hi = some x → ∃ v, vhi = some v ∧ VR c x v) (n1 : lo = none → vlo = none) (n2 : hi = none → vhi = none)
    {Q : Nat → Nat → Prop} (hk : aBound hi len len fun b => aBound lo 0 b fun a => Q a b) :
    ∃ a b, a ≤ b ∧ b ≤ len ∧ Q a b ∧ (Instr.sliceBounds isSl len cap vlo vhi none).run P c.w = .ok (a, b, cap) c.w := by
  have one : ∀ (k : IntKind) (n : Int) (y : Nat) (code : BoundsCode), 0 ≤ n → n ≤ y → (Instr.sliceBound (.int k n) y code).run P c.w = .ok n.toNat c.w := fun k n y code g1 g2 => by
    simp [Instr.sliceBound, asIntOf, g1, g2]
  unfold aBound at hk
  split at hk
  · rename_i e
    have := n2 rfl; subst this
    split at hk
    · have := n1 rfl; subst this
      exact ⟨0, len, by omega, by omega, hk, by simp [Instr.sliceBounds]⟩
    · split at hk
      · rename_i n hn
        obtain ⟨v, rfl, hv⟩ := h1 _ rfl
        cases hv
        exact ⟨n.toNat, len, by omega, by omega, hk, by simp [Instr.sliceBounds, one _ _ _ _ hn.1 hn.2]⟩
      · exact hk.elim
    · exact hk.elim
  · split at hk
    · rename_i n hn
      obtain ⟨v, rfl, hv⟩ := h2 _ rfl
      cases hv
      have hb : n.toNat ≤ len := by omega
      split at hk
      · have := n1 rfl; subst this
        exact ⟨0, n.toNat, by omega, hb, hk, by simp [Instr.sliceBounds, one _ _ _ _ hn.1 (show n ≤ (cap : Int) by omega)]⟩
      · split at hk
        · rename_i m hm
          obtain ⟨v, rfl, hv⟩ := h1 _ rfl
          cases hv
          exact ⟨m.toNat, n.toNat, by omega, hb, hk, by simp [Instr.sliceBounds, one _ _ _ _ hn.1 (show n ≤ (cap : Int) by omega), one _ _ _ _ hm.1 hm.2]⟩
        · exact hk.elim
      · exact hk.elim
    · exact hk.elim
  · exact hk.elim

theorem aSlice_sound (hT : T.OK P) (hs : Rd c h) {t : TypeId} {x : AV} {v : Value} {lo hi : Option AV} {vlo vhi : Option Value} (hv : VR c x v)
    (h1 : ∀ x, lo = some x → ∃ v, vlo = some v ∧ VR c x v) (h2 : ∀ x, hi = some x → ∃ v, vhi = some v ∧ VR c x v) (n1 : lo = none → vlo = none) (n2 : hi = none → vhi = none)
    (hk : aSlice T t x lo hi h K) : SV0 P (Instr.sliceAt t v vlo vhi none) c fun y => K y h := by
  unfold aSlice at hk
  split at hk
  · rename_i ht
    have hok := hT t _ ht
    split at hk
    · cases hv
      rename_i s
      obtain ⟨a, b, g1, g2, g3, g4⟩ := aBounds_run (P := P) (isSl := false) (Nat.le_refl s.size) h1 h2 n1 n2 hk
      exact SV0.same g3 (by simp [Instr.sliceAt, Instr.slice, hok.run_underlying c.w, g4]) .str
    · exact hk.elim
  · rename_i e s b z ht
    have hok := hT t _ ht
    split at hk
    · rename_i ei he
      have heo := hT e ei he
      have hrun : ∀ (ad : Option Addr) (len cap a b : Nat), (Instr.sliceBounds true len cap vlo vhi none).run P c.w = .ok (a, b, cap) c.w →
          (Instr.sliceAt t (.slice ad len cap) vlo vhi none).run P c.w = .ok (.slice (if cap = a then ad else ad.map (·.add (a * ei.size))) (b - a) (cap - a)) c.w := fun ad len cap a b hb => by
        simp [Instr.sliceAt, Instr.slice, hok.run_underlying c.w, hb, heo.run_sizeOf c.w]
      split at hk
      · rename_i id off len
        split at hk
        · rename_i sz es lk hid
          split at hk
          · rename_i hsz
            subst hsz
            cases hv with
            | sl hl hcap h0 hn =>
              rename_i l cap
              have hlsz := (hs.arr_cells hid hl).1
              obtain ⟨a, b, g1, g2, g3, g4⟩ := aBounds_run (P := P) (isSl := true) hcap h1 h2 n1 n2 hk
              refine SV0.same g3 (hrun _ _ _ _ _ g4) ?_
              by_cases hca : cap = a
              · rw [if_pos hca]
                have hba : b - a = 0 := by omega
                have hc0 : cap - a = 0 := by omega
                rw [hba, hc0]
                exact .sl0 hl
              · rw [if_neg hca]
                simp only [Option.map_some, Addr.add_none]
                have e2 : l.base + off * l.sz + a * ei.size = l.base + (off + a) * l.sz := by rw [← hlsz, Nat.add_mul]; omega
                rw [e2]
                refine .sl hl (by omega) h0 ?_
                have hm : (off + a) * l.sz + (cap - a) * l.sz = off * l.sz + cap * l.sz := by
                  rw [← Nat.add_mul, ← Nat.add_mul]; congr 1; omega
                omega
            | sl0 hl =>
              obtain ⟨a, b, g1, g2, g3, g4⟩ := aBounds_run (P := P) (isSl := true) (Nat.le_refl 0) h1 h2 n1 n2 hk
              have hb0 : b = 0 := by omega
              have ha0 : a = 0 := by omega
              subst hb0; subst ha0
              exact SV0.same g3 (hrun _ _ _ _ _ g4) (by simp; exact .sl0 hl)
          · exact hk.elim
        · exact hk.elim
      · rename_i id off len sz
        split at hk
        · rename_i hsz
          subst hsz
          cases hv with
          | vsl hl hcap =>
            obtain ⟨a, b, g1, g2, g3, g4⟩ := aBounds_run (P := P) (isSl := true) hcap h1 h2 n1 n2 hk
            split at g3
            · rename_i halt
              refine SV0.same g3 (hrun _ _ _ _ _ g4) ?_
              rw [if_neg (by omega)]
              simp only [Option.map_some, Addr.add_none, Nat.add_assoc]
              exact .vsl hl (by omega)
            · exact g3.elim
        · exact hk.elim
      · rename_i sz es
        split at hk
        · rename_i hsz
          subst hsz
          cases hv with
          | ro vals hlen hcap hsz hc hv' =>
            rename_i bb o len cap
            subst hlen
            obtain ⟨a, b, g1, g2, g3, g4⟩ := aBounds_run (P := P) (isSl := true) hcap h1 h2 n1 n2 hk
            refine SV0.same g3 (hrun _ _ _ _ _ g4) ?_
            have hl2 : ((es.drop a).take (b - a)).length = b - a := by simp; omega
            have hsub : ∀ e, e ∈ (es.drop a).take (b - a) → e ∈ es := fun e he => List.mem_of_mem_drop (List.mem_of_mem_take he)
            have hget : ∀ (i : Nat) (e : List AV), ((es.drop a).take (b - a))[i]? = some e → es[a + i]? = some e := fun i e g => by
              have hi : i < b - a := by have := (List.getElem?_eq_some_iff.1 g).1; omega
              rwa [List.getElem?_take_of_lt hi, List.getElem?_drop] at g
            by_cases hca : cap = a
            · rw [if_pos hca]
              have hba : b - a = 0 := by omega
              have hc0 : cap - a = 0 := by omega
              rw [hba, hc0, List.take_zero]
              exact .ro (fun _ _ => default) rfl (Nat.le_refl _) (by simp) (fun i e j x hh => by simp at hh) (fun i e j x hh => by simp at hh)
            · rw [if_neg hca]
              simp only [Option.map_some, Addr.add_none]
              refine .ro (fun i j => vals (a + i) j) hl2.symm (by omega) (fun e he => hsz e (hsub e he)) (fun i e j x k1 k2 => ?_) (fun i e j x k1 k2 => hv' _ e j x (hget i e k1) k2)
              have := hc (a + i) e j x (hget i e k1) k2
              rw [Nat.add_mul, ← Nat.add_assoc] at this
              exact this
          | roNil =>
            obtain ⟨a, b, g1, g2, g3, g4⟩ := aBounds_run (P := P) (isSl := true) (Nat.le_refl 0) h1 h2 n1 n2 hk
            have hb0 : b = 0 := by simp at g2; omega
            have ha0 : a = 0 := by omega
            subst hb0; subst ha0
            exact SV0.same g3 (hrun _ _ _ _ _ g4) (by simp; exact .roNil)
        · exact hk.elim
      · cases hv
        obtain ⟨a, b, g1, g2, g3, g4⟩ := aBounds_run (P := P) (isSl := true) (Nat.le_refl 0) h1 h2 n1 n2 hk
        have hb0 : b = 0 := by omega
        have ha0 : a = 0 := by omega
        subst hb0; subst ha0
        exact SV0.same g3 (hrun _ _ _ _ _ g4) (by simp; exact .nils)
      · exact hk.elim
    · exact hk.elim
  · rename_i n e s b z ht
    have hok := hT t _ ht
    split at hk
    · rename_i ei he
      have heo := hT e ei he
      split at hk
      · cases hv with
        | ptr hl =>
          obtain ⟨a, b, g1, g2, g3, g4⟩ := aBounds_run (P := P) (isSl := false) (Nat.le_refl n) h1 h2 n1 n2 hk
          split at g3
          · rename_i halt
            refine SV0.same g3 (by simp [Instr.sliceAt, hok.run_underlying c.w, Instr.sureAddr, g4, heo.run_sizeOf c.w]; rfl) ?_
            rw [if_neg (by omega)]
            simp only [Addr.add_none, Nat.add_assoc]
            exact .vsl hl (by omega)
          · exact g3.elim
      · exact hk.elim
    · exact hk.elim
  · exact hk.elim

/-! ### What is built -/
def fillA (place : Nat → Option (Nat × Nat)) (cells : List AV) : List (Nat × AV) → Option (List AV)
  | [] => some cells
  | (i, x) :: rest =>
    match place i, x.cells? with
    | some (off, size), some xs => if xs.length = size ∧ off + xs.length ≤ cells.length then fillA place (setAt cells off xs) rest else none
    | _, _ => none

/-- The parts of what is built, place by place. -/
inductive PartsR (c : Cx) : List (Nat × AV) → List (Nat × Value) → Prop
  | nil : PartsR c [] []
  | cons {i x v ps qs} (h : VR c x v) (hs : PartsR c ps qs) : PartsR c ((i, x) :: ps) ((i, v) :: qs)

theorem foldl_setArr (ys : List Value) : ∀ (vs : Array Value) (off : Nat), (ys.toArray.zipIdx.foldl (fun cs (p : Value × Nat) => cs.setIfInBounds (off + p.2) p.1) vs) = setArr vs off ys := by
  have aux : ∀ (ys : List Value) (vs : Array Value) (off k : Nat), ((ys.zipIdx k).foldl (fun cs (p : Value × Nat) => cs.setIfInBounds (off + p.2) p.1) vs) = setArr vs (off + k) ys := by
    intro ys
    induction ys with
    | nil => intro vs off k; rfl
    | cons y ys ih => intro vs off k; simp [List.zipIdx_cons, setArr, ih, Nat.add_assoc]
  intro vs off
  have := aux ys vs off 0
  simp only [Nat.add_zero] at this
  rw [← this, ← Array.foldl_toList]
  simp

theorem fillA_sound {place : Nat → Option (Nat × Nat)} : ∀ {ps : List (Nat × AV)} {qs : List (Nat × Value)} {cells : List AV} {vs : Array Value} {out : List AV},
    PartsR c ps qs → VRs c cells vs.toList → Ones vs.toList → fillA place cells ps = some out → ∃ ws : Array Value, Instr.fill place vs qs = some ws ∧ VRs c out ws.toList ∧ Ones ws.toList := by
  intro ps
  induction ps with
  | nil =>
    intro qs cells vs out hp hc h1 ho
    cases hp
    simp only [fillA, Option.some.injEq] at ho
    subst ho
    exact ⟨vs, rfl, hc, h1⟩
  | cons p ps ih =>
    intro qs cells vs out hp hc h1 ho
    cases hp with
    | cons hv h2 =>
      rename_i i x v qs
      simp only [fillA] at ho
      split at ho
      · rename_i off size xs e1 e2
        split at ho
        · rename_i hle
          have hxs := (hv.cells e2).1
          have hl1 : v.cells.size = xs.length := by have := hxs.1; simp at this; omega
          have hl2 : cells.length = vs.size := by simpa using hc.1
          obtain ⟨ws, g1, g2⟩ := ih h2 (hxs.setAt hc off) (Ones.setArr (hv.cells e2).2 h1 off) ho
          refine ⟨ws, ?_, g2⟩
          simp only [Instr.fill, e1]
          rw [if_neg (by simp; omega)]
          have := foldl_setArr v.cells.toList vs off
          simp only [Array.toArray_toList] at this
          rw [← g1]
          congr 1
        · cases ho
      · cases ho

def structPlaces (T : Tab) (fs : Array Field) (i : Nat) : Option (Nat × Nat) :=
  match fs[i]? with
  | some fd => (match T fd.type with
    | some fi => some (fd.offset, fi.size)
    | none => none)
  | none => none

def aBuild (T : Tab) (t : TypeId) (ps : List (Nat × AV)) (h : AH) (K : AV → AH → Prop) : Prop :=
  match T t with
  | some { desc := .struct fs, zero := z, .. } => if fs.all (fun fd => (T fd.type).isSome) then (match fillA (structPlaces T fs) (z.cells.toList.map ofCell) ps with
    | some cs => K (.agg cs) h
    | none => False) else False
  | some { desc := .array _ e, zero := z, .. } => (match T e with
    | some ei => (match fillA (fun i => some (i * ei.size, ei.size)) (z.cells.toList.map ofCell) ps with
      | some cs => K (.agg cs) h
      | none => False)
    | none => False)
  | _ => False

theorem run_mapM_fields (hT : T.OK P) (w : World) (fs : List Field) (hall : ∀ fd ∈ fs, (T fd.type).isSome = true) :
    (fs.mapM fun f => (do pure (f.offset, ← sizeOf f.type) : Sem (Nat × Nat))).run P w = .ok (fs.map fun f => (f.offset, ((T f.type).map (·.size)).getD 0)) w := by
  induction fs with
  | nil => simp
  | cons f fs ih =>
    have h1 := hall f (List.mem_cons_self ..)
    cases hf : T f.type with
    | none => simp [hf] at h1
    | some fi =>
      have ih' := ih (fun fd hfd => hall fd (List.mem_cons_of_mem _ hfd))
      simp [List.mapM_cons, (hT _ fi hf).run_sizeOf w, hf] at ih' ⊢
      simp [ih']

theorem aBuild_sound (hT : T.OK P) (hs : Rd c h) {t : TypeId} {ps : List (Nat × AV)} {qs : Array (Nat × Value)} (hp : PartsR c ps qs.toList) (hk : aBuild T t ps h K) : SV0 P (Instr.build t qs) c fun y => K y h := by
  unfold aBuild at hk
  split at hk
  · rename_i fs s b z ht
    have hok := hT t _ ht
    split at hk
    · rename_i hall
      split at hk
      · rename_i cs hc
        obtain ⟨ws, g1, g2, g3⟩ := fillA_sound hp (VRs.map_ofCell c z.cells.toList) hok.zone hc
        have hm := run_mapM_fields hT c.w fs.toList (fun fd hfd => by rw [Array.all_eq_true_iff_forall_mem] at hall; exact hall fd (by simpa using hfd))
        have hpl : (fun i => (fs.map fun f => (f.offset, ((T f.type).map (·.size)).getD 0))[i]?) = structPlaces T fs := by
          funext i
          simp only [Array.getElem?_map, structPlaces]
          cases hi : fs[i]? with
          | none => rfl
          | some fd =>
            have : (T fd.type).isSome = true := by
              rw [Array.all_eq_true_iff_forall_mem] at hall
              exact hall fd (Array.mem_of_getElem? hi)
            cases hf : T fd.type with
            | none => simp [hf] at this
            | some fi => simp [hf]
        refine SV0.same hk (v := .agg ws) ?_ (.agg g3 (by simpa using g2.1) fun i x v a b => g2.2 i x v a (by simpa using b))
        have hm' : (fs.mapM fun f => (do pure (f.offset, ← sizeOf f.type) : Sem (Nat × Nat))).run P c.w = .ok (fs.map fun f => (f.offset, ((T f.type).map (·.size)).getD 0)) c.w := by
          rw [Array.mapM_eq_mapM_toList]
          simp only [Sem.run_map, hm, Result.andThen_ok]
          congr 1
          apply Array.ext'
          simp
        simp only [Instr.build, Sem.run_bind, hok.run_zeroValue c.w, hok.run_underlying c.w, Result.andThen_ok, hm']
        rw [hpl, g1]
        rfl
      · exact hk.elim
    · exact hk.elim
  · rename_i n e s b z ht
    have hok := hT t _ ht
    split at hk
    · rename_i ei he
      split at hk
      · rename_i cs hc
        obtain ⟨ws, g1, g2, g3⟩ := fillA_sound hp (VRs.map_ofCell c z.cells.toList) hok.zone hc
        refine SV0.same hk (v := .agg ws) ?_ (.agg g3 (by simpa using g2.1) fun i x v a b => g2.2 i x v a (by simpa using b))
        simp only [Instr.build, Sem.run_bind, hok.run_zeroValue c.w, hok.run_underlying c.w, Result.andThen_ok, (hT e ei he).run_sizeOf c.w]
        rw [g1]
        rfl
      · exact hk.elim
    · exact hk.elim
  · exact hk.elim

end
end Go.Vm
