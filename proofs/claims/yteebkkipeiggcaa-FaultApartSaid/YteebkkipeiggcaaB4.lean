/- The abstract machine, part 29: what a law is given: slices of flat cells as rows of the values' own. -/
import Derived.Test.YteebkkipeiggcaaB2
import Derived.ProofKit
import Derived.ChangeArms
import Derived.Carry
set_option linter.unusedVariables false
set_option linter.unusedSimpArgs false
namespace Go.Vm
open Go Go.ChangeShapes Go.WideShapes Go.RowKit

section
variable {H : Type} {enc : TypeId × Value → H} {P : Program} {W : World}

theorem cells?_get {w : World} {base : Nat} {a : Addr} {n : Nat} {cs : List Value} (h : w.cells? base a n = some cs) : cs.length = n ∧ ∀ i, i < n → w.cell? (a.add i) = cs[i]? := by
  unfold World.cells? at h
  split at h
  · have h1 := mapM_some_length h
    simp at h1
    exact ⟨h1, fun i hi => mapM_some_get h i i (by simp [hi])⟩
  · cases h

theorem Addr.add_add' (a : Addr) (i j : Nat) (ha : a.spot = none) : (a.add i).add j = ⟨a.block, a.off + i + j, none⟩ := by
  obtain ⟨b, o, s⟩ := a
  simp only at ha
  subst ha
  rw [Addr.add_none, Addr.add_none]

theorem cellsIn_of_cell {w : World} {b o : Nat} {v : Value} (h : w.cell? ⟨b, o, none⟩ = some v) : o < cellsIn w b := by
  unfold World.cell? at h
  unfold cellsIn
  split at h
  · rename_i c e f hh
    simp only at hh
    rw [hh]
    simp at h
    exact (Array.getElem?_eq_some_iff.1 h).1
  · cases h

/-- A slice whose elements are flat: rows of values of one cell. -/
theorem open_rows {t e : TypeId} {v : Value} {d : DataW H} {ps : List MemPlace} (ht : P.underlying t = some (.slice e)) (hval : Cell.okWide P W .any 0 t v) (h : ∃ n, DataW.trod enc P W 0 (fun _ => true) true n t [v] = some (d, ps))
    {Q : List Value → Prop} (hQ : ∀ n r y, DataW.trod enc P W 0 (fun _ => true) true n e r = some y → Q r) (hone : ∀ r, Q r → ∀ x ∈ r, x.oneCell' = true) :
    ∃ rows : List (List Value), VR (startCx W) (.ro (P.cellsOf e) (rows.map fun r => r.map ofCell)) v ∧ rows.length ≤ maxLen ∧ ∀ r ∈ rows, r.length = P.cellsOf e ∧ Q r := by
  obtain ⟨n, h⟩ := h
  rcases DataW.trod_slice ht h with ⟨h1, _⟩ | ⟨a, len, cap, elems, rest, m, _, h1, _, hb, hl, hm, hlen, hel, _, _⟩
  · simp at h1; subst h1
    exact ⟨[], .roNil, by simp, by simp⟩
  · simp at h1; subst h1
    have hspot : a.spot = none := by
      unfold Cell.okWide at hval
      rw [ht] at hval
      simp only [Cell.ok, ht] at hval
      exact hval.2.2.2.1
    have hrow : ∀ i, i < len → ∃ r y, W.cells? 0 (a.add (i * P.cellsOf e)) (P.cellsOf e) = some r ∧ DataW.trod enc P W 0 (fun _ => true) true m e r = some y := by
      intro i hi
      have h2 := hel i hi
      have h3 : ∃ y, elems[i]? = some y := ⟨_, List.getElem?_eq_getElem (by omega)⟩
      obtain ⟨y, h3⟩ := h3
      rw [h3, Option.bind_eq_some_iff] at h2
      obtain ⟨r, h4, h5⟩ := h2
      exact ⟨r, y, h4, h5⟩
    let row : Nat → List Value := fun i => (W.cells? 0 (a.add (i * P.cellsOf e)) (P.cellsOf e)).getD []
    have hr : ∀ i, i < len → W.cells? 0 (a.add (i * P.cellsOf e)) (P.cellsOf e) = some (row i) ∧ Q (row i) := by
      intro i hi
      obtain ⟨r, y, h4, h5⟩ := hrow i hi
      have : row i = r := by simp [row, h4]
      rw [this]
      exact ⟨h4, hQ _ _ _ h5⟩
    have hb2 : a = ⟨a.block, a.off, none⟩ := by cases a; simp_all
    refine ⟨(List.range len).map row, ?_, by simp; omega, ?_⟩
    · rw [hb2]
      refine .ro (fun i j => ((row i)[j]?).getD default) (by simp) hl ?_ ?_ ?_
      · intro x hx
        simp only [List.mem_map, List.mem_range] at hx
        obtain ⟨r, ⟨i, hi, rfl⟩, rfl⟩ := hx
        simp [(cells?_get (hr i hi).1).1]
      · intro i x j y h1 h2
        rw [List.getElem?_map, List.getElem?_map] at h1
        have hi : i < len := by
          rcases Nat.lt_or_ge i len with hi | hi
          · exact hi
          · rw [List.getElem?_eq_none (by simpa using hi)] at h1; simp at h1
        rw [List.getElem?_eq_getElem (by simpa using hi)] at h1
        simp at h1; subst h1
        obtain ⟨g1, g2⟩ := cells?_get (hr i hi).1
        have hj : j < P.cellsOf e := by
          rw [← g1]
          have := (List.getElem?_eq_some_iff.1 h2).1
          simpa using this
        have hg := g2 j hj
        rw [Addr.add_add' a _ _ hspot] at hg
        have hget : (row i)[j]? = some (((row i)[j]?).getD default) := by
          rw [List.getElem?_eq_getElem (by omega)]; rfl
        rw [hget] at hg
        refine ⟨cellsIn_of_cell hg, hg, ?_⟩
        exact hone _ (hr i hi).2 _ (List.mem_of_getElem? hget)
      · intro i x j y h1 h2
        rw [List.getElem?_map, List.getElem?_map] at h1
        have hi : i < len := by
          rcases Nat.lt_or_ge i len with hi | hi
          · exact hi
          · rw [List.getElem?_eq_none (by simpa using hi)] at h1; simp at h1
        rw [List.getElem?_eq_getElem (by simpa using hi)] at h1
        simp at h1; subst h1
        simp only [List.getElem?_map, Option.map_eq_some_iff] at h2
        obtain ⟨u, h3, rfl⟩ := h2
        rw [h3]
        exact VR.ofCell _ _
    · intro r hx
      simp only [List.mem_map, List.mem_range] at hx
      obtain ⟨i, hi, rfl⟩ := hx
      exact ⟨(cells?_get (hr i hi).1).1, (hr i hi).2⟩

theorem list_choose {α β : Type} {p : α → β → Prop} : ∀ {l : List α}, (∀ x ∈ l, ∃ y, p x y) → ∃ m : List β, m.length = l.length ∧ ∀ (i : Nat) (x : α) (y : β), l[i]? = some x → m[i]? = some y → p x y
  | [], _ => ⟨[], rfl, fun i x y h => by simp at h⟩
  | x :: l, h => by
    obtain ⟨y, hy⟩ := h x (by simp)
    obtain ⟨m, h1, h2⟩ := list_choose fun z hz => h z (List.mem_cons_of_mem _ hz)
    refine ⟨y :: m, by simp [h1], fun i a b e1 e2 => ?_⟩
    cases i with
    | zero => simp at e1 e2; subst e1; subst e2; exact hy
    | succ i => simp at e1 e2; exact h2 i a b e1 e2

/-- What the words for a part are: a struct of a number, a number, a text, a byte. -/
theorem open_part {t t0 t1 t2 t3 : TypeId} {n0 n1 n2 n3 g0 g1 g2 g3 p0 p1 p2 p3 : String} {b0 b1 b2 b3 : Bool} {o0 o1 o2 o3 : Nat} (ht : P.underlying t = some (.struct #[⟨n0, t0, 0, b0, g0, p0, o0⟩, ⟨n1, t1, 1, b1, g1, p1, o1⟩, ⟨n2, t2, 2, b2, g2, p2, o2⟩, ⟨n3, t3, 3, b3, g3, p3, o3⟩]))
    (h0 : P.underlying t0 = some (.int .i64)) (h1 : P.underlying t1 = some (.int .i64)) (h2 : P.underlying t2 = some .string) (h3 : P.underlying t3 = some (.int .u8))
    (c0 : P.cellsOf t0 = 1) (c1 : P.cellsOf t1 = 1) (c2 : P.cellsOf t2 = 1) (c3 : P.cellsOf t3 = 1) (ct : P.cellsOf t = 4)
    {n : Nat} {r : List Value} {y : DataW H × List MemPlace} (h : DataW.trod enc P W 0 (fun _ => true) true n t r = some y) :
    ∃ p : Pt, r = [.int .i64 p.kind, .int .i64 p.n, .string p.s, .int .u8 p.args] ∧ 0 ≤ p.args ∧ p.args ≤ 255 ∧ p.s.size ≤ maxLen ∧
      -9223372036854775808 ≤ p.kind ∧ p.kind ≤ 9223372036854775807 ∧ -9223372036854775808 ≤ p.n ∧ p.n ≤ 9223372036854775807 := by
  obtain ⟨xs, m, _, _, hlen, hx, hf⟩ := DataW.trod_struct ht h
  rw [ct] at hlen
  obtain ⟨a, b, c, d, rfl⟩ : ∃ a b c d, r = [a, b, c, d] := by
    match r, hlen with
    | [a, b, c, d], _ => exact ⟨a, b, c, d, rfl⟩
  have hsome : ∀ i, i < 4 → ∃ z, xs[i]? = some z := fun i hi => ⟨_, List.getElem?_eq_getElem (by simp at hx; omega)⟩
  have f0 := hf 0 _ rfl
  have f1 := hf 1 _ rfl
  have f2 := hf 2 _ rfl
  have f3 := hf 3 _ rfl
  simp [c0] at f0
  simp [c1] at f1
  simp [c2] at f2
  simp [c3] at f3
  obtain ⟨z0, e0⟩ := hsome 0 (by omega)
  obtain ⟨z1, e1⟩ := hsome 1 (by omega)
  obtain ⟨z2, e2⟩ := hsome 2 (by omega)
  obtain ⟨z3, e3⟩ := hsome 3 (by omega)
  rw [e0] at f0; rw [e1] at f1; rw [e2] at f2; rw [e3] at f3
  obtain ⟨q0, k0, _, w0⟩ := DataW.trod_int h0 f0
  obtain ⟨q1, k1, _, w1⟩ := DataW.trod_int h1 f1
  obtain ⟨q2, k2, _, w2⟩ := DataW.trod_string h2 f2
  obtain ⟨q3, k3, _, w3⟩ := DataW.trod_int h3 f3
  simp at k0 k1 k2 k3
  subst k0; subst k1; subst k2; subst k3
  simp only [Lit.wf, Bool.and_eq_true, decide_eq_true_eq] at w0 w1 w3
  exact ⟨⟨q0, q1, q2, q3⟩, rfl, w3.1, w3.2, w2, w0.1, w0.2, w1.1, w1.2⟩

/-- Parts, as they may be. -/
def PtOk (p : Pt) : Prop := 0 ≤ p.args ∧ p.args ≤ 255 ∧ p.s.size ≤ maxLen ∧ -9223372036854775808 ≤ p.kind ∧ p.kind ≤ 9223372036854775807 ∧ -9223372036854775808 ≤ p.n ∧ p.n ≤ 9223372036854775807

theorem open_parts {t e : TypeId} {v : Value} {d : DataW H} {ps : List MemPlace} (ht : P.underlying t = some (.slice e)) (hc : P.cellsOf e = 4) (hval : Cell.okWide P W .any 0 t v)
    (h : ∃ n, DataW.trod enc P W 0 (fun _ => true) true n t [v] = some (d, ps))
    (hp : ∀ n r y, DataW.trod enc P W 0 (fun _ => true) true n e r = some y → ∃ p : Pt, r = [.int .i64 p.kind, .int .i64 p.n, .string p.s, .int .u8 p.args] ∧ PtOk p) :
    ∃ l : List Pt, VR (startCx W) (.ro 4 (encP l)) v ∧ l.length ≤ maxLen ∧ ∀ p ∈ l, PtOk p := by
  obtain ⟨rows, h1, h2, h3⟩ := open_rows ht hval h (Q := fun r => ∃ p : Pt, r = [.int .i64 p.kind, .int .i64 p.n, .string p.s, .int .u8 p.args] ∧ PtOk p) (fun n r y hr => hp n r y hr)
    (fun r ⟨p, e, _⟩ x hx => by subst e; simp at hx; rcases hx with rfl | rfl | rfl | rfl <;> rfl)
  obtain ⟨l, g1, g2⟩ := list_choose (p := fun (r : List Value) (p : Pt) => r = [.int .i64 p.kind, .int .i64 p.n, .string p.s, .int .u8 p.args] ∧ PtOk p) (fun r hr => (h3 r hr).2)
  have hrows : rows.map (fun r => r.map ofCell) = encP l := by
    apply List.ext_getElem?
    intro i
    simp only [List.getElem?_map, encL_get?]
    rcases Nat.lt_or_ge i rows.length with hi | hi
    · have := g2 i _ _ (List.getElem?_eq_getElem hi) (List.getElem?_eq_getElem (by omega))
      rw [List.getElem?_eq_getElem hi, List.getElem?_eq_getElem (by omega : i < l.length)]
      simp [this.1, ofCell]
    · rw [List.getElem?_eq_none hi, List.getElem?_eq_none (by omega)]
      rfl
  rw [hc, hrows] at h1
  refine ⟨l, h1, by omega, fun p hp => ?_⟩
  obtain ⟨i, hi⟩ := List.getElem?_of_mem hp
  have hi2 : i < rows.length := by have := (List.getElem?_eq_some_iff.1 hi).1; omega
  exact (g2 i _ _ (List.getElem?_eq_getElem hi2) hi).2

/-- An argument reads behind the call as it did. -/
theorem Kept.trod {W' : World} {t : TypeId} (hl : laidOutB P = true) (hr : P.readableRec t = true) (hrow : t < P.types.size) {v : Value} {d : DataW H} {ps : List MemPlace}
    (h : DataW.Trod enc P W 0 (fun _ => true) true t v d ps) (hk : Kept W W') (hlt : ∀ x ∈ ps, x.block < W.heap.size) {sp : Nat → Bool} (hsp : ∀ p ∈ ps, sp p.block = true) : DataW.Trod enc P W' 0 sp true t v d ps :=
  WideElems.Trod_stays hl hr hrow h (fun x hx => by
    have := hk.heap x.block (hlt x hx)
    cases x with
    | cell b o => exact (World.cell?_heap (a := ⟨b, o, none⟩) this)
    | map b => exact this) hsp

theorem Kept.trodAll {W' : World} (hl : laidOutB P = true) (hk : Kept W W') : ∀ {ts : List TypeId} {vs : List Value} {ds : List (DataW H)} {ps : List MemPlace}, (∀ t ∈ ts, P.readableRec t = true ∧ t < P.types.size) →
    DataW.TrodAll enc P W 0 (fun _ => true) true ts vs ds ps → (∀ x ∈ ps, x.block < W.heap.size) → ∀ {sp : Nat → Bool}, (∀ p ∈ ps, sp p.block = true) → DataW.TrodAll enc P W' 0 sp true ts vs ds ps
  | [], [], [], ps, _, h, _, _, _ => h
  | t :: ts, v :: vs, d :: ds, ps, hr, h, hlt, sp, hsp => by
    obtain ⟨p, q, h1, h2, rfl⟩ := h
    exact ⟨p, q, Kept.trod hl (hr t (by simp)).1 (hr t (by simp)).2 h1 hk (fun x hx => hlt x (by simp [hx])) (fun x hx => hsp x (by simp [hx])),
      Kept.trodAll hl hk (fun t ht => hr t (by simp [ht])) h2 (fun x hx => hlt x (by simp [hx])) (fun x hx => hsp x (by simp [hx])), rfl⟩

/-- A law's row, from its run. -/
theorem law_end {n : FuncId} {f : Func} {s : ChangeSpec} {args : Array Value} {ds : List (DataW H)} {before : List MemPlace} {avs : List AV} {tb : TypeId}
    (hlo : laidOutB P = true) (hall : f.params.toList.all (fun t => P.readableRec t && decide (t < P.types.size)) = true) (hrt : f.resultTypes = #[tb]) (htb : P.underlying tb = some .bool) (hvars : s.vars = [])
    (hfn : (s.fn H (ds ++ [])).results = [.lit (.bool true)] ∧ (s.fn H (ds ++ [])).args = ds ∧ (s.fn H (ds ++ [])).vars = [])
    (hW : DataW.Whole enc P f.params.toList s.vars false W args.toList ds [] before)
    (hrun : ACalls P n avs [] (fun r _ => r = .ret (.bool true))) (hv : VRs (startCx W) avs args.toList) :
    Calls P n args W fun e W' => ∃ v, e = .returned v ∧ s.post enc P f false true false false W args v W' := by
  have hW' := hW
  obtain ⟨p, q, hA, hV, rfl, hfz, hnd⟩ := hW
  rw [hvars] at hV
  obtain ⟨_, rfl⟩ := trodVars_none hV
  refine (calls_start hrun hv).mono fun e W' ⟨v, c, he, hk, hv⟩ => ?_
  subst he
  cases hv
  have hall' : ∀ t ∈ f.params.toList, P.readableRec t = true ∧ t < P.types.size := fun t ht => by
    have := List.all_eq_true.1 hall t ht
    simpa using this
  refine ⟨_, rfl, post_of_kept (pa := p) (pv := []) hW' (fun _ _ _ => ?_) (fun sp hsp => ?_) (fun _ _ => ?_) rfl hk (ok_one hrt rfl (okWide_bool_mk htb true))⟩
  · rw [hrt, hfn.1]
    exact trodAll_mk1 (shut_bool htb true)
  · rw [hfn.2.1]
    exact Kept.trodAll hlo hk hall' hA (fun x hx => DataW.TrodAll.lt hA x hx) (fun x hx => hsp x (by simp [hx]))
  · rw [hvars, hfn.2.2]
    rfl

/-- A struct of a number, a text, a slice and a number, as an argument. -/
theorem open_asked {t t0 t1 t2 : TypeId} {e : TypeId} {n0 n1 n2 n3 g0 g1 g2 g3 p0 p1 p2 p3 : String} {b0 b1 b2 b3 : Bool} {o0 o1 o2 o3 : Nat} (ht : P.underlying t = some (.struct #[⟨n0, t0, 0, b0, g0, p0, o0⟩, ⟨n1, t1, 1, b1, g1, p1, o1⟩, ⟨n2, t2, 2, b2, g2, p2, o2⟩, ⟨n3, t0, 3, b3, g3, p3, o3⟩]))
    (h0 : P.underlying t0 = some (.int .i64)) (h1 : P.underlying t1 = some .string) (h2 : P.underlying t2 = some (.slice e))
    (c0 : P.cellsOf t0 = 1) (c1 : P.cellsOf t1 = 1) (c2 : P.cellsOf t2 = 1) (ct : P.cellsOf t = 4) (hct : P.cellTypes P.depth t = some [t0, t1, t2, t0])
    {v : Value} {d : DataW H} {ps : List MemPlace} (hval : Value.okWide P W .any 0 t v) (h : DataW.Trod enc P W 0 (fun _ => true) true t v d ps) :
    ∃ q0 q1 c q3 d' ps', v = .agg #[.int .i64 q0, .string q1, c, .int .i64 q3] ∧ q1.size ≤ maxLen ∧ Cell.okWide P W .any 0 t2 c ∧ ∃ n, DataW.trod enc P W 0 (fun _ => true) true n t2 [c] = some (d', ps') := by
  unfold Value.okWide at hval
  rw [ht] at hval
  simp only at hval
  obtain ⟨cs, rfl, hcs, ts, hts, _, hrow⟩ := hval
  rw [hct] at hts
  cases hts
  obtain ⟨n, h⟩ := h
  obtain ⟨xs, m, _, _, hlen, hx, hf⟩ := DataW.trod_struct ht h
  rw [ct] at hcs
  obtain ⟨a, b, c, d', rfl⟩ : ∃ a b c d, cs = #[a, b, c, d] := by
    obtain ⟨l⟩ := cs
    match l, hcs with
    | [a, b, c, d], _ => exact ⟨a, b, c, d, rfl⟩
  have hsome : ∀ i, i < 4 → ∃ z, xs[i]? = some z := fun i hi => ⟨_, List.getElem?_eq_getElem (by simp at hx; omega)⟩
  have f0 := hf 0 _ rfl
  have f1 := hf 1 _ rfl
  have f2 := hf 2 _ rfl
  have f3 := hf 3 _ rfl
  simp [Value.cells, c0] at f0
  simp [Value.cells, c1] at f1
  simp [Value.cells, c2] at f2
  simp [Value.cells, c0] at f3
  obtain ⟨z0, e0⟩ := hsome 0 (by omega)
  obtain ⟨z1, e1⟩ := hsome 1 (by omega)
  obtain ⟨⟨y2, p2⟩, e2⟩ := hsome 2 (by omega)
  obtain ⟨z3, e3⟩ := hsome 3 (by omega)
  rw [e0] at f0; rw [e1] at f1; rw [e2] at f2; rw [e3] at f3
  obtain ⟨q0, k0, _, w0⟩ := DataW.trod_int h0 f0
  obtain ⟨q1, k1, _, w1⟩ := DataW.trod_string h1 f1
  obtain ⟨q3, k3, _, w3⟩ := DataW.trod_int h0 f3
  simp at k0 k1 k3
  subst k0; subst k1; subst k3
  obtain ⟨u, hu, hok⟩ := hrow 2 c rfl
  simp at hu; subst hu
  exact ⟨q0, q1, c, q3, y2, p2, rfl, w1, hok, _, f2⟩

theorem slice_cell {t e : TypeId} {v : Value} (ht : P.underlying t = some (.slice e)) (hval : Value.okWide P W .any 0 t v) : Cell.okWide P W .any 0 t v ∧ v.cells = #[v] := by
  have hc : Cell.okWide P W .any 0 t v := by
    unfold Value.okWide at hval
    rw [ht] at hval
    exact hval
  refine ⟨hc, ?_⟩
  unfold Cell.okWide at hc
  rw [ht] at hc
  cases v <;> first | rfl | (simp [Cell.ok, ht] at hc)

theorem open_parts_arg {t e : TypeId} {v : Value} {d : DataW H} {ps : List MemPlace} (ht : P.underlying t = some (.slice e)) (hc : P.cellsOf e = 4) (hval : Value.okWide P W .any 0 t v) (h : DataW.Trod enc P W 0 (fun _ => true) true t v d ps)
    (hp : ∀ n r y, DataW.trod enc P W 0 (fun _ => true) true n e r = some y → ∃ p : Pt, r = [.int .i64 p.kind, .int .i64 p.n, .string p.s, .int .u8 p.args] ∧ PtOk p) :
    ∃ l : List Pt, VR (startCx W) (.ro 4 (encP l)) v ∧ l.length ≤ maxLen ∧ ∀ p ∈ l, PtOk p := by
  obtain ⟨h1, h2⟩ := slice_cell ht hval
  obtain ⟨n, h⟩ := h
  rw [h2] at h
  exact open_parts ht hc h1 ⟨n, h⟩ hp

end
end Go.Vm
