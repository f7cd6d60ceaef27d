/- The abstract machine, part 8: operators as they stand in an operation; conversions, parts of tuples, interface values, lengths, maps. -/
import Derived.Test.YteebkkipeiggcaaVm7
set_option linter.unusedVariables false
set_option linter.unusedSimpArgs false
namespace Go.Vm
open Go

section
variable {P : Program} {T : Tab} {c : Cx} {h : AH} {K : AV → AH → Prop}

/-- Is it no value that the model's guard of comparisons looks at? -/
def Value.plainEq : Value → Bool
  | .agg _ => false
  | _ => true

theorem eqGuard_const {op : BinOp} {t : TypeId} {x y : Operand} {a b : Value} (w : World) (hk : constOp x = true ∨ constOp y = true) (ha : (∀ cs, a ≠ .agg cs) ∨ (∀ cs, b ≠ .agg cs)) :
    (eqGuard op t x y a b).run P w = .ok () w := by
  unfold eqGuard
  by_cases hop : (match op with | .eql => true | .neq => true | _ => false) = true
  · have e1 : ∀ o : Operand, constOp o = true → (match o with | .const _ => true | _ => false) = true := fun o ho => by cases o <;> simp_all [constOp]
    cases op <;> simp at hop
    all_goals
      cases a <;> cases b <;> first
        | rfl
        | (rcases ha with ha | ha <;> exact absurd rfl (ha _))
        | (rcases hk with hk | hk
           · cases x <;> simp [constOp] at hk
             rfl
           · cases y <;> simp [constOp] at hk
             cases x <;> rfl)
  · cases op <;> simp at hop <;> rfl

theorem eqGuard_ne {op : BinOp} {t : TypeId} {x y : Operand} {a b : Value} (w : World) (ha : (∀ cs, a ≠ .agg cs) ∧ a ≠ .nilIface) : (eqGuard op t x y a b).run P w = .ok () w := by
  unfold eqGuard
  cases op <;> first
    | rfl
    | (cases a <;> cases b <;> first
        | rfl
        | exact absurd rfl (ha.1 _)
        | exact absurd rfl ha.2)

/-- A comparison with nil, as the operator has it. -/
theorem binOp_eq {op : BinOp} {t : TypeId} {v u : Value} {w : World} {b : Bool} (hop : op = .eql ∨ op = .neq) (hr : (Op.equal t v u).run P w = .ok b w)
    (hni : (∀ k n, v ≠ .int k n) ∨ (∀ k n, u ≠ .int k n)) (hns : (∀ s, v ≠ .string s) ∨ (∀ s, u ≠ .string s)) (hnf : ∀ k n, v ≠ .float k n) (hnc : ∀ k a b, v ≠ .complex k a b) :
    (binOp op t v u).run P w = .ok (.bool (if op = .eql then b else !b)) w := by
  rcases hop with rfl | rfl
  · have : binOp .eql t v u = (do pure (.bool (← Op.equal t v u))) := by
      cases v <;> cases u <;> first
        | rfl
        | (rcases hni with h' | h' <;> exact absurd rfl (h' _ _))
        | (rcases hns with h' | h' <;> exact absurd rfl (h' _))
        | exact absurd rfl (hnf _ _)
        | exact absurd rfl (hnc _ _ _)
    rw [this]; simp [hr]
  · have : binOp .neq t v u = (do pure (.bool (!(← Op.equal t v u)))) := by
      cases v <;> cases u <;> first
        | rfl
        | (rcases hni with h' | h' <;> exact absurd rfl (h' _ _))
        | (rcases hns with h' | h' <;> exact absurd rfl (h' _))
        | exact absurd rfl (hnf _ _)
        | exact absurd rfl (hnc _ _ _)
    rw [this]; simp [hr]

theorem aNilEq_shape {t : TypeId} {x y : AV} {v u : Value} (hv : VR c x v) (hu : VR c y u) {K : Bool → Prop} (hk : aNilEq T t x y K) :
    (∀ k n, v ≠ .int k n) ∧ (∀ s, v ≠ .string s) ∧ (∀ k n, v ≠ .float k n) ∧ (∀ k a b, v ≠ .complex k a b) ∧ (∀ cs, v ≠ .agg cs) ∧ (∀ cs, u ≠ .agg cs) := by
  unfold aNilEq at hk
  split at hk
  · exact hk.elim
  · split at hk <;> (try exact hk.elim)
    all_goals first
      | (split at hk <;> first
          | exact hk.elim
          | (cases hv <;> cases hu <;> simp))
      | (cases hv <;> cases hu <;> simp)

theorem aBin_sound (hT : T.OK P) (hs : Rd c h) {op : BinOp} {t : TypeId} {ox oy : Operand} {x y : AV} {v u : Value} (hv : VR c x v) (hu : VR c y u)
    (hk : aBin T op t (constOp ox || constOp oy) x y h K) : SV0 P (do eqGuard op t ox oy v u; binOp op t v u) c fun y => K y h := by
  have guard : ∀ {s : Sem Value}, (eqGuard op t ox oy v u).run P c.w = .ok () c.w → SV0 P s c (fun y => K y h) → SV0 P (do eqGuard op t ox oy v u; s) c (fun y => K y h) := fun {s} hg hh => by
    refine SV0.congr (s' := s) ?_ hh
    simp only [Sem.run_bind, hg, Result.andThen_ok]
  unfold aBin at hk
  split at hk
  · rename_i k1 a k2 b
    cases hv; cases hu
    refine guard (eqGuard_ne c.w ⟨by simp, by simp⟩) ?_
    split at hk
    · split at hk
      · exact hk.elim
      · rename_i hb
        exact SV0.same hk (v := .int k1 (k1.wrap (a * 2 ^ (min b.toNat k1.bits)))) (by simp [binOp, Op.shift, hb]) .int
    · split at hk
      · exact hk.elim
      · rename_i hb
        exact SV0.same hk (v := .int k1 (a.fdiv (2 ^ (min b.toNat k1.bits)))) (by simp [binOp, Op.shift, hb]) .int
    · split at hk
      · rename_i hkk
        subst hkk
        exact aIntOp_sound hk
      · exact hk.elim
  · cases hv; cases hu
    refine guard (eqGuard_ne c.w ⟨by simp, by simp⟩) ?_
    exact aStrOp_sound hk
  · rename_i hni hns
    have main : ∀ (neg : Bool) (hop : op = if neg then .neq else .eql) {K' : Bool → Prop}, aNilEq T t x y K' → (∀ b, K' b → K (.bool (if neg then !b else b)) h) → (constOp ox = true ∨ constOp oy = true ∨ v ≠ .nilIface) →
        SV0 P (do eqGuard op t ox oy v u; binOp op t v u) c (fun y => K y h) := by
      intro neg hop K' hne hK hc
      obtain ⟨b, hb, hr⟩ := aNilEq_sound hT c.w hv hu hne
      obtain ⟨s1, s2, s3, s4, s5, s6⟩ := aNilEq_shape hv hu hne
      refine guard ?_ ?_
      · by_cases hnv : v = .nilIface
        · rcases hc with hc | hc | hc
          · exact eqGuard_const c.w (.inl hc) (.inl s5)
          · exact eqGuard_const c.w (.inr hc) (.inl s5)
          · exact absurd hnv hc
        · exact eqGuard_ne c.w ⟨s5, hnv⟩
      · refine SV0.same (hK b hb) ?_ .bool
        rw [binOp_eq (by rw [hop]; cases neg <;> simp) hr (.inl s1) (.inl s2) s3 s4, hop]
        cases neg <;> rfl
    split at hk
    · split at hk
      · rename_i hc
        refine main false rfl hk (fun b hb => by simpa using hb) ?_
        rw [Bool.or_eq_true] at hc
        exact hc.elim .inl fun h' => .inr (.inl h')
      · split at hk
        · exact main false rfl hk (fun b hb => by simpa using hb) (.inr (.inr (by cases hv; simp)))
        · exact hk.elim
    · split at hk
      · rename_i hc
        refine main true rfl hk (fun b hb => by simpa using hb) ?_
        rw [Bool.or_eq_true] at hc
        exact hc.elim .inl fun h' => .inr (.inl h')
      · split at hk
        · exact main true rfl hk (fun b hb => by simpa using hb) (.inr (.inr (by cases hv; simp)))
        · exact hk.elim
    · exact hk.elim

/-! ### Operators of one; conversions -/
def aUn (op : UnOp) (x : AV) (h : AH) (K : AV → AH → Prop) : Prop :=
  match op, x with
  | .neg, .int k n => K (.int k (k.wrap (0 - n))) h
  | .not, .bool b => K (.bool (!b)) h
  | .xor, .int k n => K (.int k (k.wrap (BitVec.ofInt k.bits (if k.signed then -1 else k.max) ^^^ BitVec.ofInt k.bits n).toNat)) h
  | _, _ => False

theorem aUn_sound (hs : Rd c h) {op : UnOp} {x : AV} {v : Value} (hv : VR c x v) (hk : aUn op x h K) : SV0 P (Op.unary op v) c fun y => K y h := by
  unfold aUn at hk
  split at hk
  · cases hv; exact SV0.same hk rfl .int
  · cases hv; exact SV0.same hk rfl .bool
  · cases hv; exact SV0.same hk rfl .int
  · exact hk.elim

def aConvert (T : Tab) (s d : TypeId) (x : AV) (h : AH) (K : AV → AH → Prop) : Prop :=
  match T s, T d with
  | some si, some di => (match si.desc, di.desc, x with
    | .int _, .int k, .int _ n => K (.int k (k.wrap n)) h
    | .string, .string, .str s => K (.str s) h
    | .int _, .string, .int _ n => K (.str (Utf8.encode n)) h
    | .slice e, .string, x => (match T e with
      | some { desc := .int .u8, size := 1, .. } => (match x with
        | .nils => K (.str .empty) h
        | _ => False)
      | _ => False)
    | _, _, _ => False)
  | _, _ => False

theorem aConvert_sound (hT : T.OK P) (hs : Rd c h) {s d : TypeId} {x : AV} {v : Value} (hv : VR c x v) (hk : aConvert T s d x h K) : SV0 P (convert s d v) c fun y => K y h := by
  unfold aConvert at hk
  split at hk
  · rename_i si di hsi hdi
    have h1 := (hT s si hsi).run_underlying c.w
    have h2 := (hT d di hdi).run_underlying c.w
    generalize si.desc = sd at *
    generalize di.desc = dd at *
    split at hk
    · cases hv
      exact SV0.same hk (by simp [convert, h1, h2, Conv.intToInt]) .int
    · cases hv
      exact SV0.same hk (by simp [convert, h1, h2]) .str
    · cases hv
      exact SV0.same hk (by simp [convert, h1, h2, Conv.intToString]) .str
    · split at hk
      · rename_i he
        have h3 := (hT _ _ he).run_underlying c.w
        split at hk
        · cases hv
          exact SV0.same hk (by simp [convert, h1, h2, h3, Conv.bytesToString]) .str
        · exact hk.elim
      · exact hk.elim
    · exact hk.elim
  · exact hk.elim

/-! ### Tuples, interface values -/
def aExtract (x : AV) (i : Nat) (h : AH) (K : AV → AH → Prop) : Prop :=
  match x with
  | .tup xs => (match xs[i]? with
    | some y => K y h
    | none => False)
  | _ => False

theorem aExtract_sound (hs : Rd c h) {x : AV} {v : Value} {i : Nat} (hv : VR c x v) (hk : aExtract x i h K) : SV0 P (Instr.extract v i) c fun y => K y h := by
  unfold aExtract at hk
  split at hk
  · split at hk
    · rename_i y hy
      cases hv with
      | tup h1 h2 =>
        rename_i vs
        have hi : i < vs.size := by have := (List.getElem?_eq_some_iff.1 hy).1; omega
        exact SV0.same hk (v := vs[i]) (by simp [Instr.extract, hi]) (h2 i y _ hy (by simp [hi]))
    · exact hk.elim
  · exact hk.elim

def aMakeIface (T : Tab) (t : TypeId) (x : AV) (h : AH) (K : AV → AH → Prop) : Prop :=
  match T t with
  | some { desc := .interface _, .. } => False
  | some _ => K (.iface t x) h
  | none => False

theorem aMakeIface_sound (hT : T.OK P) (hs : Rd c h) {t : TypeId} {x : AV} {v : Value} (hv : VR c x v) (hk : aMakeIface T t x h K) : SV0 P (Instr.makeInterface t v) c fun y => K y h := by
  unfold aMakeIface at hk
  split at hk
  · exact hk.elim
  · rename_i ti hne ht
    have h1 := (hT t ti ht).run_underlying c.w
    refine SV0.same hk (v := .iface t v) ?_ (.iface hv)
    simp only [Instr.makeInterface, Sem.run_bind, h1, Result.andThen_ok]
    split
    · rename_i hd
      exact absurd ht (by
        obtain ⟨d, s, b, z⟩ := ti
        simp only at hd
        subst hd
        exact fun e => hne _ _ _ _ rfl)
    · rfl
  · exact hk.elim

def aAssert (T : Tab) (x : AV) (t : TypeId) (ok : Bool) (h : AH) (K : AV → AH → Prop) : Prop :=
  match T t with
  | some ti => (match ti.desc with
    | .interface _ => False
    | _ => (match x with
      | .iface u y => if u = t then K (if ok then .tup [y, .bool true] else y) h else if ok then K (.tup [ofVal ti.zero, .bool false]) h else False
      | .nili => if ok then K (.tup [ofVal ti.zero, .bool false]) h else False
      | _ => False))
  | none => False

theorem VR.tup2 {x y : AV} {v u : Value} (hx : VR c x v) (hy : VR c y u) : VR c (.tup [x, y]) (.tuple #[v, u]) :=
  VR.of_tup (vs := [v, u]) (.cons hx (.cons hy .nil))

theorem VR.tup3 {x y z : AV} {v u q : Value} (hx : VR c x v) (hy : VR c y u) (hz : VR c z q) : VR c (.tup [x, y, z]) (.tuple #[v, u, q]) :=
  VR.of_tup (vs := [v, u, q]) (.cons hx (.cons hy (.cons hz .nil)))

theorem aAssert_sound (hT : T.OK P) (hs : Rd c h) {x : AV} {v : Value} {xt t : TypeId} {ok : Bool} (hv : VR c x v) (hk : aAssert T x t ok h K) : SV0 P (Instr.typeAssert v xt t ok) c fun y => K y h := by
  unfold aAssert at hk
  split at hk
  · rename_i ti ht
    have h1 := (hT t ti ht).run_underlying c.w
    have hz := (hT t ti ht).run_zeroValue c.w
    generalize hdd : ti.desc = dd at hk h1
    split at hk
    · exact hk.elim
    · rename_i hnoti
      split at hk
      · rename_i u y
        cases hv with
        | iface hy =>
          rename_i q
          split at hk
          · rename_i hu
            subst hu
            cases ok
            · refine SV0.same hk (v := q) ?_ hy
              simp only [Instr.typeAssert, Sem.run_bind, h1, Result.andThen_ok]
              cases dd <;> first | exact absurd rfl (hnoti _) | (simp)
            · refine SV0.same hk (v := .tuple #[q, .bool true]) ?_ (hy.tup2 .bool)
              simp only [Instr.typeAssert, Sem.run_bind, h1, Result.andThen_ok]
              cases dd <;> first | exact absurd rfl (hnoti _) | (simp)
          · rename_i hu
            split at hk
            · rename_i hok
              subst hok
              refine SV0.same hk (v := .tuple #[ti.zero, .bool false]) ?_ ((VR.ofVal c _).tup2 .bool)
              simp only [Instr.typeAssert, Sem.run_bind, h1, Result.andThen_ok]
              cases dd <;> first | exact absurd rfl (hnoti _) | (simp [hu, hz])
            · exact hk.elim
      · cases hv
        split at hk
        · rename_i hok
          subst hok
          refine SV0.same hk (v := .tuple #[ti.zero, .bool false]) ?_ ((VR.ofVal c _).tup2 .bool)
          simp only [Instr.typeAssert, Sem.run_bind, h1, Result.andThen_ok]
          cases dd <;> first | exact absurd rfl (hnoti _) | (simp [hz])
        · exact hk.elim
      · exact hk.elim
  · exact hk.elim

/-! ### Lengths, the greatest, the least -/
def aLen (T : Tab) (ts : List TypeId) (x : AV) (h : AH) (K : AV → AH → Prop) : Prop :=
  match ts with
  | t :: _ => (match T t with
    | some ti => (match ti.desc, x with
      | .string, .str s => K (.int .i64 s.size) h
      | .slice _, .nils => K (.int .i64 0) h
      | .slice _, .sl _ _ n => K (.int .i64 n) h
      | .slice _, .vsl _ _ n _ => K (.int .i64 n) h
      | .slice _, .ro _ es => K (.int .i64 es.length) h
      | .array n _, _ => K (.int .i64 n) h
      | .map _ _, .nilm => K (.int .i64 0) h
      | .map _ _, .map id => (match h[id]? with
        | some (.map es _) => K (.int .i64 es.length) h
        | _ => False)
      | _, _ => False)
    | none => False)
  | [] => False

theorem run_getObj_map {w : World} {b : Nat} {es : Array MapEntry} {clk : Nat} (hb : w.heap[b]? = some (.map es clk)) : (getObj b).run P w = .ok (.map es clk) w := by
  simp [getObj, Sem.run, hb]

theorem aLen_sound (hT : T.OK P) (hs : Rd c h) {ts : List TypeId} {ty : TypeId} {x : AV} {v : Value} (hv : VR c x v) (hk : aLen T ts x h K) : SV0 P (Builtin.len_ ts.toArray ty #[v]) c fun y => K y h := by
  unfold aLen at hk
  split at hk
  · rename_i t rest
    split at hk
    · rename_i ti ht
      have h1 := (hT t ti ht).run_underlying c.w
      generalize ti.desc = dd at hk h1
      split at hk
      · cases hv; exact SV0.same hk (by simp [Builtin.len_, h1, goInt]) .int
      · cases hv; exact SV0.same hk (by simp [Builtin.len_, h1, goInt]) .int
      · cases hv
        · exact SV0.same hk (by simp [Builtin.len_, h1, goInt]) .int
        · exact SV0.same hk (by simp [Builtin.len_, h1, goInt]) .int
      · cases hv; exact SV0.same hk (by simp [Builtin.len_, h1, goInt]) .int
      · cases hv with
        | ro vals hlen hcap hsz hc hv' =>
          subst hlen
          exact SV0.same hk (by simp [Builtin.len_, h1, goInt]) .int
        | roNil => exact SV0.same hk (by simp [Builtin.len_, h1, goInt]) .int
      · exact SV0.same hk (by simp [Builtin.len_, h1, goInt]) .int
      · cases hv; exact SV0.same hk (by simp [Builtin.len_, h1, goInt]) .int
      · split at hk
        · rename_i es clk hid
          cases hv with
          | map hl =>
            have f3 := hs _ _ _ hid rfl hl
            cases f3 with
            | map hh hL hlen hv' =>
              exact SV0.same hk (by simp [Builtin.len_, h1, goInt, run_getObj_map hh, ← hlen]) .int
        · exact hk.elim
      · exact hk.elim
    · exact hk.elim
  · exact hk.elim

/-- The greatest, or the least, of whole numbers. -/
def aMax (mx : Bool) (k : IntKind) (a : Int) (K : Int → Prop) : List AV → Prop
  | [] => K a
  | .int k' b :: rest => if k = k' then aMax mx k (if mx then (if b > a then b else a) else (if b < a then b else a)) K rest else False
  | _ => False

def aMaxOp (mx : Bool) (xs : List AV) (h : AH) (K : AV → AH → Prop) : Prop :=
  match xs with
  | .int k a :: rest => aMax mx k a (fun n => K (.int k n) h) rest
  | _ => False

theorem aMax_run {mx : Bool} {k : IntKind} {K : Int → Prop} : ∀ {xs : List AV} {vs : List Value} {a : Int}, VRs c xs vs → aMax mx k a K xs →
    ∃ n, K n ∧ (vs.foldlM (if mx then Builtin.max2 else Builtin.min2) (.int k a) : Sem Value).run P c.w = .ok (.int k n) c.w := by
  intro xs
  induction xs with
  | nil =>
    intro vs a hv hk
    have : vs = [] := List.eq_nil_of_length_eq_zero hv.1.symm
    subst this
    exact ⟨a, hk, rfl⟩
  | cons x xs ih =>
    intro vs a hv hk
    cases vs with
    | nil => exact absurd hv.1 (by simp)
    | cons v vs =>
      have hx := hv.2 0 x v rfl rfl
      have hrest : VRs c xs vs := ⟨by simpa using hv.1, fun i y u h1 h2 => hv.2 (i + 1) y u (by simpa using h1) (by simpa using h2)⟩
      cases x <;> simp only [aMax] at hk <;> try exact hk.elim
      rename_i k' b
      split at hk
      · rename_i hkk
        subst hkk
        cases hx
        obtain ⟨n, h1, h2⟩ := ih hrest hk
        refine ⟨n, h1, ?_⟩
        rw [List.foldlM_cons]
        simp only [Sem.run_bind]
        cases mx
        · simp only [Bool.false_eq_true, if_false] at h2 ⊢
          simp only [Builtin.min2, Sem.run_pure, Result.andThen_ok]
          exact h2
        · simp only [if_true] at h2 ⊢
          simp only [Builtin.max2, Sem.run_pure, Result.andThen_ok]
          exact h2
      · exact hk.elim

theorem aMaxOp_sound {mx : Bool} (hs : Rd c h) {xs : List AV} {vs : Array Value} {ts : Array TypeId} {ty : TypeId} (hv : VRs c xs vs.toList) (hk : aMaxOp mx xs h K) :
    SV0 P (if mx then Builtin.max_ ts ty vs else Builtin.min_ ts ty vs) c fun y => K y h := by
  unfold aMaxOp at hk
  split at hk
  · rename_i k a rest
    obtain ⟨l⟩ := vs
    cases l with
    | nil => exact absurd hv.1 (by simp)
    | cons v vs =>
      have hx := hv.2 0 _ v rfl rfl
      cases hx
      have hrest : VRs c rest vs := ⟨by simpa using hv.1, fun i y u h1 h2 => hv.2 (i + 1) y u (by simpa using h1) (by simpa using h2)⟩
      obtain ⟨n, h1, h2⟩ := aMax_run (P := P) hrest hk
      refine SV0.same h1 (v := .int k n) ?_ .int
      cases mx
      · simpa [Builtin.min_] using h2
      · simpa [Builtin.max_] using h2
  · exact hk.elim

end
end Go.Vm
