/- The abstract machine, part 10: one operation, whichever it is. -/
import Derived.Test.YteebkkipeiggcaaVm9
set_option linter.unusedVariables false
set_option linter.unusedSimpArgs false
namespace Go.Vm
open Go

/-- What an operation comes to. -/
inductive ANext where
  | val (v : AV)
  | skip
  | enter (f : FuncId) (args : List AV)
  | dfr (f : Fn) (captured args : List AV)
  | pan (v : AV)
  | recov

/-- What the machine asks of a function. -/
structure FnI where
  ntmps : Nat
  results : List ResultVar
  body : Code

structure FnOK (P : Program) (f : FuncId) (fi : FnI) : Prop where
  fn : ∃ fn, P.funcs[f]? = some fn ∧ fn.body = some fi.body ∧ fn.ntmps = fi.ntmps ∧ fn.results.toList = fi.results ∧ (fn.name == "runtime.NumGoroutine") = false

abbrev FTab := FuncId → Option FnI

def FTab.OK (P : Program) (F : FTab) : Prop := ∀ f fi, F f = some fi → FnOK P f fi

def ev (tmps : List AV) : Operand → AV
  | .tmp t => tmps.getD t .undef
  | .const v => ofVal v
  | .global _ => .dead
  | .func f => .fn (.func f) [] []

theorem ev_sound {c : Cx} {tmps : List AV} {a : Act} (h : VRs c tmps a.tmps.toList) (x : Operand) : VR c (ev tmps x) (a.eval x) := by
  cases x with
  | tmp t =>
    have := h.getD t (d := .undef) (e := undef) .undef
    simp only [ev, Act.eval]
    simpa using this
  | const v => exact VR.ofVal c v
  | global g => exact .dead rfl
  | func f => exact .fn rfl rfl (fun i x v h => by simp at h) (fun i x v h => by simp at h)

def pickV (b : Bool) (x y : AV) : AV :=
  match x, y with
  | .bool p, .bool q => .bool (if b then p else q)
  | .int k m, .int k' n => if k = k' then .int k (if b then m else n) else .dead
  | .str s, .str t => .str (if b then s else t)
  | x, y => if b then x else y

theorem VR.pickV {c : Cx} {b : Bool} {x y : AV} {v u : Value} (hx : VR c x v) (hy : VR c y u) : VR c (pickV b x y) (if b then v else u) := by
  unfold Vm.pickV
  split
  · cases hx; cases hy; cases b <;> exact .bool
  · cases hx; cases hy
    split
    · rename_i h; subst h; cases b <;> exact .int
    · cases b <;> exact .dead rfl
  · cases hx; cases hy; cases b <;> exact .str
  · cases b
    · exact hy
    · exact hx

def aBuiltin (T : Tab) (b : Builtin) (ts : List TypeId) (xs : List AV) (h : AH) (K : ANext → AH → Prop) : Prop :=
  match b, xs with
  | .len, [x] => aLen T ts x h fun v h => K (.val v) h
  | .append, [x, y] => aAppend T ts x y h fun v h => K (.val v) h
  | .max, xs => aMaxOp true xs h fun v h => K (.val v) h
  | .min, xs => aMaxOp false xs h fun v h => K (.val v) h
  | .recover, [] => K .recov h
  | .panic, [.iface t x] => K (.pan (.iface t x)) h
  | _, _ => False

def aop (T : Tab) (F : FTab) (ρ : Operand → AV) (h : AH) (o : Oper) (K : ANext → AH → Prop) : Prop :=
  match o.op with
  | .move x => K (.val (ρ x)) h
  | .assign x => K (.val (ρ x)) h
  | .pick x a b => (match ρ x with
    | .bool t => K (.val (pickV t (ρ a) (ρ b))) h
    | _ => False)
  | .alloc t => aAlloc T t h fun v h => K (.val v) h
  | .box _ x => aBox (ρ x) h fun v h => K (.val v) h
  | .build t ps => aBuild T t (ps.toList.map fun p => (p.1, ρ p.2)) h fun v h => K (.val v) h
  | .buildSlice t n ps => aBuildSlice T t n (ps.toList.map fun p => (p.1, ρ p.2)) h fun v h => K (.val v) h
  | .load t x => aLoad T t (ρ x) h fun v h => K (.val v) h
  | .store t x y => aStore T t (ρ x) (ρ y) h fun h => K .skip h
  | .nilCheck x => (match ρ x with
    | .ptr a b => K (.val (.ptr a b)) h
    | .ep a b d => K (.val (.ep a b d)) h
    | .rop a b d e => K (.val (.rop a b d e)) h
    | .fn (.func f) a b => K (.val (.fn (.func f) a b)) h
    | _ => False)
  | .binOp op t x y _ => aBin T op t (constOp x || constOp y) (ρ x) (ρ y) h fun v h => K (.val v) h
  | .unOp op _ x => aUn op (ρ x) h fun v h => K (.val v) h
  | .convert s d x => aConvert T s d (ρ x) h fun v h => K (.val v) h
  | .makeInterface t x => aMakeIface T t (ρ x) h fun v h => K (.val v) h
  | .makeFunc f a b => K (.val (.fn f (a.toList.map ρ) (b.toList.map ρ))) h
  | .makeMap t r => aMakeMap T t (r.map ρ) h fun v h => K (.val v) h
  | .slice t x lo hi none => aSlice T t (ρ x) (lo.map ρ) (hi.map ρ) h fun v h => K (.val v) h
  | .fieldAddr t x f => aFieldAddr T t (ρ x) f h fun v h => K (.val v) h
  | .field t x f => aField T t (ρ x) f h fun v h => K (.val v) h
  | .indexAddr t x i => aIndexAddr T t (ρ x) (ρ i) h fun v h => K (.val v) h
  | .index t x i => aIndex T t (ρ x) (ρ i) h fun v h => K (.val v) h
  | .lookup t x i ok => aLookup T t (ρ x) (ρ i) ok h fun v h => K (.val v) h
  | .mapUpdate t m k v => aMapUpd T t (ρ m) (ρ k) (ρ v) h fun h => K .skip h
  | .insert t m k v => aMapUpd T t (ρ m) (ρ k) (ρ v) h fun h => K .skip h
  | .typeAssert x _ t ok => aAssert T (ρ x) t ok h fun v h => K (.val v) h
  | .extract x i => aExtract (ρ x) i h fun v h => K (.val v) h
  | .panic x => (match ρ x with
    | .iface t y => K (.pan (.iface t y)) h
    | _ => False)
  | .call { callee := .builtin b, args := xs, argTypes := ts } => aBuiltin T b ts.toList (xs.toList.map ρ) h K
  | .call { callee := .value f, args := xs, .. } => (match ρ f with
    | .fn (.func g) first captured => (match F g with
      | some _ => K (.enter g (first ++ xs.toList.map ρ ++ captured)) h
      | none => False)
    | _ => False)
  | .defer { callee := .value f, args := xs, .. } => (match ρ f with
    | .fn g first captured => K (.dfr g captured (first ++ xs.toList.map ρ)) h
    | _ => False)
  | _ => False

/-- What the model's operation came to, as the abstract machine sees it. -/
def Ran (r : Result Next) (c : Cx) : ANext → Prop
  | .val x => ∃ v, r = .ok (.value v) c.w ∧ VR c x v
  | .skip => r = .ok .skip c.w
  | .enter f xs => ∃ vs : Array Value, r = .ok (.enter f vs) c.w ∧ VRs c xs vs.toList
  | .dfr f cs xs => ∃ vs us : Array Value, r = .ok (.defer { target := .fn f vs, args := us }) c.w ∧ VRs c cs vs.toList ∧ VRs c xs us.toList
  | .pan x => ∃ v, r = .halt (.panic v) c.w ∧ VR c x v
  | .recov => r = .ok .recover c.w

section
variable {P : Program} {T : Tab} {F : FTab} {c : Cx} {h : AH} {K : ANext → AH → Prop}

def OpOK (P : Program) (s : Sem Next) (c : Cx) (h : AH) (K : ANext → AH → Prop) : Prop :=
  ∃ nx h' c', K nx h' ∧ Ext c h c' h' ∧ Sim c' h' ∧ Ran (s.run P c.w) c' nx

theorem OpOK.of_sv {s : Sem Value} (hh : SV P s c h fun v h => K (.val v) h) : OpOK P (do pure (.value (← s))) c h K := by
  obtain ⟨x, h', c', v, a, b, d, e, f⟩ := hh
  exact ⟨.val x, h', c', a, b, d, v, by simp [e], f⟩

theorem OpOK.of_su {s : Sem Unit} (hh : SU P s c h fun h => K .skip h) : OpOK P (do s; pure .skip) c h K := by
  obtain ⟨h', c', a, b, d, e⟩ := hh
  exact ⟨.skip, h', c', a, b, d, by show (Sem.run P _ c.w) = _; simp [e]⟩

theorem OpOK.same (hs : Sim c h) {s : Sem Next} {nx : ANext} (hk : K nx h) (hr : Ran (s.run P c.w) c nx) : OpOK P s c h K := ⟨nx, h, c, hk, Ext.refl c h, hs, hr⟩

theorem VRs.map {ρa : Operand → AV} {ρ : Operand → Value} (hρ : ∀ x, VR c (ρa x) (ρ x)) (xs : List Operand) : VRs c (xs.map ρa) (xs.map ρ) := by
  refine ⟨by simp, fun i x v h1 h2 => ?_⟩
  simp only [List.getElem?_map, Option.map_eq_some_iff] at h1 h2
  obtain ⟨o, e1, rfl⟩ := h1
  obtain ⟨o', e2, rfl⟩ := h2
  rw [e1] at e2; cases e2
  exact hρ o

theorem PartsR.map {ρa : Operand → AV} {ρ : Operand → Value} (hρ : ∀ x, VR c (ρa x) (ρ x)) (ps : List (Nat × Operand)) : PartsR c (ps.map fun p => (p.1, ρa p.2)) (ps.map fun p => (p.1, ρ p.2)) := by
  induction ps with
  | nil => exact .nil
  | cons p ps ih => exact .cons (hρ _) ih

theorem run_callFunc (hF : F.OK P) {g : FuncId} {fi : FnI} (hg : F g = some fi) (w : World) (args : Array Value) : (callFunc g args).run P w = .ok (.enter g args) w := by
  obtain ⟨fn, h1, h2, _, _, h4⟩ := (hF g fi hg).fn
  simp only [callFunc, Sem.run_bind, run_program, Result.andThen_ok, h1, h4, Bool.false_eq_true, if_false, h2, Option.isNone_some, Sem.run_pure]

theorem VRs.one {x : AV} {l : List Value} (h : VRs c [x] l) : ∃ v, l = [v] ∧ VR c x v := by
  cases l with
  | nil => exact absurd h.1 (by simp)
  | cons v l =>
    have : l = [] := List.eq_nil_of_length_eq_zero (by have := h.1; simp only [List.length_cons, List.length_nil] at this; omega)
    subst this
    exact ⟨v, rfl, h.2 0 x v rfl rfl⟩

theorem VRs.two {x y : AV} {l : List Value} (h : VRs c [x, y] l) : ∃ v u, l = [v, u] ∧ VR c x v ∧ VR c y u := by
  cases l with
  | nil => exact absurd h.1 (by simp)
  | cons v l =>
    obtain ⟨u, rfl, hu⟩ := VRs.one (c := c) (x := y) (l := l) ⟨by have := h.1; simp only [List.length_cons, List.length_nil] at this ⊢; omega, fun i z w a b => h.2 (i + 1) z w (by simpa using a) (by simpa using b)⟩
    exact ⟨v, u, rfl, h.2 0 x v rfl rfl, hu⟩

theorem aop_sound (hT : T.OK P) (hF : F.OK P) (hs : Sim c h) {ρa : Operand → AV} {ρ : Operand → Value} (hρ : ∀ x, VR c (ρa x) (ρ x)) {o : Oper} (hk : aop T F ρa h o K) : OpOK P (execOp ρ o) c h K := by
  obtain ⟨dst, op, ty, pos, after, guard⟩ := o
  have hm : ∀ xs : Array Operand, VRs c (xs.toList.map ρa) (xs.map ρ).toList := fun xs => by
    rw [Array.toList_map]; exact VRs.map hρ xs.toList
  have hp : ∀ ps : Array (Nat × Operand), PartsR c (ps.toList.map fun p => (p.1, ρa p.2)) (ps.map fun p => (p.1, ρ p.2)).toList := fun ps => by
    rw [Array.toList_map]; exact PartsR.map hρ ps.toList
  have hop1 : ∀ (x : Option Operand) (y : AV), x.map ρa = some y → ∃ v, x.map ρ = some v ∧ VR c y v := fun x y e => by
    cases x with
    | none => cases e
    | some z => cases e; exact ⟨_, rfl, hρ z⟩
  have hop0 : ∀ (x : Option Operand), x.map ρa = none → x.map ρ = none := fun x e => by
    cases x with
    | none => rfl
    | some z => cases e
  cases op <;> simp only [aop] at hk <;> simp only [execOp]
  case move x => exact OpOK.same hs hk ⟨_, rfl, hρ x⟩
  case assign x => exact OpOK.same hs hk ⟨_, rfl, hρ x⟩
  case pick x a b =>
    split at hk
    · rename_i t ht
      have := hρ x
      rw [ht] at this
      refine OpOK.same hs hk ⟨if t then ρ a else ρ b, ?_, (hρ a).pickV (hρ b)⟩
      generalize ρ x = vx at this
      cases this
      simp only [asBool, Sem.run_bind, Sem.run_pure, Result.andThen_ok]
    · exact hk.elim
  case alloc t => exact OpOK.of_sv (aAlloc_sound hT hs hk)
  case box t x => exact OpOK.of_sv (aBox_sound hs (hρ x) hk)
  case build t ps => exact OpOK.of_sv ((aBuild_sound hT hs.rd (hp ps) hk).sv hs)
  case buildSlice t n ps => exact OpOK.of_sv (aBuildSlice_sound hT hs (hp ps) hk)
  case load t x => exact OpOK.of_sv (aLoad_sound hT hs (hρ x) hk)
  case store t x y => exact OpOK.of_su (aStore_sound hT hs (hρ x) (hρ y) hk)
  case nilCheck x =>
    have hx := hρ x
    split at hk <;> (try exact hk.elim)
    all_goals
      rename_i e
      rw [e] at hx
      generalize ρ x = vx at hx
      refine OpOK.same hs hk ⟨vx, ?_, hx⟩
      cases hx; rfl
  case binOp op t x y t' => exact OpOK.of_sv ((aBin_sound hT hs.rd (hρ x) (hρ y) hk).sv hs)
  case unOp op t x => exact OpOK.of_sv ((aUn_sound hs.rd (hρ x) hk).sv hs)
  case convert s d x => exact OpOK.of_sv ((aConvert_sound hT hs.rd (hρ x) hk).sv hs)
  case makeInterface t x => exact OpOK.of_sv ((aMakeIface_sound hT hs.rd (hρ x) hk).sv hs)
  case makeFunc f a b =>
    refine OpOK.same hs hk ⟨.func f (a.map ρ) (b.map ρ), rfl, .fn (by simp) (by simp) (fun i x v h1 h2 => (hm a).2 i x v h1 (by simpa using h2)) (fun i x v h1 h2 => (hm b).2 i x v h1 (by simpa using h2))⟩
  case makeMap t r => exact OpOK.of_sv (aMakeMap_sound hT hs (hop1 r) (hop0 r) hk)
  case slice t x lo hi mx =>
    cases mx with
    | none => exact OpOK.of_sv ((aSlice_sound hT hs.rd (hρ x) (hop1 lo) (hop1 hi) (hop0 lo) (hop0 hi) hk).sv hs)
    | some m => exact hk.elim
  case fieldAddr t x f => exact OpOK.of_sv ((aFieldAddr_sound hT hs.rd (hρ x) hk).sv hs)
  case field t x f => exact OpOK.of_sv ((aField_sound hT hs.rd (hρ x) hk).sv hs)
  case indexAddr t x i => exact OpOK.of_sv ((aIndexAddr_sound hT hs.rd (hρ x) (hρ i) hk).sv hs)
  case index t x i => exact OpOK.of_sv ((aIndex_sound hT hs.rd (hρ x) (hρ i) hk).sv hs)
  case lookup t x i ok => exact OpOK.of_sv ((aLookup_sound hT hs.rd (hρ x) (hρ i) hk).sv hs)
  case mapUpdate t m k v => exact OpOK.of_su (aMapUpd_sound hT hs (hρ m) (hρ k) (hρ v) hk)
  case insert t m k v => exact OpOK.of_su (aMapUpd_sound hT hs (hρ m) (hρ k) (hρ v) hk)
  case typeAssert x xt t ok => exact OpOK.of_sv ((aAssert_sound hT hs.rd (hρ x) hk).sv hs)
  case extract x i => exact OpOK.of_sv ((aExtract_sound hs.rd (hρ x) hk).sv hs)
  case panic x =>
    have hx := hρ x
    split at hk
    · rename_i t y e
      rw [e] at hx
      generalize ρ x = vx at hx
      refine OpOK.same hs hk ⟨vx, ?_, hx⟩
      cases hx; rfl
    · exact hk.elim
  case call cl =>
    obtain ⟨callee, xs, ts⟩ := cl
    cases callee with
    | builtin b =>
      simp only [aop] at hk
      have hxs := hm xs
      generalize hys : xs.toList.map ρa = ys at hk hxs
      have hrun : ∀ r : Result Next, (builtin b ts ty (xs.map fun | .const _ => true | _ => false) (xs.map ρ)).run P c.w = r → ((do let d ← resolve ρ { callee := .builtin b, args := xs, argTypes := ts } ty; invoke d.target d.args : Sem Next)).run P c.w = r := fun r hr => by
        simp only [resolve, Sem.run_bind, Sem.run_pure, Result.andThen_ok, invoke]
        exact hr
      have val : ∀ {s : Sem Value}, builtin b ts ty (xs.map fun | .const _ => true | _ => false) (xs.map ρ) = (do pure (.value (← s))) → (SV P s c h fun v h => K (.val v) h) →
          OpOK P (do let d ← resolve ρ { callee := .builtin b, args := xs, argTypes := ts } ty; invoke d.target d.args) c h K := fun {s} he hh => by
        obtain ⟨nx, h', c', a, b', d, e⟩ := OpOK.of_sv hh
        exact ⟨nx, h', c', a, b', d, by rw [hrun _ rfl, he]; exact e⟩
      unfold aBuiltin at hk
      split at hk
      · obtain ⟨v, hv, hx⟩ := hxs.one
        have hv' : xs.map ρ = #[v] := Array.ext' hv
        refine val (s := Builtin.len_ ts ty #[v]) (by rw [hv']; rfl) ?_
        have := (aLen_sound (P := P) (ty := ty) hT hs.rd hx hk).sv hs
        simpa using this
      · obtain ⟨v, u, hv, hx, hy⟩ := hxs.two
        have hv' : xs.map ρ = #[v, u] := Array.ext' hv
        refine val (s := Builtin.append_ ts ty #[v, u]) (by rw [hv']; rfl) ?_
        have := aAppend_sound (P := P) (ty := ty) hT hs hx hy hk
        simpa using this
      · refine val (s := Builtin.max_ ts ty (xs.map ρ)) rfl ?_
        have := (aMaxOp_sound (P := P) (mx := true) (ts := ts) (ty := ty) hs.rd hxs hk).sv hs
        simpa using this
      · refine val (s := Builtin.min_ ts ty (xs.map ρ)) rfl ?_
        have := (aMaxOp_sound (P := P) (mx := false) (ts := ts) (ty := ty) hs.rd hxs hk).sv hs
        simpa using this
      · exact OpOK.same hs hk (hrun _ rfl)
      · rename_i t x
        obtain ⟨v, hv, hx⟩ := hxs.one
        have hv' : xs.map ρ = #[v] := Array.ext' hv
        cases hx with
        | iface hx' =>
          rename_i u
          refine OpOK.same hs hk ⟨.iface t u, ?_, .iface hx'⟩
          refine hrun _ ?_
          rw [hv']
          rfl
      · exact hk.elim
    | value f =>
      simp only [aop] at hk
      have hf := hρ f
      split at hk
      · rename_i g first captured e
        rw [e] at hf
        split at hk
        · rename_i fi hg
          generalize hvf : ρ f = vf at hf
          cases hf with
          | fn h1 h2 h3 h4 =>
            rename_i fs cs
            refine OpOK.same hs hk ⟨fs ++ xs.map ρ ++ cs, ?_, ?_⟩
            · simp only [resolve, hvf, Deferred.ofValue, Sem.run_bind, Sem.run_pure, Result.andThen_ok, invoke]
              exact run_callFunc hF hg c.w _
            · rw [Array.toList_append, Array.toList_append]
              exact (VRs.append (VRs.of_array h1 h3) (hm xs)).append (VRs.of_array h2 h4)
        · exact hk.elim
      · exact hk.elim
    | invoke r n => exact hk.elim
  case defer cl =>
    obtain ⟨callee, xs, ts⟩ := cl
    cases callee with
    | value f =>
      simp only [aop] at hk
      have hf := hρ f
      split at hk
      · rename_i g first captured e
        rw [e] at hf
        generalize hvf : ρ f = vf at hf
        cases hf with
        | fn h1 h2 h3 h4 =>
          rename_i fs cs
          refine OpOK.same hs hk ⟨cs, fs ++ xs.map ρ, ?_, VRs.of_array h2 h4, ?_⟩
          · simp only [resolve, hvf, Deferred.ofValue, Sem.run_bind, Sem.run_pure, Result.andThen_ok]
          · rw [Array.toList_append]
            exact VRs.append (VRs.of_array h1 h3) (hm xs)
      · exact hk.elim
    | builtin b => exact hk.elim
    | invoke r n => exact hk.elim
  all_goals exact hk.elim

end
end Go.Vm
