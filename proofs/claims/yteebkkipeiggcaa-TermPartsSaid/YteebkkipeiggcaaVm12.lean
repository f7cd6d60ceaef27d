/- The abstract machine, part 12: what the abstract run says holds of the model. -/
import Derived.Test.YteebkkipeiggcaaVm11
set_option linter.unusedVariables false
set_option linter.unusedSimpArgs false
namespace Go.Vm
open Go

section
variable {P : Program} {T : Tab} {F : FTab} {h0 : AH} {K : AExit → AAct → AH → Prop}

theorem yieldA_sound {c : Cx} {all : Array Oper} {a : AAct} {act : Act} (ha : ActR c a act) {j : Nat} {r : Option Bool} (hy : yieldA all a.tmps j = some r) : yielded all act.tmps j = r := by
  unfold yieldA at hy
  unfold yielded
  cases hd : (all[j]?).bind (·.dst) with
  | none => rw [hd] at hy; cases hy; rfl
  | some d =>
    rw [hd] at hy
    simp only at hy
    simp only [Option.bind_some]
    cases ht : a.tmps[d]? with
    | none =>
      rw [ht] at hy; cases hy
      have : act.tmps[d]? = none := by
        have h1 : a.tmps.length = act.tmps.size := by simpa using ha.tmps.1
        have h2 : a.tmps.length ≤ d := List.getElem?_eq_none_iff.1 ht
        exact Array.getElem?_eq_none (h1 ▸ h2)
      rw [this]
    | some x =>
      rw [ht] at hy
      have hlt : d < act.tmps.size := by
        have h1 : a.tmps.length = act.tmps.size := by simpa using ha.tmps.1
        have h2 : d < a.tmps.length := (List.getElem?_eq_some_iff.1 ht).1
        exact h1 ▸ h2
      have hv := ha.tmps.2 d x act.tmps[d] ht (by simp [hlt])
      rw [Array.getElem?_eq_getElem hlt]
      generalize act.tmps[d] = v at hv
      cases x <;> simp only [reduceCtorEq, Option.some.injEq] at hy
      · cases hv; subst hy; rfl
      · cases hv; subst hy; rfl

/-- One operation that is wanted. -/
theorem oper_sound (hT : T.OK P) (hF : F.OK P) {R : List It → AAct → AH → Prop} (hR : ∀ k a h, R k a h → AStk P h0 k a h K) {all : Array Oper} {o : Oper} {rest : List Oper} {k : List It} {a : AAct} {h : AH}
    (hk : aop T F (ev a.tmps) h o (After P R K (.ops all rest :: k) a o.dst)) {c0 c : Cx} {act : Act} (hd : ∀ i, h0.length ≤ i → c0.φ i = none) (he0 : Ext c0 h0 c h) (hs : Sim c h) (ha : ActR c a act) :
    o.wp P act c.w (opsL P all (runsTo P (QL c0 h0 K) k) rest) (runsTo P (QL c0 h0 K) k) := by
  obtain ⟨nx, h', c', hK, hext, hs', hr⟩ := aop_sound hT hF hs (ρ := act.eval) (fun x => ev_sound ha.tmps x) hk
  have ha' := ha.mono hext.le
  have hext0 := he0.trans hext
  have next : ∀ {a2 : AAct} {h2 : AH} {c2 : Cx} {act2 : Act}, R (.ops all rest :: k) a2 h2 → Sim c2 h2 → Ext c0 h0 c2 h2 → ActR c2 a2 act2 → opsL P all (runsTo P (QL c0 h0 K) k) rest act2 c2.w := fun {a2 h2 c2 act2} hR2 hs2 he2 ha2 => by
    have := hR _ _ _ hR2 c0 c2 act2 hd he2 hs2 ha2
    simpa only [runsTo] using this
  have hpan : ∀ {x : AV} {v : Value} {a2 : AAct} {h2 : AH} {c2 : Cx} {act2 : Act}, K (.pan x) a2 h2 → Sim c2 h2 → Ext c0 h0 c2 h2 → ActR c2 a2 act2 → VR c2 x v → runsTo P (QL c0 h0 K) k (.panic [{ v, recovered := false }]) act2 c2.w := fun hK2 hs2 he2 ha2 hv =>
    runsTo_panic ⟨_, _, _, _, rfl, he2, hs2, ha2, .pan hv, hK2⟩
  unfold Oper.wp
  cases nx with
  | val x =>
    obtain ⟨v, e, hv⟩ := hr
    rw [e]
    exact next hK hs' hext0 (ha'.put o.dst hv)
  | skip =>
    rw [show (execOp act.eval o).run P c.w = _ from hr]
    exact next hK hs' hext0 (ha'.put o.dst .undef)
  | enter f args =>
    obtain ⟨vs, e, hv⟩ := hr
    rw [e]
    refine (hK c' vs hs' hv).mono fun e w ⟨c2, h2, r, q1, q2, q3, q4, q5⟩ => ?_
    subst q1
    cases q4 with
    | ret hx => exact next q5 q3 (hext0.trans q2) ((ha'.mono q2.le).put o.dst hx)
    | pan hx => exact hpan q5 q3 (hext0.trans q2) (ha'.mono q2.le) hx
  | dfr f cs args =>
    obtain ⟨vs, us, e, hv, hu⟩ := hr
    rw [e]
    refine next hK hs' hext0 (ActR.put (a := ⟨a.tmps, ⟨f, cs, args⟩ :: a.defers⟩) (act := { act with defers := { target := .fn f vs, args := us } :: act.defers }) ⟨ha'.tmps, .cons ⟨vs, rfl, hv, hu⟩ ha'.defers⟩ o.dst .undef)
  | pan x =>
    obtain ⟨v, e, hv⟩ := hr
    rw [e]
    exact hpan hK hs' hext0 ha' hv
  | recov => exact hK.elim

theorem run_sound (hT : T.OK P) (hF : F.OK P) : ∀ (n : Nat) (k : List It) (a : AAct) (h : AH), run P T F h0 K n k a h → AStk P h0 k a h K := by
  intro n
  induction n with
  | zero => intro k a h hr; exact hr.elim
  | succ n ih =>
    intro k a h hr c0 c act hd0 he hs ha
    cases k with
    | nil => exact ⟨c, h, a, .norm, rfl, he, hs, ha, .norm, hr⟩
    | cons x k =>
      cases x with
      | code x =>
        cases x with
        | skip => exact wp_skip (ih _ _ _ hr c0 c act hd0 he hs ha)
        | label l => exact wp_label (ih _ _ _ hr c0 c act hd0 he hs ha)
        | region i all draw =>
          simp only [run] at hr
          split at hr
          · rename_i hd; subst hd; exact hr c0 c act hd0 he hs ha
          · rename_i hd
            have : draw = false := by simpa using hd
            subst this
            exact wp_region_opsL (ih _ _ _ hr c0 c act hd0 he hs ha)
        | seq x y => exact wp_seq_runs (ih _ _ _ hr c0 c act hd0 he hs ha)
        | cond o x y =>
          simp only [run] at hr
          split at hr
          · rename_i b hb
            have hv := ev_sound ha.tmps o
            rw [hb] at hv
            have : act.eval o = .bool b := by generalize act.eval o = v at hv; cases hv; rfl
            split at hr
            · rename_i hbt; subst hbt; exact wp_cond_true this (ih _ _ _ hr c0 c act hd0 he hs ha)
            · rename_i hbf
              have hb' : b = false := by simpa using hbf
              subst hb'
              exact wp_cond_false this (ih _ _ _ hr c0 c act hd0 he hs ha)
          · exact hr.elim
        | block id x => exact wp_block_runs (ih _ _ _ hr c0 c act hd0 he hs ha)
        | loop x => exact wpL_loop (hr c0 c act hd0 he hs ha)
        | exit id =>
          simp only [run] at hr
          split at hr
          · rename_i k' hk'
            exact wp_exit (runsTo_exit hk' (ih _ _ _ hr c0 c act hd0 he hs ha))
          · exact hr.elim
        | ret => exact wp_ret (runsTo_ret ⟨c, h, a, .ret, rfl, he, hs, ha, .ret, hr⟩)
        | rangeFunc f ps x y => exact hr.elim
        | scope x => exact hr.elim
        | goto l => exact hr.elim
        | refuse s => exact hr.elim
      | ops all l =>
        cases l with
        | nil => exact ih _ _ _ hr c0 c act hd0 he hs ha
        | cons o rest =>
          have off : run P T F h0 K n (.ops all rest :: k) (a.put o.dst .undef) h → opsL P all (runsTo P (QL c0 h0 K) k) rest (act.put o.dst undef) c.w := fun hr => ih _ _ _ hr c0 c _ hd0 he hs (ha.put o.dst .undef)
          have on : aop T F (ev a.tmps) h o (After P (run P T F h0 K n) K (.ops all rest :: k) a o.dst) → o.wp P act c.w (opsL P all (runsTo P (QL c0 h0 K) k) rest) (runsTo P (QL c0 h0 K) k) := fun hr => oper_sound hT hF ih hr hd0 he hs ha
          show opsL P all (runsTo P (QL c0 h0 K) k) (o :: rest) act c.w
          simp only [opsL]
          simp only [run] at hr
          cases hg : o.guard with
          | none =>
            rw [hg] at hr
            rw [if_pos (by simp [Region.wanted, hg])]
            exact on hr
          | some g =>
            obtain ⟨j, want⟩ := g
            rw [hg] at hr
            simp only at hr
            cases hy : yieldA all a.tmps j with
            | none => rw [hy] at hr; exact hr.elim
            | some r =>
              have hyr := yieldA_sound ha hy
              rw [hy] at hr
              cases r with
              | none =>
                rw [if_neg (by simp [Region.wanted, hg, hyr])]
                exact off hr
              | some b =>
                simp only at hr
                by_cases hbw : (b == want) = true
                · rw [if_pos hbw] at hr
                  rw [if_pos (by simpa [Region.wanted, hg, hyr] using hbw)]
                  exact on hr
                · rw [if_neg hbw] at hr
                  rw [if_neg (by simpa [Region.wanted, hg, hyr] using hbw)]
                  exact off hr
      | blk id => exact ih _ _ _ hr c0 c act hd0 he hs ha
      | loop x => exact hr c0 c act hd0 he hs ha

/-- A loop, one round on. -/
theorem AStk.round {x : Code} {k : List It} {a : AAct} {h : AH} (hh : AStk P h0 (.code x :: .loop x :: k) a h K) : AStk P h0 (.loop x :: k) a h K :=
  fun c0 c act hd0 he hs ha => runsTo_round (hh c0 c act hd0 he hs ha)

/-! ### Functions -/
def aResults (T : Tab) (tmps : List AV) (h : AH) : List ResultVar → (List AV → Prop) → Prop
  | [], K => K []
  | .tmp t :: rs, K => aResults T tmps h rs fun l => K (tmps.getD t .undef :: l)
  | .cell a t :: rs, K => aLoad T t (tmps.getD a .undef) h fun v _ => aResults T tmps h rs fun l => K (v :: l)

def resultOf : List AV → AV
  | [x] => x
  | l => .tup l

/-- The model's results, put together. -/
def tupleOf : List Value → Value
  | [v] => v
  | l => .tuple l.toArray

def oneResult (tmps : Array Value) : ResultVar → Sem Value
  | .tmp t => pure (tmps.getD t undef)
  | .cell a t => do loadVar t (← asAddr (tmps.getD a undef))

theorem aResults_run (hT : T.OK P) {c : Cx} {h : AH} (hs : Sim c h) {tmps : List AV} {vt : Array Value} (ht : VRs c tmps vt.toList) : ∀ {rs : List ResultVar} {K : List AV → Prop}, aResults T tmps h rs K →
    ∃ l vs, K l ∧ (rs.mapM (oneResult vt)).run P c.w = .ok vs c.w ∧ VRs c l vs := by
  intro rs
  induction rs with
  | nil => intro K hk; exact ⟨[], [], hk, rfl, .nil⟩
  | cons r rs ih =>
    intro K hk
    cases r with
    | tmp t =>
      obtain ⟨l, vs, h1, h2, h3⟩ := ih hk
      have hv := ht.getD t (d := .undef) (e := undef) .undef
      refine ⟨_, vt.getD t undef :: vs, h1, ?_, .cons (by simpa using hv) h3⟩
      rw [List.mapM_cons]
      simp only [oneResult, Sem.run_bind, Sem.run_pure, Result.andThen_ok]
      rw [h2]; rfl
    | cell a t =>
      have hv := ht.getD a (d := .undef) (e := undef) .undef
      obtain ⟨x, v, g1, g2, g3⟩ := aLoad_sound0 hT hs.rd hv hk
      obtain ⟨l, vs, h1, h2, h3⟩ := ih g1
      refine ⟨_, v :: vs, h1, ?_, .cons g3 h3⟩
      rw [List.mapM_cons]
      have hl : (oneResult vt (.cell a t)).run P c.w = .ok v c.w := by
        simp only [oneResult]
        have e : vt.toList.getD a undef = vt.getD a undef := by simp
        rw [e] at g2
        generalize vt.getD a undef = ad at g2
        simp only [Instr.loadAt, Sem.run_bind] at g2
        cases ad <;> simp only [Instr.sureAddr, run_stuck, Result.andThen_halt, reduceCtorEq] at g2
        rename_i ad
        cases ad with
        | none => simp [Instr.sureAddr] at g2
        | some ad => simpa [Instr.sureAddr, asAddr] using g2
      simp only [Sem.run_bind, hl, Result.andThen_ok, h2]
      rfl

/-- A function's end, where nothing has been deferred. -/
def EndsV (T : Tab) (rs : List ResultVar) (K : ARes → AH → Prop) : AExit → AAct → AH → Prop
  | .pan v, a, h => (match a.defers with
    | [] => K (.pan v) h
    | _ => False)
  | _, a, h => (match a.defers with
    | [] => aResults T a.tmps h rs fun l => K (.ret (resultOf l)) h
    | _ => False)

theorem results_run {fn : Func} {fi : FnI} (hr : fn.results.toList = fi.results) {w : World} {vt : Array Value} {vs : List Value} (h : (fi.results.mapM (oneResult vt)).run P w = .ok vs w) :
    (results fn vt).run P w = .ok (tupleOf vs) w := by
  have h1 : (fn.results.mapM (oneResult vt)).run P w = .ok vs.toArray w := by
    rw [Array.mapM_eq_mapM_toList, hr]
    simp [h]
  have h2 : results fn vt = (do let vs ← fn.results.mapM (oneResult vt); pure (if h : vs.size = 1 then vs[0] else .tuple vs)) := by
    unfold results
    congr 1
  rw [h2]
  simp only [Sem.run_bind, h1, Result.andThen_ok, Sem.run_pure]
  congr 1
  match vs with
  | [] => rfl
  | [v] => rfl
  | v :: u :: l => simp [tupleOf]

theorem calls_of_stk (hT : T.OK P) {f : FuncId} {fi : FnI} (hf : FnOK P f fi) {args : List AV} {h : AH} {K : ARes → AH → Prop}
    (hh : AStk P h [.code fi.body] ⟨args ++ List.replicate (fi.ntmps - args.length) .undef, []⟩ h (EndsV T fi.results K)) : ACalls P f args h K := by
  intro c vs hs hv
  obtain ⟨fn, h1, h2, h3, h4, _⟩ := hf.fn
  refine calls_of_wp h1 h2 ?_
  have hlen : args.length = vs.size := by simpa using hv.1
  have hrep : ∀ n, VRs c (List.replicate n AV.undef) (List.replicate n undef) := fun n => ⟨by simp, fun i x v a b => by
    have := List.mem_of_getElem? a
    have hb := List.mem_of_getElem? b
    rw [List.mem_replicate] at this hb
    rw [this.2, hb.2]; exact .undef⟩
  have ha : ActR c ⟨args ++ List.replicate (fi.ntmps - args.length) .undef, []⟩ { tmps := vs ++ Array.replicate (fn.ntmps - vs.size) undef, defers := [] } :=
    ⟨by simp only [Array.toList_append, Array.toList_replicate, h3, ← hlen]; exact hv.append (hrep _), .nil⟩
  have := hh c c _ hs.dom (Ext.refl c h) hs ha
  simp only [runsTo] at this
  refine wp_mono this fun e act w hq => ?_
  obtain ⟨c', h', a', e', q1, q2, q3, q4, q5, q6⟩ := hq
  subst q1
  have hend : ∀ {l : List AV} {us : List Value}, VRs c' l us → VR c' (resultOf l) (tupleOf us) := fun {l us} hl => by
    match l, us, hl with
    | [], [], hl => exact VR.of_tup hl
    | [x], [v], hl => exact hl.2 0 x v rfl rfl
    | x :: y :: l, v :: u :: us, hl => exact VR.of_tup hl
    | [], _ :: _, hl => exact absurd hl.1 (by simp)
    | [_], [], hl => exact absurd hl.1 (by simp)
    | [_], _ :: _ :: _, hl => exact absurd hl.1 (by simp)
    | _ :: _ :: _, [], hl => exact absurd hl.1 (by simp)
    | _ :: _ :: _, [_], hl => exact absurd hl.1 (by simp)
  cases q5 with
  | norm =>
    simp only [EndsV] at q6
    split at q6
    · rename_i hd
      obtain ⟨l, us, g1, g2, g3⟩ := aResults_run hT q3 q4.tmps q6
      have hdd := q4.defers
      rw [hd] at hdd
      refine ⟨?_, _, results_run h4 g2, c', h', _, rfl, q2, q3, .ret (hend g3), g1⟩
      generalize act.defers = dd at hdd
      cases hdd; rfl
    · exact q6.elim
  | ret =>
    simp only [EndsV] at q6
    split at q6
    · rename_i hd
      obtain ⟨l, us, g1, g2, g3⟩ := aResults_run hT q3 q4.tmps q6
      have hdd := q4.defers
      rw [hd] at hdd
      refine ⟨?_, _, results_run h4 g2, c', h', _, rfl, q2, q3, .ret (hend g3), g1⟩
      generalize act.defers = dd at hdd
      cases hdd; rfl
    · exact q6.elim
  | pan hx =>
    simp only [EndsV] at q6
    split at q6
    · rename_i hd
      have hdd := q4.defers
      rw [hd] at hdd
      refine ⟨?_, c', h', _, rfl, q2, q3, .pan hx, q6⟩
      generalize act.defers = dd at hdd
      cases hdd; rfl
    · exact q6.elim

/-- A call, by the function's own code. -/
theorem calls_of_run (hT : T.OK P) (hF : F.OK P) {f : FuncId} {fi : FnI} (hf : F f = some fi) (n : Nat) {args : List AV} {h : AH} {K : ARes → AH → Prop}
    (hh : run P T F h (EndsV T fi.results K) n [.code fi.body] ⟨args ++ List.replicate (fi.ntmps - args.length) .undef, []⟩ h) : ACalls P f args h K :=
  calls_of_stk hT (hF f fi hf) (run_sound hT hF n _ _ _ hh)

end
end Go.Vm
