/- What all rows of this seat use. -/
import Derived.Test.YteebkkipeiggcaaRows
import Derived.Test.YteebkkipeiggcaaB3
import Derived.Test.YteebkkipeiggcaaB4
import Derived.Lib.Strings
import Derived.Lib.Slices
import Derived.Lib.Walk
import Derived.Lib.Bytealg
set_option linter.unusedVariables false
set_option linter.unusedSimpArgs false
namespace Go.Proofs.Yteebkkipeiggcaa
open Go Go.Vm Go.ChangeShapes Go.WideShapes Go.ChangeAt Go.RowKit Go.ChangeMaps

theorem Try.own : ownKnob Try.prog.godebug = none := by kernel_rfl
theorem Try.laidOut : laidOutB Try.prog = true := by kernel_rfl

theorem part_cells {H : Type} {enc : TypeId × Value → H} {W : World} : ∀ n r y, DataW.trod enc Try.prog W 0 (fun _ => true) true n 107 r = some y → ∃ p : Pt, r = [.int .i64 p.kind, .int .i64 p.n, .string p.s, .int .u8 p.args] ∧ PtOk p :=
  fun n r y h => by
    obtain ⟨p, e, h1, h2, h3, h4, h5, h6, h7⟩ := open_part (P := Try.prog) Try.underlying107 Try.underlying3 Try.underlying2 Try.underlying9 Try.underlying5 (by kernel_rfl) (by kernel_rfl) (by kernel_rfl) (by kernel_rfl) (by kernel_rfl) h
    exact ⟨p, e, h1, h2, h3, h4, h5, h6, h7⟩

set_option maxRecDepth 100000 in
/-- An argument that is a list of parts. -/
theorem arg_parts {H : Type} {enc : TypeId × Value → H} {W : World} {v : Value} {d : DataW H} {ps : List MemPlace} (hval : Value.okWide Try.prog W .any 0 22 v) (h : DataW.Trod enc Try.prog W 0 (fun _ => true) true 22 v d ps) :
    ∃ l : List Pt, VR (startCx W) (.ro 4 (encP l)) v ∧ ∀ p ∈ l, 0 ≤ p.args ∧ p.args ≤ 255 := by
  obtain ⟨l, h1, _, h2⟩ := open_parts_arg Try.underlying22 (by kernel_rfl) hval h part_cells
  exact ⟨l, h1, fun p hp => ⟨(h2 p hp).1, (h2 p hp).2.1⟩⟩

end Go.Proofs.Yteebkkipeiggcaa


/- Contracts: package prolixref03's small functions, and those of package term that are alike. -/
namespace Go.Proofs.Yteebkkipeiggcaa
open Go Go.Vm

set_option maxRecDepth 20000
set_option maxHeartbeats 1000000

theorem term_Size_ok (t : Tm) (hk : t.size ≤ 1000000) : ACalls Try.prog 33 [.agg t.enc] [] (fun r _ => r = .ret (.int .i64 t.size)) := by
  induction t using Tm.ind with | _ t ih
  have hmem : ∀ u ∈ t.args, ACalls Try.prog 33 [.agg u.enc] [] (fun r _ => r = .ret (.int .i64 u.size)) := fun u hu => ih u hu (by have := Tm.size_lt hu; omega)
  rw [t.size_eq] at hk ⊢
  generalize ha : t.args = args at *
  have hl := length_le_sizes args
  clear ih
  refine ACalls.post (calls_tree 400 fn33 (by simp [Try.f33]) ?_); simp (maxSteps := 3000000) [Tr.map, Try.f33]
  refine AStk.liveT [3, 7, 8, 9] (AStk.gc [] (by simp) (by simp) (by simp) ?_); simp [Tr.map]
  refine AStk.indE (fun d_ a_ h_ => ∃ (ds es : List Tm), (args = ds ++ es) ∧ d_ = es.length ∧ a_ = ⟨toL 19 (mkT [(3, .int .i64 (1 + sizes ds)), (7, .ro 4 (encs args)), (8, .int .i64 args.length), (9, .int .i64 ds.length)] (.e .any)), []⟩ ∧ h_ = []) ?_ ?_
  · exact ⟨_, [], args, rfl, rfl, by simp [Tr.map, ha], rfl⟩
  rintro d a h ⟨ds, es, hsp, rfl, rfl, rfl⟩ IH
  cases es with
  | nil =>
    simp at hsp; subst hsp
    refine stk_run 400 ?_; simp (maxSteps := 3000000) [Tr.map]
    (try simp [Tm.enc]); (first | (refine .done ?_; simp [Tm.enc]; done) | (refine Tn.wkRet ?_; simp (maxDischargeDepth := 20)))
  | cons u es =>
    have hlt : (ds.length : Int) < args.length := by rw [hsp]; simp; omega
    have g1 : (encs args)[ds.length]? = some u.enc := by rw [hsp]; simp
    refine stk_run 400 ?_; simp (maxSteps := 3000000) [Tr.map, hlt, g1]
    (have hc_ := hmem u (by simp [hsp])); (try simp at hc_); refine ACalls.retW hc_ (by simp (maxDischargeDepth := 20)) (by simp (maxDischargeDepth := 12)) (by simp (maxDischargeDepth := 12)) ?_; clear hc_; (try simp (maxSteps := 3000000) [Tr.map])
    have hz := congrArg sizes hsp
    have hy := congrArg List.length hsp
    simp at hz hy
    (try simp (disch := omega) only [wrap64])
    refine AStk.liveT [3, 7, 8, 9] (AStk.gc [] (by simp) (by simp) (by simp) ?_); simp [Tr.map]
    exact IH _ _ _ (by simp) ⟨ds ++ [u], es, by simp [hsp], rfl, by simp [Tr.map, Int.add_assoc, Int.add_comm, Int.add_left_comm], by simp⟩

theorem prolixref03_Size_ok (t : Tm) (hk : t.size ≤ 1000000) : ACalls Try.prog 118 [.agg t.enc] [] (fun r _ => r = .ret (.int .i64 t.size)) := by
  induction t using Tm.ind with | _ t ih
  have hmem : ∀ u ∈ t.args, ACalls Try.prog 118 [.agg u.enc] [] (fun r _ => r = .ret (.int .i64 u.size)) := fun u hu => ih u hu (by have := Tm.size_lt hu; omega)
  rw [t.size_eq] at hk ⊢
  generalize ha : t.args = args at *
  have hl := length_le_sizes args
  clear ih
  refine ACalls.post (calls_tree 400 fn118 (by simp [Try.f118]) ?_); simp (maxSteps := 3000000) [Tr.map, Try.f118]
  refine AStk.liveT [3, 7, 8, 9] (AStk.gc [] (by simp) (by simp) (by simp) ?_); simp [Tr.map]
  refine AStk.indE (fun d_ a_ h_ => ∃ (ds es : List Tm), (args = ds ++ es) ∧ d_ = es.length ∧ a_ = ⟨toL 19 (mkT [(3, .int .i64 (1 + sizes ds)), (7, .ro 4 (encs args)), (8, .int .i64 args.length), (9, .int .i64 ds.length)] (.e .any)), []⟩ ∧ h_ = []) ?_ ?_
  · exact ⟨_, [], args, rfl, rfl, by simp [Tr.map, ha], rfl⟩
  rintro d a h ⟨ds, es, hsp, rfl, rfl, rfl⟩ IH
  cases es with
  | nil =>
    simp at hsp; subst hsp
    refine stk_run 400 ?_; simp (maxSteps := 3000000) [Tr.map]
    (try simp [Tm.enc]); (first | (refine .done ?_; simp [Tm.enc]; done) | (refine Tn.wkRet ?_; simp (maxDischargeDepth := 20)))
  | cons u es =>
    have hlt : (ds.length : Int) < args.length := by rw [hsp]; simp; omega
    have g1 : (encs args)[ds.length]? = some u.enc := by rw [hsp]; simp
    refine stk_run 400 ?_; simp (maxSteps := 3000000) [Tr.map, hlt, g1]
    (have hc_ := hmem u (by simp [hsp])); (try simp at hc_); refine ACalls.retW hc_ (by simp (maxDischargeDepth := 20)) (by simp (maxDischargeDepth := 12)) (by simp (maxDischargeDepth := 12)) ?_; clear hc_; (try simp (maxSteps := 3000000) [Tr.map])
    have hz := congrArg sizes hsp
    have hy := congrArg List.length hsp
    simp at hz hy
    (try simp (disch := omega) only [wrap64])
    refine AStk.liveT [3, 7, 8, 9] (AStk.gc [] (by simp) (by simp) (by simp) ?_); simp [Tr.map]
    exact IH _ _ _ (by simp) ⟨ds ++ [u], es, by simp [hsp], rfl, by simp [Tr.map, Int.add_assoc, Int.add_comm, Int.add_left_comm], by simp⟩

theorem term_Deep_ok (t : Tm) (hk : t.size ≤ 1000000) : ACalls Try.prog 34 [.agg t.enc] [] (fun r _ => r = .ret (.int .i64 t.deep)) := by
  induction t using Tm.ind with | _ t ih
  have hmem : ∀ u ∈ t.args, ACalls Try.prog 34 [.agg u.enc] [] (fun r _ => r = .ret (.int .i64 u.deep)) := fun u hu => ih u hu (by have := Tm.size_lt hu; omega)
  have hd := deep_le_size t
  rw [t.deep_eq] at hd ⊢
  have hsz := t.size_eq
  generalize ha : t.args = args at *
  have hl := length_le_sizes args
  clear ih
  refine ACalls.post (calls_tree 400 fn34 (by simp [Try.f34]) ?_); simp (maxSteps := 3000000) [Tr.map, Try.f34]
  refine AStk.liveT [3, 7, 8, 9] (AStk.gc [] (by simp) (by simp) (by simp) ?_); simp [Tr.map]
  refine AStk.indE (fun d_ a_ h_ => ∃ (ds es : List Tm), (args = ds ++ es) ∧ d_ = es.length ∧ a_ = ⟨toL 20 (mkT [(3, .int .i64 (deeps ds)), (7, .ro 4 (encs args)), (8, .int .i64 args.length), (9, .int .i64 ds.length)] (.e .any)), []⟩ ∧ h_ = []) ?_ ?_
  · exact ⟨_, [], args, rfl, rfl, by simp [Tr.map, ha], rfl⟩
  rintro d a h ⟨ds, es, hsp, rfl, rfl, rfl⟩ IH
  cases es with
  | nil =>
    simp at hsp; subst hsp
    refine stk_run 400 ?_; simp (maxSteps := 3000000) [Tr.map]
    (try simp (disch := omega) only [wrap64])
    (try simp [Tm.enc]); (first | (refine .done ?_; simp [Tm.enc]; done) | (refine Tn.wkRet ?_; simp (maxDischargeDepth := 20)))
  | cons u es =>
    have hlt : (ds.length : Int) < args.length := by rw [hsp]; simp; omega
    have g1 : (encs args)[ds.length]? = some u.enc := by rw [hsp]; simp
    refine stk_run 400 ?_; simp (maxSteps := 3000000) [Tr.map, hlt, g1]
    (have hc_ := hmem u (by simp [hsp])); (try simp at hc_); refine ACalls.retW hc_ (by simp (maxDischargeDepth := 20)) (by simp (maxDischargeDepth := 12)) (by simp (maxDischargeDepth := 12)) ?_; clear hc_; (try simp (maxSteps := 3000000) [Tr.map])
    have hy := congrArg List.length hsp
    simp at hy
    (try simp (disch := omega) only [wrap64])
    refine AStk.liveT [3, 7, 8, 9] (AStk.gc [] (by simp) (by simp) (by simp) ?_); simp [Tr.map]
    have hmx : (if deeps ds < u.deep then ((u.deep : Nat) : Int) else ((deeps ds : Nat) : Int)) = ((max (deeps ds) u.deep : Nat) : Int) := by split <;> omega
    exact IH _ _ _ (by simp) ⟨ds ++ [u], es, by simp [hsp], rfl, by simp [Tr.map, Int.add_assoc, Int.add_comm, Int.add_left_comm, hmx], by simp [hmx]⟩

theorem prolixref03_Deep_ok (t : Tm) (hk : t.size ≤ 1000000) : ACalls Try.prog 117 [.agg t.enc] [] (fun r _ => r = .ret (.int .i64 t.deep)) := by
  induction t using Tm.ind with | _ t ih
  have hmem : ∀ u ∈ t.args, ACalls Try.prog 117 [.agg u.enc] [] (fun r _ => r = .ret (.int .i64 u.deep)) := fun u hu => ih u hu (by have := Tm.size_lt hu; omega)
  have hd := deep_le_size t
  rw [t.deep_eq] at hd ⊢
  have hsz := t.size_eq
  generalize ha : t.args = args at *
  have hl := length_le_sizes args
  clear ih
  refine ACalls.post (calls_tree 400 fn117 (by simp [Try.f117]) ?_); simp (maxSteps := 3000000) [Tr.map, Try.f117]
  refine AStk.liveT [3, 7, 8, 9] (AStk.gc [] (by simp) (by simp) (by simp) ?_); simp [Tr.map]
  refine AStk.indE (fun d_ a_ h_ => ∃ (ds es : List Tm), (args = ds ++ es) ∧ d_ = es.length ∧ a_ = ⟨toL 20 (mkT [(3, .int .i64 (deeps ds)), (7, .ro 4 (encs args)), (8, .int .i64 args.length), (9, .int .i64 ds.length)] (.e .any)), []⟩ ∧ h_ = []) ?_ ?_
  · exact ⟨_, [], args, rfl, rfl, by simp [Tr.map, ha], rfl⟩
  rintro d a h ⟨ds, es, hsp, rfl, rfl, rfl⟩ IH
  cases es with
  | nil =>
    simp at hsp; subst hsp
    refine stk_run 400 ?_; simp (maxSteps := 3000000) [Tr.map]
    (try simp (disch := omega) only [wrap64])
    (try simp [Tm.enc]); (first | (refine .done ?_; simp [Tm.enc]; done) | (refine Tn.wkRet ?_; simp (maxDischargeDepth := 20)))
  | cons u es =>
    have hlt : (ds.length : Int) < args.length := by rw [hsp]; simp; omega
    have g1 : (encs args)[ds.length]? = some u.enc := by rw [hsp]; simp
    refine stk_run 400 ?_; simp (maxSteps := 3000000) [Tr.map, hlt, g1]
    (have hc_ := hmem u (by simp [hsp])); (try simp at hc_); refine ACalls.retW hc_ (by simp (maxDischargeDepth := 20)) (by simp (maxDischargeDepth := 12)) (by simp (maxDischargeDepth := 12)) ?_; clear hc_; (try simp (maxSteps := 3000000) [Tr.map])
    have hy := congrArg List.length hsp
    simp at hy
    (try simp (disch := omega) only [wrap64])
    refine AStk.liveT [3, 7, 8, 9] (AStk.gc [] (by simp) (by simp) (by simp) ?_); simp [Tr.map]
    have hmx : (if deeps ds < u.deep then ((u.deep : Nat) : Int) else ((deeps ds : Nat) : Int)) = ((max (deeps ds) u.deep : Nat) : Int) := by split <;> omega
    exact IH _ _ _ (by simp) ⟨ds ++ [u], es, by simp [hsp], rfl, by simp [Tr.map, Int.add_assoc, Int.add_comm, Int.add_left_comm, hmx], by simp [hmx]⟩

theorem great_ok (l : List Pt) (hl : l.length < 9000000000000000000) : ACalls Try.prog 16 [.ro 4 (encP l)] [] (fun r _ => r = .ret (.bool (decide ((60 : Int) < l.length)))) := by
  refine ACalls.post (calls_tree 400 fn16 (by simp [Try.f16]) ?_); simp (maxSteps := 3000000) [Tr.map, Try.f16]
  (try simp [Tm.enc]); (first | (refine .done ?_; simp [Tm.enc]; done) | (refine Tn.wkRet ?_; simp (maxDischargeDepth := 20)))

theorem great_big (l : List Pt) (hl : 60 < l.length) : ACalls Try.prog 16 [.ro 4 (encP l)] [] (fun r _ => r = .ret (.bool true)) := by
  have h : (60 : Int) < l.length := by omega
  refine ACalls.post (calls_tree 400 fn16 (by simp [Try.f16]) ?_); simp (maxSteps := 3000000) [Tr.map, Try.f16, h]
  (try simp [Tm.enc]); (first | (refine .done ?_; simp [Tm.enc]; done) | (refine Tn.wkRet ?_; simp (maxDischargeDepth := 20)))

theorem great_small (l : List Pt) (hl : l.length ≤ 60) : ACalls Try.prog 16 [.ro 4 (encP l)] [] (fun r _ => r = .ret (.bool false)) := by
  have h : ¬ (60 : Int) < l.length := by omega
  refine ACalls.post (calls_tree 400 fn16 (by simp [Try.f16]) ?_); simp (maxSteps := 3000000) [Tr.map, Try.f16, h]
  (try simp [Tm.enc]); (first | (refine .done ?_; simp [Tm.enc]; done) | (refine Tn.wkRet ?_; simp (maxDischargeDepth := 20)))

theorem same_ok (t u : Tm) (hk : t.size ≤ 1000000) : ACalls Try.prog 20 [.agg t.enc, .agg u.enc] [] (fun r _ => r = .ret (.bool (t.eqb u))) := by
  induction t using Tm.ind generalizing u with | _ t ih
  have hmem : ∀ v ∈ t.args, ∀ w, ACalls Try.prog 20 [.agg v.enc, .agg w.enc] [] (fun r _ => r = .ret (.bool (v.eqb w))) := fun v hv w => ih v hv w (by have := Tm.size_lt hv; omega)
  have hlen := t.length_lt
  clear ih
  by_cases h1 : t.kind = u.kind
  · by_cases h2 : t.n = u.n
    · by_cases h3 : t.s = u.s
      · by_cases h4 : t.args.length = u.args.length
        · refine ACalls.post (calls_tree 400 fn20 (by simp [Try.f20]) ?_); simp (maxSteps := 3000000) [Tr.map, Try.f20, h1, h2, h3, h4]
          refine AStk.liveT [2, 3, 36, 37] ?_; simp [Tr.map]
          refine AStk.indE (fun d_ a_ h_ => ∃ (ds es ds' es' : List Tm), (t.args = ds ++ es ∧ u.args = ds' ++ es' ∧ ds.length = ds'.length ∧ ds = ds') ∧ d_ = es.length ∧ a_ = ⟨toL 53 (mkT [(2, .ptr 0 0), (3, .ptr 1 0), (36, .int .i64 u.args.length), (37, .int .i64 ds.length)] (.e .any)), []⟩ ∧ h_ = [.var t.enc, .var u.enc]) ?_ ?_
          · exact ⟨_, [], t.args, [], u.args, ⟨rfl, rfl, rfl, rfl⟩, rfl, by simp [Tr.map], rfl⟩
          rintro d a h ⟨ds, es, ds', es', ⟨e1, e2, e3, rfl⟩, rfl, rfl, rfl⟩ IH
          cases es with
          | nil =>
            have e6 : es' = [] := by have := congrArg List.length e1; have := congrArg List.length e2; simp at *; exact List.length_eq_zero_iff.1 (by omega)
            subst e6
            have heq : t = u := Tm.ext4 h1 h2 h3 (by rw [e1, e2])
            have hlt : ¬ (ds.length : Int) < u.args.length := by rw [e2]; simp
            subst heq
            refine stk_run 400 ?_; simp (maxSteps := 3000000) [Tr.map, hlt]
            (try simp [Tm.enc]); (first | (refine .done ?_; simp [Tm.enc]; done) | (refine Tn.wkRet ?_; simp (maxDischargeDepth := 20)))
          | cons v es =>
            obtain ⟨w, es', rfl⟩ : ∃ w m, es' = w :: m := by
              cases es' with
              | nil => have := congrArg List.length e1; have := congrArg List.length e2; simp at *; omega
              | cons w m => exact ⟨w, m, rfl⟩
            obtain ⟨p1, p2, p3, p4, p5⟩ := mid_facts e1
            obtain ⟨q1, q2, q3, q4, q5⟩ := mid_facts e2
            refine stk_run 400 ?_; simp (maxSteps := 3000000) [Tr.map, q2]
            refine stk_draw mixed (tabOf_ok _) (fnOf_ok _) 10 (by kernel_rfl) ?_; simp (maxSteps := 3000000) [Tr.map, p1, p2, p3, p4, q1, q2, q3, q4]
            refine stk_run 400 ?_; simp (maxSteps := 3000000) [Tr.map]
            (have hc_ := hmem v (by simp [e1]) w); (try simp at hc_); refine ACalls.retW hc_ (by simp (maxDischargeDepth := 20)) (by simp (maxDischargeDepth := 12)) (by simp (maxDischargeDepth := 12)) ?_; clear hc_; (try simp (maxSteps := 3000000) [Tr.map])
            by_cases hvw : v = w
            · subst hvw
              simp [Tr.map]
              (try simp (disch := omega) only [wrap64])
              refine AStk.liveT [2, 3, 36, 37] ?_; simp [Tr.map]
              exact IH _ _ _ (by simp) ⟨ds ++ [v], es, ds ++ [v], es', ⟨by simp [e1], by simp [e2], by simp, rfl⟩, rfl, by simp [Tr.map, Int.add_assoc, Int.add_comm, Int.add_left_comm], by simp⟩
            · have hne : t.eqb u = false := Tm.eqb_ne fun e => hvw (by rw [e, e2] at e1; simp at e1; exact e1.1.symm)
              simp [Tr.map, Tm.eqb_ne hvw, hne]
              (try simp [Tm.enc]); (first | (refine .done ?_; simp [Tm.enc]; done) | (refine Tn.wkRet ?_; simp (maxDischargeDepth := 20)))
        · have hne : t.eqb u = false := Tm.eqb_ne fun e => h4 (by rw [e])
          have h4' : ¬ (t.args.length : Int) = u.args.length := by omega
          refine ACalls.post (calls_tree 400 fn20 (by simp [Try.f20]) ?_); simp (maxSteps := 3000000) [Tr.map, Try.f20, h1, h2, h3, h4, h4', hne]
          (try simp [Tm.enc]); (first | (refine .done ?_; simp [Tm.enc]; done) | (refine Tn.wkRet ?_; simp (maxDischargeDepth := 20)))
      · have hne : t.eqb u = false := Tm.eqb_ne fun e => h3 (by rw [e])
        refine ACalls.post (calls_tree 400 fn20 (by simp [Try.f20]) ?_); simp (maxSteps := 3000000) [Tr.map, Try.f20, h1, h2, h3, hne]
        (try simp [Tm.enc]); (first | (refine .done ?_; simp [Tm.enc]; done) | (refine Tn.wkRet ?_; simp (maxDischargeDepth := 20)))
    · have hne : t.eqb u = false := Tm.eqb_ne fun e => h2 (by rw [e])
      refine ACalls.post (calls_tree 400 fn20 (by simp [Try.f20]) ?_); simp (maxSteps := 3000000) [Tr.map, Try.f20, h1, h2, hne]
      (try simp [Tm.enc]); (first | (refine .done ?_; simp [Tm.enc]; done) | (refine Tn.wkRet ?_; simp (maxDischargeDepth := 20)))
  · have hne : t.eqb u = false := Tm.eqb_ne fun e => h1 (by rw [e])
    refine ACalls.post (calls_tree 400 fn20 (by simp [Try.f20]) ?_); simp (maxSteps := 3000000) [Tr.map, Try.f20, h1, hne]
    (try simp [Tm.enc]); (first | (refine .done ?_; simp [Tm.enc]; done) | (refine Tn.wkRet ?_; simp (maxDischargeDepth := 20)))

theorem same_self (t : Tm) (hk : t.size ≤ 1000000) : ACalls Try.prog 20 [.agg t.enc, .agg t.enc] [] (fun r _ => r = .ret (.bool true)) := by
  have := same_ok t t hk
  rwa [Tm.eqb_self] at this

end Go.Proofs.Yteebkkipeiggcaa


/- Contracts: how a term is built of parts, and mended. -/
namespace Go.Proofs.Yteebkkipeiggcaa
open Go Go.Vm

set_option maxRecDepth 20000
set_option maxHeartbeats 1000000

def atomA : Tm := ⟨3, 0, ⟨#[97]⟩, []⟩

def kidsF (g : List Pt → Tm × Nat) : Nat → List Pt → List Tm × Nat
  | 0, _ => ([], 0)
  | k + 1, l => ((g l).1 :: (kidsF g k (l.drop (g l).2)).1, (g l).2 + (kidsF g k (l.drop (g l).2)).2)

def ofF : Nat → List Pt → Tm × Nat
  | 0, _ => (atomA, 0)
  | _ + 1, [] => (atomA, 0)
  | f + 1, p :: l => (⟨p.kind, p.n, p.s, (kidsF (ofF f) (p.args % 8).toNat l).1⟩, 1 + (kidsF (ofF f) (p.args % 8).toNat l).2)

theorem kidsF_le {g : List Pt → Tm × Nat} (hg : ∀ l, (g l).2 ≤ l.length) : ∀ k l, (kidsF g k l).2 ≤ l.length
  | 0, l => by simp [kidsF]
  | k + 1, l => by
    have h1 := hg l
    have h2 := kidsF_le hg k (l.drop (g l).2)
    simp [kidsF] at h2 ⊢
    omega

theorem ofF_le : ∀ f l, (ofF f l).2 ≤ l.length
  | 0, l => by simp [ofF]
  | f + 1, [] => by simp [ofF]
  | f + 1, p :: l => by
    have := kidsF_le (ofF_le f) (p.args % 8).toNat l
    simp [ofF]; omega

theorem kidsF_size {g : List Pt → Tm × Nat} (hg : ∀ l, (g l).1.size ≤ 1 + 7 * (g l).2) : ∀ k l, sizes (kidsF g k l).1 ≤ k + 7 * (kidsF g k l).2
  | 0, l => by simp [kidsF]
  | k + 1, l => by
    have h1 := hg l
    have h2 := kidsF_size hg k (l.drop (g l).2)
    simp [kidsF] at h2 ⊢
    omega

theorem ofF_size : ∀ f l, (ofF f l).1.size ≤ 1 + 7 * (ofF f l).2
  | 0, l => by simp [ofF, atomA, Tm.size_eq]
  | f + 1, [] => by simp [ofF, atomA, Tm.size_eq]
  | f + 1, p :: l => by
    have := kidsF_size (ofF_size f) (p.args % 8).toNat l
    simp [ofF, Tm.size_eq]; omega

theorem kidsF_add (g : List Pt → Tm × Nat) : ∀ j k l, (kidsF g (j + k) l) = ((kidsF g j l).1 ++ (kidsF g k (l.drop (kidsF g j l).2)).1, (kidsF g j l).2 + (kidsF g k (l.drop (kidsF g j l).2)).2)
  | 0, k, l => by simp [kidsF]
  | j + 1, k, l => by
    rw [show j + 1 + k = (j + k) + 1 by omega]
    simp [kidsF, kidsF_add g j k, Nat.add_assoc]

theorem kidsF_length (g : List Pt → Tm × Nat) : ∀ k l, (kidsF g k l).1.length = k
  | 0, l => by simp [kidsF]
  | k + 1, l => by simp [kidsF, kidsF_length g k]

theorem of_ok : ∀ (f : Nat) (l : List Pt), l.length < f → l.length ≤ 60 → (∀ p ∈ l, 0 ≤ p.args ∧ p.args ≤ 255) → ACalls Try.prog 49 [.ro 4 (encP l)] [] (fun r _ => r = .ret (.tup [.agg (ofF f l).1.enc, .int .i64 (ofF f l).2])) := by
  intro f
  induction f with
  | zero => intro l h; omega
  | succ f ih =>
  intro l hl h60 hb
  cases l with
  | nil =>
    refine ACalls.post (calls_tree 400 fn49 (by simp [Try.f49]) ?_); simp (maxSteps := 3000000) [Tr.map, Try.f49]
    simp [ofF, atomA]
    (try simp [Tm.enc]); (first | (refine .done ?_; simp [Tm.enc]; done) | (refine Tn.wkRet ?_; simp (maxDischargeDepth := 20)))
  | cons p l =>
    have hsub : ∀ i, 1 ≤ i → ACalls Try.prog 49 [.ro 4 (encP ((p :: l).drop i))] [] (fun r _ => r = .ret (.tup [.agg (ofF f ((p :: l).drop i)).1.enc, .int .i64 (ofF f ((p :: l).drop i)).2])) := fun i hi =>
      ih _ (by simp at hl ⊢; omega) (by simp at h60 ⊢; omega) (fun q hq => hb q (List.mem_of_mem_drop hq))
    clear ih
    have hp := hb p (by simp)
    have hm : p.args.tmod 8 = p.args % 8 := Int.tmod_eq_emod_of_nonneg hp.1
    simp at h60
    have hz : ¬ (l.length : Int) + 1 = 0 := by omega
    generalize hR : ofF (f + 1) (p :: l) = R
    refine ACalls.post (calls_tree 400 fn49 (by simp [Try.f49]) ?_); simp (maxSteps := 3000000) [Tr.map, Try.f49, hm, hz]
    refine AStk.pad ?_
    refine AStk.liveT [0, 2, 4, 5, 6, 7] (AStk.gc [0, 1, 2, 3] (by simp) (by simp) (by simp) ?_); simp [Tr.map]
    generalize hk : (p.args % 8).toNat = k
    have hk8 : p.args % 8 = k := by omega
    have hw : IntKind.i64.wrap (p.args % 8) = k := by rw [hk8]; exact wrap64 (by omega) (by omega)
    refine AStk.indE (fun d_ a_ h_ => ∃ (ds : List Tm) (at_ j : Nat), ((kidsF (ofF f) k l).1 = ds ++ (kidsF (ofF f) j (l.drop at_)).1 ∧ (kidsF (ofF f) k l).2 = at_ + (kidsF (ofF f) j (l.drop at_)).2 ∧ ds.length + j = k) ∧ d_ = j ∧ a_ = ⟨toL 50 (mkT [(0, .ro 4 (p.enc :: encP l)), (2, .ptr 0 0), (4, .ptr 1 0), (5, .ptr 2 0), (6, .int .i64 (at_ + 1)), (7, .int .i64 ds.length)] (.e .any)), []⟩ ∧ h_ = [.var [.int .i64 0, .int .i64 0, .str ⟨#[]⟩, .nils], .var [.int .i64 p.kind, .int .i64 p.n, .str p.s, .int .u8 p.args], .var [.int .i64 p.kind, .int .i64 p.n, .str p.s, accS 4 3 (encs ds)], accB 4 (encs ds)]) ?_ ?_
    · exact ⟨_, [], 0, k, ⟨by simp, by simp, by simp⟩, rfl, by simp [Tr.map], by simp⟩
    rintro d a h ⟨ds, at_, j, ⟨e1, e2, e3⟩, rfl, rfl, rfl⟩ IH
    have hle := kidsF_le (ofF_le f) k l
    cases d with
    | zero =>
      have hlt : ¬ (ds.length : Int) < k := by omega
      simp [kidsF] at e1 e2
      have hof : ofF (f + 1) (p :: l) = (⟨p.kind, p.n, p.s, ds⟩, at_ + 1) := by simp [ofF, hk, e1, e2]; omega
      rw [hof] at hR; subst hR
      refine stk_run 400 ?_; simp (maxSteps := 3000000) [Tr.map, hm, hw, hlt]
      rcases ds with _ | ⟨d0, ds⟩
      · simp
        (try simp [Tm.enc]); (first | (refine .done ?_; simp [Tm.enc]; done) | (refine Tn.wkRet ?_; simp (maxDischargeDepth := 20)))
      · simp
        refine .fz 3 rfl ?_; simp
        (try simp [Tm.enc]); (first | (refine .done ?_; simp [Tm.enc]; done) | (refine Tn.wkRet ?_; simp (maxDischargeDepth := 20)))
    | succ j =>
      have hlt : (ds.length : Int) < k := by omega
      have hjk : ((kidsF (ofF f) (j + 1) (l.drop at_))).2 = (ofF f (l.drop at_)).2 + (kidsF (ofF f) j ((l.drop at_).drop (ofF f (l.drop at_)).2)).2 := rfl
      have hsl : at_ ≤ l.length := by omega
      have hs0 : (0 : Int) ≤ (at_ : Int) + 1 := by omega
      have hn := ofF_le f (l.drop at_)
      have e1' : (kidsF (ofF f) k l).fst = ds ++ ((ofF f (l.drop at_)).1 :: (kidsF (ofF f) j ((l.drop at_).drop (ofF f (l.drop at_)).2)).1) := e1
      have hroom : (ds.length + 1) * 56 ≤ 140737488355328 := by omega
      have hc := hsub (at_ + 1) (by omega)
      simp at hc hn
      generalize hq : ofF f (l.drop at_) = q at *
      obtain ⟨t, n⟩ := q
      simp only at hc hn e1' hjk
      refine stk_run 400 ?_; simp (maxSteps := 3000000) [Tr.map, hm, hw, hlt, hsl, hs0]
      (have hc_ := hc); (try simp at hc_); refine ACalls.retW hc_ (by simp (maxDischargeDepth := 20)) (by simp (maxDischargeDepth := 12)) (by simp (maxDischargeDepth := 12)) ?_; clear hc_; (try simp (maxSteps := 3000000) [Tr.map, hroom])
      (try simp (disch := omega) only [wrap64])
      refine AStk.liveT [0, 2, 4, 5, 6, 7] (AStk.gc [0, 1, 2, 6] (by simp) (by simp) (by simp) ?_); simp [Tr.map]
      rw [hjk] at e2
      rw [List.drop_drop] at e1' e2
      exact IH _ _ _ (by simp) ⟨ds ++ [t], at_ + n, j, ⟨by simp [e1'], by omega, by simp; omega⟩, rfl, by simp [Tr.map, Int.add_assoc, Int.add_comm, Int.add_left_comm], by simp⟩


def mendF : Tm → Tm
  | ⟨k, n, s, a⟩ => if 20 < s.size then atomA else if k = 1 then ⟨1, max 0 n, ⟨#[]⟩, []⟩ else if k = 2 then ⟨2, n, ⟨#[]⟩, []⟩ else if k = 3 then ⟨3, 0, s, []⟩ else if k = 4 then
      if a = [] then atomA else ⟨4, 0, s, mends a⟩
    else atomA
where mends : List Tm → List Tm
  | [] => []
  | t :: l => mendF t :: mends l

theorem mendF_eq (t : Tm) : mendF t = if 20 < t.s.size then atomA else if t.kind = 1 then ⟨1, max 0 t.n, ⟨#[]⟩, []⟩ else if t.kind = 2 then ⟨2, t.n, ⟨#[]⟩, []⟩ else if t.kind = 3 then ⟨3, 0, t.s, []⟩ else if t.kind = 4 then
      if t.args = [] then atomA else ⟨4, 0, t.s, mendF.mends t.args⟩
    else atomA := by cases t; simp [mendF]
theorem mends_map (l : List Tm) : mendF.mends l = l.map mendF := by induction l <;> simp [mendF.mends, *]

theorem mend_ok (t : Tm) (hk : t.size ≤ 1000000) : ACalls Try.prog 50 [.agg t.enc] [] (fun r _ => r = .ret (.agg (mendF t).enc)) := by
  induction t using Tm.ind with | _ t ih
  have hmem : ∀ u ∈ t.args, ACalls Try.prog 50 [.agg u.enc] [] (fun r _ => r = .ret (.agg (mendF u).enc)) := fun u hu => ih u hu (by have := Tm.size_lt hu; omega)
  have hlen := t.length_lt
  clear ih
  have hm := mendF_eq t
  generalize hR : mendF t = R at *
  clear hR
  refine ACalls.post (calls_tree 400 fn50 (by simp [Try.f50]) ?_); simp (maxSteps := 3000000) [Tr.map, Try.f50]
  split
  · have h20 : 20 < t.s.size := by omega
    simp [h20] at hm; subst hm; (try simp [Tm.enc, atomA]); (first | (refine .done ?_; simp [Tm.enc, atomA]; done) | (refine Tn.wkRet ?_; simp (maxDischargeDepth := 20)))
  have h20 : ¬ 20 < t.s.size := by omega
  split
  · rename_i k1; simp [h20, k1] at hm; subst hm
    have hmx : (if 0 < t.n then t.n else 0) = max 0 t.n := by split <;> omega
    (try simp [Tm.enc, hmx]); (first | (refine .done ?_; simp [Tm.enc, hmx]; done) | (refine Tn.wkRet ?_; simp (maxDischargeDepth := 20)))
  split
  · rename_i k1 k2; simp [h20, k2] at hm; subst hm; (try simp [Tm.enc]); (first | (refine .done ?_; simp [Tm.enc]; done) | (refine Tn.wkRet ?_; simp (maxDischargeDepth := 20)))
  split
  · rename_i k1 k2 k3; simp [h20, k3] at hm; subst hm; (try simp [Tm.enc]); (first | (refine .done ?_; simp [Tm.enc]; done) | (refine Tn.wkRet ?_; simp (maxDischargeDepth := 20)))
  split
  · rename_i k1 k2 k3 k4; simp [h20, k4] at hm
    split
    · rename_i ha; simp [ha] at hm; subst hm; (try simp [Tm.enc, atomA]); (first | (refine .done ?_; simp [Tm.enc, atomA]; done) | (refine Tn.wkRet ?_; simp (maxDischargeDepth := 20)))
    rename_i ha
    simp [ha, mends_map] at hm
    generalize hargs : t.args = args at *
    refine AStk.pad ?_
    refine AStk.liveT [2, 4, 42, 43, 44] (AStk.gc [1, 3, 4] (by simp) (by simp) (by simp) ?_); simp [Tr.map]
    refine AStk.indE (fun d_ a_ h_ => ∃ (ds es : List Tm), (args = ds ++ es) ∧ d_ = es.length ∧ a_ = ⟨toL 58 (mkT [(2, .ptr 0 0), (4, .ptr 1 0), (42, .ro 4 (encs args)), (43, .int .i64 args.length), (44, .int .i64 ds.length)] (.e .any)), []⟩ ∧ h_ = [.var [.int .i64 0, .int .i64 0, .str ⟨#[]⟩, .nils], .var [.int .i64 4, .int .i64 0, .str t.s, accS 4 2 (encs (ds.map mendF))], accB 4 (encs (ds.map mendF))]) ?_ ?_
    · exact ⟨_, [], args, rfl, rfl, by simp [Tr.map], by simp⟩
    rintro d a h ⟨ds, es, hsp, rfl, rfl, rfl⟩ IH
    cases es with
    | nil =>
      simp at hsp; subst hsp
      refine stk_run 400 ?_; simp (maxSteps := 3000000) [Tr.map]
      subst hm
      rcases args with _ | ⟨a0, args⟩
      · exact absurd rfl ha
      · simp
        refine .fz 2 rfl ?_; simp
        (try simp [Tm.enc, List.take_of_length_le]); (first | (refine .done ?_; simp [Tm.enc, List.take_of_length_le]; done) | (refine Tn.wkRet ?_; simp (maxDischargeDepth := 20)))
    | cons u es =>
      obtain ⟨p1, p2, p3, p4, p5⟩ := mid_facts hsp
      have hroom : (ds.length + 1) * 56 ≤ 140737488355328 := by omega
      refine stk_run 400 ?_; simp (maxSteps := 3000000) [Tr.map, p2, p3, p4]
      refine stk_draw mixed (tabOf_ok _) (fnOf_ok _) 5 (by kernel_rfl) ?_; simp (maxSteps := 3000000) [Tr.map]
      (have hc_ := hmem u (by simp [hsp])); (try simp at hc_); refine QCall.introW hc_ (by simp (maxDischargeDepth := 20)) (by simp (maxDischargeDepth := 12)) (by simp (maxDischargeDepth := 12)) ?_; clear hc_; (try simp (maxSteps := 3000000) [Tr.map, hroom])
      refine stk_run 400 ?_; simp (maxSteps := 3000000) [Tr.map, hroom]
      (try simp (disch := omega) only [wrap64])
      refine AStk.liveT [2, 4, 42, 43, 44] (AStk.gc [0, 1, 4] (by simp) (by simp) (by simp) ?_); simp [Tr.map]
      exact IH _ _ _ (by simp) ⟨ds ++ [u], es, by simp [hsp], rfl, by simp [Tr.map, Int.add_assoc, Int.add_comm, Int.add_left_comm], by simp⟩
  · rename_i k1 k2 k3 k4; simp [h20, k1, k2, k3, k4] at hm; subst hm; (try simp [Tm.enc, atomA]); (first | (refine .done ?_; simp [Tm.enc, atomA]; done) | (refine Tn.wkRet ?_; simp (maxDischargeDepth := 20)))

def goodT (l : List Pt) : Tm := mendF (ofF (l.length + 1) l).1

theorem good_ok (l : List Pt) (h60 : l.length ≤ 60) (hb : ∀ p ∈ l, 0 ≤ p.args ∧ p.args ≤ 255) : ACalls Try.prog 17 [.ro 4 (encP l)] [] (fun r _ => r = .ret (.agg (goodT l).enc)) := by
  have h1 := of_ok (l.length + 1) l (by omega) h60 hb
  have h2 := ofF_size (l.length + 1) l
  have h3 := ofF_le (l.length + 1) l
  generalize hR : goodT l = R
  unfold goodT at hR
  generalize ofF (l.length + 1) l = q at *
  obtain ⟨t, n⟩ := q
  simp only at h1 h2 h3 hR
  refine ACalls.post (calls_tree 400 fn17 (by simp [Try.f17]) ?_); simp (maxSteps := 3000000) [Tr.map, Try.f17]
  (have hc_ := h1); (try simp at hc_); refine ACalls.retW hc_ (by simp (maxDischargeDepth := 20)) (by simp (maxDischargeDepth := 12)) (by simp (maxDischargeDepth := 12)) ?_; clear hc_; (try simp (maxSteps := 3000000) [Tr.map])
  (have hc_ := mend_ok t (by omega)); (try simp at hc_); refine ACalls.retW hc_ (by simp (maxDischargeDepth := 20)) (by simp (maxDischargeDepth := 12)) (by simp (maxDischargeDepth := 12)) ?_; clear hc_; (try simp (maxSteps := 3000000) [Tr.map])
  subst hR
  (try simp [Tm.enc]); (first | (refine .done ?_; simp [Tm.enc]; done) | (refine Tn.wkRet ?_; simp (maxDischargeDepth := 20)))

/-- The same in plain words. -/
inductive Fine : Tm → Prop
  | var (n : Int) (h : 0 ≤ n) : Fine ⟨1, n, ⟨#[]⟩, []⟩
  | int (n : Int) : Fine ⟨2, n, ⟨#[]⟩, []⟩
  | atom (s : ByteArray) (h : s.size ≤ 20) : Fine ⟨3, 0, s, []⟩
  | comp (s : ByteArray) (h : s.size ≤ 20) (l : List Tm) (hl : l ≠ []) (hs : ∀ t ∈ l, Fine t) : Fine ⟨4, 0, s, l⟩

theorem mendF_fine (t : Tm) : Fine (mendF t) := by
  induction t using Tm.ind with | _ t ih
  have ha : Fine atomA := .atom _ (by decide)
  rw [mendF_eq]
  split
  · exact ha
  split
  · exact .var _ (by omega)
  split
  · exact .int _
  split
  · exact .atom _ (by omega)
  split
  · split
    · exact ha
    · rename_i hne
      refine .comp _ (by omega) _ (by simpa [mends_map] using hne) fun u hu => ?_
      rw [mends_map, List.mem_map] at hu
      obtain ⟨v, hv, rfl⟩ := hu
      exact ih v hv
  · exact ha

theorem mendF_size (t : Tm) : (mendF t).size ≤ t.size := by
  induction t using Tm.ind with | _ t ih
  have ha : atomA.size = 1 := by simp [atomA, Tm.size_eq]
  have hp := t.size_pos
  have hl : ∀ l : List Tm, (∀ u ∈ l, (mendF u).size ≤ u.size) → sizes (l.map mendF) ≤ sizes l := by
    intro l hl
    induction l with
    | nil => simp
    | cons u l ihl => have := hl u (by simp); have := ihl (fun v hv => hl v (by simp [hv])); simp; omega
  rw [mendF_eq]
  (repeat' split) <;> (try simp [Tm.size_eq, ha]) <;> (try (simp [atomA]; done)) <;> (try omega)
  · rw [mends_map]; exact hl t.args ih

theorem goodT_size (l : List Pt) (h60 : l.length ≤ 60) : (goodT l).size ≤ 421 := by
  have h2 := ofF_size (l.length + 1) l
  have h3 := ofF_le (l.length + 1) l
  have := mendF_size (ofF (l.length + 1) l).1
  unfold goodT; omega

theorem goodT_fine (l : List Pt) : Fine (goodT l) := mendF_fine _

end Go.Proofs.Yteebkkipeiggcaa


/- Contracts: package fault, and the references' terms of errors. -/
namespace Go.Proofs.Yteebkkipeiggcaa
open Go Go.Vm

set_option maxRecDepth 20000
set_option maxHeartbeats 300000

@[simp] def atomT (s : ByteArray) : Tm := ⟨3, 0, s, []⟩
@[simp] def intT (n : Int) : Tm := ⟨2, n, ⟨#[]⟩, []⟩
@[simp] def compT (s : ByteArray) (l : List Tm) : Tm := ⟨4, 0, s, l⟩
@[simp] def indT (s : ByteArray) (n : Int) : Tm := compT ⟨#[47]⟩ [atomT s, intT n]

theorem fault_atom_ok (s : ByteArray) : ACalls Try.prog 55 [.str s] [] (fun r _ => r = .ret (.agg (atomT s).enc)) := by
  refine ACalls.post (calls_tree 400 fn55 (by simp [Try.f55]) ?_); simp (maxSteps := 3000000) [Tr.map, Try.f55]
  (try simp [Tm.enc]); (first | (refine .done ?_; simp [Tm.enc]; done) | (refine Tn.wkRet ?_; simp (maxDischargeDepth := 20)))

theorem ref13_A_ok (s : ByteArray) : ACalls Try.prog 58 [.str s] [] (fun r _ => r = .ret (.agg (atomT s).enc)) := by
  refine ACalls.post (calls_tree 400 fn58 (by simp [Try.f58]) ?_); simp (maxSteps := 3000000) [Tr.map, Try.f58]
  (try simp [Tm.enc]); (first | (refine .done ?_; simp [Tm.enc]; done) | (refine Tn.wkRet ?_; simp (maxDischargeDepth := 20)))

theorem ref13_F_ok (s : ByteArray) (l : List Tm) : ACalls Try.prog 59 [.str s, .ro 4 (encs l)] [] (fun r _ => r = .ret (.agg (compT s l).enc)) := by
  refine ACalls.post (calls_tree 400 fn59 (by simp [Try.f59]) ?_); simp (maxSteps := 3000000) [Tr.map, Try.f59]
  (try simp [Tm.enc]); (first | (refine .done ?_; simp [Tm.enc]; done) | (refine Tn.wkRet ?_; simp (maxDischargeDepth := 20)))

theorem ref12_ind_ok (s : ByteArray) (n : Int) : ACalls Try.prog 28 [.str s, .int .i64 n] [] (fun r _ => r = .ret (.agg (indT s n).enc)) := by
  refine ACalls.post (calls_tree 400 fn28 (by simp [Try.f28]) ?_); simp (maxSteps := 3000000) [Tr.map, Try.f28]
  refine .fz 1 rfl ?_; simp
  (try simp [Tm.enc]); (first | (refine .done ?_; simp [Tm.enc]; done) | (refine Tn.wkRet ?_; simp (maxDischargeDepth := 20)))

theorem clone_ok (l : List Tm) (hne : l ≠ []) (hl : l.length ≤ 1000000) : ACalls Try.prog 102 [.ro 4 (encs l)] [] (fun r _ => r = .ret (.ro 4 (encs l))) := by
  obtain ⟨t, l, rfl⟩ := List.exists_cons_of_ne_nil hne
  simp at hl
  refine ACalls.post (calls_tree 400 fn102 (by simp [Try.f102]) ?_); simp (maxSteps := 3000000) [Tr.map, Try.f102]
  exact ⟨by omega, by refine .fz 1 rfl ?_; simp; (try simp [Tm.enc, List.take_of_length_le]); (first | (refine .done ?_; simp [Tm.enc, List.take_of_length_le]; done) | (refine Tn.wkRet ?_; simp (maxDischargeDepth := 20)))⟩

theorem fault_comp_ok (s : ByteArray) (l : List Tm) (hne : l ≠ []) (hl : l.length ≤ 1000000) : ACalls Try.prog 57 [.str s, .ro 4 (encs l)] [] (fun r _ => r = .ret (.agg (compT s l).enc)) := by
  refine ACalls.post (calls_tree 400 fn57 (by simp [Try.f57]) ?_); simp (maxSteps := 3000000) [Tr.map, Try.f57]
  (have hc_ := clone_ok l hne hl); (try simp at hc_); refine ACalls.retW hc_ (by simp (maxDischargeDepth := 20)) (by simp (maxDischargeDepth := 12)) (by simp (maxDischargeDepth := 12)) ?_; clear hc_; (try simp (maxSteps := 3000000) [Tr.map])
  (try simp [Tm.enc]); (first | (refine .done ?_; simp [Tm.enc]; done) | (refine Tn.wkRet ?_; simp (maxDischargeDepth := 20)))

theorem fault_ind_ok (s : ByteArray) (n : Int) : ACalls Try.prog 27 [.str s, .int .i64 n] [] (fun r _ => r = .ret (.agg (indT s n).enc)) := by
  refine ACalls.post (calls_tree 400 fn27 (by simp [Try.f27]) ?_); simp (maxSteps := 3000000) [Tr.map, Try.f27]
  (have hc_ := fault_atom_ok s); (try simp at hc_); refine ACalls.retW hc_ (by simp (maxDischargeDepth := 20)) (by simp (maxDischargeDepth := 12)) (by simp (maxDischargeDepth := 12)) ?_; clear hc_; (try simp (maxSteps := 3000000) [Tr.map])
  refine ACalls.freeze 1 rfl ?_; simp
  (have hc_ := fault_comp_ok ⟨#[47]⟩ [atomT s, intT n] (by simp) (by simp)); (try simp at hc_); refine ACalls.retW hc_ (by simp (maxDischargeDepth := 20)) (by simp (maxDischargeDepth := 12)) (by simp (maxDischargeDepth := 12)) ?_; clear hc_; (try simp (maxSteps := 3000000) [Tr.map])
  (try simp [Tm.enc]); (first | (refine .done ?_; simp [Tm.enc]; done) | (refine Tn.wkRet ?_; simp (maxDischargeDepth := 20)))

theorem own_ok (t : Tm) (hk : t.size ≤ 1000000) : ACalls Try.prog 56 [.agg t.enc] [] (fun r _ => r = .ret (.agg t.enc)) := by
  induction t using Tm.ind with | _ t ih
  have hmem : ∀ u ∈ t.args, ACalls Try.prog 56 [.agg u.enc] [] (fun r _ => r = .ret (.agg u.enc)) := fun u hu => ih u hu (by have := Tm.size_lt hu; omega)
  have hlen := t.length_lt
  clear ih
  generalize hargs : t.args = args at *
  refine ACalls.post (calls_tree 400 fn56 (by simp [Try.f56]) ?_); simp (maxSteps := 3000000) [Tr.map, Try.f56, hargs]
  refine AStk.pad ?_
  refine AStk.liveT [1, 2, 9, 10, 11] (AStk.gc [0, 1, 2] (by simp) (by simp) (by simp) ?_); simp [Tr.map]
  refine AStk.indE (fun d_ a_ h_ => ∃ (ds es : List Tm), (args = ds ++ es) ∧ d_ = es.length ∧ a_ = ⟨toL 24 (mkT [(1, .ptr 0 0), (2, .ptr 1 0), (9, .ro 4 (encs args)), (10, .int .i64 args.length), (11, .int .i64 ds.length)] (.e .any)), []⟩ ∧ h_ = [.var [.int .i64 t.kind, .int .i64 t.n, .str t.s, accS 4 2 (encs ds)], .var [.int .i64 0, .int .i64 0, .str ⟨#[]⟩, .nils], accB 4 (encs ds)]) ?_ ?_
  · exact ⟨_, [], args, rfl, rfl, by simp [Tr.map], by simp⟩
  rintro d a h ⟨ds, es, hsp, rfl, rfl, rfl⟩ IH
  cases es with
  | nil =>
    simp at hsp; subst hsp
    refine stk_run 400 ?_; simp (maxSteps := 3000000) [Tr.map]
    rcases args with _ | ⟨a0, args⟩
    · (try simp [Tm.enc, hargs]); (first | (refine .done ?_; simp [Tm.enc, hargs]; done) | (refine Tn.wkRet ?_; simp (maxDischargeDepth := 20)))
    · simp
      refine .fz 2 rfl ?_; simp
      (try simp [Tm.enc, hargs, List.take_of_length_le]); (first | (refine .done ?_; simp [Tm.enc, hargs, List.take_of_length_le]; done) | (refine Tn.wkRet ?_; simp (maxDischargeDepth := 20)))
  | cons u es =>
    obtain ⟨p1, p2, p3, p4, p5⟩ := mid_facts hsp
    have hroom : (ds.length + 1) * 56 ≤ 140737488355328 := by omega
    refine stk_run 400 ?_; simp (maxSteps := 3000000) [Tr.map, p2, p3, p4]
    refine stk_draw mixed (tabOf_ok _) (fnOf_ok _) 5 (by kernel_rfl) ?_; simp (maxSteps := 3000000) [Tr.map]
    (have hc_ := hmem u (by simp [hsp])); (try simp at hc_); refine QCall.introW hc_ (by simp (maxDischargeDepth := 20)) (by simp (maxDischargeDepth := 12)) (by simp (maxDischargeDepth := 12)) ?_; clear hc_; (try simp (maxSteps := 3000000) [Tr.map])
    refine stk_run 400 ?_; simp (maxSteps := 3000000) [Tr.map, hroom]
    (try simp (disch := omega) only [wrap64])
    refine AStk.liveT [1, 2, 9, 10, 11] (AStk.gc [0, 1, 4] (by simp) (by simp) (by simp) ?_); simp [Tr.map]
    exact IH _ _ _ (by simp) ⟨ds ++ [u], es, by simp [hsp], rfl, by simp [Tr.map, Int.add_assoc, Int.add_comm, Int.add_left_comm], by simp⟩

def wordsA : List (AV × AV × Nat) := [(.int .i64 12, .agg [.str ⟨#[105, 110, 115, 116, 97, 110, 116, 105, 97, 116, 105, 111, 110, 95, 101, 114, 114, 111, 114]⟩, .int .i64 0, .str ⟨#[]⟩], 0), (.int .i64 13, .agg [.str ⟨#[116, 121, 112, 101, 95, 101, 114, 114, 111, 114]⟩, .int .i64 2, .str ⟨#[]⟩], 1), (.int .i64 14, .agg [.str ⟨#[100, 111, 109, 97, 105, 110, 95, 101, 114, 114, 111, 114]⟩, .int .i64 2, .str ⟨#[]⟩], 2), (.int .i64 8, .agg [.str ⟨#[101, 120, 105, 115, 116, 101, 110, 99, 101, 95, 101, 114, 114, 111, 114]⟩, .int .i64 2, .str ⟨#[]⟩], 3), (.int .i64 3, .agg [.str ⟨#[114, 101, 112, 114, 101, 115, 101, 110, 116, 97, 116, 105, 111, 110, 95, 101, 114, 114, 111, 114]⟩, .int .i64 1, .str ⟨#[]⟩], 4), (.int .i64 11, .agg [.str ⟨#[101, 118, 97, 108, 117, 97, 116, 105, 111, 110, 95, 101, 114, 114, 111, 114]⟩, .int .i64 1, .str ⟨#[105, 110, 116, 95, 111, 118, 101, 114, 102, 108, 111, 119]⟩], 5), (.int .i64 10, .agg [.str ⟨#[101, 118, 97, 108, 117, 97, 116, 105, 111, 110, 95, 101, 114, 114, 111, 114]⟩, .int .i64 1, .str ⟨#[122, 101, 114, 111, 95, 100, 105, 118, 105, 115, 111, 114]⟩], 6)]

theorem fault_all_ok : ACalls Try.prog 54 [] [] (fun r h => r = .ret (.map 0) ∧ h = [.map wordsA 7]) := by
  refine calls_tree 400 fn54 (by simp) ?_
  simp (maxSteps := 3000000) [Tr.map, Try.f54, wordsA]

def formalT (e : Int) (what : ByteArray) (t : Tm) : Tm :=
  if e = 12 then atomT ⟨#[105, 110, 115, 116, 97, 110, 116, 105, 97, 116, 105, 111, 110, 95, 101, 114, 114, 111, 114]⟩ else if e = 13 then compT ⟨#[116, 121, 112, 101, 95, 101, 114, 114, 111, 114]⟩ [atomT what, t] else if e = 14 then compT ⟨#[100, 111, 109, 97, 105, 110, 95, 101, 114, 114, 111, 114]⟩ [atomT what, t] else if e = 8 then compT ⟨#[101, 120, 105, 115, 116, 101, 110, 99, 101, 95, 101, 114, 114, 111, 114]⟩ [atomT what, t]
  else if e = 3 then compT ⟨#[114, 101, 112, 114, 101, 115, 101, 110, 116, 97, 116, 105, 111, 110, 95, 101, 114, 114, 111, 114]⟩ [atomT what] else if e = 11 then compT ⟨#[101, 118, 97, 108, 117, 97, 116, 105, 111, 110, 95, 101, 114, 114, 111, 114]⟩ [atomT ⟨#[105, 110, 116, 95, 111, 118, 101, 114, 102, 108, 111, 119]⟩] else if e = 10 then compT ⟨#[101, 118, 97, 108, 117, 97, 116, 105, 111, 110, 95, 101, 114, 114, 111, 114]⟩ [atomT ⟨#[122, 101, 114, 111, 95, 100, 105, 118, 105, 115, 111, 114]⟩] else atomT ⟨#[115, 121, 115, 116, 101, 109, 95, 101, 114, 114, 111, 114]⟩

theorem formal_ok (e : Int) (what : ByteArray) (t : Tm) (hk : t.size ≤ 1000000) : ACalls Try.prog 18 [.int .i64 e, .str what, .agg t.enc] [] (fun r _ => r = .ret (.agg (formalT e what t).enc)) := by
  have own := own_ok t hk
  refine ACalls.post (calls_tree 400 fn18 (by simp [Try.f18]) ?_); simp (maxSteps := 3000000) [Tr.map, Try.f18]
  refine ACalls.at [] fault_all_ok rfl rfl (by simp) (by simp) ?_
  rintro r h1 ⟨rfl, rfl⟩
  refine ⟨by simp, ?_⟩
  simp [wordsA]
  by_cases h13 : e = 13
  · subst h13
    simp (maxSteps := 3000000) [Tr.map]
    refine stk_draw mixed (tabOf_ok _) (fnOf_ok _) 7 (by kernel_rfl) ?_; simp (maxSteps := 3000000) [Tr.map]
    (have hc_ := fault_atom_ok what); (try simp at hc_); refine QCall.introW hc_ (by simp (maxDischargeDepth := 20)) (by simp (maxDischargeDepth := 12)) (by simp (maxDischargeDepth := 12)) ?_; clear hc_; (try simp (maxSteps := 3000000) [Tr.map])
    (have hc_ := own); (try simp at hc_); refine QCall.introW hc_ (by simp (maxDischargeDepth := 20)) (by simp (maxDischargeDepth := 12)) (by simp (maxDischargeDepth := 12)) ?_; clear hc_; (try simp (maxSteps := 3000000) [Tr.map])
    refine stk_run 400 ?_; simp (maxSteps := 3000000) [Tr.map]
    (have hc_ := fault_comp_ok ⟨#[116, 121, 112, 101, 95, 101, 114, 114, 111, 114]⟩ [atomT what, t] (by simp) (by simp)); (try simp at hc_); refine ACalls.retW hc_ (by simp (maxDischargeDepth := 20)) (by simp (maxDischargeDepth := 12)) (by simp (maxDischargeDepth := 12)) ?_; clear hc_; (try simp (maxSteps := 3000000) [Tr.map])
    (try simp [Tm.enc, formalT]); (first | (refine .done ?_; simp [Tm.enc, formalT]; done) | (refine Tn.wkRet ?_; simp (maxDischargeDepth := 20)))
  by_cases h14 : e = 14
  · subst h14
    simp (maxSteps := 3000000) [Tr.map]
    refine stk_draw mixed (tabOf_ok _) (fnOf_ok _) 7 (by kernel_rfl) ?_; simp (maxSteps := 3000000) [Tr.map]
    (have hc_ := fault_atom_ok what); (try simp at hc_); refine QCall.introW hc_ (by simp (maxDischargeDepth := 20)) (by simp (maxDischargeDepth := 12)) (by simp (maxDischargeDepth := 12)) ?_; clear hc_; (try simp (maxSteps := 3000000) [Tr.map])
    (have hc_ := own); (try simp at hc_); refine QCall.introW hc_ (by simp (maxDischargeDepth := 20)) (by simp (maxDischargeDepth := 12)) (by simp (maxDischargeDepth := 12)) ?_; clear hc_; (try simp (maxSteps := 3000000) [Tr.map])
    refine stk_run 400 ?_; simp (maxSteps := 3000000) [Tr.map]
    (have hc_ := fault_comp_ok ⟨#[100, 111, 109, 97, 105, 110, 95, 101, 114, 114, 111, 114]⟩ [atomT what, t] (by simp) (by simp)); (try simp at hc_); refine ACalls.retW hc_ (by simp (maxDischargeDepth := 20)) (by simp (maxDischargeDepth := 12)) (by simp (maxDischargeDepth := 12)) ?_; clear hc_; (try simp (maxSteps := 3000000) [Tr.map])
    (try simp [Tm.enc, formalT]); (first | (refine .done ?_; simp [Tm.enc, formalT]; done) | (refine Tn.wkRet ?_; simp (maxDischargeDepth := 20)))
  by_cases h8 : e = 8
  · subst h8
    simp (maxSteps := 3000000) [Tr.map]
    refine stk_draw mixed (tabOf_ok _) (fnOf_ok _) 7 (by kernel_rfl) ?_; simp (maxSteps := 3000000) [Tr.map]
    (have hc_ := fault_atom_ok what); (try simp at hc_); refine QCall.introW hc_ (by simp (maxDischargeDepth := 20)) (by simp (maxDischargeDepth := 12)) (by simp (maxDischargeDepth := 12)) ?_; clear hc_; (try simp (maxSteps := 3000000) [Tr.map])
    (have hc_ := own); (try simp at hc_); refine QCall.introW hc_ (by simp (maxDischargeDepth := 20)) (by simp (maxDischargeDepth := 12)) (by simp (maxDischargeDepth := 12)) ?_; clear hc_; (try simp (maxSteps := 3000000) [Tr.map])
    refine stk_run 400 ?_; simp (maxSteps := 3000000) [Tr.map]
    (have hc_ := fault_comp_ok ⟨#[101, 120, 105, 115, 116, 101, 110, 99, 101, 95, 101, 114, 114, 111, 114]⟩ [atomT what, t] (by simp) (by simp)); (try simp at hc_); refine ACalls.retW hc_ (by simp (maxDischargeDepth := 20)) (by simp (maxDischargeDepth := 12)) (by simp (maxDischargeDepth := 12)) ?_; clear hc_; (try simp (maxSteps := 3000000) [Tr.map])
    (try simp [Tm.enc, formalT]); (first | (refine .done ?_; simp [Tm.enc, formalT]; done) | (refine Tn.wkRet ?_; simp (maxDischargeDepth := 20)))
  by_cases h12 : e = 12
  · subst h12
    simp (maxSteps := 3000000) [Tr.map]
    refine stk_draw mixed (tabOf_ok _) (fnOf_ok _) 7 (by kernel_rfl) ?_; simp (maxSteps := 3000000) [Tr.map]
    (have hc_ := fault_atom_ok what); (try simp at hc_); refine QCall.introW hc_ (by simp (maxDischargeDepth := 20)) (by simp (maxDischargeDepth := 12)) (by simp (maxDischargeDepth := 12)) ?_; clear hc_; (try simp (maxSteps := 3000000) [Tr.map])
    (have hc_ := own); (try simp at hc_); refine QCall.introW hc_ (by simp (maxDischargeDepth := 20)) (by simp (maxDischargeDepth := 12)) (by simp (maxDischargeDepth := 12)) ?_; clear hc_; (try simp (maxSteps := 3000000) [Tr.map])
    refine stk_run 400 ?_; simp (maxSteps := 3000000) [Tr.map]
    refine ACalls.retW (fault_atom_ok _) (WkL.refl _) (by simp (maxDischargeDepth := 12)) (by simp (maxDischargeDepth := 12)) ?_; (try simp (maxSteps := 3000000) [Tr.map])
    (try simp [Tm.enc, formalT]); (first | (refine .done ?_; simp [Tm.enc, formalT]; done) | (refine Tn.wkRet ?_; simp (maxDischargeDepth := 20)))
  by_cases h3 : e = 3
  · subst h3
    simp (maxSteps := 3000000) [Tr.map]
    refine stk_draw mixed (tabOf_ok _) (fnOf_ok _) 7 (by kernel_rfl) ?_; simp (maxSteps := 3000000) [Tr.map]
    (have hc_ := fault_atom_ok what); (try simp at hc_); refine QCall.introW hc_ (by simp (maxDischargeDepth := 20)) (by simp (maxDischargeDepth := 12)) (by simp (maxDischargeDepth := 12)) ?_; clear hc_; (try simp (maxSteps := 3000000) [Tr.map])
    (have hc_ := own); (try simp at hc_); refine QCall.introW hc_ (by simp (maxDischargeDepth := 20)) (by simp (maxDischargeDepth := 12)) (by simp (maxDischargeDepth := 12)) ?_; clear hc_; (try simp (maxSteps := 3000000) [Tr.map])
    refine stk_run 400 ?_; simp (maxSteps := 3000000) [Tr.map]
    (have hc_ := fault_comp_ok ⟨#[114, 101, 112, 114, 101, 115, 101, 110, 116, 97, 116, 105, 111, 110, 95, 101, 114, 114, 111, 114]⟩ [atomT what] (by simp) (by simp)); (try simp at hc_); refine ACalls.retW hc_ (by simp (maxDischargeDepth := 20)) (by simp (maxDischargeDepth := 12)) (by simp (maxDischargeDepth := 12)) ?_; clear hc_; (try simp (maxSteps := 3000000) [Tr.map])
    (try simp [Tm.enc, formalT]); (first | (refine .done ?_; simp [Tm.enc, formalT]; done) | (refine Tn.wkRet ?_; simp (maxDischargeDepth := 20)))
  by_cases h11 : e = 11
  · subst h11
    simp (maxSteps := 3000000) [Tr.map]
    refine stk_draw mixed (tabOf_ok _) (fnOf_ok _) 7 (by kernel_rfl) ?_; simp (maxSteps := 3000000) [Tr.map]
    (have hc_ := fault_atom_ok ⟨#[105, 110, 116, 95, 111, 118, 101, 114, 102, 108, 111, 119]⟩); (try simp at hc_); refine QCall.introW hc_ (by simp (maxDischargeDepth := 20)) (by simp (maxDischargeDepth := 12)) (by simp (maxDischargeDepth := 12)) ?_; clear hc_; (try simp (maxSteps := 3000000) [Tr.map])
    (have hc_ := own); (try simp at hc_); refine QCall.introW hc_ (by simp (maxDischargeDepth := 20)) (by simp (maxDischargeDepth := 12)) (by simp (maxDischargeDepth := 12)) ?_; clear hc_; (try simp (maxSteps := 3000000) [Tr.map])
    refine stk_run 400 ?_; simp (maxSteps := 3000000) [Tr.map]
    (have hc_ := fault_comp_ok ⟨#[101, 118, 97, 108, 117, 97, 116, 105, 111, 110, 95, 101, 114, 114, 111, 114]⟩ [atomT ⟨#[105, 110, 116, 95, 111, 118, 101, 114, 102, 108, 111, 119]⟩] (by simp) (by simp)); (try simp at hc_); refine ACalls.retW hc_ (by simp (maxDischargeDepth := 20)) (by simp (maxDischargeDepth := 12)) (by simp (maxDischargeDepth := 12)) ?_; clear hc_; (try simp (maxSteps := 3000000) [Tr.map])
    (try simp [Tm.enc, formalT]); (first | (refine .done ?_; simp [Tm.enc, formalT]; done) | (refine Tn.wkRet ?_; simp (maxDischargeDepth := 20)))
  by_cases h10 : e = 10
  · subst h10
    simp (maxSteps := 3000000) [Tr.map]
    refine stk_draw mixed (tabOf_ok _) (fnOf_ok _) 7 (by kernel_rfl) ?_; simp (maxSteps := 3000000) [Tr.map]
    (have hc_ := fault_atom_ok ⟨#[122, 101, 114, 111, 95, 100, 105, 118, 105, 115, 111, 114]⟩); (try simp at hc_); refine QCall.introW hc_ (by simp (maxDischargeDepth := 20)) (by simp (maxDischargeDepth := 12)) (by simp (maxDischargeDepth := 12)) ?_; clear hc_; (try simp (maxSteps := 3000000) [Tr.map])
    (have hc_ := own); (try simp at hc_); refine QCall.introW hc_ (by simp (maxDischargeDepth := 20)) (by simp (maxDischargeDepth := 12)) (by simp (maxDischargeDepth := 12)) ?_; clear hc_; (try simp (maxSteps := 3000000) [Tr.map])
    refine stk_run 400 ?_; simp (maxSteps := 3000000) [Tr.map]
    (have hc_ := fault_comp_ok ⟨#[101, 118, 97, 108, 117, 97, 116, 105, 111, 110, 95, 101, 114, 114, 111, 114]⟩ [atomT ⟨#[122, 101, 114, 111, 95, 100, 105, 118, 105, 115, 111, 114]⟩] (by simp) (by simp)); (try simp at hc_); refine ACalls.retW hc_ (by simp (maxDischargeDepth := 20)) (by simp (maxDischargeDepth := 12)) (by simp (maxDischargeDepth := 12)) ?_; clear hc_; (try simp (maxSteps := 3000000) [Tr.map])
    (try simp [Tm.enc, formalT]); (first | (refine .done ?_; simp [Tm.enc, formalT]; done) | (refine Tn.wkRet ?_; simp (maxDischargeDepth := 20)))
  have g12 := Ne.symm h12; have g13 := Ne.symm h13; have g14 := Ne.symm h14; have g8 := Ne.symm h8; have g3 := Ne.symm h3; have g11 := Ne.symm h11; have g10 := Ne.symm h10
  simp (maxSteps := 3000000) [Tr.map, h12, h13, h14, h8, h3, h11, h10, g12, g13, g14, g8, g3, g11, g10]
  refine ACalls.retW (fault_atom_ok _) (WkL.refl _) (by simp (maxDischargeDepth := 12)) (by simp (maxDischargeDepth := 12)) ?_; (try simp (maxSteps := 3000000) [Tr.map])
  (try simp [Tm.enc, formalT, h12, h13, h14, h8, h3, h11, h10]); (first | (refine .done ?_; simp [Tm.enc, formalT, h12, h13, h14, h8, h3, h11, h10]; done) | (refine Tn.wkRet ?_; simp (maxDischargeDepth := 20)))

theorem formalT_size (e : Int) (what : ByteArray) (t : Tm) : (formalT e what t).size ≤ t.size + 2 := by
  have := t.size_pos
  unfold formalT
  (repeat' split) <;> simp [Tm.size_eq] <;> omega

theorem ref13_formal_ok (e : Int) (what : ByteArray) (t : Tm) : ACalls Try.prog 19 [.int .i64 e, .str what, .agg t.enc] [] (fun r _ => r = .ret (.agg (formalT e what t).enc)) := by
  by_cases h13 : e = 13
  · subst h13
    refine ACalls.post (calls_tree 400 fn19 (by simp [Try.f19]) ?_); simp (maxSteps := 3000000) [Tr.map, Try.f19]
    refine stk_draw mixed (tabOf_ok _) (fnOf_ok _) 3 (by kernel_rfl) ?_; simp (maxSteps := 3000000) [Tr.map]
    (have hc_ := ref13_A_ok what); (try simp at hc_); refine QCall.introW hc_ (by simp (maxDischargeDepth := 20)) (by simp (maxDischargeDepth := 12)) (by simp (maxDischargeDepth := 12)) ?_; clear hc_; (try simp (maxSteps := 3000000) [Tr.map])
    refine stk_run 400 ?_; simp (maxSteps := 3000000) [Tr.map]
    refine ACalls.freeze 2 rfl ?_; simp
    (have hc_ := ref13_F_ok ⟨#[116, 121, 112, 101, 95, 101, 114, 114, 111, 114]⟩ [atomT what, t]); (try simp at hc_); refine ACalls.retW hc_ (by simp (maxDischargeDepth := 20)) (by simp (maxDischargeDepth := 12)) (by simp (maxDischargeDepth := 12)) ?_; clear hc_; (try simp (maxSteps := 3000000) [Tr.map])
    (try simp [Tm.enc, formalT]); (first | (refine .done ?_; simp [Tm.enc, formalT]; done) | (refine Tn.wkRet ?_; simp (maxDischargeDepth := 20)))
  by_cases h14 : e = 14
  · subst h14
    refine ACalls.post (calls_tree 400 fn19 (by simp [Try.f19]) ?_); simp (maxSteps := 3000000) [Tr.map, Try.f19]
    refine stk_draw mixed (tabOf_ok _) (fnOf_ok _) 3 (by kernel_rfl) ?_; simp (maxSteps := 3000000) [Tr.map]
    (have hc_ := ref13_A_ok what); (try simp at hc_); refine QCall.introW hc_ (by simp (maxDischargeDepth := 20)) (by simp (maxDischargeDepth := 12)) (by simp (maxDischargeDepth := 12)) ?_; clear hc_; (try simp (maxSteps := 3000000) [Tr.map])
    refine stk_run 400 ?_; simp (maxSteps := 3000000) [Tr.map]
    refine ACalls.freeze 2 rfl ?_; simp
    (have hc_ := ref13_F_ok ⟨#[100, 111, 109, 97, 105, 110, 95, 101, 114, 114, 111, 114]⟩ [atomT what, t]); (try simp at hc_); refine ACalls.retW hc_ (by simp (maxDischargeDepth := 20)) (by simp (maxDischargeDepth := 12)) (by simp (maxDischargeDepth := 12)) ?_; clear hc_; (try simp (maxSteps := 3000000) [Tr.map])
    (try simp [Tm.enc, formalT]); (first | (refine .done ?_; simp [Tm.enc, formalT]; done) | (refine Tn.wkRet ?_; simp (maxDischargeDepth := 20)))
  by_cases h8 : e = 8
  · subst h8
    refine ACalls.post (calls_tree 400 fn19 (by simp [Try.f19]) ?_); simp (maxSteps := 3000000) [Tr.map, Try.f19]
    refine stk_draw mixed (tabOf_ok _) (fnOf_ok _) 3 (by kernel_rfl) ?_; simp (maxSteps := 3000000) [Tr.map]
    (have hc_ := ref13_A_ok what); (try simp at hc_); refine QCall.introW hc_ (by simp (maxDischargeDepth := 20)) (by simp (maxDischargeDepth := 12)) (by simp (maxDischargeDepth := 12)) ?_; clear hc_; (try simp (maxSteps := 3000000) [Tr.map])
    refine stk_run 400 ?_; simp (maxSteps := 3000000) [Tr.map]
    refine ACalls.freeze 2 rfl ?_; simp
    (have hc_ := ref13_F_ok ⟨#[101, 120, 105, 115, 116, 101, 110, 99, 101, 95, 101, 114, 114, 111, 114]⟩ [atomT what, t]); (try simp at hc_); refine ACalls.retW hc_ (by simp (maxDischargeDepth := 20)) (by simp (maxDischargeDepth := 12)) (by simp (maxDischargeDepth := 12)) ?_; clear hc_; (try simp (maxSteps := 3000000) [Tr.map])
    (try simp [Tm.enc, formalT]); (first | (refine .done ?_; simp [Tm.enc, formalT]; done) | (refine Tn.wkRet ?_; simp (maxDischargeDepth := 20)))
  by_cases h12 : e = 12
  · subst h12
    refine ACalls.post (calls_tree 400 fn19 (by simp [Try.f19]) ?_); simp (maxSteps := 3000000) [Tr.map, Try.f19]
    refine ACalls.retW (ref13_A_ok _) (WkL.refl _) (by simp (maxDischargeDepth := 12)) (by simp (maxDischargeDepth := 12)) ?_; (try simp (maxSteps := 3000000) [Tr.map])
    (try simp [Tm.enc, formalT]); (first | (refine .done ?_; simp [Tm.enc, formalT]; done) | (refine Tn.wkRet ?_; simp (maxDischargeDepth := 20)))
  by_cases h3 : e = 3
  · subst h3
    refine ACalls.post (calls_tree 400 fn19 (by simp [Try.f19]) ?_); simp (maxSteps := 3000000) [Tr.map, Try.f19]
    refine ACalls.retW (ref13_A_ok _) (WkL.refl _) (by simp (maxDischargeDepth := 12)) (by simp (maxDischargeDepth := 12)) ?_; (try simp (maxSteps := 3000000) [Tr.map])
    refine ACalls.freeze 2 rfl ?_; simp
    (have hc_ := ref13_F_ok ⟨#[114, 101, 112, 114, 101, 115, 101, 110, 116, 97, 116, 105, 111, 110, 95, 101, 114, 114, 111, 114]⟩ [atomT what]); (try simp at hc_); refine ACalls.retW hc_ (by simp (maxDischargeDepth := 20)) (by simp (maxDischargeDepth := 12)) (by simp (maxDischargeDepth := 12)) ?_; clear hc_; (try simp (maxSteps := 3000000) [Tr.map])
    (try simp [Tm.enc, formalT]); (first | (refine .done ?_; simp [Tm.enc, formalT]; done) | (refine Tn.wkRet ?_; simp (maxDischargeDepth := 20)))
  by_cases h11 : e = 11
  · subst h11
    refine ACalls.post (calls_tree 400 fn19 (by simp [Try.f19]) ?_); simp (maxSteps := 3000000) [Tr.map, Try.f19]
    refine ACalls.retW (ref13_A_ok _) (WkL.refl _) (by simp (maxDischargeDepth := 12)) (by simp (maxDischargeDepth := 12)) ?_; (try simp (maxSteps := 3000000) [Tr.map])
    refine ACalls.freeze 2 rfl ?_; simp
    (have hc_ := ref13_F_ok ⟨#[101, 118, 97, 108, 117, 97, 116, 105, 111, 110, 95, 101, 114, 114, 111, 114]⟩ [atomT ⟨#[105, 110, 116, 95, 111, 118, 101, 114, 102, 108, 111, 119]⟩]); (try simp at hc_); refine ACalls.retW hc_ (by simp (maxDischargeDepth := 20)) (by simp (maxDischargeDepth := 12)) (by simp (maxDischargeDepth := 12)) ?_; clear hc_; (try simp (maxSteps := 3000000) [Tr.map])
    (try simp [Tm.enc, formalT]); (first | (refine .done ?_; simp [Tm.enc, formalT]; done) | (refine Tn.wkRet ?_; simp (maxDischargeDepth := 20)))
  by_cases h10 : e = 10
  · subst h10
    refine ACalls.post (calls_tree 400 fn19 (by simp [Try.f19]) ?_); simp (maxSteps := 3000000) [Tr.map, Try.f19]
    refine ACalls.retW (ref13_A_ok _) (WkL.refl _) (by simp (maxDischargeDepth := 12)) (by simp (maxDischargeDepth := 12)) ?_; (try simp (maxSteps := 3000000) [Tr.map])
    refine ACalls.freeze 2 rfl ?_; simp
    (have hc_ := ref13_F_ok ⟨#[101, 118, 97, 108, 117, 97, 116, 105, 111, 110, 95, 101, 114, 114, 111, 114]⟩ [atomT ⟨#[122, 101, 114, 111, 95, 100, 105, 118, 105, 115, 111, 114]⟩]); (try simp at hc_); refine ACalls.retW hc_ (by simp (maxDischargeDepth := 20)) (by simp (maxDischargeDepth := 12)) (by simp (maxDischargeDepth := 12)) ?_; clear hc_; (try simp (maxSteps := 3000000) [Tr.map])
    (try simp [Tm.enc, formalT]); (first | (refine .done ?_; simp [Tm.enc, formalT]; done) | (refine Tn.wkRet ?_; simp (maxDischargeDepth := 20)))
  refine ACalls.post (calls_tree 400 fn19 (by simp [Try.f19]) ?_); simp (maxSteps := 3000000) [Tr.map, Try.f19, h12, h13, h14, h8, h3, h11, h10]
  refine ACalls.retW (ref13_A_ok _) (WkL.refl _) (by simp (maxDischargeDepth := 12)) (by simp (maxDischargeDepth := 12)) ?_; (try simp (maxSteps := 3000000) [Tr.map])
  (try simp [Tm.enc, formalT, h12, h13, h14, h8, h3, h11, h10]); (first | (refine .done ?_; simp [Tm.enc, formalT, h12, h13, h14, h8, h3, h11, h10]; done) | (refine Tn.wkRet ?_; simp (maxDischargeDepth := 20)))

@[simp] def errorT (x : Tm) (s : ByteArray) (n : Int) : Tm := compT ⟨#[101, 114, 114, 111, 114]⟩ [x, indT s n]
@[simp] def unknownT (s : ByteArray) (n : Int) : Tm := errorT (formalT 8 ⟨#[112, 114, 111, 99, 101, 100, 117, 114, 101]⟩ (indT s n)) s n
@[simp] def staticT (a s : ByteArray) (n : Int) : Tm := compT ⟨#[112, 101, 114, 109, 105, 115, 115, 105, 111, 110, 95, 101, 114, 114, 111, 114]⟩ [atomT a, atomT ⟨#[115, 116, 97, 116, 105, 99, 95, 112, 114, 111, 99, 101, 100, 117, 114, 101]⟩, indT s n]

theorem indT_size (s : ByteArray) (n : Int) : (indT s n).size = 3 := by simp [Tm.size_eq]
theorem errorT_size (x : Tm) (s : ByteArray) (n : Int) : (errorT x s n).size = x.size + 4 := by rw [Tm.size_eq]; simp [Tm.size_eq (Tm.mk _ _ _ _)]; omega
theorem unknownT_size (s : ByteArray) (n : Int) : (unknownT s n).size ≤ 9 := by
  have := formalT_size 8 ⟨#[112, 114, 111, 99, 101, 100, 117, 114, 101]⟩ (indT s n)
  have := indT_size s n
  unfold unknownT; rw [errorT_size]; omega
theorem staticT_size (a s : ByteArray) (n : Int) : (staticT a s n).size ≤ 6 := by simp [Tm.size_eq]

theorem fault_error_ok (x : Tm) (s : ByteArray) (n : Int) (hk : x.size ≤ 1000000) : ACalls Try.prog 21 [.agg x.enc, .str s, .int .i64 n] [] (fun r _ => r = .ret (.agg (errorT x s n).enc)) := by
  refine ACalls.post (calls_tree 400 fn21 (by simp [Try.f21]) ?_); simp (maxSteps := 3000000) [Tr.map, Try.f21]
  (have hc_ := own_ok x hk); (try simp at hc_); refine ACalls.retW hc_ (by simp (maxDischargeDepth := 20)) (by simp (maxDischargeDepth := 12)) (by simp (maxDischargeDepth := 12)) ?_; clear hc_; (try simp (maxSteps := 3000000) [Tr.map])
  (have hc_ := fault_ind_ok s n); (try simp at hc_); refine ACalls.retW hc_ (by simp (maxDischargeDepth := 20)) (by simp (maxDischargeDepth := 12)) (by simp (maxDischargeDepth := 12)) ?_; clear hc_; (try simp (maxSteps := 3000000) [Tr.map])
  refine ACalls.freeze 2 rfl ?_; simp
  (have hc_ := fault_comp_ok ⟨#[101, 114, 114, 111, 114]⟩ [x, indT s n] (by simp) (by simp)); (try simp at hc_); refine ACalls.retW hc_ (by simp (maxDischargeDepth := 20)) (by simp (maxDischargeDepth := 12)) (by simp (maxDischargeDepth := 12)) ?_; clear hc_; (try simp (maxSteps := 3000000) [Tr.map])
  (try simp [Tm.enc]); (first | (refine .done ?_; simp [Tm.enc]; done) | (refine Tn.wkRet ?_; simp (maxDischargeDepth := 20)))

theorem ref13_error_ok (x : Tm) (s : ByteArray) (n : Int) : ACalls Try.prog 22 [.agg x.enc, .str s, .int .i64 n] [] (fun r _ => r = .ret (.agg (errorT x s n).enc)) := by
  refine ACalls.post (calls_tree 400 fn22 (by simp [Try.f22]) ?_); simp (maxSteps := 3000000) [Tr.map, Try.f22]
  refine stk_draw mixed (tabOf_ok _) (fnOf_ok _) 4 (by kernel_rfl) ?_; simp (maxSteps := 3000000) [Tr.map]
  (have hc_ := ref12_ind_ok s n); (try simp at hc_); refine QCall.introW hc_ (by simp (maxDischargeDepth := 20)) (by simp (maxDischargeDepth := 12)) (by simp (maxDischargeDepth := 12)) ?_; clear hc_; (try simp (maxSteps := 3000000) [Tr.map])
  refine stk_run 400 ?_; simp (maxSteps := 3000000) [Tr.map]
  refine ACalls.freeze 2 rfl ?_; simp
  (have hc_ := ref13_F_ok ⟨#[101, 114, 114, 111, 114]⟩ [x, indT s n]); (try simp at hc_); refine ACalls.retW hc_ (by simp (maxDischargeDepth := 20)) (by simp (maxDischargeDepth := 12)) (by simp (maxDischargeDepth := 12)) ?_; clear hc_; (try simp (maxSteps := 3000000) [Tr.map])
  (try simp [Tm.enc]); (first | (refine .done ?_; simp [Tm.enc]; done) | (refine Tn.wkRet ?_; simp (maxDischargeDepth := 20)))

theorem fault_unknown_ok (s : ByteArray) (n : Int) : ACalls Try.prog 23 [.str s, .int .i64 n] [] (fun r _ => r = .ret (.agg (unknownT s n).enc)) := by
  refine ACalls.post (calls_tree 400 fn23 (by simp [Try.f23]) ?_); simp (maxSteps := 3000000) [Tr.map, Try.f23]
  (have hc_ := fault_ind_ok s n); (try simp at hc_); refine ACalls.retW hc_ (by simp (maxDischargeDepth := 20)) (by simp (maxDischargeDepth := 12)) (by simp (maxDischargeDepth := 12)) ?_; clear hc_; (try simp (maxSteps := 3000000) [Tr.map])
  (have hc_ := formal_ok 8 ⟨#[112, 114, 111, 99, 101, 100, 117, 114, 101]⟩ (indT s n) (by simp [Tm.size_eq])); (try simp at hc_); refine ACalls.retW hc_ (by simp (maxDischargeDepth := 20)) (by simp (maxDischargeDepth := 12)) (by simp (maxDischargeDepth := 12)) ?_; clear hc_; (try simp (maxSteps := 3000000) [Tr.map])
  (have hc_ := fault_error_ok (formalT 8 ⟨#[112, 114, 111, 99, 101, 100, 117, 114, 101]⟩ (indT s n)) s n (by simp [formalT, Tm.size_eq])); (try simp at hc_); refine ACalls.retW hc_ (by simp (maxDischargeDepth := 20)) (by simp (maxDischargeDepth := 12)) (by simp (maxDischargeDepth := 12)) ?_; clear hc_; (try simp (maxSteps := 3000000) [Tr.map])
  (try simp [Tm.enc]); (first | (refine .done ?_; simp [Tm.enc]; done) | (refine Tn.wkRet ?_; simp (maxDischargeDepth := 20)))

theorem ref13_unknown_ok (s : ByteArray) (n : Int) : ACalls Try.prog 24 [.str s, .int .i64 n] [] (fun r _ => r = .ret (.agg (unknownT s n).enc)) := by
  refine ACalls.post (calls_tree 400 fn24 (by simp [Try.f24]) ?_); simp (maxSteps := 3000000) [Tr.map, Try.f24]
  (have hc_ := ref12_ind_ok s n); (try simp at hc_); refine ACalls.retW hc_ (by simp (maxDischargeDepth := 20)) (by simp (maxDischargeDepth := 12)) (by simp (maxDischargeDepth := 12)) ?_; clear hc_; (try simp (maxSteps := 3000000) [Tr.map])
  (have hc_ := ref13_formal_ok 8 ⟨#[112, 114, 111, 99, 101, 100, 117, 114, 101]⟩ (indT s n)); (try simp at hc_); refine ACalls.retW hc_ (by simp (maxDischargeDepth := 20)) (by simp (maxDischargeDepth := 12)) (by simp (maxDischargeDepth := 12)) ?_; clear hc_; (try simp (maxSteps := 3000000) [Tr.map])
  (have hc_ := ref13_error_ok (formalT 8 ⟨#[112, 114, 111, 99, 101, 100, 117, 114, 101]⟩ (indT s n)) s n); (try simp at hc_); refine ACalls.retW hc_ (by simp (maxDischargeDepth := 20)) (by simp (maxDischargeDepth := 12)) (by simp (maxDischargeDepth := 12)) ?_; clear hc_; (try simp (maxSteps := 3000000) [Tr.map])
  (try simp [Tm.enc]); (first | (refine .done ?_; simp [Tm.enc]; done) | (refine Tn.wkRet ?_; simp (maxDischargeDepth := 20)))

theorem fault_static_ok (a s : ByteArray) (n : Int) : ACalls Try.prog 25 [.str a, .str s, .int .i64 n] [] (fun r _ => r = .ret (.agg (staticT a s n).enc)) := by
  refine ACalls.post (calls_tree 400 fn25 (by simp [Try.f25]) ?_); simp (maxSteps := 3000000) [Tr.map, Try.f25]
  (have hc_ := fault_atom_ok a); (try simp at hc_); refine ACalls.retW hc_ (by simp (maxDischargeDepth := 20)) (by simp (maxDischargeDepth := 12)) (by simp (maxDischargeDepth := 12)) ?_; clear hc_; (try simp (maxSteps := 3000000) [Tr.map])
  refine ACalls.retW (fault_atom_ok _) (WkL.refl _) (by simp (maxDischargeDepth := 12)) (by simp (maxDischargeDepth := 12)) ?_; (try simp (maxSteps := 3000000) [Tr.map])
  (have hc_ := fault_ind_ok s n); (try simp at hc_); refine ACalls.retW hc_ (by simp (maxDischargeDepth := 20)) (by simp (maxDischargeDepth := 12)) (by simp (maxDischargeDepth := 12)) ?_; clear hc_; (try simp (maxSteps := 3000000) [Tr.map])
  refine ACalls.freeze 1 rfl ?_; simp
  (have hc_ := fault_comp_ok ⟨#[112, 101, 114, 109, 105, 115, 115, 105, 111, 110, 95, 101, 114, 114, 111, 114]⟩ [atomT a, atomT ⟨#[115, 116, 97, 116, 105, 99, 95, 112, 114, 111, 99, 101, 100, 117, 114, 101]⟩, indT s n] (by simp) (by simp)); (try simp at hc_); refine ACalls.retW hc_ (by simp (maxDischargeDepth := 20)) (by simp (maxDischargeDepth := 12)) (by simp (maxDischargeDepth := 12)) ?_; clear hc_; (try simp (maxSteps := 3000000) [Tr.map])
  (try simp [Tm.enc]); (first | (refine .done ?_; simp [Tm.enc]; done) | (refine Tn.wkRet ?_; simp (maxDischargeDepth := 20)))

theorem ref13_static_ok (a s : ByteArray) (n : Int) : ACalls Try.prog 26 [.str a, .str s, .int .i64 n] [] (fun r _ => r = .ret (.agg (staticT a s n).enc)) := by
  refine ACalls.post (calls_tree 400 fn26 (by simp [Try.f26]) ?_); simp (maxSteps := 3000000) [Tr.map, Try.f26]
  (have hc_ := ref13_A_ok a); (try simp at hc_); refine ACalls.retW hc_ (by simp (maxDischargeDepth := 20)) (by simp (maxDischargeDepth := 12)) (by simp (maxDischargeDepth := 12)) ?_; clear hc_; (try simp (maxSteps := 3000000) [Tr.map])
  refine ACalls.retW (ref13_A_ok _) (WkL.refl _) (by simp (maxDischargeDepth := 12)) (by simp (maxDischargeDepth := 12)) ?_; (try simp (maxSteps := 3000000) [Tr.map])
  (have hc_ := ref12_ind_ok s n); (try simp at hc_); refine ACalls.retW hc_ (by simp (maxDischargeDepth := 20)) (by simp (maxDischargeDepth := 12)) (by simp (maxDischargeDepth := 12)) ?_; clear hc_; (try simp (maxSteps := 3000000) [Tr.map])
  refine ACalls.freeze 1 rfl ?_; simp
  (have hc_ := ref13_F_ok ⟨#[112, 101, 114, 109, 105, 115, 115, 105, 111, 110, 95, 101, 114, 114, 111, 114]⟩ [atomT a, atomT ⟨#[115, 116, 97, 116, 105, 99, 95, 112, 114, 111, 99, 101, 100, 117, 114, 101]⟩, indT s n]); (try simp at hc_); refine ACalls.retW hc_ (by simp (maxDischargeDepth := 20)) (by simp (maxDischargeDepth := 12)) (by simp (maxDischargeDepth := 12)) ?_; clear hc_; (try simp (maxSteps := 3000000) [Tr.map])
  (try simp [Tm.enc]); (first | (refine .done ?_; simp [Tm.enc]; done) | (refine Tn.wkRet ?_; simp (maxDischargeDepth := 20)))

theorem law13_alive_ok : ACalls Try.prog 15 [] [] (fun r _ => r = .ret (.bool true)) := by
  have h1 := formal_ok 13 ⟨#[105, 110, 116, 101, 103, 101, 114]⟩ (atomT ⟨#[97]⟩) (by simp [Tm.size_eq])
  have h2 := formal_ok 12 ⟨#[]⟩ (atomT ⟨#[97]⟩) (by simp [Tm.size_eq])
  simp [formalT] at h1 h2
  refine ACalls.post (calls_tree 400 fn15 (by simp [Try.f15]) ?_); simp (maxSteps := 3000000) [Tr.map, Try.f15]
  (have hc_ := h1); (try simp at hc_); refine ACalls.retW hc_ (by simp (maxDischargeDepth := 20)) (by simp (maxDischargeDepth := 12)) (by simp (maxDischargeDepth := 12)) ?_; clear hc_; (try simp (maxSteps := 3000000) [Tr.map])
  (have hc_ := h2); (try simp at hc_); refine ACalls.retW hc_ (by simp (maxDischargeDepth := 20)) (by simp (maxDischargeDepth := 12)) (by simp (maxDischargeDepth := 12)) ?_; clear hc_; (try simp (maxSteps := 3000000) [Tr.map])
  (try simp [Tm.enc]); (first | (refine .done ?_; simp [Tm.enc]; done) | (refine Tn.wkRet ?_; simp (maxDischargeDepth := 20)))

end Go.Proofs.Yteebkkipeiggcaa


/- Contracts: comparisons out of Go's library. -/
namespace Go.Proofs

set_option maxHeartbeats 1000000 in
set_option maxRecDepth 100000 in
theorem Try.bytealg_CompareString (a b : ByteArray) (w : World) :
    Calls Try.prog 105 #[.string a, .string b] w fun e w' => e = .returned (.int .i64 (Lib.compareBytes a.data.toList b.data.toList)) ∧ w' = w := by
  go_enter Try.func105, Try.ntmps105
  go_wp2
  rw [run_callFunc_extern Try.func121 (by kernel_rfl) (by kernel_rfl) (by kernel_rfl) (e := Extern.BytealgCompare.compare) (by kernel_rfl), Lib.run_compareString]
  simp only [Result.andThen]
  rw [Oper.upon_value]
  go_wp2
  go_ret
  exact ⟨rfl, rfl⟩

end Go.Proofs

namespace Go.Proofs.Yteebkkipeiggcaa
open Go Go.Vm

set_option maxRecDepth 20000
set_option maxHeartbeats 1000000

def cmpS (a b : ByteArray) : Int := Lib.compareBytes a.data.toList b.data.toList
def cmpI (a b : Int) : Int := if a < b then -1 else if a > b then 1 else 0

theorem comparestring_ok (a b : ByteArray) : ACalls Try.prog 105 [.str a, .str b] [] (fun r _ => r = .ret (.int .i64 (cmpS a b))) :=
  ACalls.of_calls0 fun c vs hv => by
    have e : vs = #[.string a, .string b] := Array.ext' (VRs.str2 hv)
    subst e
    exact ⟨_, (Try.bytealg_CompareString a b c.w).mono fun e w' ⟨h1, h2⟩ => ⟨h1, by subst h2; exact Grew.refl _⟩, fun _ => .int⟩

theorem strings_compare_ok (a b : ByteArray) : ACalls Try.prog 65 [.str a, .str b] [] (fun r _ => r = .ret (.int .i64 (cmpS a b))) := by
  refine ACalls.post (calls_tree 400 fn65 (by simp [Try.f65]) ?_); simp (maxSteps := 3000000) [Tr.map, Try.f65]
  (have hc_ := comparestring_ok a b); (try simp at hc_); refine ACalls.retW hc_ (by simp (maxDischargeDepth := 20)) (by simp (maxDischargeDepth := 12)) (by simp (maxDischargeDepth := 12)) ?_; clear hc_; (try simp (maxSteps := 3000000) [Tr.map])
  (try simp [Tm.enc]); (first | (refine .done ?_; simp [Tm.enc]; done) | (refine Tn.wkRet ?_; simp (maxDischargeDepth := 20)))

theorem isnan_int_ok (a : Int) : ACalls Try.prog 103 [.int .i64 a] [] (fun r _ => r = .ret (.bool false)) := by
  refine ACalls.post (calls_tree 400 fn103 (by simp [Try.f103]) ?_); simp (maxSteps := 3000000) [Tr.map, Try.f103]
  (try simp [Tm.enc]); (first | (refine .done ?_; simp [Tm.enc]; done) | (refine Tn.wkRet ?_; simp (maxDischargeDepth := 20)))

theorem compare_int_ok (a b : Int) : ACalls Try.prog 62 [.int .i64 a, .int .i64 b] [] (fun r _ => r = .ret (.int .i64 (cmpI a b))) := by
  refine ACalls.post (calls_tree 400 fn62 (by simp [Try.f62]) ?_); simp (maxSteps := 3000000) [Tr.map, Try.f62]
  (have hc_ := isnan_int_ok a); (try simp at hc_); refine ACalls.retW hc_ (by simp (maxDischargeDepth := 20)) (by simp (maxDischargeDepth := 12)) (by simp (maxDischargeDepth := 12)) ?_; clear hc_; (try simp (maxSteps := 3000000) [Tr.map])
  (have hc_ := isnan_int_ok b); (try simp at hc_); refine ACalls.retW hc_ (by simp (maxDischargeDepth := 20)) (by simp (maxDischargeDepth := 12)) (by simp (maxDischargeDepth := 12)) ?_; clear hc_; (try simp (maxSteps := 3000000) [Tr.map])
  unfold cmpI
  split
  · rename_i h; (try simp [Tm.enc, h]); (first | (refine .done ?_; simp [Tm.enc, h]; done) | (refine Tn.wkRet ?_; simp (maxDischargeDepth := 20)))
  split
  · rename_i h1 h2; (try simp [Tm.enc, h1, h2]); (first | (refine .done ?_; simp [Tm.enc, h1, h2]; done) | (refine Tn.wkRet ?_; simp (maxDischargeDepth := 20)))
  · rename_i h1 h2; (try simp [Tm.enc, h1, h2]); (first | (refine .done ?_; simp [Tm.enc, h1, h2]; done) | (refine Tn.wkRet ?_; simp (maxDischargeDepth := 20)))

theorem isnan_int64_ok (a : Int) : ACalls Try.prog 104 [.int .i64 a] [] (fun r _ => r = .ret (.bool false)) := by
  refine ACalls.post (calls_tree 400 fn104 (by simp [Try.f104]) ?_); simp (maxSteps := 3000000) [Tr.map, Try.f104]
  (try simp [Tm.enc]); (first | (refine .done ?_; simp [Tm.enc]; done) | (refine Tn.wkRet ?_; simp (maxDischargeDepth := 20)))

theorem compare_int64_ok (a b : Int) : ACalls Try.prog 63 [.int .i64 a, .int .i64 b] [] (fun r _ => r = .ret (.int .i64 (cmpI a b))) := by
  refine ACalls.post (calls_tree 400 fn63 (by simp [Try.f63]) ?_); simp (maxSteps := 3000000) [Tr.map, Try.f63]
  (have hc_ := isnan_int64_ok a); (try simp at hc_); refine ACalls.retW hc_ (by simp (maxDischargeDepth := 20)) (by simp (maxDischargeDepth := 12)) (by simp (maxDischargeDepth := 12)) ?_; clear hc_; (try simp (maxSteps := 3000000) [Tr.map])
  (have hc_ := isnan_int64_ok b); (try simp at hc_); refine ACalls.retW hc_ (by simp (maxDischargeDepth := 20)) (by simp (maxDischargeDepth := 12)) (by simp (maxDischargeDepth := 12)) ?_; clear hc_; (try simp (maxSteps := 3000000) [Tr.map])
  unfold cmpI
  split
  · rename_i h; (try simp [Tm.enc, h]); (first | (refine .done ?_; simp [Tm.enc, h]; done) | (refine Tn.wkRet ?_; simp (maxDischargeDepth := 20)))
  split
  · rename_i h1 h2; (try simp [Tm.enc, h1, h2]); (first | (refine .done ?_; simp [Tm.enc, h1, h2]; done) | (refine Tn.wkRet ?_; simp (maxDischargeDepth := 20)))
  · rename_i h1 h2; (try simp [Tm.enc, h1, h2]); (first | (refine .done ?_; simp [Tm.enc, h1, h2]; done) | (refine Tn.wkRet ?_; simp (maxDischargeDepth := 20)))

/-- The first that isn't 0. -/
def orI : List Int → Int
  | [] => 0
  | n :: l => if n = 0 then orI l else n

theorem or_ok (l : List Int) (hl : l.length < 1000) : ACalls Try.prog 64 [.ro 1 (encI l)] [] (fun r _ => r = .ret (.int .i64 (orI l))) := by
  refine ACalls.post (calls_tree 400 fn64 (by simp [Try.f64]) ?_); simp (maxSteps := 3000000) [Tr.map, Try.f64]
  refine AStk.liveT [3, 6, 7, 8] (AStk.gc [] (by simp) (by simp) (by simp) ?_); simp [Tr.map]
  refine AStk.indE (fun d_ a_ h_ => ∃ (ds es : List Int), (l = ds ++ es ∧ orI l = orI es) ∧ d_ = es.length ∧ a_ = ⟨toL 18 (mkT [(3, .int .i64 0), (6, .ro 1 (encI l)), (7, .int .i64 l.length), (8, .int .i64 ds.length)] (.e .any)), []⟩ ∧ h_ = []) ?_ ?_
  · exact ⟨_, [], l, ⟨rfl, rfl⟩, rfl, by simp [Tr.map], rfl⟩
  rintro d a h ⟨ds, es, ⟨hsp, hor⟩, rfl, rfl, rfl⟩ IH
  cases es with
  | nil =>
    simp at hsp; subst hsp
    refine stk_run 400 ?_; simp (maxSteps := 3000000) [Tr.map]
    (try simp [Tm.enc, hor, orI]); (first | (refine .done ?_; simp [Tm.enc, hor, orI]; done) | (refine Tn.wkRet ?_; simp (maxDischargeDepth := 20)))
  | cons n es =>
    obtain ⟨p1, p2, p3, p4, p5⟩ := mid_facts hsp
    by_cases hn : n = 0
    · subst hn
      refine stk_run 400 ?_; simp (maxSteps := 3000000) [Tr.map, p2, p3, p4]
      (try simp (disch := omega) only [wrap64])
      refine AStk.liveT [3, 6, 7, 8] (AStk.gc [] (by simp) (by simp) (by simp) ?_); simp [Tr.map]
      exact IH _ _ _ (by simp) ⟨ds ++ [0], es, ⟨by simp [hsp], by rw [hor]; simp [orI]⟩, rfl, by simp [Tr.map, Int.add_assoc, Int.add_comm, Int.add_left_comm], by simp⟩
    · refine stk_run 400 ?_; simp (maxSteps := 3000000) [Tr.map, p2, p3, p4, hn]
      (try simp [Tm.enc, hor, orI, hn]); (first | (refine .done ?_; simp [Tm.enc, hor, orI, hn]; done) | (refine Tn.wkRet ?_; simp (maxDischargeDepth := 20)))

mutual
def cmpT : Tm → Tm → Int
  | ⟨k, n, s, a⟩, u => if k ≠ u.kind then cmpI k u.kind else if k = 1 ∨ k = 2 then cmpI n u.n else orI [cmpI a.length u.args.length, cmpS s u.s, cmpL a u.args]
def cmpL : List Tm → List Tm → Int
  | [], [] => 0
  | [], _ :: _ => -1
  | _ :: _, [] => 1
  | x :: a, y :: b => if cmpT x y = 0 then cmpL a b else cmpT x y
end

theorem cmpT_eq (t u : Tm) : cmpT t u = if t.kind ≠ u.kind then cmpI t.kind u.kind else if t.kind = 1 ∨ t.kind = 2 then cmpI t.n u.n else orI [cmpI t.args.length u.args.length, cmpS t.s u.s, cmpL t.args u.args] := by
  cases t; simp [cmpT]

theorem cmpfunc_ok (a b : List Tm) (hl : a.length ≤ 1000000) (hm : ∀ x ∈ a, ∀ y, ACalls Try.prog 30 [.agg x.enc, .agg y.enc] [] (fun r _ => r = .ret (.int .i64 (cmpT x y)))) :
    ACalls Try.prog 66 [.ro 4 (encs a), .ro 4 (encs b), .fn (.func 30) [] []] [] (fun r _ => r = .ret (.int .i64 (cmpL a b))) := by
  refine ACalls.post (calls_tree 400 fn66 (by simp [Try.f66]) ?_); simp (maxSteps := 3000000) [Tr.map, Try.f66]
  refine AStk.liveT [0, 1, 2, 11, 12, 13] (AStk.gc [] (by simp) (by simp) (by simp) ?_); simp [Tr.map]
  refine AStk.indE (fun d_ a_ h_ => ∃ (ds es fs gs : List Tm), (a = ds ++ es ∧ b = fs ++ gs ∧ ds.length = fs.length ∧ cmpL a b = cmpL es gs) ∧ d_ = es.length ∧ a_ = ⟨toL 39 (mkT [(0, .ro 4 (encs a)), (1, .ro 4 (encs b)), (2, .fn (.func 30) [] []), (11, .ro 4 (encs a)), (12, .int .i64 a.length), (13, .int .i64 ds.length)] (.e .any)), []⟩ ∧ h_ = []) ?_ ?_
  · exact ⟨_, [], a, [], b, ⟨rfl, rfl, rfl, rfl⟩, rfl, by simp [Tr.map], rfl⟩
  rintro d a_ h_ ⟨ds, es, fs, gs, ⟨e1, e2, e3, e4⟩, rfl, rfl, rfl⟩ IH
  cases es with
  | nil =>
    simp at e1; subst e1
    cases gs with
    | nil =>
      simp at e2; subst e2
      have h3 : ¬ a.length < b.length := by omega
      refine stk_run 400 ?_; simp (maxSteps := 3000000) [Tr.map, h3, e3]
      (try simp [Tm.enc, e4, cmpL, e3]); (first | (refine .done ?_; simp [Tm.enc, e4, cmpL, e3]; done) | (refine Tn.wkRet ?_; simp (maxDischargeDepth := 20)))
    | cons g gs =>
      have h3 : a.length < b.length := by rw [e2]; simp; omega
      refine stk_run 400 ?_; simp (maxSteps := 3000000) [Tr.map, h3]
      (try simp [Tm.enc, e4, cmpL, h3]); (first | (refine .done ?_; simp [Tm.enc, e4, cmpL, h3]; done) | (refine Tn.wkRet ?_; simp (maxDischargeDepth := 20)))
  | cons x es =>
    obtain ⟨p1, p2, p3, p4, p5⟩ := mid_facts e1
    cases gs with
    | nil =>
      simp at e2; subst e2
      have h3 : b.length ≤ ds.length := by omega
      refine stk_run 400 ?_; simp (maxSteps := 3000000) [Tr.map, p2, p3, p4, h3]
      (try simp [Tm.enc, e4, cmpL, h3]); (first | (refine .done ?_; simp [Tm.enc, e4, cmpL, h3]; done) | (refine Tn.wkRet ?_; simp (maxDischargeDepth := 20)))
    | cons y gs =>
      obtain ⟨q1, q2, q3, q4, q5⟩ := mid_facts e2
      rw [← e3] at q1 q2 q3 q4
      have h3 : ¬ b.length ≤ ds.length := by omega
      refine stk_run 400 ?_; simp (maxSteps := 3000000) [Tr.map, p2, p3, p4, h3, q1, q2, q3, q4]
      (have hc_ := hm x (by simp [e1]) y); (try simp at hc_); refine ACalls.retW hc_ (by simp (maxDischargeDepth := 20)) (by simp (maxDischargeDepth := 12)) (by simp (maxDischargeDepth := 12)) ?_; clear hc_; (try simp (maxSteps := 3000000) [Tr.map])
      by_cases hc : cmpT x y = 0
      · simp [hc]
        (try simp (disch := omega) only [wrap64])
        refine AStk.liveT [0, 1, 2, 11, 12, 13] (AStk.gc [] (by simp) (by simp) (by simp) ?_); simp [Tr.map]
        exact IH _ _ _ (by simp) ⟨ds ++ [x], es, fs ++ [y], gs, ⟨by simp [e1], by simp [e2], by simp [e3], by rw [e4]; simp [cmpL, hc]⟩, rfl, by simp [Tr.map, Int.add_assoc, Int.add_comm, Int.add_left_comm], by simp⟩
      · simp [hc]
        (try simp [Tm.enc, e4, cmpL, hc]); (first | (refine .done ?_; simp [Tm.enc, e4, cmpL, hc]; done) | (refine Tn.wkRet ?_; simp (maxDischargeDepth := 20)))

theorem cmp_ok (t u : Tm) (hk : t.size ≤ 1000000) : ACalls Try.prog 30 [.agg t.enc, .agg u.enc] [] (fun r _ => r = .ret (.int .i64 (cmpT t u))) := by
  induction t using Tm.ind generalizing u with | _ t ih
  have hmem : ∀ v ∈ t.args, ∀ w, ACalls Try.prog 30 [.agg v.enc, .agg w.enc] [] (fun r _ => r = .ret (.int .i64 (cmpT v w))) := fun v hv w => ih v hv w (by have := Tm.size_lt hv; omega)
  have hlen := t.length_lt
  clear ih
  have hc := cmpT_eq t u
  generalize hR : cmpT t u = R at *
  clear hR
  by_cases hkk : t.kind = u.kind
  · have h0 : cmpI u.kind u.kind = 0 := by simp [cmpI]
    have h0' := compare_int_ok t.kind u.kind
    rw [hkk, h0] at h0'
    simp [hkk] at hc
    by_cases k1 : u.kind = 1
    · simp [k1] at hc; subst hc
      rw [k1] at hkk h0'
      refine ACalls.post (calls_tree 400 fn30 (by simp [Try.f30]) ?_); simp (maxSteps := 3000000) [Tr.map, Try.f30, hkk, k1]
      (have hc_ := h0'); (try simp at hc_); refine ACalls.retW hc_ (by simp (maxDischargeDepth := 20)) (by simp (maxDischargeDepth := 12)) (by simp (maxDischargeDepth := 12)) ?_; clear hc_; (try simp (maxSteps := 3000000) [Tr.map, hkk, k1])
      (have hc_ := compare_int64_ok t.n u.n); (try simp at hc_); refine ACalls.retW hc_ (by simp (maxDischargeDepth := 20)) (by simp (maxDischargeDepth := 12)) (by simp (maxDischargeDepth := 12)) ?_; clear hc_; (try simp (maxSteps := 3000000) [Tr.map, hkk, k1])
      (try simp [Tm.enc]); (first | (refine .done ?_; simp [Tm.enc]; done) | (refine Tn.wkRet ?_; simp (maxDischargeDepth := 20)))
    by_cases k2 : u.kind = 2
    · simp [k2] at hc; subst hc
      rw [k2] at hkk h0'
      refine ACalls.post (calls_tree 400 fn30 (by simp [Try.f30]) ?_); simp (maxSteps := 3000000) [Tr.map, Try.f30, hkk, k2]
      (have hc_ := h0'); (try simp at hc_); refine ACalls.retW hc_ (by simp (maxDischargeDepth := 20)) (by simp (maxDischargeDepth := 12)) (by simp (maxDischargeDepth := 12)) ?_; clear hc_; (try simp (maxSteps := 3000000) [Tr.map, hkk, k2])
      (have hc_ := compare_int64_ok t.n u.n); (try simp at hc_); refine ACalls.retW hc_ (by simp (maxDischargeDepth := 20)) (by simp (maxDischargeDepth := 12)) (by simp (maxDischargeDepth := 12)) ?_; clear hc_; (try simp (maxSteps := 3000000) [Tr.map, hkk, k2])
      (try simp [Tm.enc]); (first | (refine .done ?_; simp [Tm.enc]; done) | (refine Tn.wkRet ?_; simp (maxDischargeDepth := 20)))
    simp [k1, k2] at hc
    refine ACalls.post (calls_tree 400 fn30 (by simp [Try.f30]) ?_); simp (maxSteps := 3000000) [Tr.map, Try.f30, hkk]
    (have hc_ := h0'); (try simp at hc_); refine ACalls.retW hc_ (by simp (maxDischargeDepth := 20)) (by simp (maxDischargeDepth := 12)) (by simp (maxDischargeDepth := 12)) ?_; clear hc_; (try simp (maxSteps := 3000000) [Tr.map, hkk, k1, k2])
    refine stk_draw mixed (tabOf_ok _) (fnOf_ok _) 16 (by kernel_rfl) ?_; simp (maxSteps := 3000000) [Tr.map, hkk, k1, k2]
    (have hc_ := compare_int_ok t.args.length u.args.length); (try simp at hc_); refine QCall.introW hc_ (by simp (maxDischargeDepth := 20)) (by simp (maxDischargeDepth := 12)) (by simp (maxDischargeDepth := 12)) ?_; clear hc_; (try simp (maxSteps := 3000000) [Tr.map])
    (have hc_ := strings_compare_ok t.s u.s); (try simp at hc_); refine QCall.introW hc_ (by simp (maxDischargeDepth := 20)) (by simp (maxDischargeDepth := 12)) (by simp (maxDischargeDepth := 12)) ?_; clear hc_; (try simp (maxSteps := 3000000) [Tr.map])
    refine stk_run 400 ?_; simp (maxSteps := 3000000) [Tr.map]
    (have hc_ := cmpfunc_ok t.args u.args (by omega) hmem); (try simp at hc_); refine ACalls.retW hc_ (by simp (maxDischargeDepth := 20)) (by simp (maxDischargeDepth := 12)) (by simp (maxDischargeDepth := 12)) ?_; clear hc_; (try simp (maxSteps := 3000000) [Tr.map])
    refine ACalls.freeze 2 rfl ?_; simp
    (have hc_ := or_ok [cmpI t.args.length u.args.length, cmpS t.s u.s, cmpL t.args u.args] (by simp)); (try simp at hc_); refine ACalls.retW hc_ (by simp (maxDischargeDepth := 20)) (by simp (maxDischargeDepth := 12)) (by simp (maxDischargeDepth := 12)) ?_; clear hc_; (try simp (maxSteps := 3000000) [Tr.map])
    subst hc
    (try simp [Tm.enc]); (first | (refine .done ?_; simp [Tm.enc]; done) | (refine Tn.wkRet ?_; simp (maxDischargeDepth := 20)))
  · have h0 : cmpI t.kind u.kind ≠ 0 := by unfold cmpI; split <;> (try split) <;> omega
    simp [hkk] at hc
    subst hc
    refine ACalls.post (calls_tree 400 fn30 (by simp [Try.f30]) ?_); simp (maxSteps := 3000000) [Tr.map, Try.f30]
    (have hc_ := compare_int_ok t.kind u.kind); (try simp at hc_); refine ACalls.retW hc_ (by simp (maxDischargeDepth := 20)) (by simp (maxDischargeDepth := 12)) (by simp (maxDischargeDepth := 12)) ?_; clear hc_; (try simp (maxSteps := 3000000) [Tr.map, h0])
    (try simp [Tm.enc]); (first | (refine .done ?_; simp [Tm.enc]; done) | (refine Tn.wkRet ?_; simp (maxDischargeDepth := 20)))

end Go.Proofs.Yteebkkipeiggcaa


/- Contracts: what a term may be (package term). -/
namespace Go.Proofs.Yteebkkipeiggcaa
open Go Go.Vm

set_option maxRecDepth 20000
set_option maxHeartbeats 1000000

def mayB (t : Tm) : Bool := decide (t.kind = 1 ∧ 0 ≤ t.n ∧ t.s = ⟨#[]⟩ ∧ t.args.length = 0 ∨ t.kind = 2 ∧ t.s = ⟨#[]⟩ ∧ t.args.length = 0 ∨ t.kind = 3 ∧ t.n = 0 ∧ t.s.size ≤ 1000 ∧ t.args.length = 0 ∨ t.kind = 4 ∧ t.n = 0 ∧ t.s.size ≤ 1000 ∧ 0 < t.args.length ∧ t.args.length ≤ 255)

theorem may_ok (t : Tm) (hl : t.args.length ≤ 1000000) : ACalls Try.prog 75 [.agg t.enc] [] (fun r _ => r = .ret (.bool (mayB t))) := by
  by_cases k1 : t.kind = 1
  · by_cases a : t.n < 0
    · have hm : mayB t = false := by simp [mayB, k1]; omega
      refine ACalls.post (calls_tree 400 fn75 (by simp [Try.f75]) ?_); simp (maxSteps := 3000000) [Tr.map, Try.f75, k1, a]
      (try simp [Tm.enc, hm]); (first | (refine .done ?_; simp [Tm.enc, hm]; done) | (refine Tn.wkRet ?_; simp (maxDischargeDepth := 20)))
    by_cases b : t.s = ⟨#[]⟩
    · by_cases c : t.args.length = 0
      · have hm : mayB t = true := by simp [mayB, k1, b, c]; omega
        refine ACalls.post (calls_tree 400 fn75 (by simp [Try.f75]) ?_); simp (maxSteps := 3000000) [Tr.map, Try.f75, k1, a, b, c]
        (try simp [Tm.enc, hm]); (first | (refine .done ?_; simp [Tm.enc, hm]; done) | (refine Tn.wkRet ?_; simp (maxDischargeDepth := 20)))
      · have c' : ¬ t.args = [] := fun e => c (by simp [e])
        have hm : mayB t = false := by simp [mayB, k1, b, c']
        refine ACalls.post (calls_tree 400 fn75 (by simp [Try.f75]) ?_); simp (maxSteps := 3000000) [Tr.map, Try.f75, k1, a, b, c, c']
        (try simp [Tm.enc, hm]); (first | (refine .done ?_; simp [Tm.enc, hm]; done) | (refine Tn.wkRet ?_; simp (maxDischargeDepth := 20)))
    · have hm : mayB t = false := by simp [mayB, k1, b]
      refine ACalls.post (calls_tree 400 fn75 (by simp [Try.f75]) ?_); simp (maxSteps := 3000000) [Tr.map, Try.f75, k1, a, b]
      (try simp [Tm.enc, hm]); (first | (refine .done ?_; simp [Tm.enc, hm]; done) | (refine Tn.wkRet ?_; simp (maxDischargeDepth := 20)))
  by_cases k2 : t.kind = 2
  · by_cases b : t.s = ⟨#[]⟩
    · by_cases c : t.args.length = 0
      · have hm : mayB t = true := by simp [mayB, k2, b, c]
        refine ACalls.post (calls_tree 400 fn75 (by simp [Try.f75]) ?_); simp (maxSteps := 3000000) [Tr.map, Try.f75, k2, b, c]
        (try simp [Tm.enc, hm]); (first | (refine .done ?_; simp [Tm.enc, hm]; done) | (refine Tn.wkRet ?_; simp (maxDischargeDepth := 20)))
      · have c' : ¬ t.args = [] := fun e => c (by simp [e])
        have hm : mayB t = false := by simp [mayB, k2, b, c']
        refine ACalls.post (calls_tree 400 fn75 (by simp [Try.f75]) ?_); simp (maxSteps := 3000000) [Tr.map, Try.f75, k2, b, c, c']
        (try simp [Tm.enc, hm]); (first | (refine .done ?_; simp [Tm.enc, hm]; done) | (refine Tn.wkRet ?_; simp (maxDischargeDepth := 20)))
    · have hm : mayB t = false := by simp [mayB, k2, b]
      refine ACalls.post (calls_tree 400 fn75 (by simp [Try.f75]) ?_); simp (maxSteps := 3000000) [Tr.map, Try.f75, k2, b]
      (try simp [Tm.enc, hm]); (first | (refine .done ?_; simp [Tm.enc, hm]; done) | (refine Tn.wkRet ?_; simp (maxDischargeDepth := 20)))
  by_cases k3 : t.kind = 3
  · by_cases a : t.n = 0
    · by_cases b : 1000 < t.s.size
      · have b' : (1000 : Int) < t.s.size := by omega
        have hm : mayB t = false := by simp [mayB, k3]; omega
        refine ACalls.post (calls_tree 400 fn75 (by simp [Try.f75]) ?_); simp (maxSteps := 3000000) [Tr.map, Try.f75, k3, a, b, b']
        (try simp [Tm.enc, hm]); (first | (refine .done ?_; simp [Tm.enc, hm]; done) | (refine Tn.wkRet ?_; simp (maxDischargeDepth := 20)))
      · have b' : ¬ (1000 : Int) < t.s.size := by omega
        by_cases c : t.args.length = 0
        · have hm : mayB t = decide ((3 : Int) = 3) := by simp [mayB, k3, a, c]; try omega
          refine ACalls.post (calls_tree 400 fn75 (by simp [Try.f75]) ?_); simp (maxSteps := 3000000) [Tr.map, Try.f75, k3, a, b, b', c]
          (try simp [Tm.enc, hm]); (first | (refine .done ?_; simp [Tm.enc, hm]; done) | (refine Tn.wkRet ?_; simp (maxDischargeDepth := 20)))
        · have c' : ¬ t.args = [] := fun e => c (by simp [e])
          have c2 : 0 < t.args.length := by omega
          by_cases d : 255 < t.args.length
          · have d' : ¬ (t.args.length : Int) ≤ 255 := by omega
            have hm : mayB t = false := by simp [mayB, k3, a, c']; try omega
            refine ACalls.post (calls_tree 400 fn75 (by simp [Try.f75]) ?_); simp (maxSteps := 3000000) [Tr.map, Try.f75, k3, a, b, b', c, c', c2, d, d']
            (try simp [Tm.enc, hm]); (first | (refine .done ?_; simp [Tm.enc, hm]; done) | (refine Tn.wkRet ?_; simp (maxDischargeDepth := 20)))
          · have d' : (t.args.length : Int) ≤ 255 := by omega
            have hm : mayB t = decide ((3 : Int) = 4) := by simp [mayB, k3, a, c', c2]; try omega
            refine ACalls.post (calls_tree 400 fn75 (by simp [Try.f75]) ?_); simp (maxSteps := 3000000) [Tr.map, Try.f75, k3, a, b, b', c, c', c2, d, d']
            (try simp [Tm.enc, hm]); (first | (refine .done ?_; simp [Tm.enc, hm]; done) | (refine Tn.wkRet ?_; simp (maxDischargeDepth := 20)))
    · have hm : mayB t = false := by simp [mayB, k3, a]
      refine ACalls.post (calls_tree 400 fn75 (by simp [Try.f75]) ?_); simp (maxSteps := 3000000) [Tr.map, Try.f75, k3, a]
      (try simp [Tm.enc, hm]); (first | (refine .done ?_; simp [Tm.enc, hm]; done) | (refine Tn.wkRet ?_; simp (maxDischargeDepth := 20)))
  by_cases k4 : t.kind = 4
  · by_cases a : t.n = 0
    · by_cases b : 1000 < t.s.size
      · have b' : (1000 : Int) < t.s.size := by omega
        have hm : mayB t = false := by simp [mayB, k4]; omega
        refine ACalls.post (calls_tree 400 fn75 (by simp [Try.f75]) ?_); simp (maxSteps := 3000000) [Tr.map, Try.f75, k4, a, b, b']
        (try simp [Tm.enc, hm]); (first | (refine .done ?_; simp [Tm.enc, hm]; done) | (refine Tn.wkRet ?_; simp (maxDischargeDepth := 20)))
      · have b' : ¬ (1000 : Int) < t.s.size := by omega
        by_cases c : t.args.length = 0
        · have hm : mayB t = decide ((4 : Int) = 3) := by simp [mayB, k4, a, c]; try omega
          refine ACalls.post (calls_tree 400 fn75 (by simp [Try.f75]) ?_); simp (maxSteps := 3000000) [Tr.map, Try.f75, k4, a, b, b', c]
          (try simp [Tm.enc, hm]); (first | (refine .done ?_; simp [Tm.enc, hm]; done) | (refine Tn.wkRet ?_; simp (maxDischargeDepth := 20)))
        · have c' : ¬ t.args = [] := fun e => c (by simp [e])
          have c2 : 0 < t.args.length := by omega
          by_cases d : 255 < t.args.length
          · have d' : ¬ (t.args.length : Int) ≤ 255 := by omega
            have hm : mayB t = false := by simp [mayB, k4, a, c']; try omega
            refine ACalls.post (calls_tree 400 fn75 (by simp [Try.f75]) ?_); simp (maxSteps := 3000000) [Tr.map, Try.f75, k4, a, b, b', c, c', c2, d, d']
            (try simp [Tm.enc, hm]); (first | (refine .done ?_; simp [Tm.enc, hm]; done) | (refine Tn.wkRet ?_; simp (maxDischargeDepth := 20)))
          · have d' : (t.args.length : Int) ≤ 255 := by omega
            have hm : mayB t = decide ((4 : Int) = 4) := by simp [mayB, k4, a, c', c2]; try omega
            refine ACalls.post (calls_tree 400 fn75 (by simp [Try.f75]) ?_); simp (maxSteps := 3000000) [Tr.map, Try.f75, k4, a, b, b', c, c', c2, d, d']
            (try simp [Tm.enc, hm]); (first | (refine .done ?_; simp [Tm.enc, hm]; done) | (refine Tn.wkRet ?_; simp (maxDischargeDepth := 20)))
    · have hm : mayB t = false := by simp [mayB, k4, a]
      refine ACalls.post (calls_tree 400 fn75 (by simp [Try.f75]) ?_); simp (maxSteps := 3000000) [Tr.map, Try.f75, k4, a]
      (try simp [Tm.enc, hm]); (first | (refine .done ?_; simp [Tm.enc, hm]; done) | (refine Tn.wkRet ?_; simp (maxDischargeDepth := 20)))
  have hm : mayB t = false := by simp [mayB, k1, k2, k3, k4]
  refine ACalls.post (calls_tree 400 fn75 (by simp [Try.f75]) ?_); simp (maxSteps := 3000000) [Tr.map, Try.f75, k1, k2, k3, k4]
  (try simp [Tm.enc, hm]); (first | (refine .done ?_; simp [Tm.enc, hm]; done) | (refine Tn.wkRet ?_; simp (maxDischargeDepth := 20)))

end Go.Proofs.Yteebkkipeiggcaa


/- Contracts: a term that may be, all of it; Check. -/
namespace Go.Proofs.Yteebkkipeiggcaa
open Go Go.Vm

set_option maxRecDepth 20000
set_option maxHeartbeats 1000000

def allB : Tm → Bool
  | ⟨k, n, s, a⟩ => mayB ⟨k, n, s, a⟩ && allsB a
where allsB : List Tm → Bool
  | [] => true
  | t :: l => allB t && allsB l

theorem allB_eq (t : Tm) : allB t = (mayB t && t.args.all allB) := by
  have h : ∀ l : List Tm, allB.allsB l = l.all allB := fun l => by induction l <;> simp [allB.allsB, *]
  cases t; simp [allB, h]

@[simp] def mayF : AV := .fn (.func 75) [] []
abbrev mayH : AH := [.var [mayF]]

/-- The first place of a list where something does not hold. -/
def idxNo : List Tm → Nat → Int
  | [], _ => -1
  | t :: l, k => if allB t then idxNo l (k + 1) else k

theorem idxNo_iff : ∀ (l : List Tm) (k : Nat), decide (0 ≤ idxNo l k) = !l.all allB
  | [], k => by simp [idxNo]
  | t :: l, k => by cases h : allB t <;> simp [idxNo, h, idxNo_iff l (k + 1)] <;> omega

theorem notall_ok (u : Tm) (h : ACalls Try.prog 74 [.agg u.enc, mayF] [] (fun r _ => r = .ret (.bool (allB u)))) :
    ACalls Try.prog 108 [.agg u.enc, .ptr 0 0] mayH (fun r h => r = .ret (.bool (!allB u)) ∧ h = mayH) := by
  refine ACalls.gc [] (by simp) (ACalls.post (calls_tree 400 fn108 (by simp [Try.f108]) ?_)); simp (maxSteps := 3000000) [Tr.map, Try.f108]
  (have hc_ := h); (try simp at hc_); refine ACalls.retW hc_ (by simp (maxDischargeDepth := 20)) (by simp (maxDischargeDepth := 12)) (by simp (maxDischargeDepth := 12)) ?_; clear hc_; (try simp (maxSteps := 3000000) [Tr.map])
  (try simp [Tm.enc]); (first | (refine .done ?_; simp [Tm.enc]; done) | (refine Tn.wkRet ?_; simp (maxDischargeDepth := 20)))

theorem indexno_ok (l : List Tm) (hl : l.length ≤ 1000000) (h : ∀ u ∈ l, ACalls Try.prog 74 [.agg u.enc, mayF] [] (fun r _ => r = .ret (.bool (allB u)))) :
    ACalls Try.prog 122 [.ro 4 (encs l), .fn (.func 108) [] [.ptr 0 0]] mayH (fun r h => r = .ret (.int .i64 (idxNo l 0)) ∧ h = mayH) := by
  refine ACalls.gc [] (by simp) (ACalls.post (calls_tree 400 fn122 (by simp [Try.f122]) ?_)); simp (maxSteps := 3000000) [Tr.map, Try.f122]
  refine AStk.liveT [0, 1, 7, 8] (AStk.gc [] (by simp) (by simp) (by simp) ?_); simp [Tr.map]
  refine AStk.indE (fun d_ a_ h_ => ∃ (ds es : List Tm), (l = ds ++ es ∧ idxNo l 0 = idxNo es ds.length) ∧ d_ = es.length ∧ a_ = ⟨toL 19 (mkT [(0, .ro 4 (encs l)), (1, .fn (.func 108) [] [.ptr 0 0]), (7, .int .i64 l.length), (8, .int .i64 ds.length)] (.e .any)), []⟩ ∧ h_ = mayH) ?_ ?_
  · exact ⟨_, [], l, ⟨rfl, rfl⟩, rfl, by simp [Tr.map], rfl⟩
  rintro d a_ h_ ⟨ds, es, ⟨e1, e2⟩, rfl, rfl, rfl⟩ IH
  cases es with
  | nil =>
    simp at e1; subst e1
    refine stk_run 400 ?_; simp (maxSteps := 3000000) [Tr.map]
    (try simp [Tm.enc, e2, idxNo]); (first | (refine .done ?_; simp [Tm.enc, e2, idxNo]; done) | (refine Tn.wkRet ?_; simp (maxDischargeDepth := 20)))
  | cons u es =>
    obtain ⟨p1, p2, p3, p4, p5⟩ := mid_facts e1
    refine stk_run 400 ?_; simp (maxSteps := 3000000) [Tr.map, p2, p3, p4, p1]
    refine ACalls.at2 [0] (notall_ok u (h u (by simp [e1]))) (by simp) (by simp) (by simp) (by simp) ?_; rintro r_ h1_ ⟨rfl, rfl⟩; refine ⟨by simp, ?_⟩; (try simp); (try simp (maxSteps := 3000000) [Tr.map])
    cases hu : allB u with
    | true =>
      (try simp)
      (try simp (maxSteps := 3000000) [Tr.map])
      (try simp (disch := omega) only [wrap64])
      refine AStk.liveT [0, 1, 7, 8] (AStk.gc [] (by simp) (by simp) (by simp) ?_); simp [Tr.map]
      exact IH _ _ _ (by simp) ⟨ds ++ [u], es, ⟨by simp [e1], by rw [e2]; simp [idxNo, hu]⟩, rfl, by simp [Tr.map, Int.add_assoc, Int.add_comm, Int.add_left_comm], by simp⟩
    | false =>
      (try simp)
      (try simp (maxSteps := 3000000) [Tr.map])
      (try simp [Tm.enc, e2, idxNo, hu]); (first | (refine .done ?_; simp [Tm.enc, e2, idxNo, hu]; done) | (refine Tn.wkRet ?_; simp (maxDischargeDepth := 20)))

theorem containsno_ok (l : List Tm) (hl : l.length ≤ 1000000) (h : ∀ u ∈ l, ACalls Try.prog 74 [.agg u.enc, mayF] [] (fun r _ => r = .ret (.bool (allB u)))) :
    ACalls Try.prog 107 [.ro 4 (encs l), .fn (.func 108) [] [.ptr 0 0]] mayH (fun r h => r = .ret (.bool (!l.all allB)) ∧ h = mayH) := by
  refine ACalls.gc [] (by simp) (ACalls.post (calls_tree 400 fn107 (by simp [Try.f107]) ?_)); simp (maxSteps := 3000000) [Tr.map, Try.f107]
  refine ACalls.at2 [0] (indexno_ok l hl h) (by simp) (by simp) (by simp) (by simp) ?_; rintro r_ h1_ ⟨rfl, rfl⟩; refine ⟨by simp, ?_⟩; (try simp); (try simp (maxSteps := 3000000) [Tr.map])
  have hi := idxNo_iff l 0
  simp only [ge_iff_le, hi]
  (try simp [Tm.enc]); (first | (refine .done ?_; simp [Tm.enc]; done) | (refine Tn.wkRet ?_; simp (maxDischargeDepth := 20)))

theorem all_ok (t : Tm) (hk : t.size ≤ 1000000) : ACalls Try.prog 74 [.agg t.enc, mayF] [] (fun r _ => r = .ret (.bool (allB t))) := by
  induction t using Tm.ind with | _ t ih
  have hmem : ∀ u ∈ t.args, ACalls Try.prog 74 [.agg u.enc, mayF] [] (fun r _ => r = .ret (.bool (allB u))) := fun u hu => ih u hu (by have := Tm.size_lt hu; omega)
  have hlen := t.length_lt
  clear ih
  have hR := allB_eq t
  generalize allB t = R at *
  cases hm : mayB t with
  | false =>
    simp [hm] at hR; subst hR
    refine ACalls.post (calls_tree 400 fn74 (by simp [Try.f74]) ?_); simp (maxSteps := 3000000) [Tr.map, Try.f74]
    (have hc_ := may_ok t (by omega)); (try simp at hc_); refine ACalls.retW hc_ (by simp (maxDischargeDepth := 20)) (by simp (maxDischargeDepth := 12)) (by simp (maxDischargeDepth := 12)) ?_; clear hc_; (try simp (maxSteps := 3000000) [Tr.map, hm])
    (try simp [Tm.enc]); (first | (refine .done ?_; simp [Tm.enc]; done) | (refine Tn.wkRet ?_; simp (maxDischargeDepth := 20)))
  | true =>
    simp [hm] at hR
    refine ACalls.post (calls_tree 400 fn74 (by simp [Try.f74]) ?_); simp (maxSteps := 3000000) [Tr.map, Try.f74]
    (have hc_ := may_ok t (by omega)); (try simp at hc_); refine ACalls.retW hc_ (by simp (maxDischargeDepth := 20)) (by simp (maxDischargeDepth := 12)) (by simp (maxDischargeDepth := 12)) ?_; clear hc_; (try simp (maxSteps := 3000000) [Tr.map, hm])
    refine ACalls.at2 [1] (containsno_ok t.args (by omega) hmem) (by simp) (by simp) (by simp) (by simp) ?_; rintro r_ h1_ ⟨rfl, rfl⟩; refine ⟨by simp, ?_⟩; (try simp); (try simp (maxSteps := 3000000) [Tr.map])
    rw [hR]
    (try simp [Tm.enc]); (first | (refine .done ?_; simp [Tm.enc]; done) | (refine Tn.wkRet ?_; simp (maxDischargeDepth := 20)))

/-- What Check says. -/
def checkT (t : Tm) : Int := if allB t = false then 2 else if 2000 < t.deep then 4 else if 20000 < t.size then 3 else 0

theorem check_ok (t : Tm) (hk : t.size ≤ 1000000) : ACalls Try.prog 42 [.agg t.enc] [] (fun r _ => r = .ret (.int .i64 (checkT t))) := by
  have hR : checkT t = if allB t = false then 2 else if 2000 < t.deep then 4 else if 20000 < t.size then 3 else 0 := rfl
  generalize checkT t = R at *
  have h1 := all_ok t hk
  generalize allB t = b at *
  cases b with
  | false =>
    simp at hR; subst hR
    refine ACalls.post (calls_tree 400 fn42 (by simp [Try.f42]) ?_); simp (maxSteps := 3000000) [Tr.map, Try.f42]
    (have hc_ := h1); (try simp at hc_); refine ACalls.retW hc_ (by simp (maxDischargeDepth := 20)) (by simp (maxDischargeDepth := 12)) (by simp (maxDischargeDepth := 12)) ?_; clear hc_; (try simp (maxSteps := 3000000) [Tr.map])
    (try simp [Tm.enc]); (first | (refine .done ?_; simp [Tm.enc]; done) | (refine Tn.wkRet ?_; simp (maxDischargeDepth := 20)))
  | true =>
    simp at hR
    refine ACalls.post (calls_tree 400 fn42 (by simp [Try.f42]) ?_); simp (maxSteps := 3000000) [Tr.map, Try.f42]
    (have hc_ := h1); (try simp at hc_); refine ACalls.retW hc_ (by simp (maxDischargeDepth := 20)) (by simp (maxDischargeDepth := 12)) (by simp (maxDischargeDepth := 12)) ?_; clear hc_; (try simp (maxSteps := 3000000) [Tr.map])
    (have hc_ := term_Deep_ok t hk); (try simp at hc_); refine ACalls.retW hc_ (by simp (maxDischargeDepth := 20)) (by simp (maxDischargeDepth := 12)) (by simp (maxDischargeDepth := 12)) ?_; clear hc_; (try simp (maxSteps := 3000000) [Tr.map])
    by_cases hd : 2000 < t.deep
    · have hd' : (2000 : Int) < t.deep := by omega
      simp [hd] at hR; subst hR
      simp [hd']
      (try simp [Tm.enc]); (first | (refine .done ?_; simp [Tm.enc]; done) | (refine Tn.wkRet ?_; simp (maxDischargeDepth := 20)))
    · have hd' : ¬ (2000 : Int) < t.deep := by omega
      simp [hd] at hR
      simp only [hd', if_false]
      simp (maxSteps := 3000000) [Tr.map]
      (have hc_ := term_Size_ok t hk); (try simp at hc_); refine ACalls.retW hc_ (by simp (maxDischargeDepth := 20)) (by simp (maxDischargeDepth := 12)) (by simp (maxDischargeDepth := 12)) ?_; clear hc_; (try simp (maxSteps := 3000000) [Tr.map])
      by_cases hs : 20000 < t.size
      · have hs' : (20000 : Int) < t.size := by omega
        simp [hs] at hR; subst hR
        simp [hs']
        (try simp [Tm.enc]); (first | (refine .done ?_; simp [Tm.enc]; done) | (refine Tn.wkRet ?_; simp (maxDischargeDepth := 20)))
      · have hs' : ¬ (20000 : Int) < t.size := by omega
        simp [hs] at hR; subst hR
        simp only [hs', if_false]
        (try simp [Tm.enc]); (first | (refine .done ?_; simp [Tm.enc]; done) | (refine Tn.wkRet ?_; simp (maxDischargeDepth := 20)))

end Go.Proofs.Yteebkkipeiggcaa


/- Plain laws: terms' order. -/
namespace Go.Proofs.Yteebkkipeiggcaa
open Go Go.Vm

def or2 (a b : Int) : Int := if a = 0 then b else a

/-- How three stand: x is of a and b, y of b and c, z of a and c. -/
def Tri (x y z : Int) : Prop := (x ≤ 0 → y ≤ 0 → z ≤ 0 ∧ (z = 0 → x = 0 ∧ y = 0)) ∧ (x ≥ 0 → y ≥ 0 → z ≥ 0 ∧ (z = 0 → x = 0 ∧ y = 0))

theorem tri_or {x1 y1 z1 x2 y2 z2 : Int} (h1 : Tri x1 y1 z1) (h2 : Tri x2 y2 z2) : Tri (or2 x1 x2) (or2 y1 y2) (or2 z1 z2) := by
  unfold Tri or2 at *
  split <;> split <;> split <;> omega

theorem cmpI_neg (a b : Int) : cmpI b a = - cmpI a b := by unfold cmpI; (repeat' split) <;> omega
theorem cmpI_zero (a b : Int) : cmpI a b = 0 ↔ a = b := by unfold cmpI; (repeat' split) <;> omega
theorem cmpI_tri (a b c : Int) : Tri (cmpI a b) (cmpI b c) (cmpI a c) := by unfold Tri cmpI; (repeat' split) <;> omega

theorem cb_neg : ∀ a b : List UInt8, Lib.compareBytes b a = - Lib.compareBytes a b
  | [], [] => by simp [Lib.compareBytes]
  | [], _ :: _ => by simp [Lib.compareBytes]
  | _ :: _, [] => by simp [Lib.compareBytes]
  | x :: a, y :: b => by
    simp only [Lib.compareBytes]
    by_cases h1 : x < y
    · have h2 : ¬ y < x := fun h => absurd (UInt8.lt_trans h1 h) (UInt8.lt_irrefl _)
      simp [h1, h2]
    · by_cases h2 : y < x
      · simp [h1, h2]
      · simp [h1, h2, cb_neg a b]

theorem u8_eq {x y : UInt8} (h1 : ¬ x < y) (h2 : ¬ y < x) : x = y := by
  rw [UInt8.lt_iff_toNat_lt] at h1 h2
  exact UInt8.toNat_inj.1 (by omega)

theorem cb_zero : ∀ a b : List UInt8, Lib.compareBytes a b = 0 ↔ a = b
  | [], [] => by simp [Lib.compareBytes]
  | [], _ :: _ => by simp [Lib.compareBytes]
  | _ :: _, [] => by simp [Lib.compareBytes]
  | x :: a, y :: b => by
    simp only [Lib.compareBytes]
    by_cases h1 : x < y
    · have : x ≠ y := fun e => by subst e; exact UInt8.lt_irrefl _ h1
      simp [h1, this]
    · by_cases h2 : y < x
      · have : x ≠ y := fun e => by subst e; exact UInt8.lt_irrefl _ h2
        simp [h1, h2, this]
      · simp [h1, h2, cb_zero a b, u8_eq h1 h2]

theorem cb_tri : ∀ a b c : List UInt8, Tri (Lib.compareBytes a b) (Lib.compareBytes b c) (Lib.compareBytes a c)
  | [], [], [] => by simp [Lib.compareBytes, Tri]
  | [], [], _ :: _ => by simp [Lib.compareBytes, Tri]
  | [], _ :: _, [] => by simp [Lib.compareBytes, Tri]
  | [], _ :: _, _ :: _ => by simp [Lib.compareBytes, Tri]
  | _ :: _, [], [] => by simp [Lib.compareBytes, Tri]
  | _ :: _, [], _ :: _ => by simp [Lib.compareBytes, Tri]
  | _ :: _, _ :: _, [] => by simp [Lib.compareBytes, Tri]
  | x :: a, y :: b, z :: c => by
    have ih := cb_tri a b c
    have e : ∀ (u v : UInt8) (l m : List UInt8), Lib.compareBytes (u :: l) (v :: m) = or2 (cmpI u.toNat v.toNat) (Lib.compareBytes l m) := fun u v l m => by
      simp only [Lib.compareBytes, or2, cmpI, UInt8.lt_iff_toNat_lt]
      by_cases h1 : u.toNat < v.toNat
      · have : (u.toNat : Int) < v.toNat := by omega
        simp [h1, this]
      · by_cases h2 : v.toNat < u.toNat
        · have h3 : (v.toNat : Int) < u.toNat := by omega
          have h4 : ¬ (u.toNat : Int) < v.toNat := by omega
          simp [h1, h2, h3, h4]
        · have h3 : ¬ (v.toNat : Int) < u.toNat := by omega
          have h4 : ¬ (u.toNat : Int) < v.toNat := by omega
          simp [h1, h2, h3, h4]
    rw [e, e, e]
    exact tri_or (cmpI_tri _ _ _) ih

theorem cmpS_neg (a b : ByteArray) : cmpS b a = - cmpS a b := cb_neg _ _
theorem cmpS_zero (a b : ByteArray) : cmpS a b = 0 ↔ a = b := by
  unfold cmpS
  rw [cb_zero]
  constructor
  · intro h
    obtain ⟨⟨a⟩⟩ := a; obtain ⟨⟨b⟩⟩ := b
    simpa using h
  · intro h; rw [h]
theorem cmpS_tri (a b c : ByteArray) : Tri (cmpS a b) (cmpS b c) (cmpS a c) := cb_tri _ _ _

theorem orI3 (a b c : Int) : orI [a, b, c] = or2 a (or2 b c) := by simp only [orI, or2]; (repeat' split) <;> omega

theorem or2_neg (a b : Int) : or2 (-a) (-b) = - or2 a b := by unfold or2; split <;> split <;> omega
theorem or2_zero (a b : Int) : or2 a b = 0 ↔ a = 0 ∧ b = 0 := by unfold or2; split <;> omega

theorem cmpL_cons (x y : Tm) (a b : List Tm) : cmpL (x :: a) (y :: b) = or2 (cmpT x y) (cmpL a b) := by simp [cmpL, or2]

theorem cmpT_k {s t : Tm} {k : Int} (h1 : s.kind = k) (h2 : t.kind = k) : cmpT s t = if k = 1 ∨ k = 2 then cmpI s.n t.n else orI [cmpI s.args.length t.args.length, cmpS s.s t.s, cmpL s.args t.args] := by
  rw [cmpT_eq, h1, h2]; simp
theorem cmpT_ne {s t : Tm} (h : s.kind ≠ t.kind) : cmpT s t = cmpI s.kind t.kind := by rw [cmpT_eq, if_pos h]

theorem cmpT_neg (x y : Tm) : cmpT y x = - cmpT x y := by
  induction x using Tm.ind generalizing y with | _ x ih
  have hl : ∀ a b : List Tm, (∀ u ∈ a, u ∈ x.args) → cmpL b a = - cmpL a b := by
    intro a
    induction a with
    | nil => intro b _; cases b <;> simp [cmpL]
    | cons u a iha =>
      intro b hm
      cases b with
      | nil => simp [cmpL]
      | cons v b => rw [cmpL_cons, cmpL_cons, ih u (hm u (by simp)) v, iha b (fun w hw => hm w (by simp [hw])), or2_neg]
  by_cases hk : x.kind = y.kind
  · rw [cmpT_k hk rfl, cmpT_k rfl hk]
    split
    · exact cmpI_neg _ _
    · rw [orI3, orI3, cmpI_neg, cmpS_neg, hl _ _ (fun u h => h), or2_neg, or2_neg]
  · rw [cmpT_ne hk, cmpT_ne (fun h => hk h.symm)]
    exact cmpI_neg _ _

def Bd (a : Int) : Prop := a = -1 ∨ a = 0 ∨ a = 1
theorem cmpI_bd (a b : Int) : Bd (cmpI a b) := by unfold Bd cmpI; (repeat' split) <;> omega
theorem or2_bd {a b : Int} (h1 : Bd a) (h2 : Bd b) : Bd (or2 a b) := by unfold Bd or2 at *; split <;> omega
theorem cb_bd : ∀ a b : List UInt8, Bd (Lib.compareBytes a b)
  | [], [] => by simp [Lib.compareBytes, Bd]
  | [], _ :: _ => by simp [Lib.compareBytes, Bd]
  | _ :: _, [] => by simp [Lib.compareBytes, Bd]
  | x :: a, y :: b => by
    simp only [Lib.compareBytes]
    (repeat' split)
    · exact .inl rfl
    · exact .inr (.inr rfl)
    · exact cb_bd a b
theorem cmpT_bd (x y : Tm) : Bd (cmpT x y) := by
  induction x using Tm.ind generalizing y with | _ x ih
  have hl : ∀ a b : List Tm, (∀ u ∈ a, u ∈ x.args) → Bd (cmpL a b) := by
    intro a
    induction a with
    | nil => intro b _; cases b <;> simp [cmpL, Bd]
    | cons u a iha =>
      intro b hm
      cases b with
      | nil => simp [cmpL, Bd]
      | cons v b => rw [cmpL_cons]; exact or2_bd (ih u (hm u (by simp)) v) (iha b (fun w hw => hm w (by simp [hw])))
  rw [cmpT_eq]
  split
  · exact cmpI_bd _ _
  split
  · exact cmpI_bd _ _
  · rw [orI3]; exact or2_bd (cmpI_bd _ _) (or2_bd (cb_bd _ _) (hl _ _ (fun u h => h)))

theorem cmpT_tri (x y z : Tm) : Tri (cmpT x y) (cmpT y z) (cmpT x z) := by
  induction x using Tm.ind generalizing y z with | _ x ih
  have hl : ∀ a b c : List Tm, (∀ u ∈ a, u ∈ x.args) → Tri (cmpL a b) (cmpL b c) (cmpL a c) := by
    intro a
    induction a with
    | nil => intro b c _; cases b <;> cases c <;> simp [cmpL, Tri]
    | cons u a iha =>
      intro b c hm
      cases b with
      | nil => cases c <;> simp [cmpL, Tri]
      | cons v b =>
        cases c with
        | nil => simp [cmpL, Tri]
        | cons w c =>
          rw [cmpL_cons, cmpL_cons, cmpL_cons]
          exact tri_or (ih u (hm u (by simp)) v w) (iha b c (fun w hw => hm w (by simp [hw])))
  have e : ∀ s t : Tm, s.kind ≠ t.kind → cmpT s t = cmpI s.kind t.kind := fun s t h => by rw [cmpT_eq, if_pos h]
  by_cases h1 : x.kind = y.kind
  · by_cases h2 : y.kind = z.kind
    · rw [cmpT_k h1 rfl, cmpT_k (s := y) rfl h2.symm, cmpT_k h1 h2.symm]
      split
      · exact cmpI_tri _ _ _
      · rw [orI3, orI3, orI3]
        exact tri_or (cmpI_tri _ _ _) (tri_or (cmpS_tri _ _ _) (hl _ _ _ (fun u h => h)))
    · rw [e y z h2, e x z (fun h => h2 (h1 ▸ h)), h1]
      unfold Tri cmpI
      (repeat' split) <;> omega
  · by_cases h2 : y.kind = z.kind
    · rw [e x y h1, e x z (fun h => h1 (h2 ▸ h)), h2]
      unfold Tri cmpI
      (repeat' split) <;> omega
    · rw [e x y h1, e y z h2]
      by_cases h3 : x.kind = z.kind
      · unfold Tri cmpI
        (repeat' split) <;> omega
      · rw [e x z h3]
        exact cmpI_tri _ _ _

theorem cmpT_zero {x y : Tm} (hx : Fine x) (hy : Fine y) : cmpT x y = 0 ↔ x = y := by
  induction hx generalizing y with
  | var n h =>
    rw [cmpT_eq]
    cases hy with
    | var m h' => simp [cmpI_zero]
    | int m => simp [cmpI_zero]
    | atom s h => simp [cmpI_zero]
    | comp s h l hl hs => simp [cmpI_zero]
  | int n =>
    rw [cmpT_eq]
    cases hy with
    | var m h' => simp [cmpI_zero]
    | int m => simp [cmpI_zero]
    | atom s h => simp [cmpI_zero]
    | comp s h l hl hs => simp [cmpI_zero]
  | atom s h =>
    rw [cmpT_eq]
    cases hy with
    | var m h' => simp [cmpI_zero]
    | int m => simp [cmpI_zero]
    | atom s' h' => simp [orI3, or2_zero, cmpI_zero, cmpS_zero, cmpL]
    | comp s h l hl hs => simp [cmpI_zero]
  | comp s h l hl hs ih =>
    have hll : ∀ a b : List Tm, (∀ u ∈ a, u ∈ l) → (∀ u ∈ b, Fine u) → a.length = b.length → (cmpL a b = 0 ↔ a = b) := by
      intro a
      induction a with
      | nil => intro b _ _ h; cases b with
        | nil => simp [cmpL]
        | cons v b => simp at h
      | cons u a iha =>
        intro b hm hb h
        cases b with
        | nil => simp at h
        | cons v b =>
          rw [cmpL_cons, or2_zero, ih u (hm u (by simp)) (hb v (by simp)), iha b (fun w hw => hm w (by simp [hw])) (fun w hw => hb w (by simp [hw])) (by simpa using h)]
          simp
    rw [cmpT_eq]
    cases hy with
    | var m h' => simp [cmpI_zero]
    | int m => simp [cmpI_zero]
    | atom s' h' => simp [cmpI_zero]
    | comp s' h' l' hl' hs' =>
      simp [orI3, or2_zero, cmpI_zero, cmpS_zero]
      constructor
      · rintro ⟨a, b, c⟩
        exact ⟨b, (hll l l' (fun u h => h) hs' (by omega)).1 c⟩
      · rintro ⟨a, b⟩
        subst b
        exact ⟨rfl, a, (hll l l (fun u h => h) hs' rfl).2 rfl⟩

end Go.Proofs.Yteebkkipeiggcaa


/- The run of FaultApart. -/
namespace Go.Proofs.Yteebkkipeiggcaa
open Go Go.Vm

set_option maxRecDepth 20000
set_option maxHeartbeats 1000000

/-- How many arguments, all through. -/
inductive Ar (n : Nat) : Tm → Prop
  | mk (t : Tm) (h1 : t.args.length ≤ n) (h2 : ∀ u ∈ t.args, Ar n u) : Ar n t

theorem kidsF_ar {g : List Pt → Tm × Nat} (hg : ∀ l, Ar 7 (g l).1) : ∀ k l, ∀ u ∈ (kidsF g k l).1, Ar 7 u
  | 0, l, u, hu => by simp [kidsF] at hu
  | k + 1, l, u, hu => by
    simp [kidsF] at hu
    rcases hu with rfl | hu
    · exact hg l
    · exact kidsF_ar hg k _ u hu
theorem atomA_ar : Ar 7 atomA := .mk _ (by simp [atomA]) (by simp [atomA])
theorem ofF_ar : ∀ f l, Ar 7 (ofF f l).1
  | 0, l => atomA_ar
  | f + 1, [] => atomA_ar
  | f + 1, p :: l => by
    simp only [ofF]
    exact .mk _ (by rw [kidsF_length]; omega) (kidsF_ar (ofF_ar f) _ _)
theorem mendF_ar (t : Tm) (h : Ar 7 t) : Ar 7 (mendF t) := by
  induction t using Tm.ind with | _ t ih
  obtain ⟨_, h1, h2⟩ := h
  rw [mendF_eq]
  (repeat' split) <;> first | exact atomA_ar | (refine .mk _ ?_ ?_ <;> simp; done) | skip
  rw [mends_map]
  refine .mk _ (by simpa using h1) fun u hu => ?_
  simp at hu
  obtain ⟨v, hv, rfl⟩ := hu
  exact ih v hv (h2 v hv)
theorem goodT_ar (l : List Pt) : Ar 7 (goodT l) := mendF_ar _ (ofF_ar _ _)
theorem fine_all {t : Tm} (h : Fine t) (ha : Ar 7 t) : allB t = true := by
  induction h with
  | var n h => rw [allB_eq]; simp [mayB, h]
  | int n => rw [allB_eq]; simp [mayB]
  | atom s h => rw [allB_eq]; simp [mayB]; omega
  | comp s h l hl hs ih =>
    obtain ⟨_, h1, h2⟩ := ha
    simp only at h1 h2
    have : 0 < l.length := List.length_pos_iff.2 hl
    rw [allB_eq]
    simp [mayB]
    refine ⟨by constructor <;> omega, fun u hu => ih u hu (h2 u hu)⟩
theorem good_all (l : List Pt) : allB (goodT l) = true := fine_all (goodT_fine l) (goodT_ar l)

theorem formalT_all (e : Int) {what : ByteArray} (hw : what.size ≤ 500) {t : Tm} (ht : allB t = true) : allB (formalT e what t) = true := by
  have h1 : allB (atomT what) = true := by rw [allB_eq]; simp [mayB]; omega
  have h2 : allB (atomT ⟨#[105, 110, 116, 95, 111, 118, 101, 114, 102, 108, 111, 119]⟩) = true := by rw [allB_eq]; simp [mayB, ByteArray.size]
  have h3 : allB (atomT ⟨#[122, 101, 114, 111, 95, 100, 105, 118, 105, 115, 111, 114]⟩) = true := by rw [allB_eq]; simp [mayB, ByteArray.size]
  simp only [atomT] at h1 h2 h3
  unfold formalT
  (repeat' split) <;> (rw [allB_eq]; simp [mayB, ByteArray.size, h1, h2, h3, ht])

theorem errorT_all {x : Tm} (hx : allB x = true) {s : ByteArray} (hs : s.size ≤ 500) (n : Int) : allB (errorT x s n) = true := by
  have h1 : allB (atomT s) = true := by rw [allB_eq]; simp [mayB]; omega
  have h2 : allB (intT n) = true := by rw [allB_eq]; simp [mayB]
  have h3 : allB (indT s n) = true := by
    simp only [atomT, intT] at h1 h2
    rw [allB_eq]; simp [mayB, ByteArray.size, h1, h2]
  simp only [indT, compT, atomT, intT] at h3
  rw [allB_eq]; simp [mayB, ByteArray.size, hx, h3]

theorem error_check {x : Tm} (hx : allB x = true) (hk : x.size ≤ 500) {s : ByteArray} (hs : s.size ≤ 500) (n : Int) : checkT (errorT x s n) = 0 := by
  have h1 := errorT_all hx hs n
  have h2 := errorT_size x s n
  have h3 := deep_le_size (errorT x s n)
  unfold checkT
  rw [h1, if_neg (by simp), if_neg (by omega), if_neg (by omega)]

def errsW : List Int := [12, 13, 14, 8, 11, 10, 3]
theorem errsW_get {i : Nat} (h : i < 7) : ∃ e, errsW[i]? = some e := ⟨errsW[i]'(by simpa [errsW] using h), List.getElem?_eq_getElem _⟩
theorem formal_apart (what : ByteArray) (t : Tm) {i j : Nat} {e g : Int} (h1 : errsW[i]? = some e) (h2 : errsW[j]? = some g) (hj : j < i) : cmpT (formalT e what t) (formalT g what t) ≠ 0 := by
  have hi : i < 7 := by have := (List.getElem?_eq_some_iff.1 h1).1; simpa [errsW] using this
  rcases i with _ | _ | _ | _ | _ | _ | _ | i <;> (try (exfalso; omega)) <;> (simp [errsW] at h1; subst h1) <;>
  rcases j with _ | _ | _ | _ | _ | _ | _ | j <;> (try (exfalso; omega)) <;> (simp [errsW] at h2; subst h2) <;>
  (rw [cmpT_eq]; simp [formalT, orI3, or2_zero, cmpI_zero, cmpS_zero, cmpL_cons, cmpT_eq (Tm.mk _ _ _ _)])

theorem faultApart_run (what : ByteArray) (l : List Pt) (_ : what.size ≤ maxLen) (hb : ∀ p ∈ l, 0 ≤ p.args ∧ p.args ≤ 255) :
    ACalls Try.prog 9 [.str what, .ro 4 (encP l)] [] (fun r _ => r = .ret (.bool true)) := by
  refine ACalls.post (calls_tree 400 fn9 (by simp [Try.f9]) ?_); simp (maxSteps := 3000000) [Tr.map, Try.f9]
  (have hc_ := law13_alive_ok); (try simp at hc_); refine ACalls.retW hc_ (by simp (maxDischargeDepth := 20)) (by simp (maxDischargeDepth := 12)) (by simp (maxDischargeDepth := 12)) ?_; clear hc_; (try simp (maxSteps := 3000000) [Tr.map])
  by_cases h60 : 60 < l.length
  · (have hc_ := great_big l h60); (try simp at hc_); refine ACalls.retW hc_ (by simp (maxDischargeDepth := 20)) (by simp (maxDischargeDepth := 12)) (by simp (maxDischargeDepth := 12)) ?_; clear hc_; (try simp (maxSteps := 3000000) [Tr.map])
    (try simp [Tm.enc]); (first | (refine .done ?_; simp [Tm.enc]; done) | (refine Tn.wkRet ?_; simp (maxDischargeDepth := 20)))
  (have hc_ := great_small l (by omega)); (try simp at hc_); refine ACalls.retW hc_ (by simp (maxDischargeDepth := 20)) (by simp (maxDischargeDepth := 12)) (by simp (maxDischargeDepth := 12)) ?_; clear hc_; (try simp (maxSteps := 3000000) [Tr.map])
  by_cases hwh : (500 : Int) < what.size
  · simp (maxSteps := 3000000) [Tr.map, hwh]
    (try simp [Tm.enc]); (first | (refine .done ?_; simp [Tm.enc]; done) | (refine Tn.wkRet ?_; simp (maxDischargeDepth := 20)))
  simp (maxSteps := 3000000) [Tr.map, hwh]
  have hwh' : what.size ≤ 500 := by omega
  have hsz := goodT_size l (by omega)
  have hall := good_all l
  (have hc_ := good_ok l (by omega) hb); (try simp at hc_); refine ACalls.retW hc_ (by simp (maxDischargeDepth := 20)) (by simp (maxDischargeDepth := 12)) (by simp (maxDischargeDepth := 12)) ?_; clear hc_; (try simp (maxSteps := 3000000) [Tr.map])
  generalize goodT l = t at *
  have hget : ∀ i e, errsW[i]? = some e → (errsW.map (AV.int IntKind.i64))[i]? = some (AV.int IntKind.i64 e) := fun i e h => by rw [List.getElem?_map, h]; rfl
  have hn1 : ∀ f, subL f (errsW.map (AV.int IntKind.i64)) = errsW.map (AV.int IntKind.i64) := fun f => by simp [errsW]
  have hn2 : ∀ f, (errsW.map (AV.int IntKind.i64)).map (AV.sub f) = errsW.map (AV.int IntKind.i64) := fun f => by simp [errsW]
  generalize hA : errsW.map (AV.int IntKind.i64) = A at *
  refine AStk.liveT [0, 5, 6, 24, 25] ?_; simp [Tr.map]
  refine AStk.indE (fun d_ a_ h_ => ∃ (i : Nat), (i ≤ 7) ∧ d_ = 7 - i ∧ a_ = ⟨toL 69 (mkT [(0, .str what), (5, .ptr 0 0), (6, .ptr 1 0), (24, .agg A), (25, .int .i64 i)] (.e .any)), []⟩ ∧ h_ = [.var t.enc, .var A]) ?_ ?_
  · exact ⟨_, 0, by omega, rfl, by simp [Tr.map, ← hA, errsW], by simp [← hA, errsW]⟩
  clear hA
  rintro d a h ⟨i, hi, rfl, rfl, rfl⟩ IH
  by_cases hlt : i < 7
  · obtain ⟨e, he⟩ := errsW_get hlt
    have hlt' : (i : Int) < 7 := by omega
    have hi' : (i : Int) ≤ 7 := by omega
    have hA := hget i e he
    have hfs := formalT_size e what t
    have hch := error_check (formalT_all e hwh' hall) (by omega) hwh' (i : Int)
    have k1 := formal_ok e what t (by omega)
    have hap := fun j g => formal_apart what t (i := i) (j := j) (g := g) he
    generalize hx : formalT e what t = x at *
    have k2 := fault_error_ok x what i (by omega)
    have k3 := check_ok (errorT x what i) (by rw [errorT_size]; omega)
    rw [hch] at k3
    refine stk_run 400 ?_; simp (maxSteps := 3000000) [Tr.map, hn1, hn2, hlt', hA]
    (have hc_ := k1); (try simp at hc_); refine ACalls.retW hc_ (by simp (maxDischargeDepth := 20)) (by simp (maxDischargeDepth := 12)) (by simp (maxDischargeDepth := 12)) ?_; clear hc_; (try simp (maxSteps := 3000000) [Tr.map, hn1, hn2])
    (have hc_ := k2); (try simp at hc_); refine ACalls.retW hc_ (by simp (maxDischargeDepth := 20)) (by simp (maxDischargeDepth := 12)) (by simp (maxDischargeDepth := 12)) ?_; clear hc_; (try simp (maxSteps := 3000000) [Tr.map, hn1, hn2])
    (have hc_ := k3); (try simp at hc_); refine ACalls.retW hc_ (by simp (maxDischargeDepth := 20)) (by simp (maxDischargeDepth := 12)) (by simp (maxDischargeDepth := 12)) ?_; clear hc_; (try simp (maxSteps := 3000000) [Tr.map, hn1, hn2, hi'])
    have IH1 := IH
    clear IH
    refine AStk.liveT [0, 5, 6, 8, 24, 25, 51, 52, 53] (AStk.gc [0, 1] (by simp) (by simp) (by simp) ?_); simp [Tr.map, hn1, hn2]
    refine AStk.indE (fun d_ a_ h_ => ∃ (j : Nat), (j ≤ i) ∧ d_ = i - j ∧ a_ = ⟨toL 69 (mkT [(0, .str what), (5, .ptr 0 0), (6, .ptr 1 0), (8, .int .i64 e), (24, .agg A), (25, .int .i64 i), (51, .vsl 1 0 i 1), (52, .int .i64 i), (53, .int .i64 j)] (.e .any)), []⟩ ∧ h_ = [.var t.enc, .var A]) ?_ ?_
    · exact ⟨_, 0, by omega, rfl, by simp [Tr.map, hn1], by simp [hn2]⟩
    rintro d a h ⟨j, hj, rfl, rfl, rfl⟩ IH
    by_cases hjt : j < i
    · obtain ⟨g, hg⟩ := errsW_get (show j < 7 by omega)
      have hjt' : (j : Int) < i := by omega
      have hAj := hget j g hg
      have hne := hap j g hg hjt
      have hgs := formalT_size g what t
      have k4 := formal_ok g what t (by omega)
      generalize formalT g what t = y at *
      have k5 := cmp_ok x y (by omega)
      generalize cmpT x y = c at *
      refine stk_run 400 ?_; simp (maxSteps := 3000000) [Tr.map, hn1, hn2, hjt', hAj]
      refine stk_draw mixed (tabOf_ok _) (fnOf_ok _) 7 (by kernel_rfl) ?_; simp (maxSteps := 3000000) [Tr.map, hn1, hn2]
      (have hc_ := k1); (try simp at hc_); refine QCall.introW hc_ (by simp (maxDischargeDepth := 20)) (by simp (maxDischargeDepth := 12)) (by simp (maxDischargeDepth := 12)) ?_; clear hc_; (try simp (maxSteps := 3000000) [Tr.map, hn1, hn2])
      refine stk_run 400 ?_; simp (maxSteps := 3000000) [Tr.map, hn1, hn2]
      (have hc_ := k4); (try simp at hc_); refine ACalls.retW hc_ (by simp (maxDischargeDepth := 20)) (by simp (maxDischargeDepth := 12)) (by simp (maxDischargeDepth := 12)) ?_; clear hc_; (try simp (maxSteps := 3000000) [Tr.map, hn1, hn2])
      (have hc_ := k5); (try simp at hc_); refine ACalls.retW hc_ (by simp (maxDischargeDepth := 20)) (by simp (maxDischargeDepth := 12)) (by simp (maxDischargeDepth := 12)) ?_; clear hc_; (try simp (maxSteps := 3000000) [Tr.map, hn1, hn2, hne])
      (try simp (disch := omega) only [wrap64])
      refine AStk.liveT [0, 5, 6, 8, 24, 25, 51, 52, 53] (AStk.gc [0, 1] (by simp) (by simp) (by simp) ?_); simp [Tr.map, hn1, hn2]
      exact IH _ _ _ (by omega) ⟨j + 1, by omega, rfl, by simp [Tr.map, hn1], by simp [hn2]⟩
    · have hjt' : ¬ (j : Int) < i := by omega
      have IH := IH1
      refine stk_run 400 ?_; simp (maxSteps := 3000000) [Tr.map, hn1, hn2, hjt']
      (try simp (disch := omega) only [wrap64])
      refine AStk.liveT [0, 5, 6, 24, 25] (AStk.gc [0, 1] (by simp) (by simp) (by simp) ?_); simp [Tr.map, hn1, hn2]
      exact IH _ _ _ (by omega) ⟨i + 1, by omega, rfl, by simp [Tr.map, hn1], by simp [hn2]⟩
  · have hlt' : ¬ (i : Int) < 7 := by omega
    refine stk_run 400 ?_; simp (maxSteps := 3000000) [Tr.map, hn1, hn2, hlt']
    (try simp [Tm.enc]); (first | (refine .done ?_; simp [Tm.enc]; done) | (refine Tn.wkRet ?_; simp (maxDischargeDepth := 20)))

end Go.Proofs.Yteebkkipeiggcaa
