/- The run of ArithNests. -/
import Derived.Test.YteebkkipeiggcaaB4
set_option linter.unusedVariables false
set_option linter.unusedSimpArgs false
namespace Go.Proofs.Yteebkkipeiggcaa
open Go Go.Vm

set_option maxRecDepth 20000
set_option maxHeartbeats 2000000

theorem arithNests_run (op : ByteArray) (l m : List Pt) (_ : op.size ≤ maxLen) (hl : ∀ p ∈ l, (0 ≤ p.args ∧ p.args ≤ 255) ∧ In64 p.n) (hm : ∀ p ∈ m, (0 ≤ p.args ∧ p.args ≤ 255) ∧ In64 p.n) :
    ACalls Try.prog 11 [.str op, .ro 4 (encP l), .ro 4 (encP m)] [] (fun r _ => r = .ret (.bool true)) := by
  refine ACalls.post (calls_tree 400 fn11 (by simp [Try.f11]) ?_); simp (maxSteps := 3000000) [Tr.map, Try.f11]
  (have hc_ := law12_alive_ok); (try simp at hc_); refine ACalls.retW hc_ (by simp (maxDischargeDepth := 20)) (by simp (maxDischargeDepth := 12)) (by simp (maxDischargeDepth := 12)) ?_; clear hc_; (try simp (maxSteps := 3000000) [Tr.map])
  by_cases l60 : 60 < l.length
  · (have hc_ := great_big l l60); (try simp at hc_); refine ACalls.retW hc_ (by simp (maxDischargeDepth := 20)) (by simp (maxDischargeDepth := 12)) (by simp (maxDischargeDepth := 12)) ?_; clear hc_; (try simp (maxSteps := 3000000) [Tr.map])
    (try simp [Tm.enc]); (first | (refine .done ?_; simp [Tm.enc]; done) | (refine Tn.wkRet ?_; simp (maxDischargeDepth := 20)) | (refine Tn.wkPan ?_; simp (maxDischargeDepth := 20)))
  (have hc_ := great_small l (by omega)); (try simp at hc_); refine ACalls.retW hc_ (by simp (maxDischargeDepth := 20)) (by simp (maxDischargeDepth := 12)) (by simp (maxDischargeDepth := 12)) ?_; clear hc_; (try simp (maxSteps := 3000000) [Tr.map])
  by_cases m60 : 60 < m.length
  · (have hc_ := great_big m m60); (try simp at hc_); refine ACalls.retW hc_ (by simp (maxDischargeDepth := 20)) (by simp (maxDischargeDepth := 12)) (by simp (maxDischargeDepth := 12)) ?_; clear hc_; (try simp (maxSteps := 3000000) [Tr.map])
    (try simp [Tm.enc]); (first | (refine .done ?_; simp [Tm.enc]; done) | (refine Tn.wkRet ?_; simp (maxDischargeDepth := 20)) | (refine Tn.wkPan ?_; simp (maxDischargeDepth := 20)))
  (have hc_ := great_small m (by omega)); (try simp at hc_); refine ACalls.retW hc_ (by simp (maxDischargeDepth := 20)) (by simp (maxDischargeDepth := 12)) (by simp (maxDischargeDepth := 12)) ?_; clear hc_; (try simp (maxSteps := 3000000) [Tr.map])
  by_cases hop : (1000 : Int) < op.size
  · simp (maxSteps := 3000000) [Tr.map, hop]
    (try simp [Tm.enc]); (first | (refine .done ?_; simp [Tm.enc]; done) | (refine Tn.wkRet ?_; simp (maxDischargeDepth := 20)) | (refine Tn.wkPan ?_; simp (maxDischargeDepth := 20)))
  simp (maxSteps := 3000000) [Tr.map, hop]
  have hop' : op.size ≤ 1000 := by omega
  (have hc_ := good_ok l (by omega) fun p hp => (hl p hp).1); (try simp at hc_); refine ACalls.retW hc_ (by simp (maxDischargeDepth := 20)) (by simp (maxDischargeDepth := 12)) (by simp (maxDischargeDepth := 12)) ?_; clear hc_; (try simp (maxSteps := 3000000) [Tr.map])
  (have hc_ := good_ok m (by omega) fun p hp => (hm p hp).1); (try simp at hc_); refine ACalls.retW hc_ (by simp (maxDischargeDepth := 20)) (by simp (maxDischargeDepth := 12)) (by simp (maxDischargeDepth := 12)) ?_; clear hc_; (try simp (maxSteps := 3000000) [Tr.map])
  have sx := goodT_size l (by omega)
  have sy := goodT_size m (by omega)
  have ix := goodT_inR l fun p hp => (hl p hp).2
  have iy := goodT_inR m fun p hp => (hm p hp).2
  have ax := good_all l
  have ay := good_all m
  have cx := good_check l (by omega)
  have cy := good_check m (by omega)
  generalize goodT l = x at *
  generalize goodT m = y at *
  have e1 := ar_Eval_ok x ix (by omega)
  have e2 := ar_Eval_ok y iy (by omega)
  have e3 := ar_Eval_ok ⟨4, 0, op, [x, y]⟩ (two_inR ix iy) (by rw [two_size]; omega)
  rw [evE_P cx] at e1
  rw [evE_P cy] at e2
  rw [evE_P (two_check hop' ax ay (by omega)), evalT_two] at e3
  have f3 := law12_f_ok op [x, y]
  have bx := fun e t => evalT_bad (t := x) (e := e) (x := t)
  have byy := fun e t => evalT_bad (t := y) (e := e) (x := t)
  have nx := fun n => evalT_in ix (n := n)
  have ny := fun n => evalT_in iy (n := n)
  generalize evalT x = X at *
  generalize evalT y = Y at *
  simp only [Tm.enc, encs_cons, encs_nil] at f3 e3
  cases X with
  | bad e t =>
    have h0 := bx e t rfl
    simp only [evP] at e1
    clear e3
    cases Y with
    | bad g u =>
      simp only [evP] at e2
      (have hc_ := e1); (try simp at hc_); refine ACalls.retW hc_ (by simp (maxDischargeDepth := 20)) (by simp (maxDischargeDepth := 12)) (by simp (maxDischargeDepth := 12)) ?_; clear hc_; (try simp (maxSteps := 3000000) [Tr.map])
      (have hc_ := e2); (try simp at hc_); refine ACalls.retW hc_ (by simp (maxDischargeDepth := 20)) (by simp (maxDischargeDepth := 12)) (by simp (maxDischargeDepth := 12)) ?_; clear hc_; (try simp (maxSteps := 3000000) [Tr.map, h0])
      (try simp [Tm.enc]); (first | (refine .done ?_; simp [Tm.enc]; done) | (refine Tn.wkRet ?_; simp (maxDischargeDepth := 20)) | (refine Tn.wkPan ?_; simp (maxDischargeDepth := 20)))
    | val n =>
      simp only [evP] at e2
      (have hc_ := e1); (try simp at hc_); refine ACalls.retW hc_ (by simp (maxDischargeDepth := 20)) (by simp (maxDischargeDepth := 12)) (by simp (maxDischargeDepth := 12)) ?_; clear hc_; (try simp (maxSteps := 3000000) [Tr.map])
      (have hc_ := e2); (try simp at hc_); refine ACalls.retW hc_ (by simp (maxDischargeDepth := 20)) (by simp (maxDischargeDepth := 12)) (by simp (maxDischargeDepth := 12)) ?_; clear hc_; (try simp (maxSteps := 3000000) [Tr.map, h0])
      (try simp [Tm.enc]); (first | (refine .done ?_; simp [Tm.enc]; done) | (refine Tn.wkRet ?_; simp (maxDischargeDepth := 20)) | (refine Tn.wkPan ?_; simp (maxDischargeDepth := 20)))
  | val k =>
    simp only [evP] at e1
    cases Y with
    | bad g u =>
      have h0 := byy g u rfl
      simp only [evP] at e2
      clear e3
      (have hc_ := e1); (try simp at hc_); refine ACalls.retW hc_ (by simp (maxDischargeDepth := 20)) (by simp (maxDischargeDepth := 12)) (by simp (maxDischargeDepth := 12)) ?_; clear hc_; (try simp (maxSteps := 3000000) [Tr.map])
      (have hc_ := e2); (try simp at hc_); refine ACalls.retW hc_ (by simp (maxDischargeDepth := 20)) (by simp (maxDischargeDepth := 12)) (by simp (maxDischargeDepth := 12)) ?_; clear hc_; (try simp (maxSteps := 3000000) [Tr.map, h0])
      (try simp [Tm.enc]); (first | (refine .done ?_; simp [Tm.enc]; done) | (refine Tn.wkRet ?_; simp (maxDischargeDepth := 20)) | (refine Tn.wkPan ?_; simp (maxDischargeDepth := 20)))
    | val n =>
      simp only [evP] at e2
      have t2 := num_two_ok op k n (nx k rfl) (ny n rfl)
      have tin := two_in (nx k rfl) (ny n rfl) op
      have tzb := two_zb op k n
      by_cases hk : knowsB op 2 = false
      · have h8 : (twoT op k n).2 = 8 := by
          unfold knowsB at hk
          simp at hk
          rw [two_none op k n 1 1]; exact hk
        rw [if_pos hk] at e3
        simp only [evP] at e3
        generalize twoT op k n = P at *
        obtain ⟨v, w⟩ := P
        simp only at h8
        subst h8
        (have hc_ := e1); (try simp at hc_); refine ACalls.retW hc_ (by simp (maxDischargeDepth := 20)) (by simp (maxDischargeDepth := 12)) (by simp (maxDischargeDepth := 12)) ?_; clear hc_; (try simp (maxSteps := 3000000) [Tr.map])
        (have hc_ := e2); (try simp at hc_); refine ACalls.retW hc_ (by simp (maxDischargeDepth := 20)) (by simp (maxDischargeDepth := 12)) (by simp (maxDischargeDepth := 12)) ?_; clear hc_; (try simp (maxSteps := 3000000) [Tr.map])
        refine ACalls.freeze 4 rfl ?_; simp
        (have hc_ := f3); (try simp at hc_); refine ACalls.retW hc_ (by simp (maxDischargeDepth := 20)) (by simp (maxDischargeDepth := 12)) (by simp (maxDischargeDepth := 12)) ?_; clear hc_; (try simp (maxSteps := 3000000) [Tr.map])
        (have hc_ := e3); (try simp at hc_); refine ACalls.retW hc_ (by simp (maxDischargeDepth := 20)) (by simp (maxDischargeDepth := 12)) (by simp (maxDischargeDepth := 12)) ?_; clear hc_; (try simp (maxSteps := 3000000) [Tr.map])
        (have hc_ := t2); (try simp at hc_); refine ACalls.retW hc_ (by simp (maxDischargeDepth := 20)) (by simp (maxDischargeDepth := 12)) (by simp (maxDischargeDepth := 12)) ?_; clear hc_; (try simp (maxSteps := 3000000) [Tr.map])
        (try simp [Tm.enc]); (first | (refine .done ?_; simp [Tm.enc]; done) | (refine Tn.wkRet ?_; simp (maxDischargeDepth := 20)) | (refine Tn.wkPan ?_; simp (maxDischargeDepth := 20)))
      · have h8 : ¬ (twoT op k n).2 = 8 := by
          unfold knowsB at hk
          simp at hk
          rw [two_none op k n 1 1]; exact hk
        have e4 := ar_Eval_ok ⟨4, 0, ⟨#[43]⟩, [⟨4, 0, op, [iT k, iT n]⟩, iT 0]⟩ (two_inR (two_inR (iT_inR (nx k rfl)) (iT_inR (ny n rfl))) (iT_inR z_in)) (by rw [two_size, two_size, iT_size, iT_size, iT_size]; omega)
        rw [evE_P (two_check (by decide) (by rw [allB_eq]; simp [mayB, int_all]; omega) (int_all _) (by rw [two_size, iT_size, iT_size, iT_size]; omega)), evalT_two, knows_plus, evalT_two, if_neg hk, evalT_int, evalT_int, evalT_int] at e4
        rw [if_neg hk] at e3
        have f4 := law12_f_ok op [iT k, iT n]
        have f5 := law12_f_ok ⟨#[43]⟩ [⟨4, 0, op, [iT k, iT n]⟩, iT 0]
        simp only [Tm.enc, encs_cons, encs_nil] at f4 f5 e4
        dsimp only at e3 e4
        have hplus : ∀ v, In64 v → twoT ⟨#[43]⟩ v 0 = (v, 0) := fun v hv => by
          show fitZ (v + 0) = (v, 0)
          rw [Int.add_zero]; exact fitZ_in hv
        generalize twoT op k n = P at *
        obtain ⟨v, w⟩ := P
        simp only at h8 tin
        by_cases hw : w = 0
        · subst hw
          simp only [outEv, if_true, evP, Bool.true_eq_false, if_false, hplus v tin] at e3 e4
          (have hc_ := e1); (try simp at hc_); refine ACalls.retW hc_ (by simp (maxDischargeDepth := 20)) (by simp (maxDischargeDepth := 12)) (by simp (maxDischargeDepth := 12)) ?_; clear hc_; (try simp (maxSteps := 3000000) [Tr.map])
          (have hc_ := e2); (try simp at hc_); refine ACalls.retW hc_ (by simp (maxDischargeDepth := 20)) (by simp (maxDischargeDepth := 12)) (by simp (maxDischargeDepth := 12)) ?_; clear hc_; (try simp (maxSteps := 3000000) [Tr.map])
          refine ACalls.freeze 4 rfl ?_; simp
          (have hc_ := f3); (try simp at hc_); refine ACalls.retW hc_ (by simp (maxDischargeDepth := 20)) (by simp (maxDischargeDepth := 12)) (by simp (maxDischargeDepth := 12)) ?_; clear hc_; (try simp (maxSteps := 3000000) [Tr.map])
          (have hc_ := e3); (try simp at hc_); refine ACalls.retW hc_ (by simp (maxDischargeDepth := 20)) (by simp (maxDischargeDepth := 12)) (by simp (maxDischargeDepth := 12)) ?_; clear hc_; (try simp (maxSteps := 3000000) [Tr.map])
          (have hc_ := t2); (try simp at hc_); refine ACalls.retW hc_ (by simp (maxDischargeDepth := 20)) (by simp (maxDischargeDepth := 12)) (by simp (maxDischargeDepth := 12)) ?_; clear hc_; (try simp (maxSteps := 3000000) [Tr.map])
          (have hc_ := law12_i_ok k); (try simp at hc_); refine ACalls.retW hc_ (by simp (maxDischargeDepth := 20)) (by simp (maxDischargeDepth := 12)) (by simp (maxDischargeDepth := 12)) ?_; clear hc_; (try simp (maxSteps := 3000000) [Tr.map])
          (have hc_ := law12_i_ok n); (try simp at hc_); refine ACalls.retW hc_ (by simp (maxDischargeDepth := 20)) (by simp (maxDischargeDepth := 12)) (by simp (maxDischargeDepth := 12)) ?_; clear hc_; (try simp (maxSteps := 3000000) [Tr.map])
          refine ACalls.freeze 6 rfl ?_; simp
          (have hc_ := f4); (try simp at hc_); refine ACalls.retW hc_ (by simp (maxDischargeDepth := 20)) (by simp (maxDischargeDepth := 12)) (by simp (maxDischargeDepth := 12)) ?_; clear hc_; (try simp (maxSteps := 3000000) [Tr.map])
          (have hc_ := law12_i_ok 0); (try simp at hc_); refine ACalls.retW hc_ (by simp (maxDischargeDepth := 20)) (by simp (maxDischargeDepth := 12)) (by simp (maxDischargeDepth := 12)) ?_; clear hc_; (try simp (maxSteps := 3000000) [Tr.map])
          refine ACalls.freeze 7 rfl ?_; simp
          (have hc_ := f5); (try simp at hc_); refine ACalls.retW hc_ (by simp (maxDischargeDepth := 20)) (by simp (maxDischargeDepth := 12)) (by simp (maxDischargeDepth := 12)) ?_; clear hc_; (try simp (maxSteps := 3000000) [Tr.map])
          (have hc_ := e4); (try simp at hc_); refine ACalls.retW hc_ (by simp (maxDischargeDepth := 20)) (by simp (maxDischargeDepth := 12)) (by simp (maxDischargeDepth := 12)) ?_; clear hc_; (try simp (maxSteps := 3000000) [Tr.map])
          (try simp [Tm.enc]); (first | (refine .done ?_; simp [Tm.enc]; done) | (refine Tn.wkRet ?_; simp (maxDischargeDepth := 20)) | (refine Tn.wkPan ?_; simp (maxDischargeDepth := 20)))
        · have hv : v = 0 := tzb hw
          subst hv
          simp only [outEv, hw, evP, Bool.true_eq_false, if_false] at e3 e4
          (have hc_ := e1); (try simp at hc_); refine ACalls.retW hc_ (by simp (maxDischargeDepth := 20)) (by simp (maxDischargeDepth := 12)) (by simp (maxDischargeDepth := 12)) ?_; clear hc_; (try simp (maxSteps := 3000000) [Tr.map])
          (have hc_ := e2); (try simp at hc_); refine ACalls.retW hc_ (by simp (maxDischargeDepth := 20)) (by simp (maxDischargeDepth := 12)) (by simp (maxDischargeDepth := 12)) ?_; clear hc_; (try simp (maxSteps := 3000000) [Tr.map])
          refine ACalls.freeze 4 rfl ?_; simp
          (have hc_ := f3); (try simp at hc_); refine ACalls.retW hc_ (by simp (maxDischargeDepth := 20)) (by simp (maxDischargeDepth := 12)) (by simp (maxDischargeDepth := 12)) ?_; clear hc_; (try simp (maxSteps := 3000000) [Tr.map])
          (have hc_ := e3); (try simp at hc_); refine ACalls.retW hc_ (by simp (maxDischargeDepth := 20)) (by simp (maxDischargeDepth := 12)) (by simp (maxDischargeDepth := 12)) ?_; clear hc_; (try simp (maxSteps := 3000000) [Tr.map])
          (have hc_ := t2); (try simp at hc_); refine ACalls.retW hc_ (by simp (maxDischargeDepth := 20)) (by simp (maxDischargeDepth := 12)) (by simp (maxDischargeDepth := 12)) ?_; clear hc_; (try simp (maxSteps := 3000000) [Tr.map, h8])
          (have hc_ := law12_i_ok k); (try simp at hc_); refine ACalls.retW hc_ (by simp (maxDischargeDepth := 20)) (by simp (maxDischargeDepth := 12)) (by simp (maxDischargeDepth := 12)) ?_; clear hc_; (try simp (maxSteps := 3000000) [Tr.map])
          (have hc_ := law12_i_ok n); (try simp at hc_); refine ACalls.retW hc_ (by simp (maxDischargeDepth := 20)) (by simp (maxDischargeDepth := 12)) (by simp (maxDischargeDepth := 12)) ?_; clear hc_; (try simp (maxSteps := 3000000) [Tr.map])
          refine ACalls.freeze 6 rfl ?_; simp
          (have hc_ := f4); (try simp at hc_); refine ACalls.retW hc_ (by simp (maxDischargeDepth := 20)) (by simp (maxDischargeDepth := 12)) (by simp (maxDischargeDepth := 12)) ?_; clear hc_; (try simp (maxSteps := 3000000) [Tr.map])
          (have hc_ := law12_i_ok 0); (try simp at hc_); refine ACalls.retW hc_ (by simp (maxDischargeDepth := 20)) (by simp (maxDischargeDepth := 12)) (by simp (maxDischargeDepth := 12)) ?_; clear hc_; (try simp (maxSteps := 3000000) [Tr.map])
          refine ACalls.freeze 7 rfl ?_; simp
          (have hc_ := f5); (try simp at hc_); refine ACalls.retW hc_ (by simp (maxDischargeDepth := 20)) (by simp (maxDischargeDepth := 12)) (by simp (maxDischargeDepth := 12)) ?_; clear hc_; (try simp (maxSteps := 3000000) [Tr.map])
          (have hc_ := e4); (try simp at hc_); refine ACalls.retW hc_ (by simp (maxDischargeDepth := 20)) (by simp (maxDischargeDepth := 12)) (by simp (maxDischargeDepth := 12)) ?_; clear hc_; (try simp (maxSteps := 3000000) [Tr.map])
          (try simp [Tm.enc]); (first | (refine .done ?_; simp [Tm.enc]; done) | (refine Tn.wkRet ?_; simp (maxDischargeDepth := 20)) | (refine Tn.wkPan ?_; simp (maxDischargeDepth := 20)))

end Go.Proofs.Yteebkkipeiggcaa
