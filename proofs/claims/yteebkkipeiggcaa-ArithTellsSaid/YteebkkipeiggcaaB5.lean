/- The run of ArithTells. -/
import Derived.Test.YteebkkipeiggcaaB4
set_option linter.unusedVariables false
set_option linter.unusedSimpArgs false
namespace Go.Proofs.Yteebkkipeiggcaa
open Go Go.Vm

set_option maxRecDepth 20000
set_option maxHeartbeats 2000000

theorem hold_bad1 {op : ByteArray} {x y t : Tm} {v e : Int} (h : isCmp op) (hx : evE x = (v, e, t)) (he : e ≠ 0) : holdE op x y = (false, e, t) := by
  unfold holdE; rw [if_pos h, hx, if_neg he]
theorem hold_bad2 {op : ByteArray} {x y t u : Tm} {v w g : Int} (h : isCmp op) (hx : evE x = (v, 0, t)) (hy : evE y = (w, g, u)) (hg : g ≠ 0) : holdE op x y = (false, g, u) := by
  unfold holdE; rw [if_pos h, hx, if_pos rfl, hy, if_neg hg]
theorem hold_val {op : ByteArray} {x y t u : Tm} {v w : Int} (h : isCmp op) (hx : evE x = (v, 0, t)) (hy : evE y = (w, 0, u)) : holdE op x y = (cmpOp op v w, 0, zT) := by
  unfold holdE; rw [if_pos h, hx, if_pos rfl, hy, if_pos rfl]


theorem arithTells_run (l m : List Pt) (hl : ∀ p ∈ l, (0 ≤ p.args ∧ p.args ≤ 255) ∧ In64 p.n) (hm : ∀ p ∈ m, (0 ≤ p.args ∧ p.args ≤ 255) ∧ In64 p.n) :
    ACalls Try.prog 14 [.ro 4 (encP l), .ro 4 (encP m)] [] (fun r _ => r = .ret (.bool true)) := by
  refine ACalls.post (calls_tree 400 fn14 (by simp [Try.f14]) ?_); simp (maxSteps := 3000000) [Tr.map, Try.f14]
  (have hc_ := law12_alive_ok); (try simp at hc_); refine ACalls.retW hc_ (by simp (maxDischargeDepth := 20)) (by simp (maxDischargeDepth := 12)) (by simp (maxDischargeDepth := 12)) ?_; clear hc_; (try simp (maxSteps := 3000000) [Tr.map])
  by_cases l60 : 60 < l.length
  · (have hc_ := great_big l l60); (try simp at hc_); refine ACalls.retW hc_ (by simp (maxDischargeDepth := 20)) (by simp (maxDischargeDepth := 12)) (by simp (maxDischargeDepth := 12)) ?_; clear hc_; (try simp (maxSteps := 3000000) [Tr.map])
    (try simp [Tm.enc]); (first | (refine .done ?_; simp [Tm.enc]; done) | (refine Tn.wkRet ?_; simp (maxDischargeDepth := 20)) | (refine Tn.wkPan ?_; simp (maxDischargeDepth := 20)))
  (have hc_ := great_small l (by omega)); (try simp at hc_); refine ACalls.retW hc_ (by simp (maxDischargeDepth := 20)) (by simp (maxDischargeDepth := 12)) (by simp (maxDischargeDepth := 12)) ?_; clear hc_; (try simp (maxSteps := 3000000) [Tr.map])
  by_cases m60 : 60 < m.length
  · (have hc_ := great_big m m60); (try simp at hc_); refine ACalls.retW hc_ (by simp (maxDischargeDepth := 20)) (by simp (maxDischargeDepth := 12)) (by simp (maxDischargeDepth := 12)) ?_; clear hc_; (try simp (maxSteps := 3000000) [Tr.map])
    (try simp [Tm.enc]); (first | (refine .done ?_; simp [Tm.enc]; done) | (refine Tn.wkRet ?_; simp (maxDischargeDepth := 20)) | (refine Tn.wkPan ?_; simp (maxDischargeDepth := 20)))
  (have hc_ := great_small m (by omega)); (try simp at hc_); refine ACalls.retW hc_ (by simp (maxDischargeDepth := 20)) (by simp (maxDischargeDepth := 12)) (by simp (maxDischargeDepth := 12)) ?_; clear hc_; (try simp (maxSteps := 3000000) [Tr.map])
  (have hc_ := good_ok l (by omega) fun p hp => (hl p hp).1); (try simp at hc_); refine ACalls.retW hc_ (by simp (maxDischargeDepth := 20)) (by simp (maxDischargeDepth := 12)) (by simp (maxDischargeDepth := 12)) ?_; clear hc_; (try simp (maxSteps := 3000000) [Tr.map])
  (have hc_ := good_ok m (by omega) fun p hp => (hm p hp).1); (try simp at hc_); refine ACalls.retW hc_ (by simp (maxDischargeDepth := 20)) (by simp (maxDischargeDepth := 12)) (by simp (maxDischargeDepth := 12)) ?_; clear hc_; (try simp (maxSteps := 3000000) [Tr.map])
  have sx := goodT_size l (by omega)
  have sy := goodT_size m (by omega)
  have ix := goodT_inR l fun p hp => (hl p hp).2
  have iy := goodT_inR m fun p hp => (hm p hp).2
  have cx := good_check l (by omega)
  have cy := good_check m (by omega)
  generalize goodT l = x at *
  generalize goodT m = y at *
  have e1 := ar_Eval_ok x ix (by omega)
  have e2 := ar_Eval_ok y iy (by omega)
  have h1 := ar_Holds_ok ⟨#[60]⟩ x y ix iy (by omega) (by omega)
  have q1 : isCmp ⟨#[60]⟩ := by decide
  have h2 := ar_Holds_ok ⟨#[61, 58, 61]⟩ x y ix iy (by omega) (by omega)
  have q2 : isCmp ⟨#[61, 58, 61]⟩ := by decide
  have h3 := ar_Holds_ok ⟨#[62]⟩ x y ix iy (by omega) (by omega)
  have q3 : isCmp ⟨#[62]⟩ := by decide
  have h4 := ar_Holds_ok ⟨#[61, 60]⟩ x y ix iy (by omega) (by omega)
  have q4 : isCmp ⟨#[61, 60]⟩ := by decide
  have h5 := ar_Holds_ok ⟨#[62, 61]⟩ x y ix iy (by omega) (by omega)
  have q5 : isCmp ⟨#[62, 61]⟩ := by decide
  have h6 := ar_Holds_ok ⟨#[61, 92, 61]⟩ x y ix iy (by omega) (by omega)
  have q6 : isCmp ⟨#[61, 92, 61]⟩ := by decide
  have px := evE_P cx
  have py := evE_P cy
  rw [px] at e1
  rw [py] at e2
  have bx := fun e t => evalT_bad (t := x) (e := e) (x := t)
  have byy := fun e t => evalT_bad (t := y) (e := e) (x := t)
  generalize evalT x = X at *
  generalize evalT y = Y at *
  cases X with
  | bad e t =>
    have h0 := bx e t rfl
    simp only [evP] at e1 px
    rw [hold_bad1 q1 px h0] at h1
    rw [hold_bad1 q2 px h0] at h2
    rw [hold_bad1 q3 px h0] at h3
    rw [hold_bad1 q4 px h0] at h4
    rw [hold_bad1 q5 px h0] at h5
    rw [hold_bad1 q6 px h0] at h6
    have e2' : ∃ w g u, evP Y = (w, g, u) := ⟨_, _, _, rfl⟩
    obtain ⟨w, g, u, hY⟩ := e2'
    rw [hY] at e2
    clear hY py px bx byy
    (have hc_ := e1); (try simp at hc_); refine ACalls.retW hc_ (by simp (maxDischargeDepth := 20)) (by simp (maxDischargeDepth := 12)) (by simp (maxDischargeDepth := 12)) ?_; clear hc_; (try simp (maxSteps := 3000000) [Tr.map])
    (have hc_ := e2); (try simp at hc_); refine ACalls.retW hc_ (by simp (maxDischargeDepth := 20)) (by simp (maxDischargeDepth := 12)) (by simp (maxDischargeDepth := 12)) ?_; clear hc_; (try simp (maxSteps := 3000000) [Tr.map])
    refine AStk.liveT [5, 6, 8, 11, 13, 46, 47] (AStk.gc [0, 1, 4] (by simp) (by simp) (by simp) ?_); simp [Tr.map]
    refine AStk.round ?_
    refine stk_run 400 ?_; simp (maxSteps := 3000000) [Tr.map, h0]
    (have hc_ := h1); (try simp at hc_); refine ACalls.retW hc_ (by simp (maxDischargeDepth := 20)) (by simp (maxDischargeDepth := 12)) (by simp (maxDischargeDepth := 12)) ?_; clear hc_; (try simp (maxSteps := 3000000) [Tr.map, h0])
    refine AStk.liveT [5, 6, 8, 11, 13, 46, 47] (AStk.gc [0, 1, 2] (by simp) (by simp) (by simp) ?_); simp [Tr.map]
    refine AStk.round ?_
    refine stk_run 400 ?_; simp (maxSteps := 3000000) [Tr.map, h0]
    (have hc_ := h2); (try simp at hc_); refine ACalls.retW hc_ (by simp (maxDischargeDepth := 20)) (by simp (maxDischargeDepth := 12)) (by simp (maxDischargeDepth := 12)) ?_; clear hc_; (try simp (maxSteps := 3000000) [Tr.map, h0])
    refine AStk.liveT [5, 6, 8, 11, 13, 46, 47] (AStk.gc [0, 1, 2] (by simp) (by simp) (by simp) ?_); simp [Tr.map]
    refine AStk.round ?_
    refine stk_run 400 ?_; simp (maxSteps := 3000000) [Tr.map, h0]
    (have hc_ := h3); (try simp at hc_); refine ACalls.retW hc_ (by simp (maxDischargeDepth := 20)) (by simp (maxDischargeDepth := 12)) (by simp (maxDischargeDepth := 12)) ?_; clear hc_; (try simp (maxSteps := 3000000) [Tr.map, h0])
    refine AStk.liveT [5, 6, 8, 11, 13, 46, 47] (AStk.gc [0, 1, 2] (by simp) (by simp) (by simp) ?_); simp [Tr.map]
    refine AStk.round ?_
    refine stk_run 400 ?_; simp (maxSteps := 3000000) [Tr.map, h0]
    (have hc_ := h4); (try simp at hc_); refine ACalls.retW hc_ (by simp (maxDischargeDepth := 20)) (by simp (maxDischargeDepth := 12)) (by simp (maxDischargeDepth := 12)) ?_; clear hc_; (try simp (maxSteps := 3000000) [Tr.map, h0])
    refine AStk.liveT [5, 6, 8, 11, 13, 46, 47] (AStk.gc [0, 1, 2] (by simp) (by simp) (by simp) ?_); simp [Tr.map]
    refine AStk.round ?_
    refine stk_run 400 ?_; simp (maxSteps := 3000000) [Tr.map, h0]
    (have hc_ := h5); (try simp at hc_); refine ACalls.retW hc_ (by simp (maxDischargeDepth := 20)) (by simp (maxDischargeDepth := 12)) (by simp (maxDischargeDepth := 12)) ?_; clear hc_; (try simp (maxSteps := 3000000) [Tr.map, h0])
    refine AStk.liveT [5, 6, 8, 11, 13, 46, 47] (AStk.gc [0, 1, 2] (by simp) (by simp) (by simp) ?_); simp [Tr.map]
    refine AStk.round ?_
    refine stk_run 400 ?_; simp (maxSteps := 3000000) [Tr.map, h0]
    (have hc_ := h6); (try simp at hc_); refine ACalls.retW hc_ (by simp (maxDischargeDepth := 20)) (by simp (maxDischargeDepth := 12)) (by simp (maxDischargeDepth := 12)) ?_; clear hc_; (try simp (maxSteps := 3000000) [Tr.map, h0])
    refine AStk.liveT [5, 6, 8, 11, 13, 46, 47] (AStk.gc [0, 1, 2] (by simp) (by simp) (by simp) ?_); simp [Tr.map]
    refine AStk.round ?_
    refine stk_run 400 ?_; simp (maxSteps := 3000000) [Tr.map, h0]
    (try simp [Tm.enc]); (first | (refine .done ?_; simp [Tm.enc]; done) | (refine Tn.wkRet ?_; simp (maxDischargeDepth := 20)) | (refine Tn.wkPan ?_; simp (maxDischargeDepth := 20)))
  | val k =>
    simp only [evP] at e1 px
    cases Y with
    | bad g u =>
      have h0 := byy g u rfl
      simp only [evP] at e2 py
      rw [hold_bad2 q1 px py h0] at h1
      rw [hold_bad2 q2 px py h0] at h2
      rw [hold_bad2 q3 px py h0] at h3
      rw [hold_bad2 q4 px py h0] at h4
      rw [hold_bad2 q5 px py h0] at h5
      rw [hold_bad2 q6 px py h0] at h6
      clear py px bx byy
      (have hc_ := e1); (try simp at hc_); refine ACalls.retW hc_ (by simp (maxDischargeDepth := 20)) (by simp (maxDischargeDepth := 12)) (by simp (maxDischargeDepth := 12)) ?_; clear hc_; (try simp (maxSteps := 3000000) [Tr.map])
      (have hc_ := e2); (try simp at hc_); refine ACalls.retW hc_ (by simp (maxDischargeDepth := 20)) (by simp (maxDischargeDepth := 12)) (by simp (maxDischargeDepth := 12)) ?_; clear hc_; (try simp (maxSteps := 3000000) [Tr.map])
      refine AStk.liveT [5, 6, 8, 11, 13, 46, 47] (AStk.gc [0, 1, 4] (by simp) (by simp) (by simp) ?_); simp [Tr.map]
      refine AStk.round ?_
      refine stk_run 400 ?_; simp (maxSteps := 3000000) [Tr.map, h0]
      (have hc_ := h1); (try simp at hc_); refine ACalls.retW hc_ (by simp (maxDischargeDepth := 20)) (by simp (maxDischargeDepth := 12)) (by simp (maxDischargeDepth := 12)) ?_; clear hc_; (try simp (maxSteps := 3000000) [Tr.map, h0])
      refine AStk.liveT [5, 6, 8, 11, 13, 46, 47] (AStk.gc [0, 1, 2] (by simp) (by simp) (by simp) ?_); simp [Tr.map]
      refine AStk.round ?_
      refine stk_run 400 ?_; simp (maxSteps := 3000000) [Tr.map, h0]
      (have hc_ := h2); (try simp at hc_); refine ACalls.retW hc_ (by simp (maxDischargeDepth := 20)) (by simp (maxDischargeDepth := 12)) (by simp (maxDischargeDepth := 12)) ?_; clear hc_; (try simp (maxSteps := 3000000) [Tr.map, h0])
      refine AStk.liveT [5, 6, 8, 11, 13, 46, 47] (AStk.gc [0, 1, 2] (by simp) (by simp) (by simp) ?_); simp [Tr.map]
      refine AStk.round ?_
      refine stk_run 400 ?_; simp (maxSteps := 3000000) [Tr.map, h0]
      (have hc_ := h3); (try simp at hc_); refine ACalls.retW hc_ (by simp (maxDischargeDepth := 20)) (by simp (maxDischargeDepth := 12)) (by simp (maxDischargeDepth := 12)) ?_; clear hc_; (try simp (maxSteps := 3000000) [Tr.map, h0])
      refine AStk.liveT [5, 6, 8, 11, 13, 46, 47] (AStk.gc [0, 1, 2] (by simp) (by simp) (by simp) ?_); simp [Tr.map]
      refine AStk.round ?_
      refine stk_run 400 ?_; simp (maxSteps := 3000000) [Tr.map, h0]
      (have hc_ := h4); (try simp at hc_); refine ACalls.retW hc_ (by simp (maxDischargeDepth := 20)) (by simp (maxDischargeDepth := 12)) (by simp (maxDischargeDepth := 12)) ?_; clear hc_; (try simp (maxSteps := 3000000) [Tr.map, h0])
      refine AStk.liveT [5, 6, 8, 11, 13, 46, 47] (AStk.gc [0, 1, 2] (by simp) (by simp) (by simp) ?_); simp [Tr.map]
      refine AStk.round ?_
      refine stk_run 400 ?_; simp (maxSteps := 3000000) [Tr.map, h0]
      (have hc_ := h5); (try simp at hc_); refine ACalls.retW hc_ (by simp (maxDischargeDepth := 20)) (by simp (maxDischargeDepth := 12)) (by simp (maxDischargeDepth := 12)) ?_; clear hc_; (try simp (maxSteps := 3000000) [Tr.map, h0])
      refine AStk.liveT [5, 6, 8, 11, 13, 46, 47] (AStk.gc [0, 1, 2] (by simp) (by simp) (by simp) ?_); simp [Tr.map]
      refine AStk.round ?_
      refine stk_run 400 ?_; simp (maxSteps := 3000000) [Tr.map, h0]
      (have hc_ := h6); (try simp at hc_); refine ACalls.retW hc_ (by simp (maxDischargeDepth := 20)) (by simp (maxDischargeDepth := 12)) (by simp (maxDischargeDepth := 12)) ?_; clear hc_; (try simp (maxSteps := 3000000) [Tr.map, h0])
      refine AStk.liveT [5, 6, 8, 11, 13, 46, 47] (AStk.gc [0, 1, 2] (by simp) (by simp) (by simp) ?_); simp [Tr.map]
      refine AStk.round ?_
      refine stk_run 400 ?_; simp (maxSteps := 3000000) [Tr.map, h0]
      (try simp [Tm.enc]); (first | (refine .done ?_; simp [Tm.enc]; done) | (refine Tn.wkRet ?_; simp (maxDischargeDepth := 20)) | (refine Tn.wkPan ?_; simp (maxDischargeDepth := 20)))
    | val n =>
      simp only [evP] at e2 py
      rw [hold_val q1 px py] at h1
      rw [hold_val q2 px py] at h2
      rw [hold_val q3 px py] at h3
      rw [hold_val q4 px py] at h4
      rw [hold_val q5 px py] at h5
      rw [hold_val q6 px py] at h6
      clear py px bx byy
      have c1 : cmpOp ⟨#[60]⟩ k n = decide (k < n) := by simp [cmpOp]
      have c2 : cmpOp ⟨#[61, 58, 61]⟩ k n = decide (k = n) := by simp [cmpOp]
      have c3 : cmpOp ⟨#[62]⟩ k n = decide (n < k) := by simp [cmpOp]
      have c4 : cmpOp ⟨#[61, 60]⟩ k n = decide (k ≤ n) := by simp [cmpOp]
      have c5 : cmpOp ⟨#[62, 61]⟩ k n = decide (n ≤ k) := by simp [cmpOp]
      have c6 : cmpOp ⟨#[61, 92, 61]⟩ k n = !decide (k = n) := by simp [cmpOp]
      rw [c1] at h1
      clear c1
      rw [c2] at h2
      clear c2
      rw [c3] at h3
      clear c3
      rw [c4] at h4
      clear c4
      rw [c5] at h5
      clear c5
      rw [c6] at h6
      clear c6
      generalize d1 : decide (k < n) = b1 at *
      generalize d2 : decide (k = n) = b2 at *
      generalize d3 : decide (n < k) = b3 at *
      generalize d4 : decide (k ≤ n) = b4 at *
      generalize d5 : decide (n ≤ k) = b5 at *
      have h0 : (0 : Int) = 0 := rfl
      (have hc_ := e1); (try simp at hc_); refine ACalls.retW hc_ (by simp (maxDischargeDepth := 20)) (by simp (maxDischargeDepth := 12)) (by simp (maxDischargeDepth := 12)) ?_; clear hc_; (try simp (maxSteps := 3000000) [Tr.map])
      (have hc_ := e2); (try simp at hc_); refine ACalls.retW hc_ (by simp (maxDischargeDepth := 20)) (by simp (maxDischargeDepth := 12)) (by simp (maxDischargeDepth := 12)) ?_; clear hc_; (try simp (maxSteps := 3000000) [Tr.map])
      refine AStk.liveT [5, 6, 8, 11, 13, 46, 47] (AStk.gc [0, 1, 4] (by simp) (by simp) (by simp) ?_); simp [Tr.map]
      refine AStk.round ?_
      refine stk_run 400 ?_; simp (maxSteps := 3000000) [Tr.map, Bool.not_true]
      (have hc_ := h1); (try simp at hc_); refine ACalls.retW hc_ (by simp (maxDischargeDepth := 20)) (by simp (maxDischargeDepth := 12)) (by simp (maxDischargeDepth := 12)) ?_; clear hc_; (try simp (maxSteps := 3000000) [Tr.map, Bool.not_true])
      refine AStk.liveT [5, 6, 8, 11, 13, 46, 47] (AStk.gc [0, 1, 2] (by simp) (by simp) (by simp) ?_); simp [Tr.map]
      refine AStk.round ?_
      refine stk_run 400 ?_; simp (maxSteps := 3000000) [Tr.map, Bool.not_true]
      (have hc_ := h2); (try simp at hc_); refine ACalls.retW hc_ (by simp (maxDischargeDepth := 20)) (by simp (maxDischargeDepth := 12)) (by simp (maxDischargeDepth := 12)) ?_; clear hc_; (try simp (maxSteps := 3000000) [Tr.map, Bool.not_true])
      refine AStk.liveT [5, 6, 8, 11, 13, 46, 47] (AStk.gc [0, 1, 2] (by simp) (by simp) (by simp) ?_); simp [Tr.map]
      refine AStk.round ?_
      refine stk_run 400 ?_; simp (maxSteps := 3000000) [Tr.map, Bool.not_true]
      (have hc_ := h3); (try simp at hc_); refine ACalls.retW hc_ (by simp (maxDischargeDepth := 20)) (by simp (maxDischargeDepth := 12)) (by simp (maxDischargeDepth := 12)) ?_; clear hc_; (try simp (maxSteps := 3000000) [Tr.map, Bool.not_true])
      refine AStk.liveT [5, 6, 8, 11, 13, 46, 47] (AStk.gc [0, 1, 2] (by simp) (by simp) (by simp) ?_); simp [Tr.map]
      refine AStk.round ?_
      refine stk_run 400 ?_; simp (maxSteps := 3000000) [Tr.map, Bool.not_true]
      (have hc_ := h4); (try simp at hc_); refine ACalls.retW hc_ (by simp (maxDischargeDepth := 20)) (by simp (maxDischargeDepth := 12)) (by simp (maxDischargeDepth := 12)) ?_; clear hc_; (try simp (maxSteps := 3000000) [Tr.map, Bool.not_true])
      refine AStk.liveT [5, 6, 8, 11, 13, 46, 47] (AStk.gc [0, 1, 2] (by simp) (by simp) (by simp) ?_); simp [Tr.map]
      refine AStk.round ?_
      refine stk_run 400 ?_; simp (maxSteps := 3000000) [Tr.map, Bool.not_true]
      (have hc_ := h5); (try simp at hc_); refine ACalls.retW hc_ (by simp (maxDischargeDepth := 20)) (by simp (maxDischargeDepth := 12)) (by simp (maxDischargeDepth := 12)) ?_; clear hc_; (try simp (maxSteps := 3000000) [Tr.map, Bool.not_true])
      refine AStk.liveT [5, 6, 8, 11, 13, 46, 47] (AStk.gc [0, 1, 2] (by simp) (by simp) (by simp) ?_); simp [Tr.map]
      refine AStk.round ?_
      refine stk_run 400 ?_; simp (maxSteps := 3000000) [Tr.map, Bool.not_true]
      (have hc_ := h6); (try simp at hc_); refine ACalls.retW hc_ (by simp (maxDischargeDepth := 20)) (by simp (maxDischargeDepth := 12)) (by simp (maxDischargeDepth := 12)) ?_; clear hc_; (try simp (maxSteps := 3000000) [Tr.map, Bool.not_true])
      refine AStk.liveT [5, 6, 8, 11, 13, 46, 47] (AStk.gc [0, 1, 2] (by simp) (by simp) (by simp) ?_); simp [Tr.map]
      refine AStk.round ?_
      refine stk_run 400 ?_; simp (maxSteps := 3000000) [Tr.map, Bool.not_true]
      have tri : k < n ∨ k = n ∨ n < k := by omega
      rcases tri with hh | hh | hh
      · have g2 : ¬ k = n := by omega
        have g3 : ¬ n < k := by omega
        have g4 : k ≤ n := by omega
        have g5 : ¬ n ≤ k := by omega
        simp only [hh, g2, g3, g4, g5, decide_true, decide_false] at d1 d2 d3 d4 d5
        subst d1 d2 d3 d4 d5
        refine AStk.round ?_
        refine stk_run 400 ?_; simp (maxSteps := 3000000) [Tr.map]
        refine AStk.round ?_
        refine stk_run 400 ?_; simp (maxSteps := 3000000) [Tr.map]
        refine AStk.round ?_
        refine stk_run 400 ?_; simp (maxSteps := 3000000) [Tr.map]
        refine AStk.round ?_
        refine stk_run 400 ?_; simp (maxSteps := 3000000) [Tr.map]
        (try simp [Tm.enc]); (first | (refine .done ?_; simp [Tm.enc]; done) | (refine Tn.wkRet ?_; simp (maxDischargeDepth := 20)) | (refine Tn.wkPan ?_; simp (maxDischargeDepth := 20)))
      · subst hh
        simp at d1 d2 d3 d4 d5
        subst d1 d2 d3 d4 d5
        refine AStk.round ?_
        refine stk_run 400 ?_; simp (maxSteps := 3000000) [Tr.map]
        refine AStk.round ?_
        refine stk_run 400 ?_; simp (maxSteps := 3000000) [Tr.map]
        refine AStk.round ?_
        refine stk_run 400 ?_; simp (maxSteps := 3000000) [Tr.map]
        refine AStk.round ?_
        refine stk_run 400 ?_; simp (maxSteps := 3000000) [Tr.map]
        (try simp [Tm.enc]); (first | (refine .done ?_; simp [Tm.enc]; done) | (refine Tn.wkRet ?_; simp (maxDischargeDepth := 20)) | (refine Tn.wkPan ?_; simp (maxDischargeDepth := 20)))
      · have g1 : ¬ k < n := by omega
        have g2 : ¬ k = n := by omega
        have g4 : ¬ k ≤ n := by omega
        have g5 : n ≤ k := by omega
        simp only [hh, g2, g1, g4, g5, decide_true, decide_false] at d1 d2 d3 d4 d5
        subst d1 d2 d3 d4 d5
        refine AStk.round ?_
        refine stk_run 400 ?_; simp (maxSteps := 3000000) [Tr.map]
        refine AStk.round ?_
        refine stk_run 400 ?_; simp (maxSteps := 3000000) [Tr.map]
        refine AStk.round ?_
        refine stk_run 400 ?_; simp (maxSteps := 3000000) [Tr.map]
        refine AStk.round ?_
        refine stk_run 400 ?_; simp (maxSteps := 3000000) [Tr.map]
        (try simp [Tm.enc]); (first | (refine .done ?_; simp [Tm.enc]; done) | (refine Tn.wkRet ?_; simp (maxDischargeDepth := 20)) | (refine Tn.wkPan ?_; simp (maxDischargeDepth := 20)))

end Go.Proofs.Yteebkkipeiggcaa
