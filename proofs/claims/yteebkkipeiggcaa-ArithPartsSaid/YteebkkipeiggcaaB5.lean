/- The run of ArithParts. -/
import Derived.Test.YteebkkipeiggcaaB4
set_option linter.unusedVariables false
set_option linter.unusedSimpArgs false
namespace Go.Proofs.Yteebkkipeiggcaa
open Go Go.Vm

set_option maxRecDepth 20000
set_option maxHeartbeats 2000000

theorem zT_inR : InR zT := .mk _ z_in (by simp)
/-- What a term comes to is of the term's size at most, and some. -/
theorem ev_size (t : Tm) : ∀ {e : Int} {x : Tm}, evalT t = .bad e x → x.size ≤ 3 := by
  have hz : zT.size = 1 := by simp [Tm.size_eq zT]
  have hi : ∀ s n, (indA s n).size = 3 := fun s n => by simp [Tm.size_eq (Tm.mk _ _ _ _)]
  induction t using Tm.ind with | _ t ih
  intro e x h
  obtain ⟨k, m, s, a⟩ := t
  unfold evalT at h
  by_cases k2 : k = 2
  · rw [if_pos k2] at h; cases h
  rw [if_neg k2] at h
  by_cases k1 : k = 1
  · rw [if_pos k1] at h; cases h; omega
  rw [if_neg k1] at h
  by_cases kb : knowsB s a.length = false
  · rw [if_pos kb] at h; cases h; rw [hi]; omega
  rw [if_neg kb] at h
  have ho : ∀ {p : Int × Int}, outEv p = .bad e x → x.size ≤ 3 := fun {p} hp => by
    unfold outEv at hp
    split at hp
    · cases hp
    · cases hp; omega
  rcases a with _ | ⟨y, _ | ⟨z, _ | ⟨w, a⟩⟩⟩
  · dsimp only at h; cases h; omega
  · dsimp only at h
    cases hx : evalT y with
    | bad e' t => rw [hx] at h; cases h; exact ih y (by simp) hx
    | val m' => rw [hx] at h; exact ho h
  · dsimp only at h
    cases hx : evalT y with
    | bad e' t => rw [hx] at h; cases h; exact ih y (by simp) hx
    | val m' =>
      rw [hx] at h
      cases hy : evalT z with
      | bad e' t => rw [hy] at h; cases h; exact ih z (by simp) hy
      | val l => rw [hy] at h; exact ho h
  · dsimp only at h; cases h; omega

theorem arithParts_run (l m : List Pt) (hl : ∀ p ∈ l, (0 ≤ p.args ∧ p.args ≤ 255) ∧ In64 p.n) (hm : ∀ p ∈ m, (0 ≤ p.args ∧ p.args ≤ 255) ∧ In64 p.n) :
    ACalls Try.prog 12 [.ro 4 (encP l), .ro 4 (encP m)] [] (fun r _ => r = .ret (.bool true)) := by
  refine ACalls.post (calls_tree 400 fn12 (by simp [Try.f12]) ?_); simp (maxSteps := 3000000) [Tr.map, Try.f12]
  (have hc_ := law12_alive_ok); (try simp at hc_); refine ACalls.retW hc_ (by simp (maxDischargeDepth := 20)) (by simp (maxDischargeDepth := 12)) (by simp (maxDischargeDepth := 12)) ?_; clear hc_; (try simp (maxSteps := 3000000) [Tr.map])
  by_cases l60 : 60 < l.length
  · (have hc_ := great_big l l60); (try simp at hc_); refine ACalls.retW hc_ (by simp (maxDischargeDepth := 20)) (by simp (maxDischargeDepth := 12)) (by simp (maxDischargeDepth := 12)) ?_; clear hc_; (try simp (maxSteps := 3000000) [Tr.map])
    (try simp [Tm.enc]); (first | (refine .done ?_; simp [Tm.enc]; done) | (refine Tn.wkRet ?_; simp (maxDischargeDepth := 20)) | (refine Tn.wkPan ?_; simp (maxDischargeDepth := 20)))
  (have hc_ := great_small l (by omega)); (try simp at hc_); refine ACalls.retW hc_ (by simp (maxDischargeDepth := 20)) (by simp (maxDischargeDepth := 12)) (by simp (maxDischargeDepth := 12)) ?_; clear hc_; (try simp (maxSteps := 3000000) [Tr.map])
  by_cases m60 : 60 < m.length
  · (have hc_ := great_big m m60); (try simp at hc_); refine ACalls.retW hc_ (by simp (maxDischargeDepth := 20)) (by simp (maxDischargeDepth := 12)) (by simp (maxDischargeDepth := 12)) ?_; clear hc_; (try simp (maxSteps := 3000000) [Tr.map])
    (try simp [Tm.enc]); (first | (refine .done ?_; simp [Tm.enc]; done) | (refine Tn.wkRet ?_; simp (maxDischargeDepth := 20)) | (refine Tn.wkPan ?_; simp (maxDischargeDepth := 20)))
  (have hc_ := great_small m (by omega)); (try simp at hc_); refine ACalls.retW hc_ (by simp (maxDischargeDepth := 20)) (by simp (maxDischargeDepth := 12)) (by simp (maxDischargeDepth := 12)) ?_; clear hc_; (try simp (maxSteps := 3000000) [Tr.map])
  (have hc_ := good_ok l (by omega) fun p hp => (hl p hp).1); (try simp at hc_); refine ACalls.retW hc_ (by simp (maxDischargeDepth := 20)) (by simp (maxDischargeDepth := 12)) (by simp (maxDischargeDepth := 12)) ?_; clear hc_; (try simp (maxSteps := 3000000) [Tr.map])
  (have hc_ := good_ok m (by omega) fun p hp => (hm p hp).1); (try simp at hc_); refine ACalls.retW hc_ (by simp (maxDischargeDepth := 20)) (by simp (maxDischargeDepth := 12)) (by simp (maxDischargeDepth := 12)) ?_; clear hc_; (try simp (maxSteps := 3000000) [Tr.map])
  have sx := goodT_size l (by omega)
  have sy := goodT_size m (by omega)
  have ix := goodT_inR l fun p hp => (hl p hp).2
  have iy := goodT_inR m fun p hp => (hm p hp).2
  have ax := good_all l
  have ay := good_all m
  have cx := good_check l (by omega)
  have cy := good_check m (by omega)
  generalize goodT l = x at *
  generalize goodT m = y at *
  have e1 := ar_Eval_ok x ix (by omega)
  have e2 := ar_Eval_ok y iy (by omega)
  have e3 := ar_Eval_ok ⟨4, 0, ⟨#[45]⟩, [x, y]⟩ (two_inR ix iy) (by rw [two_size]; omega)
  rw [evE_P cx] at e1
  rw [evE_P cy] at e2
  rw [evE_P (two_check (by decide) ax ay (by omega)), evalT_two, knows_minus] at e3
  have f3 := law12_f_ok ⟨#[45]⟩ [x, y]
  have bx := fun e t => evalT_bad (t := x) (e := e) (x := t)
  have byy := fun e t => evalT_bad (t := y) (e := e) (x := t)
  have zx := fun e t => ev_size x (e := e) (x := t)
  have zy := fun e t => ev_size y (e := e) (x := t)
  have nx := fun n => evalT_in ix (n := n)
  have ny := fun n => evalT_in iy (n := n)
  generalize evalT x = X at *
  generalize evalT y = Y at *
  simp only [Tm.enc, encs_cons, encs_nil] at f3 e3
  cases X with
  | bad e t =>
    have h0 := bx e t rfl
    have s1 := same_self t (by have := zx e t rfl; omega)
    simp only [evP, Bool.true_eq_false, if_false] at e1 e3
    cases Y with
    | bad g u =>
      simp only [evP] at e2
      (have hc_ := e1); (try simp at hc_); refine ACalls.retW hc_ (by simp (maxDischargeDepth := 20)) (by simp (maxDischargeDepth := 12)) (by simp (maxDischargeDepth := 12)) ?_; clear hc_; (try simp (maxSteps := 3000000) [Tr.map])
      (have hc_ := e2); (try simp at hc_); refine ACalls.retW hc_ (by simp (maxDischargeDepth := 20)) (by simp (maxDischargeDepth := 12)) (by simp (maxDischargeDepth := 12)) ?_; clear hc_; (try simp (maxSteps := 3000000) [Tr.map])
      refine ACalls.freeze 4 rfl ?_; simp
      (have hc_ := f3); (try simp at hc_); refine ACalls.retW hc_ (by simp (maxDischargeDepth := 20)) (by simp (maxDischargeDepth := 12)) (by simp (maxDischargeDepth := 12)) ?_; clear hc_; (try simp (maxSteps := 3000000) [Tr.map])
      (have hc_ := e3); (try simp at hc_); refine ACalls.retW hc_ (by simp (maxDischargeDepth := 20)) (by simp (maxDischargeDepth := 12)) (by simp (maxDischargeDepth := 12)) ?_; clear hc_; (try simp (maxSteps := 3000000) [Tr.map, h0])
      (have hc_ := s1); (try simp at hc_); refine ACalls.retW hc_ (by simp (maxDischargeDepth := 20)) (by simp (maxDischargeDepth := 12)) (by simp (maxDischargeDepth := 12)) ?_; clear hc_; (try simp (maxSteps := 3000000) [Tr.map])
      (try simp [Tm.enc]); (first | (refine .done ?_; simp [Tm.enc]; done) | (refine Tn.wkRet ?_; simp (maxDischargeDepth := 20)) | (refine Tn.wkPan ?_; simp (maxDischargeDepth := 20)))
    | val n =>
      simp only [evP] at e2
      (have hc_ := e1); (try simp at hc_); refine ACalls.retW hc_ (by simp (maxDischargeDepth := 20)) (by simp (maxDischargeDepth := 12)) (by simp (maxDischargeDepth := 12)) ?_; clear hc_; (try simp (maxSteps := 3000000) [Tr.map])
      (have hc_ := e2); (try simp at hc_); refine ACalls.retW hc_ (by simp (maxDischargeDepth := 20)) (by simp (maxDischargeDepth := 12)) (by simp (maxDischargeDepth := 12)) ?_; clear hc_; (try simp (maxSteps := 3000000) [Tr.map])
      refine ACalls.freeze 4 rfl ?_; simp
      (have hc_ := f3); (try simp at hc_); refine ACalls.retW hc_ (by simp (maxDischargeDepth := 20)) (by simp (maxDischargeDepth := 12)) (by simp (maxDischargeDepth := 12)) ?_; clear hc_; (try simp (maxSteps := 3000000) [Tr.map])
      (have hc_ := e3); (try simp at hc_); refine ACalls.retW hc_ (by simp (maxDischargeDepth := 20)) (by simp (maxDischargeDepth := 12)) (by simp (maxDischargeDepth := 12)) ?_; clear hc_; (try simp (maxSteps := 3000000) [Tr.map, h0])
      (have hc_ := s1); (try simp at hc_); refine ACalls.retW hc_ (by simp (maxDischargeDepth := 20)) (by simp (maxDischargeDepth := 12)) (by simp (maxDischargeDepth := 12)) ?_; clear hc_; (try simp (maxSteps := 3000000) [Tr.map])
      (try simp [Tm.enc]); (first | (refine .done ?_; simp [Tm.enc]; done) | (refine Tn.wkRet ?_; simp (maxDischargeDepth := 20)) | (refine Tn.wkPan ?_; simp (maxDischargeDepth := 20)))
  | val k =>
    simp only [evP, Bool.true_eq_false, if_false] at e1 e3
    cases Y with
    | bad g u =>
      have h0 := byy g u rfl
      have s1 := same_self u (by have := zy g u rfl; omega)
      simp only [evP] at e2 e3
      (have hc_ := e1); (try simp at hc_); refine ACalls.retW hc_ (by simp (maxDischargeDepth := 20)) (by simp (maxDischargeDepth := 12)) (by simp (maxDischargeDepth := 12)) ?_; clear hc_; (try simp (maxSteps := 3000000) [Tr.map])
      (have hc_ := e2); (try simp at hc_); refine ACalls.retW hc_ (by simp (maxDischargeDepth := 20)) (by simp (maxDischargeDepth := 12)) (by simp (maxDischargeDepth := 12)) ?_; clear hc_; (try simp (maxSteps := 3000000) [Tr.map])
      refine ACalls.freeze 4 rfl ?_; simp
      (have hc_ := f3); (try simp at hc_); refine ACalls.retW hc_ (by simp (maxDischargeDepth := 20)) (by simp (maxDischargeDepth := 12)) (by simp (maxDischargeDepth := 12)) ?_; clear hc_; (try simp (maxSteps := 3000000) [Tr.map])
      (have hc_ := e3); (try simp at hc_); refine ACalls.retW hc_ (by simp (maxDischargeDepth := 20)) (by simp (maxDischargeDepth := 12)) (by simp (maxDischargeDepth := 12)) ?_; clear hc_; (try simp (maxSteps := 3000000) [Tr.map, h0])
      (have hc_ := s1); (try simp at hc_); refine ACalls.retW hc_ (by simp (maxDischargeDepth := 20)) (by simp (maxDischargeDepth := 12)) (by simp (maxDischargeDepth := 12)) ?_; clear hc_; (try simp (maxSteps := 3000000) [Tr.map])
      (try simp [Tm.enc]); (first | (refine .done ?_; simp [Tm.enc]; done) | (refine Tn.wkRet ?_; simp (maxDischargeDepth := 20)) | (refine Tn.wkPan ?_; simp (maxDischargeDepth := 20)))
    | val n =>
      have e4 := ar_Eval_ok ⟨4, 0, ⟨#[45]⟩, [iT k, iT n]⟩ (two_inR (iT_inR (nx k rfl)) (iT_inR (ny n rfl))) (by rw [two_size, iT_size, iT_size]; omega)
      rw [evE_P (two_check (by decide) (int_all _) (int_all _) (by rw [iT_size, iT_size]; omega)), evalT_two, knows_minus, evalT_int, evalT_int] at e4
      have f4 := law12_f_ok ⟨#[45]⟩ [iT k, iT n]
      simp only [evP, Bool.true_eq_false, if_false] at e2 e3 e4
      simp only [Tm.enc, encs_cons, encs_nil] at f4 e4
      generalize outEv (twoT ⟨#[45]⟩ k n) = P at *
      have key : ∃ v w t, evP P = (v, w, t) := ⟨_, _, _, rfl⟩
      obtain ⟨v, w, t, hv⟩ := key
      cases P with
      | val q =>
        dsimp only at e3 e4
        (have hc_ := e1); (try simp at hc_); refine ACalls.retW hc_ (by simp (maxDischargeDepth := 20)) (by simp (maxDischargeDepth := 12)) (by simp (maxDischargeDepth := 12)) ?_; clear hc_; (try simp (maxSteps := 3000000) [Tr.map])
        (have hc_ := e2); (try simp at hc_); refine ACalls.retW hc_ (by simp (maxDischargeDepth := 20)) (by simp (maxDischargeDepth := 12)) (by simp (maxDischargeDepth := 12)) ?_; clear hc_; (try simp (maxSteps := 3000000) [Tr.map])
        refine ACalls.freeze 4 rfl ?_; simp
        (have hc_ := f3); (try simp at hc_); refine ACalls.retW hc_ (by simp (maxDischargeDepth := 20)) (by simp (maxDischargeDepth := 12)) (by simp (maxDischargeDepth := 12)) ?_; clear hc_; (try simp (maxSteps := 3000000) [Tr.map])
        (have hc_ := e3); (try simp at hc_); refine ACalls.retW hc_ (by simp (maxDischargeDepth := 20)) (by simp (maxDischargeDepth := 12)) (by simp (maxDischargeDepth := 12)) ?_; clear hc_; (try simp (maxSteps := 3000000) [Tr.map])
        (have hc_ := law12_i_ok k); (try simp at hc_); refine ACalls.retW hc_ (by simp (maxDischargeDepth := 20)) (by simp (maxDischargeDepth := 12)) (by simp (maxDischargeDepth := 12)) ?_; clear hc_; (try simp (maxSteps := 3000000) [Tr.map])
        (have hc_ := law12_i_ok n); (try simp at hc_); refine ACalls.retW hc_ (by simp (maxDischargeDepth := 20)) (by simp (maxDischargeDepth := 12)) (by simp (maxDischargeDepth := 12)) ?_; clear hc_; (try simp (maxSteps := 3000000) [Tr.map])
        refine ACalls.freeze 6 rfl ?_; simp
        (have hc_ := f4); (try simp at hc_); refine ACalls.retW hc_ (by simp (maxDischargeDepth := 20)) (by simp (maxDischargeDepth := 12)) (by simp (maxDischargeDepth := 12)) ?_; clear hc_; (try simp (maxSteps := 3000000) [Tr.map])
        (have hc_ := e4); (try simp at hc_); refine ACalls.retW hc_ (by simp (maxDischargeDepth := 20)) (by simp (maxDischargeDepth := 12)) (by simp (maxDischargeDepth := 12)) ?_; clear hc_; (try simp (maxSteps := 3000000) [Tr.map])
        (try simp [Tm.enc]); (first | (refine .done ?_; simp [Tm.enc]; done) | (refine Tn.wkRet ?_; simp (maxDischargeDepth := 20)) | (refine Tn.wkPan ?_; simp (maxDischargeDepth := 20)))
      | bad q u =>
        dsimp only at e3 e4
        (have hc_ := e1); (try simp at hc_); refine ACalls.retW hc_ (by simp (maxDischargeDepth := 20)) (by simp (maxDischargeDepth := 12)) (by simp (maxDischargeDepth := 12)) ?_; clear hc_; (try simp (maxSteps := 3000000) [Tr.map])
        (have hc_ := e2); (try simp at hc_); refine ACalls.retW hc_ (by simp (maxDischargeDepth := 20)) (by simp (maxDischargeDepth := 12)) (by simp (maxDischargeDepth := 12)) ?_; clear hc_; (try simp (maxSteps := 3000000) [Tr.map])
        refine ACalls.freeze 4 rfl ?_; simp
        (have hc_ := f3); (try simp at hc_); refine ACalls.retW hc_ (by simp (maxDischargeDepth := 20)) (by simp (maxDischargeDepth := 12)) (by simp (maxDischargeDepth := 12)) ?_; clear hc_; (try simp (maxSteps := 3000000) [Tr.map])
        (have hc_ := e3); (try simp at hc_); refine ACalls.retW hc_ (by simp (maxDischargeDepth := 20)) (by simp (maxDischargeDepth := 12)) (by simp (maxDischargeDepth := 12)) ?_; clear hc_; (try simp (maxSteps := 3000000) [Tr.map])
        (have hc_ := law12_i_ok k); (try simp at hc_); refine ACalls.retW hc_ (by simp (maxDischargeDepth := 20)) (by simp (maxDischargeDepth := 12)) (by simp (maxDischargeDepth := 12)) ?_; clear hc_; (try simp (maxSteps := 3000000) [Tr.map])
        (have hc_ := law12_i_ok n); (try simp at hc_); refine ACalls.retW hc_ (by simp (maxDischargeDepth := 20)) (by simp (maxDischargeDepth := 12)) (by simp (maxDischargeDepth := 12)) ?_; clear hc_; (try simp (maxSteps := 3000000) [Tr.map])
        refine ACalls.freeze 6 rfl ?_; simp
        (have hc_ := f4); (try simp at hc_); refine ACalls.retW hc_ (by simp (maxDischargeDepth := 20)) (by simp (maxDischargeDepth := 12)) (by simp (maxDischargeDepth := 12)) ?_; clear hc_; (try simp (maxSteps := 3000000) [Tr.map])
        (have hc_ := e4); (try simp at hc_); refine ACalls.retW hc_ (by simp (maxDischargeDepth := 20)) (by simp (maxDischargeDepth := 12)) (by simp (maxDischargeDepth := 12)) ?_; clear hc_; (try simp (maxSteps := 3000000) [Tr.map])
        (try simp [Tm.enc]); (first | (refine .done ?_; simp [Tm.enc]; done) | (refine Tn.wkRet ?_; simp (maxDischargeDepth := 20)) | (refine Tn.wkPan ?_; simp (maxDischargeDepth := 20)))

end Go.Proofs.Yteebkkipeiggcaa
