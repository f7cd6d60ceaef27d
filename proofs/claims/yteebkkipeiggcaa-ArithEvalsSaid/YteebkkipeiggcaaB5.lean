/- Contracts: a term that may be, all of it; Check. -/
import Derived.Test.YteebkkipeiggcaaB4
import Derived.Test.YteebkkipeiggcaaB3
set_option linter.unusedVariables false
set_option linter.unusedSimpArgs false
namespace Go.Proofs.Yteebkkipeiggcaa
open Go Go.Vm

set_option maxRecDepth 20000
set_option maxHeartbeats 1000000

def allB : Tm → Bool
  | ⟨k, n, s, a⟩ => mayB ⟨k, n, s, a⟩ && allsB a
where allsB : List Tm → Bool
  | [] => true
  | t :: l => allB t && allsB l

theorem allB_eq (t : Tm) : allB t = (mayB t && t.args.all allB) := by
  have h : ∀ l : List Tm, allB.allsB l = l.all allB := fun l => by induction l <;> simp [allB.allsB, *]
  cases t; simp [allB, h]

@[simp] def mayF : AV := .fn (.func 75) [] []
abbrev mayH : AH := [.var [mayF]]

/-- The first place of a list where something does not hold. -/
def idxNo : List Tm → Nat → Int
  | [], _ => -1
  | t :: l, k => if allB t then idxNo l (k + 1) else k

theorem idxNo_iff : ∀ (l : List Tm) (k : Nat), decide (0 ≤ idxNo l k) = !l.all allB
  | [], k => by simp [idxNo]
  | t :: l, k => by cases h : allB t <;> simp [idxNo, h, idxNo_iff l (k + 1)] <;> omega

theorem notall_ok (u : Tm) (h : ACalls Try.prog 74 [.agg u.enc, mayF] [] (fun r _ => r = .ret (.bool (allB u)))) :
    ACalls Try.prog 108 [.agg u.enc, .ptr 0 0] mayH (fun r h => r = .ret (.bool (!allB u)) ∧ h = mayH) := by
  refine ACalls.gc [] (by simp) (ACalls.post (calls_tree 400 fn108 (by simp [Try.f108]) ?_)); simp (maxSteps := 3000000) [Tr.map, Try.f108]
  (have hc_ := h); (try simp at hc_); refine ACalls.retW hc_ (by simp (maxDischargeDepth := 20)) (by simp (maxDischargeDepth := 12)) (by simp (maxDischargeDepth := 12)) ?_; clear hc_; (try simp (maxSteps := 3000000) [Tr.map])
  (try simp [Tm.enc]); (first | (refine .done ?_; simp [Tm.enc]; done) | (refine Tn.wkRet ?_; simp (maxDischargeDepth := 20)) | (refine Tn.wkPan ?_; simp (maxDischargeDepth := 20)))

theorem indexno_ok (l : List Tm) (hl : l.length ≤ 1000000) (h : ∀ u ∈ l, ACalls Try.prog 74 [.agg u.enc, mayF] [] (fun r _ => r = .ret (.bool (allB u)))) :
    ACalls Try.prog 122 [.ro 4 (encs l), .fn (.func 108) [] [.ptr 0 0]] mayH (fun r h => r = .ret (.int .i64 (idxNo l 0)) ∧ h = mayH) := by
  refine ACalls.gc [] (by simp) (ACalls.post (calls_tree 400 fn122 (by simp [Try.f122]) ?_)); simp (maxSteps := 3000000) [Tr.map, Try.f122]
  refine AStk.liveT [0, 1, 7, 8] (AStk.gc [] (by simp) (by simp) (by simp) ?_); simp [Tr.map]
  refine AStk.indE (fun d_ a_ h_ => ∃ (ds es : List Tm), (l = ds ++ es ∧ idxNo l 0 = idxNo es ds.length) ∧ d_ = es.length ∧ a_ = ⟨toL 19 (mkT [(0, .ro 4 (encs l)), (1, .fn (.func 108) [] [.ptr 0 0]), (7, .int .i64 l.length), (8, .int .i64 ds.length)] (.e .any)), []⟩ ∧ h_ = mayH) ?_ ?_
  · exact ⟨_, [], l, ⟨rfl, rfl⟩, rfl, by simp [Tr.map], rfl⟩
  rintro d a_ h_ ⟨ds, es, ⟨e1, e2⟩, rfl, rfl, rfl⟩ IH
  cases es with
  | nil =>
    simp at e1; subst e1
    refine stk_run 400 ?_; simp (maxSteps := 3000000) [Tr.map]
    (try simp [Tm.enc, e2, idxNo]); (first | (refine .done ?_; simp [Tm.enc, e2, idxNo]; done) | (refine Tn.wkRet ?_; simp (maxDischargeDepth := 20)) | (refine Tn.wkPan ?_; simp (maxDischargeDepth := 20)))
  | cons u es =>
    obtain ⟨p1, p2, p3, p4, p5⟩ := mid_facts e1
    refine stk_run 400 ?_; simp (maxSteps := 3000000) [Tr.map, p2, p3, p4, p1]
    refine ACalls.at2 [0] (notall_ok u (h u (by simp [e1]))) (by simp) (by simp) (by simp) (by simp) ?_; rintro r_ h1_ ⟨rfl, rfl⟩; refine ⟨by simp, ?_⟩; (try simp); (try simp (maxSteps := 3000000) [Tr.map])
    cases hu : allB u with
    | true =>
      (try simp)
      (try simp (maxSteps := 3000000) [Tr.map])
      (try simp (disch := omega) only [wrap64])
      refine AStk.liveT [0, 1, 7, 8] (AStk.gc [] (by simp) (by simp) (by simp) ?_); simp [Tr.map]
      exact IH _ _ _ (by simp) ⟨ds ++ [u], es, ⟨by simp [e1], by rw [e2]; simp [idxNo, hu]⟩, rfl, by simp [Tr.map, Int.add_assoc, Int.add_comm, Int.add_left_comm], by simp⟩
    | false =>
      (try simp)
      (try simp (maxSteps := 3000000) [Tr.map])
      (try simp [Tm.enc, e2, idxNo, hu]); (first | (refine .done ?_; simp [Tm.enc, e2, idxNo, hu]; done) | (refine Tn.wkRet ?_; simp (maxDischargeDepth := 20)) | (refine Tn.wkPan ?_; simp (maxDischargeDepth := 20)))

theorem containsno_ok (l : List Tm) (hl : l.length ≤ 1000000) (h : ∀ u ∈ l, ACalls Try.prog 74 [.agg u.enc, mayF] [] (fun r _ => r = .ret (.bool (allB u)))) :
    ACalls Try.prog 107 [.ro 4 (encs l), .fn (.func 108) [] [.ptr 0 0]] mayH (fun r h => r = .ret (.bool (!l.all allB)) ∧ h = mayH) := by
  refine ACalls.gc [] (by simp) (ACalls.post (calls_tree 400 fn107 (by simp [Try.f107]) ?_)); simp (maxSteps := 3000000) [Tr.map, Try.f107]
  refine ACalls.at2 [0] (indexno_ok l hl h) (by simp) (by simp) (by simp) (by simp) ?_; rintro r_ h1_ ⟨rfl, rfl⟩; refine ⟨by simp, ?_⟩; (try simp); (try simp (maxSteps := 3000000) [Tr.map])
  have hi := idxNo_iff l 0
  simp only [ge_iff_le, hi]
  (try simp [Tm.enc]); (first | (refine .done ?_; simp [Tm.enc]; done) | (refine Tn.wkRet ?_; simp (maxDischargeDepth := 20)) | (refine Tn.wkPan ?_; simp (maxDischargeDepth := 20)))

theorem all_ok (t : Tm) (hk : t.size ≤ 1000000) : ACalls Try.prog 74 [.agg t.enc, mayF] [] (fun r _ => r = .ret (.bool (allB t))) := by
  induction t using Tm.ind with | _ t ih
  have hmem : ∀ u ∈ t.args, ACalls Try.prog 74 [.agg u.enc, mayF] [] (fun r _ => r = .ret (.bool (allB u))) := fun u hu => ih u hu (by have := Tm.size_lt hu; omega)
  have hlen := t.length_lt
  clear ih
  have hR := allB_eq t
  generalize allB t = R at *
  cases hm : mayB t with
  | false =>
    simp [hm] at hR; subst hR
    refine ACalls.post (calls_tree 400 fn74 (by simp [Try.f74]) ?_); simp (maxSteps := 3000000) [Tr.map, Try.f74]
    (have hc_ := may_ok t (by omega)); (try simp at hc_); refine ACalls.retW hc_ (by simp (maxDischargeDepth := 20)) (by simp (maxDischargeDepth := 12)) (by simp (maxDischargeDepth := 12)) ?_; clear hc_; (try simp (maxSteps := 3000000) [Tr.map, hm])
    (try simp [Tm.enc]); (first | (refine .done ?_; simp [Tm.enc]; done) | (refine Tn.wkRet ?_; simp (maxDischargeDepth := 20)) | (refine Tn.wkPan ?_; simp (maxDischargeDepth := 20)))
  | true =>
    simp [hm] at hR
    refine ACalls.post (calls_tree 400 fn74 (by simp [Try.f74]) ?_); simp (maxSteps := 3000000) [Tr.map, Try.f74]
    (have hc_ := may_ok t (by omega)); (try simp at hc_); refine ACalls.retW hc_ (by simp (maxDischargeDepth := 20)) (by simp (maxDischargeDepth := 12)) (by simp (maxDischargeDepth := 12)) ?_; clear hc_; (try simp (maxSteps := 3000000) [Tr.map, hm])
    refine ACalls.at2 [1] (containsno_ok t.args (by omega) hmem) (by simp) (by simp) (by simp) (by simp) ?_; rintro r_ h1_ ⟨rfl, rfl⟩; refine ⟨by simp, ?_⟩; (try simp); (try simp (maxSteps := 3000000) [Tr.map])
    rw [hR]
    (try simp [Tm.enc]); (first | (refine .done ?_; simp [Tm.enc]; done) | (refine Tn.wkRet ?_; simp (maxDischargeDepth := 20)) | (refine Tn.wkPan ?_; simp (maxDischargeDepth := 20)))

/-- What Check says. -/
def checkT (t : Tm) : Int := if allB t = false then 2 else if 2000 < t.deep then 4 else if 20000 < t.size then 3 else 0

theorem check_ok (t : Tm) (hk : t.size ≤ 1000000) : ACalls Try.prog 42 [.agg t.enc] [] (fun r _ => r = .ret (.int .i64 (checkT t))) := by
  have hR : checkT t = if allB t = false then 2 else if 2000 < t.deep then 4 else if 20000 < t.size then 3 else 0 := rfl
  generalize checkT t = R at *
  have h1 := all_ok t hk
  generalize allB t = b at *
  cases b with
  | false =>
    simp at hR; subst hR
    refine ACalls.post (calls_tree 400 fn42 (by simp [Try.f42]) ?_); simp (maxSteps := 3000000) [Tr.map, Try.f42]
    (have hc_ := h1); (try simp at hc_); refine ACalls.retW hc_ (by simp (maxDischargeDepth := 20)) (by simp (maxDischargeDepth := 12)) (by simp (maxDischargeDepth := 12)) ?_; clear hc_; (try simp (maxSteps := 3000000) [Tr.map])
    (try simp [Tm.enc]); (first | (refine .done ?_; simp [Tm.enc]; done) | (refine Tn.wkRet ?_; simp (maxDischargeDepth := 20)) | (refine Tn.wkPan ?_; simp (maxDischargeDepth := 20)))
  | true =>
    simp at hR
    refine ACalls.post (calls_tree 400 fn42 (by simp [Try.f42]) ?_); simp (maxSteps := 3000000) [Tr.map, Try.f42]
    (have hc_ := h1); (try simp at hc_); refine ACalls.retW hc_ (by simp (maxDischargeDepth := 20)) (by simp (maxDischargeDepth := 12)) (by simp (maxDischargeDepth := 12)) ?_; clear hc_; (try simp (maxSteps := 3000000) [Tr.map])
    (have hc_ := term_Deep_ok t hk); (try simp at hc_); refine ACalls.retW hc_ (by simp (maxDischargeDepth := 20)) (by simp (maxDischargeDepth := 12)) (by simp (maxDischargeDepth := 12)) ?_; clear hc_; (try simp (maxSteps := 3000000) [Tr.map])
    by_cases hd : 2000 < t.deep
    · have hd' : (2000 : Int) < t.deep := by omega
      simp [hd] at hR; subst hR
      simp [hd']
      (try simp [Tm.enc]); (first | (refine .done ?_; simp [Tm.enc]; done) | (refine Tn.wkRet ?_; simp (maxDischargeDepth := 20)) | (refine Tn.wkPan ?_; simp (maxDischargeDepth := 20)))
    · have hd' : ¬ (2000 : Int) < t.deep := by omega
      simp [hd] at hR
      simp only [hd', if_false]
      simp (maxSteps := 3000000) [Tr.map]
      (have hc_ := term_Size_ok t hk); (try simp at hc_); refine ACalls.retW hc_ (by simp (maxDischargeDepth := 20)) (by simp (maxDischargeDepth := 12)) (by simp (maxDischargeDepth := 12)) ?_; clear hc_; (try simp (maxSteps := 3000000) [Tr.map])
      by_cases hs : 20000 < t.size
      · have hs' : (20000 : Int) < t.size := by omega
        simp [hs] at hR; subst hR
        simp [hs']
        (try simp [Tm.enc]); (first | (refine .done ?_; simp [Tm.enc]; done) | (refine Tn.wkRet ?_; simp (maxDischargeDepth := 20)) | (refine Tn.wkPan ?_; simp (maxDischargeDepth := 20)))
      · have hs' : ¬ (20000 : Int) < t.size := by omega
        simp [hs] at hR; subst hR
        simp only [hs', if_false]
        (try simp [Tm.enc]); (first | (refine .done ?_; simp [Tm.enc]; done) | (refine Tn.wkRet ?_; simp (maxDischargeDepth := 20)) | (refine Tn.wkPan ?_; simp (maxDischargeDepth := 20)))

end Go.Proofs.Yteebkkipeiggcaa


/- Contracts: what a term comes to (package arith). -/
namespace Go.Vm
open Go
theorem In64.mk {n : Int} (h1 : -9223372036854775808 ≤ n) (h2 : n ≤ 9223372036854775807) : In64 n := ⟨h1, h2⟩
theorem ite_in {p : Prop} [Decidable p] {x y : Int × Int} (hx : In64 x.1) (hy : In64 y.1) : In64 (if p then x else y).1 := by
  by_cases h : p
  · rw [if_pos h]; exact hx
  · rw [if_neg h]; exact hy
theorem z_in : In64 0 := ⟨by decide, by decide⟩
theorem one_in {a : Int} (ha : In64 a) (s : ByteArray) : In64 (oneT s a).1 := by
  unfold oneT
  refine ite_in ha (ite_in (fitZ_fst _) (ite_in (fitZ_fst _) (ite_in ?_ (ite_in ?_ z_in))))
  · unfold In64 at *; dsimp only; omega
  · unfold In64 notZ at *; dsimp only; omega
theorem mod_in {a b : Int} (ha : In64 a) (hb : In64 b) : In64 (modZ a b).1 := by
  unfold modZ
  by_cases h0 : b = 0
  · rw [if_pos h0]; exact z_in
  rw [if_neg h0]
  show In64 (a.fmod b)
  have h1 := tmod_in ha h0
  rw [fmod_law h0]
  unfold In64 at *
  split
  · rename_i hc
    have := hc.2
    by_cases q : a.tmod b < 0 <;> by_cases q' : b < 0 <;> simp [q, q'] at this <;> omega
  · exact h1
theorem rem_in {a b : Int} (ha : In64 a) : In64 (remZ a b).1 := by
  unfold remZ
  by_cases h0 : b = 0
  · rw [if_pos h0]; exact z_in
  rw [if_neg h0]; exact tmod_in ha h0
theorem right_in {a b : Int} (ha : In64 a) : In64 (rightZ a b).1 := by
  unfold rightZ
  refine ite_in z_in ?_
  have hp : (0 : Int) < 2 ^ (min b 63).toNat := Int.pow_pos (by decide)
  show In64 (a.fdiv _)
  rw [Int.fdiv_eq_ediv_of_nonneg _ (Int.le_of_lt hp)]
  generalize (2 : Int) ^ (min b 63).toNat = P at *
  have h1 := Int.ediv_mul_le a (b := P) (by omega)
  have h2 := Int.lt_ediv_add_one_mul_self a hp
  unfold In64 at *
  by_cases hq : 0 ≤ a / P
  · have h3 : a / P * 1 ≤ a / P * P := Int.mul_le_mul_of_nonneg_left (by omega) hq
    omega
  · have h3 : (a / P + 1) * P ≤ (a / P + 1) * 1 := Int.mul_le_mul_of_nonpos_left (by omega) (by omega)
    omega
theorem pow_in {a b : Int} : In64 (powZ a b).1 := by
  unfold powZ
  refine ite_in ⟨by decide, by decide⟩ (ite_in ?_ (ite_in z_in (ite_in z_in (ite_in z_in (fitZ_fst _)))))
  unfold In64; dsimp only; omega
theorem two_in {a b : Int} (ha : In64 a) (hb : In64 b) (s : ByteArray) : In64 (twoT s a b).1 := by
  unfold twoT
  refine ite_in (fitZ_fst _) (ite_in (fitZ_fst _) (ite_in (fitZ_fst _) (ite_in (ite_in z_in (fitZ_fst _)) (ite_in (rem_in ha) (ite_in (mod_in ha hb) (ite_in (ite_in z_in (fitZ_fst _)) (ite_in ?_ (ite_in ?_ (ite_in (toInt_in _) (ite_in (toInt_in _) (ite_in (toInt_in _)
    (ite_in (ite_in z_in (fitZ_fst _)) (ite_in (right_in ha) (ite_in pow_in (ite_in pow_in z_in)))))))))))))))
  · unfold In64 at *; dsimp only; omega
  · unfold In64 at *; dsimp only; omega
/-- What a term comes to. -/
inductive Ev where
  | val (n : Int)
  | bad (e : Int) (t : Tm)
abbrev zT : Tm := ⟨0, 0, ⟨#[]⟩, []⟩
abbrev indA (s : ByteArray) (n : Int) : Tm := ⟨4, 0, ⟨#[47]⟩, [⟨3, 0, s, []⟩, ⟨2, n, ⟨#[]⟩, []⟩]⟩
def outEv (p : Int × Int) : Ev := if p.2 = 0 then .val p.1 else .bad p.2 zT
def knowsB (s : ByteArray) (k : Nat) : Bool := if k = 1 then decide ((oneT s 1).2 ≠ 8) else if k = 2 then decide ((twoT s 1 1).2 ≠ 8) else false
def evalT : Tm → Ev
  | ⟨k, n, s, a⟩ => if k = 2 then .val n else if k = 1 then .bad 12 zT else if knowsB s a.length = false then .bad 13 (indA s a.length) else
    match a with
    | [x] => (match evalT x with
      | .bad e t => .bad e t
      | .val m => outEv (oneT s m))
    | [x, y] => (match evalT x with
      | .bad e t => .bad e t
      | .val m => (match evalT y with
        | .bad e t => .bad e t
        | .val l => outEv (twoT s m l)))
    | _ => .bad 0 zT
theorem knows_len {s : ByteArray} {k : Nat} (h : ¬ knowsB s k = false) : k = 1 ∨ k = 2 := by
  unfold knowsB at h
  by_cases h1 : k = 1
  · exact .inl h1
  by_cases h2 : k = 2
  · exact .inr h2
  · simp [h1, h2] at h
theorem outEv_in {p : Int × Int} (h : In64 p.1) {n : Int} (e : outEv p = .val n) : In64 n := by
  unfold outEv at e
  split at e
  · cases e; exact h
  · cases e
theorem evalT_in {t : Tm} (hr : InR t) : ∀ {n : Int}, evalT t = .val n → In64 n := by
  induction t using Tm.ind with | _ t ih
  intro n e
  obtain ⟨_, h1, h2⟩ := hr
  obtain ⟨k, m, s, a⟩ := t
  unfold evalT at e
  simp only at h1 h2
  by_cases k2 : k = 2
  · rw [if_pos k2] at e; cases e; exact h1
  rw [if_neg k2] at e
  by_cases k1 : k = 1
  · rw [if_pos k1] at e; cases e
  rw [if_neg k1] at e
  by_cases kb : knowsB s a.length = false
  · rw [if_pos kb] at e; cases e
  rw [if_neg kb] at e
  rcases a with _ | ⟨x, _ | ⟨y, _ | ⟨z, a⟩⟩⟩
  · cases e
  · dsimp only at e
    cases hx : evalT x with
    | bad e' t => rw [hx] at e; cases e
    | val m' => rw [hx] at e; exact outEv_in (one_in (ih x (by simp) (h2 x (by simp)) hx) _) e
  · dsimp only at e
    cases hx : evalT x with
    | bad e' t => rw [hx] at e; cases e
    | val m' =>
      rw [hx] at e
      cases hy : evalT y with
      | bad e' t => rw [hy] at e; cases e
      | val l => rw [hy] at e; exact outEv_in (two_in (ih x (by simp) (h2 x (by simp)) hx) (ih y (by simp) (h2 y (by simp)) hy) _) e
  · cases e
end Go.Vm
namespace Go.Proofs.Yteebkkipeiggcaa
open Go Go.Vm

set_option maxRecDepth 20000
set_option maxHeartbeats 2000000

def evR : Ev → ARes
  | .val n => .ret (.int .i64 n)
  | .bad e t => .pan (.iface 121 (.agg (.int .i64 e :: t.enc)))

theorem knows_ok (s : ByteArray) (k : Nat) (hk : k < 1000000) : ACalls Try.prog 110 [.str s, .int .i64 k] [] (fun r _ => r = .ret (.bool (knowsB s k))) := by
  by_cases h1 : k = 1
  · subst h1
    have m := num_one_ok s 1 (by decide)
    simp only [knowsB, if_true]
    generalize oneT s 1 = p at *
    have hq : (p.2 != 8) = !decide (p.2 = 8) := by by_cases h : p.2 = 8 <;> simp [h]
    refine ACalls.post (calls_tree 400 fn110 (by simp [Try.f110]) ?_); simp (maxSteps := 3000000) [Tr.map, Try.f110]
    (have hc_ := m); (try simp at hc_); refine ACalls.retW hc_ (by simp (maxDischargeDepth := 20)) (by simp (maxDischargeDepth := 12)) (by simp (maxDischargeDepth := 12)) ?_; clear hc_; (try simp (maxSteps := 3000000) [Tr.map])
    (try simp [Tm.enc, hq]); (first | (refine .done ?_; simp [Tm.enc, hq]; done) | (refine Tn.wkRet ?_; simp (maxDischargeDepth := 20)) | (refine Tn.wkPan ?_; simp (maxDischargeDepth := 20)))
  by_cases h2 : k = 2
  · subst h2
    have m := num_two_ok s 1 1 (by decide) (by decide)
    simp only [knowsB, if_true, if_neg h1]
    generalize twoT s 1 1 = p at *
    have hq : (p.2 != 8) = !decide (p.2 = 8) := by by_cases h : p.2 = 8 <;> simp [h]
    refine ACalls.post (calls_tree 400 fn110 (by simp [Try.f110]) ?_); simp (maxSteps := 3000000) [Tr.map, Try.f110]
    (have hc_ := m); (try simp at hc_); refine ACalls.retW hc_ (by simp (maxDischargeDepth := 20)) (by simp (maxDischargeDepth := 12)) (by simp (maxDischargeDepth := 12)) ?_; clear hc_; (try simp (maxSteps := 3000000) [Tr.map])
    (try simp [Tm.enc, hq]); (first | (refine .done ?_; simp [Tm.enc, hq]; done) | (refine Tn.wkRet ?_; simp (maxDischargeDepth := 20)) | (refine Tn.wkPan ?_; simp (maxDischargeDepth := 20)))
  have g1 : ¬ (k : Int) = 1 := by omega
  have g2 : ¬ (k : Int) = 2 := by omega
  refine ACalls.post (calls_tree 400 fn110 (by simp [Try.f110]) ?_); simp (maxSteps := 3000000) [Tr.map, Try.f110, g1, g2]
  (try simp [Tm.enc, knowsB, h1, h2]); (first | (refine .done ?_; simp [Tm.enc, knowsB, h1, h2]; done) | (refine Tn.wkRet ?_; simp (maxDischargeDepth := 20)) | (refine Tn.wkPan ?_; simp (maxDischargeDepth := 20)))

theorem ar_ind_ok (s : ByteArray) (n : Int) : ACalls Try.prog 111 [.str s, .int .i64 n] [] (fun r _ => r = .ret (.agg (indA s n).enc)) := by
  refine ACalls.post (calls_tree 400 fn111 (by simp [Try.f111]) ?_); simp (maxSteps := 3000000) [Tr.map, Try.f111]
  refine .fz 1 rfl ?_; simp
  (try simp [Tm.enc]); (first | (refine .done ?_; simp [Tm.enc]; done) | (refine Tn.wkRet ?_; simp (maxDischargeDepth := 20)) | (refine Tn.wkPan ?_; simp (maxDischargeDepth := 20)))

theorem eval_ok (t : Tm) (hr : InR t) (hk : t.size ≤ 1000000) : ACalls Try.prog 78 [.agg t.enc] [] (fun r _ => r = evR (evalT t)) := by
  induction t using Tm.ind with | _ t ih
  have hlen := t.length_lt
  have hin : ∀ u ∈ t.args, ∀ n, evalT u = .val n → In64 n := fun u hu n e => evalT_in (by obtain ⟨_, _, h2⟩ := hr; exact h2 u hu) e
  have hmem : ∀ u ∈ t.args, ACalls Try.prog 78 [.agg u.enc] [] (fun r _ => r = evR (evalT u)) := fun u hu => ih u hu (by obtain ⟨_, _, h2⟩ := hr; exact h2 u hu) (by have := Tm.size_lt hu; omega)
  clear ih hr
  obtain ⟨k, n, s, a⟩ := t
  simp only at hlen hin hmem
  unfold evalT
  by_cases h2 : k = 2
  · subst h2
    refine ACalls.post (calls_tree 400 fn78 (by simp [Try.f78]) ?_); simp (maxSteps := 3000000) [Tr.map, Try.f78]
    (try simp [Tm.enc, evR]); (first | (refine .done ?_; simp [Tm.enc, evR]; done) | (refine Tn.wkRet ?_; simp (maxDischargeDepth := 20)) | (refine Tn.wkPan ?_; simp (maxDischargeDepth := 20)))
  by_cases h1 : k = 1
  · subst h1
    refine ACalls.post (calls_tree 400 fn78 (by simp [Try.f78]) ?_); simp (maxSteps := 3000000) [Tr.map, Try.f78]
    (try simp [Tm.enc, evR]); (first | (refine .done ?_; simp [Tm.enc, evR]; done) | (refine Tn.wkRet ?_; simp (maxDischargeDepth := 20)) | (refine Tn.wkPan ?_; simp (maxDischargeDepth := 20)))
  simp only [if_neg h1, if_neg h2]
  have kn := knows_ok s a.length (by omega)
  by_cases hb : knowsB s a.length = false
  · rw [hb] at kn
    rw [if_pos hb]
    refine ACalls.post (calls_tree 400 fn78 (by simp [Try.f78]) ?_); simp (maxSteps := 3000000) [Tr.map, Try.f78, h1, h2]
    (have hc_ := kn); (try simp at hc_); refine ACalls.retW hc_ (by simp (maxDischargeDepth := 20)) (by simp (maxDischargeDepth := 12)) (by simp (maxDischargeDepth := 12)) ?_; clear hc_; (try simp (maxSteps := 3000000) [Tr.map])
    (have hc_ := ar_ind_ok s a.length); (try simp at hc_); refine ACalls.retW hc_ (by simp (maxDischargeDepth := 20)) (by simp (maxDischargeDepth := 12)) (by simp (maxDischargeDepth := 12)) ?_; clear hc_; (try simp (maxSteps := 3000000) [Tr.map])
    (try simp [Tm.enc, evR]); (first | (refine .done ?_; simp [Tm.enc, evR]; done) | (refine Tn.wkRet ?_; simp (maxDischargeDepth := 20)) | (refine Tn.wkPan ?_; simp (maxDischargeDepth := 20)))
  rw [if_neg hb]
  have hb' : knowsB s a.length = true := by simpa using hb
  rw [hb'] at kn
  rcases knows_len hb with hl | hl
  · obtain ⟨x, rfl⟩ := List.length_eq_one_iff.1 hl
    have mx := hmem x (by simp)
    have ix := hin x (by simp)
    simp only
    generalize evalT x = X at *
    refine ACalls.post (calls_tree 400 fn78 (by simp [Try.f78]) ?_); simp (maxSteps := 3000000) [Tr.map, Try.f78, h1, h2]
    (have hc_ := kn); (try simp at hc_); refine ACalls.retW hc_ (by simp (maxDischargeDepth := 20)) (by simp (maxDischargeDepth := 12)) (by simp (maxDischargeDepth := 12)) ?_; clear hc_; (try simp (maxSteps := 3000000) [Tr.map])
    refine AStk.round ?_
    refine stk_run 400 ?_; simp (maxSteps := 3000000) [Tr.map]
    cases X with
    | bad e t =>
      simp only [evR] at mx
      (have hc_ := mx); (try simp at hc_); refine ACalls.panW hc_ (by simp (maxDischargeDepth := 20)) (by simp (maxDischargeDepth := 12)) (by simp (maxDischargeDepth := 12)) ?_; clear hc_; (try simp (maxSteps := 3000000) [Tr.map])
      (try simp [Tm.enc, evR]); (first | (refine .done ?_; simp [Tm.enc, evR]; done) | (refine Tn.wkRet ?_; simp (maxDischargeDepth := 20)) | (refine Tn.wkPan ?_; simp (maxDischargeDepth := 20)))
    | val m =>
      simp only [evR] at mx
      dsimp only
      have o1 := num_one_ok s m (ix m rfl)
      generalize oneT s m = p at *
      (have hc_ := mx); (try simp at hc_); refine ACalls.retW hc_ (by simp (maxDischargeDepth := 20)) (by simp (maxDischargeDepth := 12)) (by simp (maxDischargeDepth := 12)) ?_; clear hc_; (try simp (maxSteps := 3000000) [Tr.map])
      refine AStk.round ?_
      refine stk_run 400 ?_; simp (maxSteps := 3000000) [Tr.map]
      refine stk_draw mixed (tabOf_ok _) (fnOf_ok _) 10 (by kernel_rfl) ?_; simp (maxSteps := 3000000) [Tr.map]
      (have hc_ := o1); (try simp at hc_); refine QCall.introW hc_ (by simp (maxDischargeDepth := 20)) (by simp (maxDischargeDepth := 12)) (by simp (maxDischargeDepth := 12)) ?_; clear hc_; (try simp (maxSteps := 3000000) [Tr.map])
      refine stk_run 400 ?_; simp (maxSteps := 3000000) [Tr.map]
      by_cases hp : p.2 = 0
      · simp (maxSteps := 3000000) [Tr.map, hp]
        (try simp [Tm.enc, evR, outEv, hp]); (first | (refine .done ?_; simp [Tm.enc, evR, outEv, hp]; done) | (refine Tn.wkRet ?_; simp (maxDischargeDepth := 20)) | (refine Tn.wkPan ?_; simp (maxDischargeDepth := 20)))
      · simp (maxSteps := 3000000) [Tr.map, hp]
        (try simp [Tm.enc, evR, outEv, hp]); (first | (refine .done ?_; simp [Tm.enc, evR, outEv, hp]; done) | (refine Tn.wkRet ?_; simp (maxDischargeDepth := 20)) | (refine Tn.wkPan ?_; simp (maxDischargeDepth := 20)))
  · obtain ⟨x, y, rfl⟩ : ∃ x y, a = [x, y] := by
      rcases a with _ | ⟨x, _ | ⟨y, _ | ⟨z, a⟩⟩⟩
      · simp at hl
      · simp at hl
      · exact ⟨x, y, rfl⟩
      · simp at hl
    have mx := hmem x (by simp)
    have ix := hin x (by simp)
    have my := hmem y (by simp)
    have iy := hin y (by simp)
    simp only
    generalize evalT x = X at *
    generalize evalT y = Y at *
    refine ACalls.post (calls_tree 400 fn78 (by simp [Try.f78]) ?_); simp (maxSteps := 3000000) [Tr.map, Try.f78, h1, h2]
    (have hc_ := kn); (try simp at hc_); refine ACalls.retW hc_ (by simp (maxDischargeDepth := 20)) (by simp (maxDischargeDepth := 12)) (by simp (maxDischargeDepth := 12)) ?_; clear hc_; (try simp (maxSteps := 3000000) [Tr.map])
    refine AStk.round ?_
    refine stk_run 400 ?_; simp (maxSteps := 3000000) [Tr.map]
    cases X with
    | bad e t =>
      simp only [evR] at mx
      (have hc_ := mx); (try simp at hc_); refine ACalls.panW hc_ (by simp (maxDischargeDepth := 20)) (by simp (maxDischargeDepth := 12)) (by simp (maxDischargeDepth := 12)) ?_; clear hc_; (try simp (maxSteps := 3000000) [Tr.map])
      (try simp [Tm.enc, evR]); (first | (refine .done ?_; simp [Tm.enc, evR]; done) | (refine Tn.wkRet ?_; simp (maxDischargeDepth := 20)) | (refine Tn.wkPan ?_; simp (maxDischargeDepth := 20)))
    | val m =>
      simp only [evR] at mx
      (have hc_ := mx); (try simp at hc_); refine ACalls.retW hc_ (by simp (maxDischargeDepth := 20)) (by simp (maxDischargeDepth := 12)) (by simp (maxDischargeDepth := 12)) ?_; clear hc_; (try simp (maxSteps := 3000000) [Tr.map])
      refine AStk.round ?_
      refine stk_run 400 ?_; simp (maxSteps := 3000000) [Tr.map]
      cases Y with
      | bad e t =>
        simp only [evR] at my
        (have hc_ := my); (try simp at hc_); refine ACalls.panW hc_ (by simp (maxDischargeDepth := 20)) (by simp (maxDischargeDepth := 12)) (by simp (maxDischargeDepth := 12)) ?_; clear hc_; (try simp (maxSteps := 3000000) [Tr.map])
        (try simp [Tm.enc, evR]); (first | (refine .done ?_; simp [Tm.enc, evR]; done) | (refine Tn.wkRet ?_; simp (maxDischargeDepth := 20)) | (refine Tn.wkPan ?_; simp (maxDischargeDepth := 20)))
      | val l =>
        simp only [evR] at my
        dsimp only
        have o1 := num_one_ok s m (ix m rfl)
        have o2 := num_two_ok s m l (ix m rfl) (iy l rfl)
        generalize oneT s m = q at *
        generalize twoT s m l = p at *
        (have hc_ := my); (try simp at hc_); refine ACalls.retW hc_ (by simp (maxDischargeDepth := 20)) (by simp (maxDischargeDepth := 12)) (by simp (maxDischargeDepth := 12)) ?_; clear hc_; (try simp (maxSteps := 3000000) [Tr.map])
        refine AStk.round ?_
        refine stk_run 400 ?_; simp (maxSteps := 3000000) [Tr.map]
        refine stk_draw mixed (tabOf_ok _) (fnOf_ok _) 10 (by kernel_rfl) ?_; simp (maxSteps := 3000000) [Tr.map]
        (have hc_ := o1); (try simp at hc_); refine QCall.introW hc_ (by simp (maxDischargeDepth := 20)) (by simp (maxDischargeDepth := 12)) (by simp (maxDischargeDepth := 12)) ?_; clear hc_; (try simp (maxSteps := 3000000) [Tr.map])
        refine stk_run 400 ?_; simp (maxSteps := 3000000) [Tr.map]
        refine stk_draw mixed (tabOf_ok _) (fnOf_ok _) 13 (by kernel_rfl) ?_; simp (maxSteps := 3000000) [Tr.map]
        (have hc_ := o2); (try simp at hc_); refine QCall.introW hc_ (by simp (maxDischargeDepth := 20)) (by simp (maxDischargeDepth := 12)) (by simp (maxDischargeDepth := 12)) ?_; clear hc_; (try simp (maxSteps := 3000000) [Tr.map])
        refine stk_run 400 ?_; simp (maxSteps := 3000000) [Tr.map]
        by_cases hp : p.2 = 0
        · simp (maxSteps := 3000000) [Tr.map, hp]
          (try simp [Tm.enc, evR, outEv, hp]); (first | (refine .done ?_; simp [Tm.enc, evR, outEv, hp]; done) | (refine Tn.wkRet ?_; simp (maxDischargeDepth := 20)) | (refine Tn.wkPan ?_; simp (maxDischargeDepth := 20)))
        · simp (maxSteps := 3000000) [Tr.map, hp]
          (try simp [Tm.enc, evR, outEv, hp]); (first | (refine .done ?_; simp [Tm.enc, evR, outEv, hp]; done) | (refine Tn.wkRet ?_; simp (maxDischargeDepth := 20)) | (refine Tn.wkPan ?_; simp (maxDischargeDepth := 20)))

end Go.Proofs.Yteebkkipeiggcaa


/- Contracts: Eval and Holds (package arith). -/
namespace Go.Proofs.Yteebkkipeiggcaa
open Go Go.Vm
/-- What Eval says. -/
def evE (t : Tm) : Int × Int × Tm :=
  if checkT t = 0 then (match evalT t with
    | .val n => (n, 0, zT)
    | .bad e x => (0, e, x))
  else (0, checkT t, zT)

set_option maxRecDepth 20000
set_option maxHeartbeats 2000000

abbrev evO (p : Int × Int × Tm) : AV := .tup [.int .i64 p.1, .int .i64 p.2.1, .agg p.2.2.enc]

theorem ar_Eval_ok (t : Tm) (hr : InR t) (hk : t.size ≤ 1000000) : ACalls Try.prog 45 [.agg t.enc] [] (fun r _ => r = .ret (evO (evE t))) := by
  have c := check_ok t hk
  have e := eval_ok t hr hk
  unfold evE
  generalize checkT t = q at *
  by_cases h0 : q = 0
  · subst h0
    simp only [if_true]
    generalize evalT t = X at *
    cases X with
    | val n =>
      simp only [evR] at e
      dsimp only
      refine ACalls.post (calls_treeD 400 fn45 (by simp [Try.f45]) ?_); simp (maxSteps := 3000000) [Tr.map, Try.f45]
      (have hc_ := c); (try simp at hc_); refine ACalls.retW hc_ (by simp (maxDischargeDepth := 20)) (by simp (maxDischargeDepth := 12)) (by simp (maxDischargeDepth := 12)) ?_; clear hc_; (try simp (maxSteps := 3000000) [Tr.map])
      (have hc_ := e); (try simp at hc_); refine ACalls.retW hc_ (by simp (maxDischargeDepth := 20)) (by simp (maxDischargeDepth := 12)) (by simp (maxDischargeDepth := 12)) ?_; clear hc_; (try simp (maxSteps := 3000000) [Tr.map])
      refine callsD_tree 400 fn77 (i := 0) rfl rfl ⟨rfl, _, rfl⟩ rfl (by simp [Try.f77]) ?_; simp (maxSteps := 3000000) [Tr.map, Try.f77]
      (try simp [Tm.enc]); (first | (refine .done ?_; simp [Tm.enc]; done) | (refine Tn.wkRet ?_; simp (maxDischargeDepth := 20)) | (refine Tn.wkPan ?_; simp (maxDischargeDepth := 20)))
    | bad k x =>
      simp only [evR] at e
      dsimp only
      refine ACalls.post (calls_treeD 400 fn45 (by simp [Try.f45]) ?_); simp (maxSteps := 3000000) [Tr.map, Try.f45]
      (have hc_ := c); (try simp at hc_); refine ACalls.retW hc_ (by simp (maxDischargeDepth := 20)) (by simp (maxDischargeDepth := 12)) (by simp (maxDischargeDepth := 12)) ?_; clear hc_; (try simp (maxSteps := 3000000) [Tr.map])
      (have hc_ := e); (try simp at hc_); refine ACalls.panW hc_ (by simp (maxDischargeDepth := 20)) (by simp (maxDischargeDepth := 12)) (by simp (maxDischargeDepth := 12)) ?_; clear hc_; (try simp (maxSteps := 3000000) [Tr.map])
      refine callsD_tree 400 fn77 (i := 0) rfl rfl ⟨rfl, _, rfl⟩ rfl (by simp [Try.f77]) ?_; simp (maxSteps := 3000000) [Tr.map, Try.f77]
      refine stk_drawG mixed (tabOf_ok _) (fnOf_ok _) 8 7 (by kernel_rfl) [1] .undef [.var (setAt [.int .i64 0] 0 [.int .i64 k])] (by decide) (by simp) (by simp) ?_; simp (maxSteps := 3000000) [Tr.map, kills]
      refine LaterG.store (id := 1) (cs := [.int .i64 0]) (off := 0) (xs := [.int .i64 k]) (tabOf_ok _) (by simp [OnA, yieldA]) rfl (by simp) (by simp; rfl) (by simp) (by simp) rfl (by simp) (by simp) ?_; simp (maxSteps := 3000000) [Tr.map]
      simp [LaterB]; refine stk_run 400 ?_; simp (maxSteps := 3000000) [Tr.map]
      (try simp [Tm.enc]); (first | (refine .done ?_; simp [Tm.enc]; done) | (refine Tn.wkRet ?_; simp (maxDischargeDepth := 20)) | (refine Tn.wkPan ?_; simp (maxDischargeDepth := 20)))
  · rw [if_neg h0]
    refine ACalls.post (calls_treeD 400 fn45 (by simp [Try.f45]) ?_); simp (maxSteps := 3000000) [Tr.map, Try.f45]
    (have hc_ := c); (try simp at hc_); refine ACalls.retW hc_ (by simp (maxDischargeDepth := 20)) (by simp (maxDischargeDepth := 12)) (by simp (maxDischargeDepth := 12)) ?_; clear hc_; (try simp (maxSteps := 3000000) [Tr.map, h0])
    (try simp [Tm.enc]); (first | (refine .done ?_; simp [Tm.enc]; done) | (refine Tn.wkRet ?_; simp (maxDischargeDepth := 20)) | (refine Tn.wkPan ?_; simp (maxDischargeDepth := 20)))

end Go.Proofs.Yteebkkipeiggcaa


/- Plain laws: terms of parts may be. -/
namespace Go.Proofs.Yteebkkipeiggcaa
open Go Go.Vm

/-- How many arguments, all through. -/
inductive Ar (n : Nat) : Tm → Prop
  | mk (t : Tm) (h1 : t.args.length ≤ n) (h2 : ∀ u ∈ t.args, Ar n u) : Ar n t

theorem kidsF_ar {g : List Pt → Tm × Nat} (hg : ∀ l, Ar 7 (g l).1) : ∀ k l, ∀ u ∈ (kidsF g k l).1, Ar 7 u
  | 0, l, u, hu => by simp [kidsF] at hu
  | k + 1, l, u, hu => by
    simp [kidsF] at hu
    rcases hu with rfl | hu
    · exact hg l
    · exact kidsF_ar hg k _ u hu
theorem atomA_ar : Ar 7 atomA := .mk _ (by simp [atomA]) (by simp [atomA])
theorem ofF_ar : ∀ f l, Ar 7 (ofF f l).1
  | 0, l => atomA_ar
  | f + 1, [] => atomA_ar
  | f + 1, p :: l => by
    simp only [ofF]
    exact .mk _ (by rw [kidsF_length]; omega) (kidsF_ar (ofF_ar f) _ _)
theorem mendF_ar (t : Tm) (h : Ar 7 t) : Ar 7 (mendF t) := by
  induction t using Tm.ind with | _ t ih
  obtain ⟨_, h1, h2⟩ := h
  rw [mendF_eq]
  (repeat' split) <;> first | exact atomA_ar | (refine .mk _ ?_ ?_ <;> simp; done) | skip
  rw [mends_map]
  refine .mk _ (by simpa using h1) fun u hu => ?_
  simp at hu
  obtain ⟨v, hv, rfl⟩ := hu
  exact ih v hv (h2 v hv)
theorem goodT_ar (l : List Pt) : Ar 7 (goodT l) := mendF_ar _ (ofF_ar _ _)
theorem fine_all {t : Tm} (h : Fine t) (ha : Ar 7 t) : allB t = true := by
  induction h with
  | var n h => rw [allB_eq]; simp [mayB, h]
  | int n => rw [allB_eq]; simp [mayB]
  | atom s h => rw [allB_eq]; simp [mayB]; omega
  | comp s h l hl hs ih =>
    obtain ⟨_, h1, h2⟩ := ha
    simp only at h1 h2
    have : 0 < l.length := List.length_pos_iff.2 hl
    rw [allB_eq]
    simp [mayB]
    refine ⟨by constructor <;> omega, fun u hu => ih u hu (h2 u hu)⟩
theorem good_all (l : List Pt) : allB (goodT l) = true := fine_all (goodT_fine l) (goodT_ar l)


/-- The numbers of a term of parts are of 64 bits. -/
theorem kidsF_inR {g : List Pt → Tm × Nat} (hg : ∀ l, (∀ p ∈ l, In64 p.n) → InR (g l).1) : ∀ k l, (∀ p ∈ l, In64 p.n) → ∀ u ∈ (kidsF g k l).1, InR u
  | 0, l, _, u, hu => by simp [kidsF] at hu
  | k + 1, l, hl, u, hu => by
    simp [kidsF] at hu
    rcases hu with rfl | hu
    · exact hg l hl
    · exact kidsF_inR hg k _ (fun p hp => hl p (List.mem_of_mem_drop hp)) u hu
theorem atomA_inR : InR atomA := .mk _ ⟨by decide, by decide⟩ (by simp [atomA])
theorem ofF_inR : ∀ f l, (∀ p ∈ l, In64 p.n) → InR (ofF f l).1
  | 0, l, _ => atomA_inR
  | f + 1, [], _ => atomA_inR
  | f + 1, p :: l, h => by
    simp only [ofF]
    exact .mk _ (h p (by simp)) (kidsF_inR (ofF_inR f) _ _ (fun q hq => h q (by simp [hq])))
theorem mendF_inR (t : Tm) (h : InR t) : InR (mendF t) := by
  induction t using Tm.ind with | _ t ih
  obtain ⟨_, h1, h2⟩ := h
  have z : In64 0 := ⟨by decide, by decide⟩
  rw [mendF_eq]
  (repeat' split) <;> first | exact atomA_inR | skip
  · exact .mk _ (by unfold In64 at *; dsimp only; omega) (by simp)
  · exact .mk _ h1 (by simp)
  · exact .mk _ z (by simp)
  · rw [mends_map]
    refine .mk _ z fun u hu => ?_
    simp at hu
    obtain ⟨v, hv, rfl⟩ := hu
    exact ih v hv (h2 v hv)
theorem goodT_inR (l : List Pt) (h : ∀ p ∈ l, In64 p.n) : InR (goodT l) := mendF_inR _ (ofF_inR _ _ h)
theorem good_check (l : List Pt) (h60 : l.length ≤ 60) : checkT (goodT l) = 0 := by
  have h1 := good_all l
  have h2 := goodT_size l h60
  have h3 := deep_le_size (goodT l)
  unfold checkT
  rw [h1, if_neg (by simp), if_neg (by omega), if_neg (by omega)]
end Go.Proofs.Yteebkkipeiggcaa


/- Contracts: Holds (package arith), and the law's own small functions. -/
namespace Go.Proofs.Yteebkkipeiggcaa
open Go Go.Vm

set_option maxRecDepth 20000
set_option maxHeartbeats 2000000

theorem ar_same_ok (a b : Int) : ACalls Try.prog 96 [prE a b] [] (fun r _ => r = .ret (.bool (decide (a = b)))) := by
  by_cases h1 : a = b <;> by_cases h2 : a < b <;> by_cases h3 : b < a <;> (try (exfalso; omega))
  all_goals
    have h4 : (a ≤ b) = (¬ b < a) := by simp
    have h5 : (b ≤ a) = (¬ a < b) := by simp
    refine ACalls.post (calls_tree 400 fn96 (by simp [Try.f96]) ?_); simp (maxSteps := 3000000) [Tr.map, Try.f96, h1, h2, h3, h4, h5]
    (try simp [Tm.enc, h1, h2, h3, h4, h5]); (first | (refine .done ?_; simp [Tm.enc, h1, h2, h3, h4, h5]; done) | (refine Tn.wkRet ?_; simp (maxDischargeDepth := 20)) | (refine Tn.wkPan ?_; simp (maxDischargeDepth := 20)))
theorem ar_other_ok (a b : Int) : ACalls Try.prog 97 [prE a b] [] (fun r _ => r = .ret (.bool (!decide (a = b)))) := by
  by_cases h1 : a = b <;> by_cases h2 : a < b <;> by_cases h3 : b < a <;> (try (exfalso; omega))
  all_goals
    have h4 : (a ≤ b) = (¬ b < a) := by simp
    have h5 : (b ≤ a) = (¬ a < b) := by simp
    refine ACalls.post (calls_tree 400 fn97 (by simp [Try.f97]) ?_); simp (maxSteps := 3000000) [Tr.map, Try.f97, h1, h2, h3, h4, h5]
    (try simp [Tm.enc, h1, h2, h3, h4, h5]); (first | (refine .done ?_; simp [Tm.enc, h1, h2, h3, h4, h5]; done) | (refine Tn.wkRet ?_; simp (maxDischargeDepth := 20)) | (refine Tn.wkPan ?_; simp (maxDischargeDepth := 20)))
theorem ar_less_ok (a b : Int) : ACalls Try.prog 98 [prE a b] [] (fun r _ => r = .ret (.bool (decide (a < b)))) := by
  by_cases h1 : a = b <;> by_cases h2 : a < b <;> by_cases h3 : b < a <;> (try (exfalso; omega))
  all_goals
    have h4 : (a ≤ b) = (¬ b < a) := by simp
    have h5 : (b ≤ a) = (¬ a < b) := by simp
    refine ACalls.post (calls_tree 400 fn98 (by simp [Try.f98]) ?_); simp (maxSteps := 3000000) [Tr.map, Try.f98, h1, h2, h3, h4, h5]
    (try simp [Tm.enc, h1, h2, h3, h4, h5]); (first | (refine .done ?_; simp [Tm.enc, h1, h2, h3, h4, h5]; done) | (refine Tn.wkRet ?_; simp (maxDischargeDepth := 20)) | (refine Tn.wkPan ?_; simp (maxDischargeDepth := 20)))
theorem ar_more_ok (a b : Int) : ACalls Try.prog 99 [prE a b] [] (fun r _ => r = .ret (.bool (decide (b < a)))) := by
  by_cases h1 : a = b <;> by_cases h2 : a < b <;> by_cases h3 : b < a <;> (try (exfalso; omega))
  all_goals
    have h4 : (a ≤ b) = (¬ b < a) := by simp
    have h5 : (b ≤ a) = (¬ a < b) := by simp
    refine ACalls.post (calls_tree 400 fn99 (by simp [Try.f99]) ?_); simp (maxSteps := 3000000) [Tr.map, Try.f99, h1, h2, h3, h4, h5]
    (try simp [Tm.enc, h1, h2, h3, h4, h5]); (first | (refine .done ?_; simp [Tm.enc, h1, h2, h3, h4, h5]; done) | (refine Tn.wkRet ?_; simp (maxDischargeDepth := 20)) | (refine Tn.wkPan ?_; simp (maxDischargeDepth := 20)))
theorem ar_notMore_ok (a b : Int) : ACalls Try.prog 100 [prE a b] [] (fun r _ => r = .ret (.bool (decide (a ≤ b)))) := by
  by_cases h1 : a = b <;> by_cases h2 : a < b <;> by_cases h3 : b < a <;> (try (exfalso; omega))
  all_goals
    have h4 : (a ≤ b) = (¬ b < a) := by simp
    have h5 : (b ≤ a) = (¬ a < b) := by simp
    refine ACalls.post (calls_tree 400 fn100 (by simp [Try.f100]) ?_); simp (maxSteps := 3000000) [Tr.map, Try.f100, h1, h2, h3, h4, h5]
    (try simp [Tm.enc, h1, h2, h3, h4, h5]); (first | (refine .done ?_; simp [Tm.enc, h1, h2, h3, h4, h5]; done) | (refine Tn.wkRet ?_; simp (maxDischargeDepth := 20)) | (refine Tn.wkPan ?_; simp (maxDischargeDepth := 20)))
theorem ar_notLess_ok (a b : Int) : ACalls Try.prog 101 [prE a b] [] (fun r _ => r = .ret (.bool (decide (b ≤ a)))) := by
  by_cases h1 : a = b <;> by_cases h2 : a < b <;> by_cases h3 : b < a <;> (try (exfalso; omega))
  all_goals
    have h4 : (a ≤ b) = (¬ b < a) := by simp
    have h5 : (b ≤ a) = (¬ a < b) := by simp
    refine ACalls.post (calls_tree 400 fn101 (by simp [Try.f101]) ?_); simp (maxSteps := 3000000) [Tr.map, Try.f101, h1, h2, h3, h4, h5]
    (try simp [Tm.enc, h1, h2, h3, h4, h5]); (first | (refine .done ?_; simp [Tm.enc, h1, h2, h3, h4, h5]; done) | (refine Tn.wkRet ?_; simp (maxDischargeDepth := 20)) | (refine Tn.wkPan ?_; simp (maxDischargeDepth := 20)))

/-- What a comparison of two numbers says. -/
def cmpOp (op : ByteArray) (a b : Int) : Bool :=
  if op = ⟨#[61, 58, 61]⟩ then decide (a = b) else if op = ⟨#[61, 92, 61]⟩ then !decide (a = b) else if op = ⟨#[60]⟩ then decide (a < b) else if op = ⟨#[62]⟩ then decide (b < a) else if op = ⟨#[61, 60]⟩ then decide (a ≤ b) else decide (b ≤ a)
def isCmp (op : ByteArray) : Prop := op = ⟨#[61, 58, 61]⟩ ∨ op = ⟨#[61, 92, 61]⟩ ∨ op = ⟨#[60]⟩ ∨ op = ⟨#[62]⟩ ∨ op = ⟨#[61, 60]⟩ ∨ op = ⟨#[62, 61]⟩
instance (op : ByteArray) : Decidable (isCmp op) := by unfold isCmp; infer_instance
/-- What Holds says. -/
def holdE (op : ByteArray) (a b : Tm) : Bool × Int × Tm :=
  if isCmp op then (if (evE a).2.1 = 0 then (if (evE b).2.1 = 0 then (cmpOp op (evE a).1 (evE b).1, 0, zT) else (false, (evE b).2)) else (false, (evE a).2)) else (false, 8, zT)
abbrev hoO (p : Bool × Int × Tm) : AV := .tup [.bool p.1, .int .i64 p.2.1, .agg p.2.2.enc]

theorem hold_same (a b : Tm) (ha : InR a) (hb : InR b) (sa : a.size ≤ 1000000) (sb : b.size ≤ 1000000) : ACalls Try.prog 52 [.str ⟨#[61, 58, 61]⟩, .agg a.enc, .agg b.enc] [] (fun r _ => r = .ret (hoO (holdE ⟨#[61, 58, 61]⟩ a b))) := by
  have ea := ar_Eval_ok a ha sa
  have eb := ar_Eval_ok b hb sb
  have hc : isCmp ⟨#[61, 58, 61]⟩ := by decide
  have hR : holdE ⟨#[61, 58, 61]⟩ a b = if (evE a).2.1 = 0 then (if (evE b).2.1 = 0 then (cmpOp ⟨#[61, 58, 61]⟩ (evE a).1 (evE b).1, 0, zT) else (false, (evE b).2)) else (false, (evE a).2) := if_pos hc
  rw [hR]
  clear hR
  generalize evE a = p at *
  generalize evE b = q at *
  obtain ⟨x, e, t⟩ := p
  obtain ⟨y, g, u⟩ := q
  dsimp only
  have hq := ar_same_ok x y
  by_cases h1 : e = 0
  · subst h1
    by_cases h2 : g = 0
    · subst h2
      refine ACalls.post (calls_tree 400 fn52 (by simp [Try.f52]) ?_); simp (maxSteps := 3000000) [Tr.map, Try.f52]
      (have hc_ := ea); (try simp at hc_); refine ACalls.retW hc_ (by simp (maxDischargeDepth := 20)) (by simp (maxDischargeDepth := 12)) (by simp (maxDischargeDepth := 12)) ?_; clear hc_; (try simp (maxSteps := 3000000) [Tr.map])
      (have hc_ := eb); (try simp at hc_); refine ACalls.retW hc_ (by simp (maxDischargeDepth := 20)) (by simp (maxDischargeDepth := 12)) (by simp (maxDischargeDepth := 12)) ?_; clear hc_; (try simp (maxSteps := 3000000) [Tr.map])
      (have hc_ := hq); (try simp at hc_); refine ACalls.retW hc_ (by simp (maxDischargeDepth := 20)) (by simp (maxDischargeDepth := 12)) (by simp (maxDischargeDepth := 12)) ?_; clear hc_; (try simp (maxSteps := 3000000) [Tr.map])
      (try simp [Tm.enc, cmpOp]); (first | (refine .done ?_; simp [Tm.enc, cmpOp]; done) | (refine Tn.wkRet ?_; simp (maxDischargeDepth := 20)) | (refine Tn.wkPan ?_; simp (maxDischargeDepth := 20)))
    · rw [if_pos rfl, if_neg h2]
      refine ACalls.post (calls_tree 400 fn52 (by simp [Try.f52]) ?_); simp (maxSteps := 3000000) [Tr.map, Try.f52]
      (have hc_ := ea); (try simp at hc_); refine ACalls.retW hc_ (by simp (maxDischargeDepth := 20)) (by simp (maxDischargeDepth := 12)) (by simp (maxDischargeDepth := 12)) ?_; clear hc_; (try simp (maxSteps := 3000000) [Tr.map])
      (have hc_ := eb); (try simp at hc_); refine ACalls.retW hc_ (by simp (maxDischargeDepth := 20)) (by simp (maxDischargeDepth := 12)) (by simp (maxDischargeDepth := 12)) ?_; clear hc_; (try simp (maxSteps := 3000000) [Tr.map, h2])
      refine stk_draw mixed (tabOf_ok _) (fnOf_ok _) 4 (by kernel_rfl) ?_; simp (maxSteps := 3000000) [Tr.map]
      refine stk_run 400 ?_; simp (maxSteps := 3000000) [Tr.map]
      (try simp [Tm.enc]); (first | (refine .done ?_; simp [Tm.enc]; done) | (refine Tn.wkRet ?_; simp (maxDischargeDepth := 20)) | (refine Tn.wkPan ?_; simp (maxDischargeDepth := 20)))
  · rw [if_neg h1]
    refine ACalls.post (calls_tree 400 fn52 (by simp [Try.f52]) ?_); simp (maxSteps := 3000000) [Tr.map, Try.f52]
    (have hc_ := ea); (try simp at hc_); refine ACalls.retW hc_ (by simp (maxDischargeDepth := 20)) (by simp (maxDischargeDepth := 12)) (by simp (maxDischargeDepth := 12)) ?_; clear hc_; (try simp (maxSteps := 3000000) [Tr.map, h1])
    refine stk_draw mixed (tabOf_ok _) (fnOf_ok _) 4 (by kernel_rfl) ?_; simp (maxSteps := 3000000) [Tr.map]
    refine stk_run 400 ?_; simp (maxSteps := 3000000) [Tr.map]
    (try simp [Tm.enc]); (first | (refine .done ?_; simp [Tm.enc]; done) | (refine Tn.wkRet ?_; simp (maxDischargeDepth := 20)) | (refine Tn.wkPan ?_; simp (maxDischargeDepth := 20)))
theorem hold_other (a b : Tm) (ha : InR a) (hb : InR b) (sa : a.size ≤ 1000000) (sb : b.size ≤ 1000000) : ACalls Try.prog 52 [.str ⟨#[61, 92, 61]⟩, .agg a.enc, .agg b.enc] [] (fun r _ => r = .ret (hoO (holdE ⟨#[61, 92, 61]⟩ a b))) := by
  have ea := ar_Eval_ok a ha sa
  have eb := ar_Eval_ok b hb sb
  have hc : isCmp ⟨#[61, 92, 61]⟩ := by decide
  have hR : holdE ⟨#[61, 92, 61]⟩ a b = if (evE a).2.1 = 0 then (if (evE b).2.1 = 0 then (cmpOp ⟨#[61, 92, 61]⟩ (evE a).1 (evE b).1, 0, zT) else (false, (evE b).2)) else (false, (evE a).2) := if_pos hc
  rw [hR]
  clear hR
  generalize evE a = p at *
  generalize evE b = q at *
  obtain ⟨x, e, t⟩ := p
  obtain ⟨y, g, u⟩ := q
  dsimp only
  have hq := ar_other_ok x y
  by_cases h1 : e = 0
  · subst h1
    by_cases h2 : g = 0
    · subst h2
      refine ACalls.post (calls_tree 400 fn52 (by simp [Try.f52]) ?_); simp (maxSteps := 3000000) [Tr.map, Try.f52]
      (have hc_ := ea); (try simp at hc_); refine ACalls.retW hc_ (by simp (maxDischargeDepth := 20)) (by simp (maxDischargeDepth := 12)) (by simp (maxDischargeDepth := 12)) ?_; clear hc_; (try simp (maxSteps := 3000000) [Tr.map])
      (have hc_ := eb); (try simp at hc_); refine ACalls.retW hc_ (by simp (maxDischargeDepth := 20)) (by simp (maxDischargeDepth := 12)) (by simp (maxDischargeDepth := 12)) ?_; clear hc_; (try simp (maxSteps := 3000000) [Tr.map])
      (have hc_ := hq); (try simp at hc_); refine ACalls.retW hc_ (by simp (maxDischargeDepth := 20)) (by simp (maxDischargeDepth := 12)) (by simp (maxDischargeDepth := 12)) ?_; clear hc_; (try simp (maxSteps := 3000000) [Tr.map])
      (try simp [Tm.enc, cmpOp]); (first | (refine .done ?_; simp [Tm.enc, cmpOp]; done) | (refine Tn.wkRet ?_; simp (maxDischargeDepth := 20)) | (refine Tn.wkPan ?_; simp (maxDischargeDepth := 20)))
    · rw [if_pos rfl, if_neg h2]
      refine ACalls.post (calls_tree 400 fn52 (by simp [Try.f52]) ?_); simp (maxSteps := 3000000) [Tr.map, Try.f52]
      (have hc_ := ea); (try simp at hc_); refine ACalls.retW hc_ (by simp (maxDischargeDepth := 20)) (by simp (maxDischargeDepth := 12)) (by simp (maxDischargeDepth := 12)) ?_; clear hc_; (try simp (maxSteps := 3000000) [Tr.map])
      (have hc_ := eb); (try simp at hc_); refine ACalls.retW hc_ (by simp (maxDischargeDepth := 20)) (by simp (maxDischargeDepth := 12)) (by simp (maxDischargeDepth := 12)) ?_; clear hc_; (try simp (maxSteps := 3000000) [Tr.map, h2])
      refine stk_draw mixed (tabOf_ok _) (fnOf_ok _) 4 (by kernel_rfl) ?_; simp (maxSteps := 3000000) [Tr.map]
      refine stk_run 400 ?_; simp (maxSteps := 3000000) [Tr.map]
      (try simp [Tm.enc]); (first | (refine .done ?_; simp [Tm.enc]; done) | (refine Tn.wkRet ?_; simp (maxDischargeDepth := 20)) | (refine Tn.wkPan ?_; simp (maxDischargeDepth := 20)))
  · rw [if_neg h1]
    refine ACalls.post (calls_tree 400 fn52 (by simp [Try.f52]) ?_); simp (maxSteps := 3000000) [Tr.map, Try.f52]
    (have hc_ := ea); (try simp at hc_); refine ACalls.retW hc_ (by simp (maxDischargeDepth := 20)) (by simp (maxDischargeDepth := 12)) (by simp (maxDischargeDepth := 12)) ?_; clear hc_; (try simp (maxSteps := 3000000) [Tr.map, h1])
    refine stk_draw mixed (tabOf_ok _) (fnOf_ok _) 4 (by kernel_rfl) ?_; simp (maxSteps := 3000000) [Tr.map]
    refine stk_run 400 ?_; simp (maxSteps := 3000000) [Tr.map]
    (try simp [Tm.enc]); (first | (refine .done ?_; simp [Tm.enc]; done) | (refine Tn.wkRet ?_; simp (maxDischargeDepth := 20)) | (refine Tn.wkPan ?_; simp (maxDischargeDepth := 20)))
theorem hold_less (a b : Tm) (ha : InR a) (hb : InR b) (sa : a.size ≤ 1000000) (sb : b.size ≤ 1000000) : ACalls Try.prog 52 [.str ⟨#[60]⟩, .agg a.enc, .agg b.enc] [] (fun r _ => r = .ret (hoO (holdE ⟨#[60]⟩ a b))) := by
  have ea := ar_Eval_ok a ha sa
  have eb := ar_Eval_ok b hb sb
  have hc : isCmp ⟨#[60]⟩ := by decide
  have hR : holdE ⟨#[60]⟩ a b = if (evE a).2.1 = 0 then (if (evE b).2.1 = 0 then (cmpOp ⟨#[60]⟩ (evE a).1 (evE b).1, 0, zT) else (false, (evE b).2)) else (false, (evE a).2) := if_pos hc
  rw [hR]
  clear hR
  generalize evE a = p at *
  generalize evE b = q at *
  obtain ⟨x, e, t⟩ := p
  obtain ⟨y, g, u⟩ := q
  dsimp only
  have hq := ar_less_ok x y
  by_cases h1 : e = 0
  · subst h1
    by_cases h2 : g = 0
    · subst h2
      refine ACalls.post (calls_tree 400 fn52 (by simp [Try.f52]) ?_); simp (maxSteps := 3000000) [Tr.map, Try.f52]
      (have hc_ := ea); (try simp at hc_); refine ACalls.retW hc_ (by simp (maxDischargeDepth := 20)) (by simp (maxDischargeDepth := 12)) (by simp (maxDischargeDepth := 12)) ?_; clear hc_; (try simp (maxSteps := 3000000) [Tr.map])
      (have hc_ := eb); (try simp at hc_); refine ACalls.retW hc_ (by simp (maxDischargeDepth := 20)) (by simp (maxDischargeDepth := 12)) (by simp (maxDischargeDepth := 12)) ?_; clear hc_; (try simp (maxSteps := 3000000) [Tr.map])
      (have hc_ := hq); (try simp at hc_); refine ACalls.retW hc_ (by simp (maxDischargeDepth := 20)) (by simp (maxDischargeDepth := 12)) (by simp (maxDischargeDepth := 12)) ?_; clear hc_; (try simp (maxSteps := 3000000) [Tr.map])
      (try simp [Tm.enc, cmpOp]); (first | (refine .done ?_; simp [Tm.enc, cmpOp]; done) | (refine Tn.wkRet ?_; simp (maxDischargeDepth := 20)) | (refine Tn.wkPan ?_; simp (maxDischargeDepth := 20)))
    · rw [if_pos rfl, if_neg h2]
      refine ACalls.post (calls_tree 400 fn52 (by simp [Try.f52]) ?_); simp (maxSteps := 3000000) [Tr.map, Try.f52]
      (have hc_ := ea); (try simp at hc_); refine ACalls.retW hc_ (by simp (maxDischargeDepth := 20)) (by simp (maxDischargeDepth := 12)) (by simp (maxDischargeDepth := 12)) ?_; clear hc_; (try simp (maxSteps := 3000000) [Tr.map])
      (have hc_ := eb); (try simp at hc_); refine ACalls.retW hc_ (by simp (maxDischargeDepth := 20)) (by simp (maxDischargeDepth := 12)) (by simp (maxDischargeDepth := 12)) ?_; clear hc_; (try simp (maxSteps := 3000000) [Tr.map, h2])
      refine stk_draw mixed (tabOf_ok _) (fnOf_ok _) 4 (by kernel_rfl) ?_; simp (maxSteps := 3000000) [Tr.map]
      refine stk_run 400 ?_; simp (maxSteps := 3000000) [Tr.map]
      (try simp [Tm.enc]); (first | (refine .done ?_; simp [Tm.enc]; done) | (refine Tn.wkRet ?_; simp (maxDischargeDepth := 20)) | (refine Tn.wkPan ?_; simp (maxDischargeDepth := 20)))
  · rw [if_neg h1]
    refine ACalls.post (calls_tree 400 fn52 (by simp [Try.f52]) ?_); simp (maxSteps := 3000000) [Tr.map, Try.f52]
    (have hc_ := ea); (try simp at hc_); refine ACalls.retW hc_ (by simp (maxDischargeDepth := 20)) (by simp (maxDischargeDepth := 12)) (by simp (maxDischargeDepth := 12)) ?_; clear hc_; (try simp (maxSteps := 3000000) [Tr.map, h1])
    refine stk_draw mixed (tabOf_ok _) (fnOf_ok _) 4 (by kernel_rfl) ?_; simp (maxSteps := 3000000) [Tr.map]
    refine stk_run 400 ?_; simp (maxSteps := 3000000) [Tr.map]
    (try simp [Tm.enc]); (first | (refine .done ?_; simp [Tm.enc]; done) | (refine Tn.wkRet ?_; simp (maxDischargeDepth := 20)) | (refine Tn.wkPan ?_; simp (maxDischargeDepth := 20)))
theorem hold_more (a b : Tm) (ha : InR a) (hb : InR b) (sa : a.size ≤ 1000000) (sb : b.size ≤ 1000000) : ACalls Try.prog 52 [.str ⟨#[62]⟩, .agg a.enc, .agg b.enc] [] (fun r _ => r = .ret (hoO (holdE ⟨#[62]⟩ a b))) := by
  have ea := ar_Eval_ok a ha sa
  have eb := ar_Eval_ok b hb sb
  have hc : isCmp ⟨#[62]⟩ := by decide
  have hR : holdE ⟨#[62]⟩ a b = if (evE a).2.1 = 0 then (if (evE b).2.1 = 0 then (cmpOp ⟨#[62]⟩ (evE a).1 (evE b).1, 0, zT) else (false, (evE b).2)) else (false, (evE a).2) := if_pos hc
  rw [hR]
  clear hR
  generalize evE a = p at *
  generalize evE b = q at *
  obtain ⟨x, e, t⟩ := p
  obtain ⟨y, g, u⟩ := q
  dsimp only
  have hq := ar_more_ok x y
  by_cases h1 : e = 0
  · subst h1
    by_cases h2 : g = 0
    · subst h2
      refine ACalls.post (calls_tree 400 fn52 (by simp [Try.f52]) ?_); simp (maxSteps := 3000000) [Tr.map, Try.f52]
      (have hc_ := ea); (try simp at hc_); refine ACalls.retW hc_ (by simp (maxDischargeDepth := 20)) (by simp (maxDischargeDepth := 12)) (by simp (maxDischargeDepth := 12)) ?_; clear hc_; (try simp (maxSteps := 3000000) [Tr.map])
      (have hc_ := eb); (try simp at hc_); refine ACalls.retW hc_ (by simp (maxDischargeDepth := 20)) (by simp (maxDischargeDepth := 12)) (by simp (maxDischargeDepth := 12)) ?_; clear hc_; (try simp (maxSteps := 3000000) [Tr.map])
      (have hc_ := hq); (try simp at hc_); refine ACalls.retW hc_ (by simp (maxDischargeDepth := 20)) (by simp (maxDischargeDepth := 12)) (by simp (maxDischargeDepth := 12)) ?_; clear hc_; (try simp (maxSteps := 3000000) [Tr.map])
      (try simp [Tm.enc, cmpOp]); (first | (refine .done ?_; simp [Tm.enc, cmpOp]; done) | (refine Tn.wkRet ?_; simp (maxDischargeDepth := 20)) | (refine Tn.wkPan ?_; simp (maxDischargeDepth := 20)))
    · rw [if_pos rfl, if_neg h2]
      refine ACalls.post (calls_tree 400 fn52 (by simp [Try.f52]) ?_); simp (maxSteps := 3000000) [Tr.map, Try.f52]
      (have hc_ := ea); (try simp at hc_); refine ACalls.retW hc_ (by simp (maxDischargeDepth := 20)) (by simp (maxDischargeDepth := 12)) (by simp (maxDischargeDepth := 12)) ?_; clear hc_; (try simp (maxSteps := 3000000) [Tr.map])
      (have hc_ := eb); (try simp at hc_); refine ACalls.retW hc_ (by simp (maxDischargeDepth := 20)) (by simp (maxDischargeDepth := 12)) (by simp (maxDischargeDepth := 12)) ?_; clear hc_; (try simp (maxSteps := 3000000) [Tr.map, h2])
      refine stk_draw mixed (tabOf_ok _) (fnOf_ok _) 4 (by kernel_rfl) ?_; simp (maxSteps := 3000000) [Tr.map]
      refine stk_run 400 ?_; simp (maxSteps := 3000000) [Tr.map]
      (try simp [Tm.enc]); (first | (refine .done ?_; simp [Tm.enc]; done) | (refine Tn.wkRet ?_; simp (maxDischargeDepth := 20)) | (refine Tn.wkPan ?_; simp (maxDischargeDepth := 20)))
  · rw [if_neg h1]
    refine ACalls.post (calls_tree 400 fn52 (by simp [Try.f52]) ?_); simp (maxSteps := 3000000) [Tr.map, Try.f52]
    (have hc_ := ea); (try simp at hc_); refine ACalls.retW hc_ (by simp (maxDischargeDepth := 20)) (by simp (maxDischargeDepth := 12)) (by simp (maxDischargeDepth := 12)) ?_; clear hc_; (try simp (maxSteps := 3000000) [Tr.map, h1])
    refine stk_draw mixed (tabOf_ok _) (fnOf_ok _) 4 (by kernel_rfl) ?_; simp (maxSteps := 3000000) [Tr.map]
    refine stk_run 400 ?_; simp (maxSteps := 3000000) [Tr.map]
    (try simp [Tm.enc]); (first | (refine .done ?_; simp [Tm.enc]; done) | (refine Tn.wkRet ?_; simp (maxDischargeDepth := 20)) | (refine Tn.wkPan ?_; simp (maxDischargeDepth := 20)))
theorem hold_notMore (a b : Tm) (ha : InR a) (hb : InR b) (sa : a.size ≤ 1000000) (sb : b.size ≤ 1000000) : ACalls Try.prog 52 [.str ⟨#[61, 60]⟩, .agg a.enc, .agg b.enc] [] (fun r _ => r = .ret (hoO (holdE ⟨#[61, 60]⟩ a b))) := by
  have ea := ar_Eval_ok a ha sa
  have eb := ar_Eval_ok b hb sb
  have hc : isCmp ⟨#[61, 60]⟩ := by decide
  have hR : holdE ⟨#[61, 60]⟩ a b = if (evE a).2.1 = 0 then (if (evE b).2.1 = 0 then (cmpOp ⟨#[61, 60]⟩ (evE a).1 (evE b).1, 0, zT) else (false, (evE b).2)) else (false, (evE a).2) := if_pos hc
  rw [hR]
  clear hR
  generalize evE a = p at *
  generalize evE b = q at *
  obtain ⟨x, e, t⟩ := p
  obtain ⟨y, g, u⟩ := q
  dsimp only
  have hq := ar_notMore_ok x y
  by_cases h1 : e = 0
  · subst h1
    by_cases h2 : g = 0
    · subst h2
      refine ACalls.post (calls_tree 400 fn52 (by simp [Try.f52]) ?_); simp (maxSteps := 3000000) [Tr.map, Try.f52]
      (have hc_ := ea); (try simp at hc_); refine ACalls.retW hc_ (by simp (maxDischargeDepth := 20)) (by simp (maxDischargeDepth := 12)) (by simp (maxDischargeDepth := 12)) ?_; clear hc_; (try simp (maxSteps := 3000000) [Tr.map])
      (have hc_ := eb); (try simp at hc_); refine ACalls.retW hc_ (by simp (maxDischargeDepth := 20)) (by simp (maxDischargeDepth := 12)) (by simp (maxDischargeDepth := 12)) ?_; clear hc_; (try simp (maxSteps := 3000000) [Tr.map])
      (have hc_ := hq); (try simp at hc_); refine ACalls.retW hc_ (by simp (maxDischargeDepth := 20)) (by simp (maxDischargeDepth := 12)) (by simp (maxDischargeDepth := 12)) ?_; clear hc_; (try simp (maxSteps := 3000000) [Tr.map])
      (try simp [Tm.enc, cmpOp]); (first | (refine .done ?_; simp [Tm.enc, cmpOp]; done) | (refine Tn.wkRet ?_; simp (maxDischargeDepth := 20)) | (refine Tn.wkPan ?_; simp (maxDischargeDepth := 20)))
    · rw [if_pos rfl, if_neg h2]
      refine ACalls.post (calls_tree 400 fn52 (by simp [Try.f52]) ?_); simp (maxSteps := 3000000) [Tr.map, Try.f52]
      (have hc_ := ea); (try simp at hc_); refine ACalls.retW hc_ (by simp (maxDischargeDepth := 20)) (by simp (maxDischargeDepth := 12)) (by simp (maxDischargeDepth := 12)) ?_; clear hc_; (try simp (maxSteps := 3000000) [Tr.map])
      (have hc_ := eb); (try simp at hc_); refine ACalls.retW hc_ (by simp (maxDischargeDepth := 20)) (by simp (maxDischargeDepth := 12)) (by simp (maxDischargeDepth := 12)) ?_; clear hc_; (try simp (maxSteps := 3000000) [Tr.map, h2])
      refine stk_draw mixed (tabOf_ok _) (fnOf_ok _) 4 (by kernel_rfl) ?_; simp (maxSteps := 3000000) [Tr.map]
      refine stk_run 400 ?_; simp (maxSteps := 3000000) [Tr.map]
      (try simp [Tm.enc]); (first | (refine .done ?_; simp [Tm.enc]; done) | (refine Tn.wkRet ?_; simp (maxDischargeDepth := 20)) | (refine Tn.wkPan ?_; simp (maxDischargeDepth := 20)))
  · rw [if_neg h1]
    refine ACalls.post (calls_tree 400 fn52 (by simp [Try.f52]) ?_); simp (maxSteps := 3000000) [Tr.map, Try.f52]
    (have hc_ := ea); (try simp at hc_); refine ACalls.retW hc_ (by simp (maxDischargeDepth := 20)) (by simp (maxDischargeDepth := 12)) (by simp (maxDischargeDepth := 12)) ?_; clear hc_; (try simp (maxSteps := 3000000) [Tr.map, h1])
    refine stk_draw mixed (tabOf_ok _) (fnOf_ok _) 4 (by kernel_rfl) ?_; simp (maxSteps := 3000000) [Tr.map]
    refine stk_run 400 ?_; simp (maxSteps := 3000000) [Tr.map]
    (try simp [Tm.enc]); (first | (refine .done ?_; simp [Tm.enc]; done) | (refine Tn.wkRet ?_; simp (maxDischargeDepth := 20)) | (refine Tn.wkPan ?_; simp (maxDischargeDepth := 20)))
theorem hold_notLess (a b : Tm) (ha : InR a) (hb : InR b) (sa : a.size ≤ 1000000) (sb : b.size ≤ 1000000) : ACalls Try.prog 52 [.str ⟨#[62, 61]⟩, .agg a.enc, .agg b.enc] [] (fun r _ => r = .ret (hoO (holdE ⟨#[62, 61]⟩ a b))) := by
  have ea := ar_Eval_ok a ha sa
  have eb := ar_Eval_ok b hb sb
  have hc : isCmp ⟨#[62, 61]⟩ := by decide
  have hR : holdE ⟨#[62, 61]⟩ a b = if (evE a).2.1 = 0 then (if (evE b).2.1 = 0 then (cmpOp ⟨#[62, 61]⟩ (evE a).1 (evE b).1, 0, zT) else (false, (evE b).2)) else (false, (evE a).2) := if_pos hc
  rw [hR]
  clear hR
  generalize evE a = p at *
  generalize evE b = q at *
  obtain ⟨x, e, t⟩ := p
  obtain ⟨y, g, u⟩ := q
  dsimp only
  have hq := ar_notLess_ok x y
  by_cases h1 : e = 0
  · subst h1
    by_cases h2 : g = 0
    · subst h2
      refine ACalls.post (calls_tree 400 fn52 (by simp [Try.f52]) ?_); simp (maxSteps := 3000000) [Tr.map, Try.f52]
      (have hc_ := ea); (try simp at hc_); refine ACalls.retW hc_ (by simp (maxDischargeDepth := 20)) (by simp (maxDischargeDepth := 12)) (by simp (maxDischargeDepth := 12)) ?_; clear hc_; (try simp (maxSteps := 3000000) [Tr.map])
      (have hc_ := eb); (try simp at hc_); refine ACalls.retW hc_ (by simp (maxDischargeDepth := 20)) (by simp (maxDischargeDepth := 12)) (by simp (maxDischargeDepth := 12)) ?_; clear hc_; (try simp (maxSteps := 3000000) [Tr.map])
      (have hc_ := hq); (try simp at hc_); refine ACalls.retW hc_ (by simp (maxDischargeDepth := 20)) (by simp (maxDischargeDepth := 12)) (by simp (maxDischargeDepth := 12)) ?_; clear hc_; (try simp (maxSteps := 3000000) [Tr.map])
      (try simp [Tm.enc, cmpOp]); (first | (refine .done ?_; simp [Tm.enc, cmpOp]; done) | (refine Tn.wkRet ?_; simp (maxDischargeDepth := 20)) | (refine Tn.wkPan ?_; simp (maxDischargeDepth := 20)))
    · rw [if_pos rfl, if_neg h2]
      refine ACalls.post (calls_tree 400 fn52 (by simp [Try.f52]) ?_); simp (maxSteps := 3000000) [Tr.map, Try.f52]
      (have hc_ := ea); (try simp at hc_); refine ACalls.retW hc_ (by simp (maxDischargeDepth := 20)) (by simp (maxDischargeDepth := 12)) (by simp (maxDischargeDepth := 12)) ?_; clear hc_; (try simp (maxSteps := 3000000) [Tr.map])
      (have hc_ := eb); (try simp at hc_); refine ACalls.retW hc_ (by simp (maxDischargeDepth := 20)) (by simp (maxDischargeDepth := 12)) (by simp (maxDischargeDepth := 12)) ?_; clear hc_; (try simp (maxSteps := 3000000) [Tr.map, h2])
      refine stk_draw mixed (tabOf_ok _) (fnOf_ok _) 4 (by kernel_rfl) ?_; simp (maxSteps := 3000000) [Tr.map]
      refine stk_run 400 ?_; simp (maxSteps := 3000000) [Tr.map]
      (try simp [Tm.enc]); (first | (refine .done ?_; simp [Tm.enc]; done) | (refine Tn.wkRet ?_; simp (maxDischargeDepth := 20)) | (refine Tn.wkPan ?_; simp (maxDischargeDepth := 20)))
  · rw [if_neg h1]
    refine ACalls.post (calls_tree 400 fn52 (by simp [Try.f52]) ?_); simp (maxSteps := 3000000) [Tr.map, Try.f52]
    (have hc_ := ea); (try simp at hc_); refine ACalls.retW hc_ (by simp (maxDischargeDepth := 20)) (by simp (maxDischargeDepth := 12)) (by simp (maxDischargeDepth := 12)) ?_; clear hc_; (try simp (maxSteps := 3000000) [Tr.map, h1])
    refine stk_draw mixed (tabOf_ok _) (fnOf_ok _) 4 (by kernel_rfl) ?_; simp (maxSteps := 3000000) [Tr.map]
    refine stk_run 400 ?_; simp (maxSteps := 3000000) [Tr.map]
    (try simp [Tm.enc]); (first | (refine .done ?_; simp [Tm.enc]; done) | (refine Tn.wkRet ?_; simp (maxDischargeDepth := 20)) | (refine Tn.wkPan ?_; simp (maxDischargeDepth := 20)))
theorem ar_Holds_ok (op : ByteArray) (a b : Tm) (ha : InR a) (hb : InR b) (sa : a.size ≤ 1000000) (sb : b.size ≤ 1000000) : ACalls Try.prog 52 [.str op, .agg a.enc, .agg b.enc] [] (fun r _ => r = .ret (hoO (holdE op a b))) := by
  by_cases hsame : op = ⟨#[61, 58, 61]⟩
  · subst hsame; exact hold_same a b ha hb sa sb
  by_cases hother : op = ⟨#[61, 92, 61]⟩
  · subst hother; exact hold_other a b ha hb sa sb
  by_cases hless : op = ⟨#[60]⟩
  · subst hless; exact hold_less a b ha hb sa sb
  by_cases hmore : op = ⟨#[62]⟩
  · subst hmore; exact hold_more a b ha hb sa sb
  by_cases hnotMore : op = ⟨#[61, 60]⟩
  · subst hnotMore; exact hold_notMore a b ha hb sa sb
  by_cases hnotLess : op = ⟨#[62, 61]⟩
  · subst hnotLess; exact hold_notLess a b ha hb sa sb
  have hc : ¬ isCmp op := by unfold isCmp; simp [hsame, hother, hless, hmore, hnotMore, hnotLess]
  have hR : holdE op a b = (false, 8, zT) := if_neg hc
  rw [hR]
  have gsame := Ne.symm hsame
  have gother := Ne.symm hother
  have gless := Ne.symm hless
  have gmore := Ne.symm hmore
  have gnotMore := Ne.symm hnotMore
  have gnotLess := Ne.symm hnotLess
  refine ACalls.post (calls_tree 400 fn52 (by simp [Try.f52]) ?_); simp (maxSteps := 3000000) [Tr.map, Try.f52, hsame, hother, hless, hmore, hnotMore, hnotLess, gsame, gother, gless, gmore, gnotMore, gnotLess]
  (try simp [Tm.enc]); (first | (refine .done ?_; simp [Tm.enc]; done) | (refine Tn.wkRet ?_; simp (maxDischargeDepth := 20)) | (refine Tn.wkPan ?_; simp (maxDischargeDepth := 20)))

theorem law12_f_ok (s : ByteArray) (l : List Tm) : ACalls Try.prog 46 [.str s, .ro 4 (encs l)] [] (fun r _ => r = .ret (.agg (Tm.mk 4 0 s l).enc)) := by
  refine ACalls.post (calls_tree 400 fn46 (by simp [Try.f46]) ?_); simp (maxSteps := 3000000) [Tr.map, Try.f46]
  (try simp [Tm.enc]); (first | (refine .done ?_; simp [Tm.enc]; done) | (refine Tn.wkRet ?_; simp (maxDischargeDepth := 20)) | (refine Tn.wkPan ?_; simp (maxDischargeDepth := 20)))
theorem law12_i_ok (n : Int) : ACalls Try.prog 48 [.int .i64 n] [] (fun r _ => r = .ret (.agg (Tm.mk 2 n ⟨#[]⟩ []).enc)) := by
  refine ACalls.post (calls_tree 400 fn48 (by simp [Try.f48]) ?_); simp (maxSteps := 3000000) [Tr.map, Try.f48]
  (try simp [Tm.enc]); (first | (refine .done ?_; simp [Tm.enc]; done) | (refine Tn.wkRet ?_; simp (maxDischargeDepth := 20)) | (refine Tn.wkPan ?_; simp (maxDischargeDepth := 20)))

end Go.Proofs.Yteebkkipeiggcaa


/- Contracts: the document's Check, Eval and Holds. -/
namespace Go.Proofs.Yteebkkipeiggcaa
open Go Go.Vm

set_option maxRecDepth 20000
set_option maxHeartbeats 2000000

theorem ref_may_ok (t : Tm) (hk : t.size ≤ 1000000) : ACalls Try.prog 116 [.agg t.enc] [] (fun r _ => r = .ret (.bool (allB t))) := by
  induction t using Tm.ind with | _ t ih
  have hmem : ∀ u ∈ t.args, ACalls Try.prog 116 [.agg u.enc] [] (fun r _ => r = .ret (.bool (allB u))) := fun u hu => ih u hu (by have := Tm.size_lt hu; omega)
  have hlen := t.length_lt
  have hR := allB_eq t
  clear ih
  generalize allB t = R at *
  obtain ⟨k, n, s, a⟩ := t
  simp only at hlen hmem hR
  by_cases k1 : k = 1
  · subst k1
    by_cases g1 : 0 ≤ n
    · by_cases g2 : s = ⟨#[]⟩
      · subst g2
        by_cases g3 : a = []
        · subst g3
          simp [mayB, g1] at hR; subst hR
          refine ACalls.post (calls_tree 400 fn116 (by simp [Try.f116]) ?_); simp (maxSteps := 3000000) [Tr.map, Try.f116, g1]
          (try simp [Tm.enc]); (first | (refine .done ?_; simp [Tm.enc]; done) | (refine Tn.wkRet ?_; simp (maxDischargeDepth := 20)) | (refine Tn.wkPan ?_; simp (maxDischargeDepth := 20)))
        · have g4 : ¬ (a.length : Int) = 0 := by have := List.length_pos_iff.2 g3; omega
          simp [mayB, g1, g3] at hR; subst hR
          have g5 := beq_no g4
          refine ACalls.post (calls_tree 400 fn116 (by simp [Try.f116]) ?_); simp (maxSteps := 3000000) [Tr.map, Try.f116, g1, g3, g4, g5]
          (try simp [Tm.enc, g5]); (first | (refine .done ?_; simp [Tm.enc, g5]; done) | (refine Tn.wkRet ?_; simp (maxDischargeDepth := 20)) | (refine Tn.wkPan ?_; simp (maxDischargeDepth := 20)))
      · simp [mayB, g1, g2] at hR; subst hR
        refine ACalls.post (calls_tree 400 fn116 (by simp [Try.f116]) ?_); simp (maxSteps := 3000000) [Tr.map, Try.f116, g1, g2]
        (try simp [Tm.enc]); (first | (refine .done ?_; simp [Tm.enc]; done) | (refine Tn.wkRet ?_; simp (maxDischargeDepth := 20)) | (refine Tn.wkPan ?_; simp (maxDischargeDepth := 20)))
    · simp [mayB, g1] at hR; subst hR
      refine ACalls.post (calls_tree 400 fn116 (by simp [Try.f116]) ?_); simp (maxSteps := 3000000) [Tr.map, Try.f116, g1]
      (try simp [Tm.enc]); (first | (refine .done ?_; simp [Tm.enc]; done) | (refine Tn.wkRet ?_; simp (maxDischargeDepth := 20)) | (refine Tn.wkPan ?_; simp (maxDischargeDepth := 20)))
  by_cases k2 : k = 2
  · subst k2
    by_cases g2 : s = ⟨#[]⟩
    · subst g2
      by_cases g3 : a = []
      · subst g3
        simp [mayB] at hR; subst hR
        refine ACalls.post (calls_tree 400 fn116 (by simp [Try.f116]) ?_); simp (maxSteps := 3000000) [Tr.map, Try.f116]
        (try simp [Tm.enc]); (first | (refine .done ?_; simp [Tm.enc]; done) | (refine Tn.wkRet ?_; simp (maxDischargeDepth := 20)) | (refine Tn.wkPan ?_; simp (maxDischargeDepth := 20)))
      · have g4 : ¬ (a.length : Int) = 0 := by have := List.length_pos_iff.2 g3; omega
        simp [mayB, g3] at hR; subst hR
        have g5 := beq_no g4
        refine ACalls.post (calls_tree 400 fn116 (by simp [Try.f116]) ?_); simp (maxSteps := 3000000) [Tr.map, Try.f116, g3, g4, g5]
        (try simp [Tm.enc, g5]); (first | (refine .done ?_; simp [Tm.enc, g5]; done) | (refine Tn.wkRet ?_; simp (maxDischargeDepth := 20)) | (refine Tn.wkPan ?_; simp (maxDischargeDepth := 20)))
    · simp [mayB, g2] at hR; subst hR
      refine ACalls.post (calls_tree 400 fn116 (by simp [Try.f116]) ?_); simp (maxSteps := 3000000) [Tr.map, Try.f116, g2]
      (try simp [Tm.enc]); (first | (refine .done ?_; simp [Tm.enc]; done) | (refine Tn.wkRet ?_; simp (maxDischargeDepth := 20)) | (refine Tn.wkPan ?_; simp (maxDischargeDepth := 20)))
  by_cases k3 : k = 3
  · subst k3
    by_cases g1 : n = 0
    · subst g1
      by_cases g2 : s.size ≤ 1000
      · have g2' : (s.size : Int) ≤ 1000 := by omega
        by_cases g3 : a = []
        · subst g3
          simp [mayB, g2] at hR; subst hR
          refine ACalls.post (calls_tree 400 fn116 (by simp [Try.f116]) ?_); simp (maxSteps := 3000000) [Tr.map, Try.f116, g2']
          (try simp [Tm.enc]); (first | (refine .done ?_; simp [Tm.enc]; done) | (refine Tn.wkRet ?_; simp (maxDischargeDepth := 20)) | (refine Tn.wkPan ?_; simp (maxDischargeDepth := 20)))
        · have g4 : ¬ (a.length : Int) = 0 := by have := List.length_pos_iff.2 g3; omega
          simp [mayB, g3] at hR; subst hR
          have g5 := beq_no g4
          refine ACalls.post (calls_tree 400 fn116 (by simp [Try.f116]) ?_); simp (maxSteps := 3000000) [Tr.map, Try.f116, g2', g3, g4, g5]
          (try simp [Tm.enc, g5]); (first | (refine .done ?_; simp [Tm.enc, g5]; done) | (refine Tn.wkRet ?_; simp (maxDischargeDepth := 20)) | (refine Tn.wkPan ?_; simp (maxDischargeDepth := 20)))
      · have g2' : ¬ (s.size : Int) ≤ 1000 := by omega
        simp [mayB, g2] at hR; subst hR
        refine ACalls.post (calls_tree 400 fn116 (by simp [Try.f116]) ?_); simp (maxSteps := 3000000) [Tr.map, Try.f116, g2']
        (try simp [Tm.enc]); (first | (refine .done ?_; simp [Tm.enc]; done) | (refine Tn.wkRet ?_; simp (maxDischargeDepth := 20)) | (refine Tn.wkPan ?_; simp (maxDischargeDepth := 20)))
    · simp [mayB, g1] at hR; subst hR
      refine ACalls.post (calls_tree 400 fn116 (by simp [Try.f116]) ?_); simp (maxSteps := 3000000) [Tr.map, Try.f116, g1]
      (try simp [Tm.enc]); (first | (refine .done ?_; simp [Tm.enc]; done) | (refine Tn.wkRet ?_; simp (maxDischargeDepth := 20)) | (refine Tn.wkPan ?_; simp (maxDischargeDepth := 20)))
  by_cases k4 : k = 4
  · subst k4
    by_cases g1 : n = 0
    · subst g1
      by_cases g2 : 1000 < (s.size : Int)
      · have g2' : ¬ s.size ≤ 1000 := by omega
        simp [mayB, g2'] at hR; subst hR
        refine ACalls.post (calls_tree 400 fn116 (by simp [Try.f116]) ?_); simp (maxSteps := 3000000) [Tr.map, Try.f116, g2]
        (try simp [Tm.enc]); (first | (refine .done ?_; simp [Tm.enc]; done) | (refine Tn.wkRet ?_; simp (maxDischargeDepth := 20)) | (refine Tn.wkPan ?_; simp (maxDischargeDepth := 20)))
      have g2' : s.size ≤ 1000 := by omega
      by_cases g3 : a = []
      · subst g3
        simp [mayB] at hR; subst hR
        refine ACalls.post (calls_tree 400 fn116 (by simp [Try.f116]) ?_); simp (maxSteps := 3000000) [Tr.map, Try.f116, g2]
        (try simp [Tm.enc]); (first | (refine .done ?_; simp [Tm.enc]; done) | (refine Tn.wkRet ?_; simp (maxDischargeDepth := 20)) | (refine Tn.wkPan ?_; simp (maxDischargeDepth := 20)))
      have g3' := List.length_pos_iff.2 g3
      have g4 : ¬ (a.length : Int) = 0 := by omega
      by_cases g5 : 255 < (a.length : Int)
      · have g5' : ¬ a.length ≤ 255 := by omega
        simp [mayB, g5'] at hR; subst hR
        refine ACalls.post (calls_tree 400 fn116 (by simp [Try.f116]) ?_); simp (maxSteps := 3000000) [Tr.map, Try.f116, g2, g3, g4, g5]
        (try simp [Tm.enc]); (first | (refine .done ?_; simp [Tm.enc]; done) | (refine Tn.wkRet ?_; simp (maxDischargeDepth := 20)) | (refine Tn.wkPan ?_; simp (maxDischargeDepth := 20)))
      have g5' : a.length ≤ 255 := by omega
      simp [mayB, g2', g3', g5'] at hR
      refine ACalls.post (calls_tree 400 fn116 (by simp [Try.f116]) ?_); simp (maxSteps := 3000000) [Tr.map, Try.f116, g2, g3, g4, g5]
      refine AStk.liveT [75, 76, 77] (AStk.gc [] (by simp) (by simp) (by simp) ?_); simp [Tr.map]
      refine AStk.indE (fun d_ a_ h_ => ∃ (ds es : List Tm), (a = ds ++ es ∧ ds.all allB = true) ∧ d_ = es.length ∧ a_ = ⟨toL 85 (mkT [(75, .ro 4 (encs a)), (76, .int .i64 a.length), (77, .int .i64 ds.length)] (.e .any)), []⟩ ∧ h_ = []) ?_ ?_
      · exact ⟨_, [], a, ⟨rfl, rfl⟩, rfl, by simp [Tr.map], by simp⟩
      rintro d_ a_ h_ ⟨ds, es, ⟨hsp, hall⟩, rfl, rfl, rfl⟩ IH
      cases es with
      | nil =>
        simp at hsp; subst hsp
        rw [hall] at hR
        subst hR
        refine stk_run 400 ?_; simp (maxSteps := 3000000) [Tr.map]
        (try simp [Tm.enc]); (first | (refine .done ?_; simp [Tm.enc]; done) | (refine Tn.wkRet ?_; simp (maxDischargeDepth := 20)) | (refine Tn.wkPan ?_; simp (maxDischargeDepth := 20)))
      | cons u es =>
        obtain ⟨p1, p2, p3, p4, p5⟩ := mid_facts hsp
        have m := hmem u (by simp [hsp])
        by_cases hu : allB u = true
        · rw [hu] at m
          refine stk_run 400 ?_; simp (maxSteps := 3000000) [Tr.map, p2, p3, p4]
          (have hc_ := m); (try simp at hc_); refine ACalls.retW hc_ (by simp (maxDischargeDepth := 20)) (by simp (maxDischargeDepth := 12)) (by simp (maxDischargeDepth := 12)) ?_; clear hc_; (try simp (maxSteps := 3000000) [Tr.map])
          (try simp (disch := omega) only [wrap64])
          refine AStk.liveT [75, 76, 77] (AStk.gc [] (by simp) (by simp) (by simp) ?_); simp [Tr.map]
          exact IH _ _ _ (by simp) ⟨ds ++ [u], es, ⟨by simp [hsp], by simp [hu]; simpa using hall⟩, rfl, by simp [Tr.map, Int.add_assoc, Int.add_comm, Int.add_left_comm], by simp⟩
        · have hu' : allB u = false := by simpa using hu
          rw [hu'] at m
          have hf : a.all allB = false := by rw [hsp]; simp [hu']
          rw [hf] at hR
          subst hR
          refine stk_run 400 ?_; simp (maxSteps := 3000000) [Tr.map, p2, p3, p4]
          (have hc_ := m); (try simp at hc_); refine ACalls.retW hc_ (by simp (maxDischargeDepth := 20)) (by simp (maxDischargeDepth := 12)) (by simp (maxDischargeDepth := 12)) ?_; clear hc_; (try simp (maxSteps := 3000000) [Tr.map])
          (try simp [Tm.enc]); (first | (refine .done ?_; simp [Tm.enc]; done) | (refine Tn.wkRet ?_; simp (maxDischargeDepth := 20)) | (refine Tn.wkPan ?_; simp (maxDischargeDepth := 20)))
    · simp [mayB, g1] at hR; subst hR
      refine ACalls.post (calls_tree 400 fn116 (by simp [Try.f116]) ?_); simp (maxSteps := 3000000) [Tr.map, Try.f116, g1]
      (try simp [Tm.enc]); (first | (refine .done ?_; simp [Tm.enc]; done) | (refine Tn.wkRet ?_; simp (maxDischargeDepth := 20)) | (refine Tn.wkPan ?_; simp (maxDischargeDepth := 20)))
  simp [mayB, k1, k2, k3, k4] at hR; subst hR
  refine ACalls.post (calls_tree 400 fn116 (by simp [Try.f116]) ?_); simp (maxSteps := 3000000) [Tr.map, Try.f116, k1, k2, k3, k4]
  (try simp [Tm.enc]); (first | (refine .done ?_; simp [Tm.enc]; done) | (refine Tn.wkRet ?_; simp (maxDischargeDepth := 20)) | (refine Tn.wkPan ?_; simp (maxDischargeDepth := 20)))

theorem ref_check_ok (t : Tm) (hk : t.size ≤ 1000000) : ACalls Try.prog 94 [.agg t.enc] [] (fun r _ => r = .ret (.int .i64 (checkT t))) := by
  have hR : checkT t = if allB t = false then 2 else if 2000 < t.deep then 4 else if 20000 < t.size then 3 else 0 := rfl
  generalize checkT t = R at *
  have h1 := ref_may_ok t hk
  have h2 := prolixref03_Deep_ok t hk
  have h3 := prolixref03_Size_ok t hk
  generalize allB t = b at *
  cases b with
  | false =>
    simp at hR; subst hR
    refine ACalls.post (calls_tree 400 fn94 (by simp [Try.f94]) ?_); simp (maxSteps := 3000000) [Tr.map, Try.f94]
    (have hc_ := h1); (try simp at hc_); refine ACalls.retW hc_ (by simp (maxDischargeDepth := 20)) (by simp (maxDischargeDepth := 12)) (by simp (maxDischargeDepth := 12)) ?_; clear hc_; (try simp (maxSteps := 3000000) [Tr.map])
    (try simp [Tm.enc]); (first | (refine .done ?_; simp [Tm.enc]; done) | (refine Tn.wkRet ?_; simp (maxDischargeDepth := 20)) | (refine Tn.wkPan ?_; simp (maxDischargeDepth := 20)))
  | true =>
    simp at hR
    by_cases hd : 2000 < t.deep
    · have hd' : (2000 : Int) < t.deep := by omega
      simp [hd] at hR; subst hR
      refine ACalls.post (calls_tree 400 fn94 (by simp [Try.f94]) ?_); simp (maxSteps := 3000000) [Tr.map, Try.f94]
      (have hc_ := h1); (try simp at hc_); refine ACalls.retW hc_ (by simp (maxDischargeDepth := 20)) (by simp (maxDischargeDepth := 12)) (by simp (maxDischargeDepth := 12)) ?_; clear hc_; (try simp (maxSteps := 3000000) [Tr.map])
      (have hc_ := h2); (try simp at hc_); refine ACalls.retW hc_ (by simp (maxDischargeDepth := 20)) (by simp (maxDischargeDepth := 12)) (by simp (maxDischargeDepth := 12)) ?_; clear hc_; (try simp (maxSteps := 3000000) [Tr.map, hd'])
      (try simp [Tm.enc]); (first | (refine .done ?_; simp [Tm.enc]; done) | (refine Tn.wkRet ?_; simp (maxDischargeDepth := 20)) | (refine Tn.wkPan ?_; simp (maxDischargeDepth := 20)))
    · have hd' : ¬ (2000 : Int) < t.deep := by omega
      simp [hd] at hR
      by_cases hs : 20000 < t.size
      · have hs' : (20000 : Int) < t.size := by omega
        simp [hs] at hR; subst hR
        refine ACalls.post (calls_tree 400 fn94 (by simp [Try.f94]) ?_); simp (maxSteps := 3000000) [Tr.map, Try.f94]
        (have hc_ := h1); (try simp at hc_); refine ACalls.retW hc_ (by simp (maxDischargeDepth := 20)) (by simp (maxDischargeDepth := 12)) (by simp (maxDischargeDepth := 12)) ?_; clear hc_; (try simp (maxSteps := 3000000) [Tr.map])
        (have hc_ := h2); (try simp at hc_); refine ACalls.retW hc_ (by simp (maxDischargeDepth := 20)) (by simp (maxDischargeDepth := 12)) (by simp (maxDischargeDepth := 12)) ?_; clear hc_; (try simp (maxSteps := 3000000) [Tr.map, hd'])
        (have hc_ := h3); (try simp at hc_); refine ACalls.retW hc_ (by simp (maxDischargeDepth := 20)) (by simp (maxDischargeDepth := 12)) (by simp (maxDischargeDepth := 12)) ?_; clear hc_; (try simp (maxSteps := 3000000) [Tr.map, hs'])
        (try simp [Tm.enc]); (first | (refine .done ?_; simp [Tm.enc]; done) | (refine Tn.wkRet ?_; simp (maxDischargeDepth := 20)) | (refine Tn.wkPan ?_; simp (maxDischargeDepth := 20)))
      · have hs' : ¬ (20000 : Int) < t.size := by omega
        simp [hs] at hR; subst hR
        refine ACalls.post (calls_tree 400 fn94 (by simp [Try.f94]) ?_); simp (maxSteps := 3000000) [Tr.map, Try.f94]
        (have hc_ := h1); (try simp at hc_); refine ACalls.retW hc_ (by simp (maxDischargeDepth := 20)) (by simp (maxDischargeDepth := 12)) (by simp (maxDischargeDepth := 12)) ?_; clear hc_; (try simp (maxSteps := 3000000) [Tr.map])
        (have hc_ := h2); (try simp at hc_); refine ACalls.retW hc_ (by simp (maxDischargeDepth := 20)) (by simp (maxDischargeDepth := 12)) (by simp (maxDischargeDepth := 12)) ?_; clear hc_; (try simp (maxSteps := 3000000) [Tr.map, hd'])
        (have hc_ := h3); (try simp at hc_); refine ACalls.retW hc_ (by simp (maxDischargeDepth := 20)) (by simp (maxDischargeDepth := 12)) (by simp (maxDischargeDepth := 12)) ?_; clear hc_; (try simp (maxSteps := 3000000) [Tr.map, hs'])
        (try simp [Tm.enc]); (first | (refine .done ?_; simp [Tm.enc]; done) | (refine Tn.wkRet ?_; simp (maxDischargeDepth := 20)) | (refine Tn.wkPan ?_; simp (maxDischargeDepth := 20)))

end Go.Proofs.Yteebkkipeiggcaa


/- Plain laws: what terms of two terms come to. -/
namespace Go.Vm
open Go
theorem ite_ne8 {p : Prop} [Decidable p] {x y : Int × Int} (hx : x.2 ≠ 8) : (if p then x else y).2 = 8 ↔ ¬ p ∧ y.2 = 8 := by
  by_cases h : p
  · rw [if_pos h]; exact ⟨fun e => absurd e hx, fun e => absurd h e.1⟩
  · rw [if_neg h]; exact ⟨fun e => ⟨h, e⟩, fun e => e.2⟩
theorem fitZ_ne8 (n : Int) : (fitZ n).2 ≠ 8 := by rcases fitZ_cases n with ⟨_, e⟩ | ⟨_, e⟩ <;> rw [e] <;> simp
theorem ite_both8 {p : Prop} [Decidable p] {x y : Int × Int} (hx : x.2 ≠ 8) (hy : y.2 ≠ 8) : (if p then x else y).2 ≠ 8 := by
  by_cases h : p
  · rw [if_pos h]; exact hx
  · rw [if_neg h]; exact hy
theorem n10 : ((0 : Int), (10 : Int)).2 ≠ 8 := by decide
theorem n11 : ((0 : Int), (11 : Int)).2 ≠ 8 := by decide
theorem n0 (n : Int) : (n, (0 : Int)).2 ≠ 8 := by simp
theorem pow_ne8 (a b : Int) : (powZ a b).2 ≠ 8 := ite_both8 (n0 _) (ite_both8 (n0 _) (ite_both8 (n0 _) (ite_both8 n10 (ite_both8 n11 (fitZ_ne8 _)))))
def NoTwo (op : ByteArray) : Prop := ∀ a b, (twoT op a b).2 = 8
theorem two_none (op : ByteArray) (a b c d : Int) : (twoT op a b).2 = 8 ↔ (twoT op c d).2 = 8 := by
  unfold twoT
  have q : ∀ a b, (quoZ a b).2 ≠ 8 := fun a b => ite_both8 n10 (fitZ_ne8 _)
  have r : ∀ a b, (remZ a b).2 ≠ 8 := fun a b => ite_both8 n10 (n0 _)
  have m : ∀ a b, (modZ a b).2 ≠ 8 := fun a b => ite_both8 n10 (n0 _)
  have d' : ∀ a b, (divZ a b).2 ≠ 8 := fun a b => ite_both8 n10 (fitZ_ne8 _)
  have l : ∀ a b, (leftZ a b).2 ≠ 8 := fun a b => ite_both8 n11 (fitZ_ne8 _)
  have g : ∀ a b, (rightZ a b).2 ≠ 8 := fun a b => ite_both8 n11 (n0 _)
  have p := pow_ne8
  rw [ite_ne8 (fitZ_ne8 _), ite_ne8 (fitZ_ne8 _), ite_ne8 (fitZ_ne8 _), ite_ne8 (q _ _), ite_ne8 (r _ _), ite_ne8 (m _ _), ite_ne8 (d' _ _), ite_ne8 (n0 _), ite_ne8 (n0 _), ite_ne8 (n0 _), ite_ne8 (n0 _), ite_ne8 (n0 _), ite_ne8 (l _ _), ite_ne8 (g _ _), ite_ne8 (p _ _), ite_ne8 (p _ _),
    ite_ne8 (fitZ_ne8 _), ite_ne8 (fitZ_ne8 _), ite_ne8 (fitZ_ne8 _), ite_ne8 (q _ _), ite_ne8 (r _ _), ite_ne8 (m _ _), ite_ne8 (d' _ _), ite_ne8 (n0 _), ite_ne8 (n0 _), ite_ne8 (n0 _), ite_ne8 (n0 _), ite_ne8 (n0 _), ite_ne8 (l _ _), ite_ne8 (g _ _), ite_ne8 (p _ _), ite_ne8 (p _ _)]
def Zb (p : Int × Int) : Prop := p.2 ≠ 0 → p.1 = 0
theorem ite_zb {p : Prop} [Decidable p] {x y : Int × Int} (hx : Zb x) (hy : Zb y) : Zb (if p then x else y) := by
  by_cases h : p
  · rw [if_pos h]; exact hx
  · rw [if_neg h]; exact hy
theorem fitZ_zb (n : Int) : Zb (fitZ n) := by rcases fitZ_cases n with ⟨_, e⟩ | ⟨_, e⟩ <;> rw [e] <;> simp [Zb]
theorem zb0 (e : Int) : Zb (0, e) := fun _ => rfl
theorem zbk (n : Int) : Zb (n, 0) := fun h => absurd rfl h
theorem pow_zb (a b : Int) : Zb (powZ a b) := ite_zb (zbk _) (ite_zb (zbk _) (ite_zb (zbk _) (ite_zb (zb0 _) (ite_zb (zb0 _) (fitZ_zb _)))))
theorem two_zb (op : ByteArray) (a b : Int) : Zb (twoT op a b) :=
  ite_zb (fitZ_zb _) (ite_zb (fitZ_zb _) (ite_zb (fitZ_zb _) (ite_zb (ite_zb (zb0 _) (fitZ_zb _)) (ite_zb (ite_zb (zb0 _) (zbk _)) (ite_zb (ite_zb (zb0 _) (zbk _)) (ite_zb (ite_zb (zb0 _) (fitZ_zb _)) (ite_zb (zbk _) (ite_zb (zbk _) (ite_zb (zbk _) (ite_zb (zbk _) (ite_zb (zbk _)
    (ite_zb (ite_zb (zb0 _) (fitZ_zb _)) (ite_zb (ite_zb (zb0 _) (zbk _)) (ite_zb (pow_zb _ _) (ite_zb (pow_zb _ _) (zb0 _))))))))))))))))
/-- What Eval says, of what a term comes to. -/
def evP : Ev → Int × Int × Tm
  | .val n => (n, 0, zT)
  | .bad e x => (0, e, x)
theorem evalT_bad {t : Tm} : ∀ {e : Int} {x : Tm}, evalT t = .bad e x → e ≠ 0 := by
  induction t using Tm.ind with | _ t ih
  intro e x h
  obtain ⟨k, m, s, a⟩ := t
  unfold evalT at h
  by_cases k2 : k = 2
  · rw [if_pos k2] at h; cases h
  rw [if_neg k2] at h
  by_cases k1 : k = 1
  · rw [if_pos k1] at h; cases h; decide
  rw [if_neg k1] at h
  by_cases kb : knowsB s a.length = false
  · rw [if_pos kb] at h; cases h; decide
  rw [if_neg kb] at h
  have ho : ∀ {p : Int × Int}, outEv p = .bad e x → e ≠ 0 := fun {p} hp => by
    unfold outEv at hp
    split at hp
    · cases hp
    · cases hp; assumption
  rcases a with _ | ⟨y, _ | ⟨z, _ | ⟨w, a⟩⟩⟩
  · rcases knows_len kb with hh | hh <;> simp at hh
  · dsimp only at h
    cases hx : evalT y with
    | bad e' t => rw [hx] at h; cases h; exact ih y (by simp) hx
    | val m' => rw [hx] at h; exact ho h
  · dsimp only at h
    cases hx : evalT y with
    | bad e' t => rw [hx] at h; cases h; exact ih y (by simp) hx
    | val m' =>
      rw [hx] at h
      cases hy : evalT z with
      | bad e' t => rw [hy] at h; cases h; exact ih z (by simp) hy
      | val l => rw [hy] at h; exact ho h
  · rcases knows_len kb with hh | hh <;> simp at hh
theorem evalT_int (n : Int) (s : ByteArray) (a : List Tm) : evalT ⟨2, n, s, a⟩ = .val n := by unfold evalT; rw [if_pos rfl]
theorem evalT_two (op : ByteArray) (a b : Tm) : evalT ⟨4, 0, op, [a, b]⟩ = if knowsB op 2 = false then .bad 13 (indA op 2) else match evalT a with
      | .bad e t => .bad e t
      | .val m => (match evalT b with
        | .bad e t => .bad e t
        | .val l => outEv (twoT op m l)) := by
  conv => lhs; unfold evalT
  rfl
end Go.Vm
namespace Go.Proofs.Yteebkkipeiggcaa
open Go Go.Vm
theorem evE_P {t : Tm} (h : checkT t = 0) : evE t = evP (evalT t) := by
  unfold evE
  rw [if_pos h]
  cases evalT t <;> rfl
theorem two_check {op : ByteArray} {a b : Tm} (hop : op.size ≤ 1000) (ha : allB a = true) (hb : allB b = true) (hs : a.size + b.size ≤ 1000) : checkT ⟨4, 0, op, [a, b]⟩ = 0 := by
  have h1 : allB ⟨4, 0, op, [a, b]⟩ = true := by rw [allB_eq]; simp [mayB, ha, hb]; omega
  have h2 : (Tm.mk 4 0 op [a, b]).size = a.size + b.size + 1 := by simp [Tm.size_eq (Tm.mk _ _ _ _)]; omega
  have h3 := deep_le_size (Tm.mk 4 0 op [a, b])
  unfold checkT
  rw [h1, if_neg (by simp), if_neg (by omega), if_neg (by omega)]
theorem int_all (n : Int) : allB ⟨2, n, ⟨#[]⟩, []⟩ = true := by rw [allB_eq]; simp [mayB]
end Go.Proofs.Yteebkkipeiggcaa


/- Contracts: the document's Eval and Holds. -/
namespace Go.Vm
open Go
theorem one_zb (op : ByteArray) (a : Int) : Zb (oneT op a) := ite_zb (zbk _) (ite_zb (fitZ_zb _) (ite_zb (fitZ_zb _) (ite_zb (zbk _) (ite_zb (zbk _) (zb0 _)))))
theorem evP_out {p : Int × Int} (h : Zb p) : evP (outEv p) = (p.1, p.2, zT) := by
  unfold outEv
  by_cases h0 : p.2 = 0
  · rw [if_pos h0]; simp [evP, h0]
  · rw [if_neg h0]; simp [evP, h h0]
end Go.Vm
namespace Go.Proofs.Yteebkkipeiggcaa
open Go Go.Vm

set_option maxRecDepth 20000
set_option maxHeartbeats 2000000

theorem ref_ind_ok (s : ByteArray) (n : Int) : ACalls Try.prog 28 [.str s, .int .i64 n] [] (fun r _ => r = .ret (.agg (indA s n).enc)) := by
  refine ACalls.post (calls_tree 400 fn28 (by simp [Try.f28]) ?_); simp (maxSteps := 3000000) [Tr.map, Try.f28]
  refine .fz 1 rfl ?_; simp
  (try simp [Tm.enc]); (first | (refine .done ?_; simp [Tm.enc]; done) | (refine Tn.wkRet ?_; simp (maxDischargeDepth := 20)) | (refine Tn.wkPan ?_; simp (maxDischargeDepth := 20)))

theorem all_args {t : Tm} (h : allB t = true) : ∀ u ∈ t.args, allB u = true := by
  rw [allB_eq] at h
  simp at h
  exact h.2

theorem ref_eval_ok (t : Tm) (hr : InR t) (ha : allB t = true) (hk : t.size ≤ 1000000) : ACalls Try.prog 95 [.agg t.enc] [] (fun r _ => r = .ret (evO (evP (evalT t)))) := by
  induction t using Tm.ind with | _ t ih
  have hlen := t.length_lt
  have hin : ∀ u ∈ t.args, ∀ n, evalT u = .val n → In64 n := fun u hu n e => evalT_in (by obtain ⟨_, _, h2⟩ := hr; exact h2 u hu) e
  have hbad : ∀ u ∈ t.args, ∀ e x, evalT u = .bad e x → e ≠ 0 := fun u _ e x h => evalT_bad h
  have hmem : ∀ u ∈ t.args, ACalls Try.prog 95 [.agg u.enc] [] (fun r _ => r = .ret (evO (evP (evalT u)))) := fun u hu => ih u hu (by obtain ⟨_, _, h2⟩ := hr; exact h2 u hu) (all_args ha u hu) (by have := Tm.size_lt hu; omega)
  have hmay : mayB t = true := by rw [allB_eq] at ha; simp at ha; exact ha.1
  clear ih hr ha
  obtain ⟨k, n, s, a⟩ := t
  simp only at hlen hin hmem hbad
  unfold evalT
  by_cases h1 : k = 1
  · subst h1
    refine ACalls.post (calls_tree 400 fn95 (by simp [Try.f95]) ?_); simp (maxSteps := 3000000) [Tr.map, Try.f95]
    (try simp [Tm.enc, evP]); (first | (refine .done ?_; simp [Tm.enc, evP]; done) | (refine Tn.wkRet ?_; simp (maxDischargeDepth := 20)) | (refine Tn.wkPan ?_; simp (maxDischargeDepth := 20)))
  by_cases h2 : k = 2
  · subst h2
    refine ACalls.post (calls_tree 400 fn95 (by simp [Try.f95]) ?_); simp (maxSteps := 3000000) [Tr.map, Try.f95]
    (try simp [Tm.enc, evP]); (first | (refine .done ?_; simp [Tm.enc, evP]; done) | (refine Tn.wkRet ?_; simp (maxDischargeDepth := 20)) | (refine Tn.wkPan ?_; simp (maxDischargeDepth := 20)))
  simp only [if_neg h1, if_neg h2]
  by_cases h3 : k = 3
  · subst h3
    have ha : a = [] := by simp [mayB] at hmay; exact hmay.2.2
    subst ha
    have hkb : knowsB s ([] : List Tm).length = false := by simp [knowsB]
    rw [if_pos hkb]
    refine ACalls.post (calls_tree 400 fn95 (by simp [Try.f95]) ?_); simp (maxSteps := 3000000) [Tr.map, Try.f95]
    (have hc_ := ref_ind_ok s 0); (try simp at hc_); refine ACalls.retW hc_ (by simp (maxDischargeDepth := 20)) (by simp (maxDischargeDepth := 12)) (by simp (maxDischargeDepth := 12)) ?_; clear hc_; (try simp (maxSteps := 3000000) [Tr.map])
    (try simp [Tm.enc, evP]); (first | (refine .done ?_; simp [Tm.enc, evP]; done) | (refine Tn.wkRet ?_; simp (maxDischargeDepth := 20)) | (refine Tn.wkPan ?_; simp (maxDischargeDepth := 20)))
  have t2 := ref_two_ok s 1 1 (by decide) (by decide)
  have t1 := ref_one_ok s 1 (by decide)
  by_cases hb : knowsB s a.length = false
  · rw [if_pos hb]
    have ti := ref_ind_ok s a.length
    by_cases l2 : a.length = 2
    · have p2 : (twoT s 1 1).2 = 8 := by simpa [knowsB, l2] using hb
      generalize twoT s 1 1 = P at *
      generalize oneT s 1 = Q at *
      have e1 : ¬ (a.length : Int) = 1 := by omega
      have e2 : (a.length : Int) = 2 := by omega
      have e3 : ((a.length : Int) == 2) = true := beq_yes e2
      have e4 : ((a.length : Int) == 1) = false := beq_no e1
      refine ACalls.post (calls_tree 400 fn95 (by simp [Try.f95]) ?_); simp (maxSteps := 3000000) [Tr.map, Try.f95, h1, h2, h3]
      (have hc_ := t2); (try simp at hc_); refine ACalls.retW hc_ (by simp (maxDischargeDepth := 20)) (by simp (maxDischargeDepth := 12)) (by simp (maxDischargeDepth := 12)) ?_; clear hc_; (try simp (maxSteps := 3000000) [Tr.map])
      (have hc_ := t1); (try simp at hc_); refine ACalls.retW hc_ (by simp (maxDischargeDepth := 20)) (by simp (maxDischargeDepth := 12)) (by simp (maxDischargeDepth := 12)) ?_; clear hc_; (try simp (maxSteps := 3000000) [Tr.map, l2, e1, e2, p2])
      (have hc_ := ref_ind_ok s 2); (try simp at hc_); refine ACalls.retW hc_ (by simp (maxDischargeDepth := 20)) (by simp (maxDischargeDepth := 12)) (by simp (maxDischargeDepth := 12)) ?_; clear hc_; (try simp (maxSteps := 3000000) [Tr.map])
      (try simp [Tm.enc, evP, l2]); (first | (refine .done ?_; simp [Tm.enc, evP, l2]; done) | (refine Tn.wkRet ?_; simp (maxDischargeDepth := 20)) | (refine Tn.wkPan ?_; simp (maxDischargeDepth := 20)))
    by_cases l1 : a.length = 1
    · have p1 : (oneT s 1).2 = 8 := by simpa [knowsB, l1] using hb
      generalize twoT s 1 1 = P at *
      generalize oneT s 1 = Q at *
      refine ACalls.post (calls_tree 400 fn95 (by simp [Try.f95]) ?_); simp (maxSteps := 3000000) [Tr.map, Try.f95, h1, h2, h3]
      (have hc_ := t2); (try simp at hc_); refine ACalls.retW hc_ (by simp (maxDischargeDepth := 20)) (by simp (maxDischargeDepth := 12)) (by simp (maxDischargeDepth := 12)) ?_; clear hc_; (try simp (maxSteps := 3000000) [Tr.map])
      (have hc_ := t1); (try simp at hc_); refine ACalls.retW hc_ (by simp (maxDischargeDepth := 20)) (by simp (maxDischargeDepth := 12)) (by simp (maxDischargeDepth := 12)) ?_; clear hc_; (try simp (maxSteps := 3000000) [Tr.map, l1, p1])
      (have hc_ := ref_ind_ok s 1); (try simp at hc_); refine ACalls.retW hc_ (by simp (maxDischargeDepth := 20)) (by simp (maxDischargeDepth := 12)) (by simp (maxDischargeDepth := 12)) ?_; clear hc_; (try simp (maxSteps := 3000000) [Tr.map])
      (try simp [Tm.enc, evP, l1]); (first | (refine .done ?_; simp [Tm.enc, evP, l1]; done) | (refine Tn.wkRet ?_; simp (maxDischargeDepth := 20)) | (refine Tn.wkPan ?_; simp (maxDischargeDepth := 20)))
    · generalize twoT s 1 1 = P at *
      generalize oneT s 1 = Q at *
      have e1 : ¬ (a.length : Int) = 1 := by omega
      have e2 : ¬ (a.length : Int) = 2 := by omega
      have e3 := beq_no e2
      have e4 := beq_no e1
      refine ACalls.post (calls_tree 400 fn95 (by simp [Try.f95]) ?_); simp (maxSteps := 3000000) [Tr.map, Try.f95, h1, h2, h3]
      (have hc_ := t2); (try simp at hc_); refine ACalls.retW hc_ (by simp (maxDischargeDepth := 20)) (by simp (maxDischargeDepth := 12)) (by simp (maxDischargeDepth := 12)) ?_; clear hc_; (try simp (maxSteps := 3000000) [Tr.map])
      (have hc_ := t1); (try simp at hc_); refine ACalls.retW hc_ (by simp (maxDischargeDepth := 20)) (by simp (maxDischargeDepth := 12)) (by simp (maxDischargeDepth := 12)) ?_; clear hc_; (try simp (maxSteps := 3000000) [Tr.map, e1, e2, e3, e4])
      (have hc_ := ti); (try simp at hc_); refine ACalls.retW hc_ (by simp (maxDischargeDepth := 20)) (by simp (maxDischargeDepth := 12)) (by simp (maxDischargeDepth := 12)) ?_; clear hc_; (try simp (maxSteps := 3000000) [Tr.map])
      (try simp [Tm.enc, evP]); (first | (refine .done ?_; simp [Tm.enc, evP]; done) | (refine Tn.wkRet ?_; simp (maxDischargeDepth := 20)) | (refine Tn.wkPan ?_; simp (maxDischargeDepth := 20)))
  rw [if_neg hb]
  rcases knows_len hb with hl | hl
  · have p1 : ¬ (oneT s 1).2 = 8 := by simpa [knowsB, hl] using hb
    obtain ⟨x, rfl⟩ := List.length_eq_one_iff.1 hl
    have mx := hmem x (by simp)
    have ix := hin x (by simp)
    have bx := hbad x (by simp)
    simp only
    generalize evalT x = X at *
    generalize twoT s 1 1 = P at *
    generalize oneT s 1 = Q at *
    have q1 := bne_yes p1
    cases X with
    | bad e t =>
      simp only [evP] at mx
      have h0 := bx e t rfl
      refine ACalls.post (calls_tree 400 fn95 (by simp [Try.f95]) ?_); simp (maxSteps := 3000000) [Tr.map, Try.f95, h1, h2, h3]
      (have hc_ := t2); (try simp at hc_); refine ACalls.retW hc_ (by simp (maxDischargeDepth := 20)) (by simp (maxDischargeDepth := 12)) (by simp (maxDischargeDepth := 12)) ?_; clear hc_; (try simp (maxSteps := 3000000) [Tr.map])
      (have hc_ := t1); (try simp at hc_); refine ACalls.retW hc_ (by simp (maxDischargeDepth := 20)) (by simp (maxDischargeDepth := 12)) (by simp (maxDischargeDepth := 12)) ?_; clear hc_; (try simp (maxSteps := 3000000) [Tr.map, p1, q1])
      (have hc_ := mx); (try simp at hc_); refine ACalls.retW hc_ (by simp (maxDischargeDepth := 20)) (by simp (maxDischargeDepth := 12)) (by simp (maxDischargeDepth := 12)) ?_; clear hc_; (try simp (maxSteps := 3000000) [Tr.map, h0])
      refine stk_draw mixed (tabOf_ok _) (fnOf_ok _) 4 (by kernel_rfl) ?_; simp (maxSteps := 3000000) [Tr.map]
      refine stk_run 400 ?_; simp (maxSteps := 3000000) [Tr.map]
      (try simp [Tm.enc, evP]); (first | (refine .done ?_; simp [Tm.enc, evP]; done) | (refine Tn.wkRet ?_; simp (maxDischargeDepth := 20)) | (refine Tn.wkPan ?_; simp (maxDischargeDepth := 20)))
    | val m =>
      simp only [evP] at mx
      dsimp only
      have o1 := ref_one_ok s m (ix m rfl)
      rw [evP_out (one_zb s m)]
      generalize oneT s m = p at *
      refine ACalls.post (calls_tree 400 fn95 (by simp [Try.f95]) ?_); simp (maxSteps := 3000000) [Tr.map, Try.f95, h1, h2, h3]
      (have hc_ := t2); (try simp at hc_); refine ACalls.retW hc_ (by simp (maxDischargeDepth := 20)) (by simp (maxDischargeDepth := 12)) (by simp (maxDischargeDepth := 12)) ?_; clear hc_; (try simp (maxSteps := 3000000) [Tr.map])
      (have hc_ := t1); (try simp at hc_); refine ACalls.retW hc_ (by simp (maxDischargeDepth := 20)) (by simp (maxDischargeDepth := 12)) (by simp (maxDischargeDepth := 12)) ?_; clear hc_; (try simp (maxSteps := 3000000) [Tr.map, p1, q1])
      (have hc_ := mx); (try simp at hc_); refine ACalls.retW hc_ (by simp (maxDischargeDepth := 20)) (by simp (maxDischargeDepth := 12)) (by simp (maxDischargeDepth := 12)) ?_; clear hc_; (try simp (maxSteps := 3000000) [Tr.map])
      (have hc_ := o1); (try simp at hc_); refine ACalls.retW hc_ (by simp (maxDischargeDepth := 20)) (by simp (maxDischargeDepth := 12)) (by simp (maxDischargeDepth := 12)) ?_; clear hc_; (try simp (maxSteps := 3000000) [Tr.map])
      (try simp [Tm.enc]); (first | (refine .done ?_; simp [Tm.enc]; done) | (refine Tn.wkRet ?_; simp (maxDischargeDepth := 20)) | (refine Tn.wkPan ?_; simp (maxDischargeDepth := 20)))
  · have p2 : ¬ (twoT s 1 1).2 = 8 := by simpa [knowsB, hl] using hb
    obtain ⟨x, y, rfl⟩ : ∃ x y, a = [x, y] := by
      rcases a with _ | ⟨x, _ | ⟨y, _ | ⟨z, a⟩⟩⟩
      · simp at hl
      · simp at hl
      · exact ⟨x, y, rfl⟩
      · simp at hl
    have mx := hmem x (by simp)
    have ix := hin x (by simp)
    have bx := hbad x (by simp)
    have my := hmem y (by simp)
    have iy := hin y (by simp)
    have byy := hbad y (by simp)
    simp only
    generalize evalT x = X at *
    generalize evalT y = Y at *
    generalize hP : twoT s 1 1 = P at *
    generalize oneT s 1 = Q at *
    have q2 := bne_yes p2
    cases X with
    | bad e t =>
      simp only [evP] at mx
      have h0 := bx e t rfl
      refine ACalls.post (calls_tree 400 fn95 (by simp [Try.f95]) ?_); simp (maxSteps := 3000000) [Tr.map, Try.f95, h1, h2, h3]
      (have hc_ := t2); (try simp at hc_); refine ACalls.retW hc_ (by simp (maxDischargeDepth := 20)) (by simp (maxDischargeDepth := 12)) (by simp (maxDischargeDepth := 12)) ?_; clear hc_; (try simp (maxSteps := 3000000) [Tr.map])
      (have hc_ := t1); (try simp at hc_); refine ACalls.retW hc_ (by simp (maxDischargeDepth := 20)) (by simp (maxDischargeDepth := 12)) (by simp (maxDischargeDepth := 12)) ?_; clear hc_; (try simp (maxSteps := 3000000) [Tr.map, p2, q2])
      (have hc_ := mx); (try simp at hc_); refine ACalls.retW hc_ (by simp (maxDischargeDepth := 20)) (by simp (maxDischargeDepth := 12)) (by simp (maxDischargeDepth := 12)) ?_; clear hc_; (try simp (maxSteps := 3000000) [Tr.map, h0])
      refine stk_draw mixed (tabOf_ok _) (fnOf_ok _) 4 (by kernel_rfl) ?_; simp (maxSteps := 3000000) [Tr.map]
      refine stk_run 400 ?_; simp (maxSteps := 3000000) [Tr.map]
      (try simp [Tm.enc, evP]); (first | (refine .done ?_; simp [Tm.enc, evP]; done) | (refine Tn.wkRet ?_; simp (maxDischargeDepth := 20)) | (refine Tn.wkPan ?_; simp (maxDischargeDepth := 20)))
    | val m =>
      simp only [evP] at mx
      cases Y with
      | bad e t =>
        simp only [evP] at my
        have h0 := byy e t rfl
        refine ACalls.post (calls_tree 400 fn95 (by simp [Try.f95]) ?_); simp (maxSteps := 3000000) [Tr.map, Try.f95, h1, h2, h3]
        (have hc_ := t2); (try simp at hc_); refine ACalls.retW hc_ (by simp (maxDischargeDepth := 20)) (by simp (maxDischargeDepth := 12)) (by simp (maxDischargeDepth := 12)) ?_; clear hc_; (try simp (maxSteps := 3000000) [Tr.map])
        (have hc_ := t1); (try simp at hc_); refine ACalls.retW hc_ (by simp (maxDischargeDepth := 20)) (by simp (maxDischargeDepth := 12)) (by simp (maxDischargeDepth := 12)) ?_; clear hc_; (try simp (maxSteps := 3000000) [Tr.map, p2, q2])
        (have hc_ := mx); (try simp at hc_); refine ACalls.retW hc_ (by simp (maxDischargeDepth := 20)) (by simp (maxDischargeDepth := 12)) (by simp (maxDischargeDepth := 12)) ?_; clear hc_; (try simp (maxSteps := 3000000) [Tr.map])
        (have hc_ := my); (try simp at hc_); refine ACalls.retW hc_ (by simp (maxDischargeDepth := 20)) (by simp (maxDischargeDepth := 12)) (by simp (maxDischargeDepth := 12)) ?_; clear hc_; (try simp (maxSteps := 3000000) [Tr.map, h0])
        refine stk_draw mixed (tabOf_ok _) (fnOf_ok _) 4 (by kernel_rfl) ?_; simp (maxSteps := 3000000) [Tr.map]
        refine stk_run 400 ?_; simp (maxSteps := 3000000) [Tr.map]
        (try simp [Tm.enc, evP]); (first | (refine .done ?_; simp [Tm.enc, evP]; done) | (refine Tn.wkRet ?_; simp (maxDischargeDepth := 20)) | (refine Tn.wkPan ?_; simp (maxDischargeDepth := 20)))
      | val l =>
        simp only [evP] at my
        dsimp only
        clear hP
        have o2 := ref_two_ok s m l (ix m rfl) (iy l rfl)
        rw [evP_out (two_zb s m l)]
        generalize twoT s m l = p at *
        refine ACalls.post (calls_tree 400 fn95 (by simp [Try.f95]) ?_); simp (maxSteps := 3000000) [Tr.map, Try.f95, h1, h2, h3]
        (have hc_ := t2); (try simp at hc_); refine ACalls.retW hc_ (by simp (maxDischargeDepth := 20)) (by simp (maxDischargeDepth := 12)) (by simp (maxDischargeDepth := 12)) ?_; clear hc_; (try simp (maxSteps := 3000000) [Tr.map])
        (have hc_ := t1); (try simp at hc_); refine ACalls.retW hc_ (by simp (maxDischargeDepth := 20)) (by simp (maxDischargeDepth := 12)) (by simp (maxDischargeDepth := 12)) ?_; clear hc_; (try simp (maxSteps := 3000000) [Tr.map, p2, q2])
        (have hc_ := mx); (try simp at hc_); refine ACalls.retW hc_ (by simp (maxDischargeDepth := 20)) (by simp (maxDischargeDepth := 12)) (by simp (maxDischargeDepth := 12)) ?_; clear hc_; (try simp (maxSteps := 3000000) [Tr.map])
        (have hc_ := my); (try simp at hc_); refine ACalls.retW hc_ (by simp (maxDischargeDepth := 20)) (by simp (maxDischargeDepth := 12)) (by simp (maxDischargeDepth := 12)) ?_; clear hc_; (try simp (maxSteps := 3000000) [Tr.map])
        (have hc_ := o2); (try simp at hc_); refine ACalls.retW hc_ (by simp (maxDischargeDepth := 20)) (by simp (maxDischargeDepth := 12)) (by simp (maxDischargeDepth := 12)) ?_; clear hc_; (try simp (maxSteps := 3000000) [Tr.map])
        (try simp [Tm.enc]); (first | (refine .done ?_; simp [Tm.enc]; done) | (refine Tn.wkRet ?_; simp (maxDischargeDepth := 20)) | (refine Tn.wkPan ?_; simp (maxDischargeDepth := 20)))

theorem ref_Eval_ok (t : Tm) (hr : InR t) (hk : t.size ≤ 1000000) : ACalls Try.prog 51 [.agg t.enc] [] (fun r _ => r = .ret (evO (evE t))) := by
  have c := ref_check_ok t hk
  by_cases h0 : checkT t = 0
  · rw [evE_P h0]
    rw [h0] at c
    have ha : allB t = true := by
      unfold checkT at h0
      cases h : allB t with
      | true => rfl
      | false => rw [h] at h0; simp at h0
    have e := ref_eval_ok t hr ha hk
    generalize evP (evalT t) = p at *
    refine ACalls.post (calls_tree 400 fn51 (by simp [Try.f51]) ?_); simp (maxSteps := 3000000) [Tr.map, Try.f51]
    (have hc_ := c); (try simp at hc_); refine ACalls.retW hc_ (by simp (maxDischargeDepth := 20)) (by simp (maxDischargeDepth := 12)) (by simp (maxDischargeDepth := 12)) ?_; clear hc_; (try simp (maxSteps := 3000000) [Tr.map])
    (have hc_ := e); (try simp at hc_); refine ACalls.retW hc_ (by simp (maxDischargeDepth := 20)) (by simp (maxDischargeDepth := 12)) (by simp (maxDischargeDepth := 12)) ?_; clear hc_; (try simp (maxSteps := 3000000) [Tr.map])
    (try simp [Tm.enc]); (first | (refine .done ?_; simp [Tm.enc]; done) | (refine Tn.wkRet ?_; simp (maxDischargeDepth := 20)) | (refine Tn.wkPan ?_; simp (maxDischargeDepth := 20)))
  · unfold evE
    rw [if_neg h0]
    generalize checkT t = q at *
    refine ACalls.post (calls_tree 400 fn51 (by simp [Try.f51]) ?_); simp (maxSteps := 3000000) [Tr.map, Try.f51]
    (have hc_ := c); (try simp at hc_); refine ACalls.retW hc_ (by simp (maxDischargeDepth := 20)) (by simp (maxDischargeDepth := 12)) (by simp (maxDischargeDepth := 12)) ?_; clear hc_; (try simp (maxSteps := 3000000) [Tr.map, h0])
    (try simp [Tm.enc]); (first | (refine .done ?_; simp [Tm.enc]; done) | (refine Tn.wkRet ?_; simp (maxDischargeDepth := 20)) | (refine Tn.wkPan ?_; simp (maxDischargeDepth := 20)))

end Go.Proofs.Yteebkkipeiggcaa


/- The document's examples of layer 12. -/
namespace Go.Proofs.Yteebkkipeiggcaa
open Go Go.Vm

set_option maxRecDepth 20000
set_option maxHeartbeats 2000000

abbrev iT (n : Int) : Tm := ⟨2, n, ⟨#[]⟩, []⟩
theorem iT_inR {n : Int} (h : In64 n) : InR (iT n) := .mk _ h (by simp)
theorem two_inR {op : ByteArray} {a b : Tm} (ha : InR a) (hb : InR b) : InR ⟨4, 0, op, [a, b]⟩ := .mk _ z_in (by simp [ha, hb])
theorem iT_size (n : Int) : (iT n).size = 1 := by simp [Tm.size_eq (Tm.mk _ _ _ _)]
theorem two_size (op : ByteArray) (a b : Tm) : (Tm.mk 4 0 op [a, b]).size = a.size + b.size + 1 := by simp [Tm.size_eq (Tm.mk _ _ _ _)]; omega
theorem knows_plus : knowsB ⟨#[43]⟩ 2 = true := by kernel_rfl
theorem knows_minus : knowsB ⟨#[45]⟩ 2 = true := by kernel_rfl

theorem law12_alive_ok : ACalls Try.prog 44 [] [] (fun r _ => r = .ret (.bool true)) := by
  have f1 := fun n => law12_i_ok n
  have z1 : In64 1 := by decide
  have z2 : In64 2 := by decide
  have z3 : In64 3 := by decide
  have e1 := ar_Eval_ok ⟨4, 0, ⟨#[43]⟩, [iT 1, ⟨4, 0, ⟨#[42]⟩, [iT 2, iT 3]⟩]⟩ (two_inR (iT_inR z1) (two_inR (iT_inR z2) (iT_inR z3))) (by rw [two_size, two_size, iT_size, iT_size, iT_size]; omega)
  have v1 : evE ⟨4, 0, ⟨#[43]⟩, [iT 1, ⟨4, 0, ⟨#[42]⟩, [iT 2, iT 3]⟩]⟩ = (7, 0, zT) := by
    rw [evE_P (two_check (by decide) (int_all _) (by rw [allB_eq]; simp [mayB, int_all, ByteArray.size]) (by rw [two_size, iT_size, iT_size, iT_size]; omega)), evalT_two, evalT_two, evalT_int, evalT_int, evalT_int]
    kernel_rfl
  have foo_all : allB ⟨3, 0, ⟨#[102, 111, 111]⟩, []⟩ = true := by rw [allB_eq]; simp [mayB, ByteArray.size]
  have foo_ev : evalT ⟨3, 0, ⟨#[102, 111, 111]⟩, []⟩ = .bad 13 (indA ⟨#[102, 111, 111]⟩ 0) := by unfold evalT; simp [knowsB]
  have foo_sz : (Tm.mk 3 0 ⟨#[102, 111, 111]⟩ []).size = 1 := by simp [Tm.size_eq (Tm.mk _ _ _ _)]
  have foo_in : InR ⟨3, 0, ⟨#[102, 111, 111]⟩, []⟩ := .mk _ z_in (by simp)
  have var_all : allB ⟨1, 0, ⟨#[]⟩, []⟩ = true := by rw [allB_eq]; simp [mayB]
  have var_ev : evalT ⟨1, 0, ⟨#[]⟩, []⟩ = .bad 12 zT := by unfold evalT; simp
  have var_sz : (Tm.mk 1 0 ⟨#[]⟩ []).size = 1 := by simp [Tm.size_eq (Tm.mk _ _ _ _)]
  have var_in : InR ⟨1, 0, ⟨#[]⟩, []⟩ := .mk _ z_in (by simp)
  have e2 := ar_Eval_ok ⟨4, 0, ⟨#[43]⟩, [⟨3, 0, ⟨#[102, 111, 111]⟩, []⟩, iT 1]⟩ (two_inR foo_in (iT_inR z1)) (by rw [two_size, iT_size, foo_sz]; omega)
  have v2 : evE ⟨4, 0, ⟨#[43]⟩, [⟨3, 0, ⟨#[102, 111, 111]⟩, []⟩, iT 1]⟩ = (0, 13, indA ⟨#[102, 111, 111]⟩ 0) := by
    rw [evE_P (two_check (by decide) foo_all (int_all _) (by rw [iT_size, foo_sz]; omega)), evalT_two, foo_ev, knows_plus]
    rfl
  have e3 := ar_Eval_ok ⟨4, 0, ⟨#[47, 47]⟩, [iT 1, iT 0]⟩ (two_inR (iT_inR z1) (iT_inR z_in)) (by rw [two_size, iT_size, iT_size]; omega)
  have v3 : evE ⟨4, 0, ⟨#[47, 47]⟩, [iT 1, iT 0]⟩ = (0, 10, zT) := by
    rw [evE_P (two_check (by decide) (int_all _) (int_all _) (by rw [iT_size, iT_size]; omega)), evalT_two, evalT_int, evalT_int]
    kernel_rfl
  have e4 := ar_Eval_ok ⟨4, 0, ⟨#[43]⟩, [⟨1, 0, ⟨#[]⟩, []⟩, ⟨3, 0, ⟨#[102, 111, 111]⟩, []⟩]⟩ (two_inR var_in foo_in) (by rw [two_size, foo_sz, var_sz]; omega)
  have v4 : evE ⟨4, 0, ⟨#[43]⟩, [⟨1, 0, ⟨#[]⟩, []⟩, ⟨3, 0, ⟨#[102, 111, 111]⟩, []⟩]⟩ = (0, 12, zT) := by
    rw [evE_P (two_check (by decide) var_all foo_all (by rw [foo_sz, var_sz]; omega)), evalT_two, var_ev, knows_plus]
    rfl
  rw [v1] at e1
  rw [v2] at e2
  rw [v3] at e3
  rw [v4] at e4
  simp only [Tm.enc, encs_cons, encs_nil] at e1 e2 e3 e4
  clear v1 v2 v3 v4
  have ff := fun s l => law12_f_ok s l
  refine ACalls.post (calls_tree 400 fn44 (by simp [Try.f44]) ?_); simp (maxSteps := 3000000) [Tr.map, Try.f44]
  (have hc_ := f1 1); (try simp at hc_); refine ACalls.retW hc_ (by simp (maxDischargeDepth := 20)) (by simp (maxDischargeDepth := 12)) (by simp (maxDischargeDepth := 12)) ?_; clear hc_; (try simp (maxSteps := 3000000) [Tr.map])
  (have hc_ := f1 2); (try simp at hc_); refine ACalls.retW hc_ (by simp (maxDischargeDepth := 20)) (by simp (maxDischargeDepth := 12)) (by simp (maxDischargeDepth := 12)) ?_; clear hc_; (try simp (maxSteps := 3000000) [Tr.map])
  (have hc_ := f1 3); (try simp at hc_); refine ACalls.retW hc_ (by simp (maxDischargeDepth := 20)) (by simp (maxDischargeDepth := 12)) (by simp (maxDischargeDepth := 12)) ?_; clear hc_; (try simp (maxSteps := 3000000) [Tr.map])
  refine ACalls.freeze 1 rfl ?_; simp
  (have hc_ := ff ⟨#[42]⟩ [iT 2, iT 3]); (try simp at hc_); refine ACalls.retW hc_ (by simp (maxDischargeDepth := 20)) (by simp (maxDischargeDepth := 12)) (by simp (maxDischargeDepth := 12)) ?_; clear hc_; (try simp (maxSteps := 3000000) [Tr.map])
  refine ACalls.freeze 2 rfl ?_; simp
  (have hc_ := ff ⟨#[43]⟩ [iT 1, ⟨4, 0, ⟨#[42]⟩, [iT 2, iT 3]⟩]); (try simp at hc_); refine ACalls.retW hc_ (by simp (maxDischargeDepth := 20)) (by simp (maxDischargeDepth := 12)) (by simp (maxDischargeDepth := 12)) ?_; clear hc_; (try simp (maxSteps := 3000000) [Tr.map])
  (have hc_ := e1); (try simp at hc_); refine ACalls.retW hc_ (by simp (maxDischargeDepth := 20)) (by simp (maxDischargeDepth := 12)) (by simp (maxDischargeDepth := 12)) ?_; clear hc_; (try simp (maxSteps := 3000000) [Tr.map])
  refine stk_draw mixed (tabOf_ok _) (fnOf_ok _) 12 (by kernel_rfl) ?_; simp (maxSteps := 3000000) [Tr.map]
  (have hc_ := f1 1); (try simp at hc_); refine QCall.introW hc_ (by simp (maxDischargeDepth := 20)) (by simp (maxDischargeDepth := 12)) (by simp (maxDischargeDepth := 12)) ?_; clear hc_; (try simp (maxSteps := 3000000) [Tr.map])
  (have hc_ := ff ⟨#[43]⟩ [⟨3, 0, ⟨#[102, 111, 111]⟩, []⟩, iT 1]); (try simp at hc_); refine QCall.introW hc_ (by simp (maxDischargeDepth := 20)) (by simp (maxDischargeDepth := 12)) (by simp (maxDischargeDepth := 12)) ?_; clear hc_; (try simp (maxSteps := 3000000) [Tr.map])
  (have hc_ := e2); (try simp at hc_); refine QCall.introW hc_ (by simp (maxDischargeDepth := 20)) (by simp (maxDischargeDepth := 12)) (by simp (maxDischargeDepth := 12)) ?_; clear hc_; (try simp (maxSteps := 3000000) [Tr.map])
  refine stk_run 400 ?_; simp (maxSteps := 3000000) [Tr.map]
  (have hc_ := f1 1); (try simp at hc_); refine ACalls.retW hc_ (by simp (maxDischargeDepth := 20)) (by simp (maxDischargeDepth := 12)) (by simp (maxDischargeDepth := 12)) ?_; clear hc_; (try simp (maxSteps := 3000000) [Tr.map])
  (have hc_ := f1 0); (try simp at hc_); refine ACalls.retW hc_ (by simp (maxDischargeDepth := 20)) (by simp (maxDischargeDepth := 12)) (by simp (maxDischargeDepth := 12)) ?_; clear hc_; (try simp (maxSteps := 3000000) [Tr.map])
  refine ACalls.freeze 5 rfl ?_; simp
  (have hc_ := ff ⟨#[47, 47]⟩ [iT 1, iT 0]); (try simp at hc_); refine ACalls.retW hc_ (by simp (maxDischargeDepth := 20)) (by simp (maxDischargeDepth := 12)) (by simp (maxDischargeDepth := 12)) ?_; clear hc_; (try simp (maxSteps := 3000000) [Tr.map])
  (have hc_ := e3); (try simp at hc_); refine ACalls.retW hc_ (by simp (maxDischargeDepth := 20)) (by simp (maxDischargeDepth := 12)) (by simp (maxDischargeDepth := 12)) ?_; clear hc_; (try simp (maxSteps := 3000000) [Tr.map])
  refine ACalls.freeze 7 rfl ?_; simp
  (have hc_ := ff ⟨#[43]⟩ [⟨1, 0, ⟨#[]⟩, []⟩, ⟨3, 0, ⟨#[102, 111, 111]⟩, []⟩]); (try simp at hc_); refine ACalls.retW hc_ (by simp (maxDischargeDepth := 20)) (by simp (maxDischargeDepth := 12)) (by simp (maxDischargeDepth := 12)) ?_; clear hc_; (try simp (maxSteps := 3000000) [Tr.map])
  (have hc_ := e4); (try simp at hc_); refine ACalls.retW hc_ (by simp (maxDischargeDepth := 20)) (by simp (maxDischargeDepth := 12)) (by simp (maxDischargeDepth := 12)) ?_; clear hc_; (try simp (maxSteps := 3000000) [Tr.map])
  (try simp [Tm.enc]); (first | (refine .done ?_; simp [Tm.enc]; done) | (refine Tn.wkRet ?_; simp (maxDischargeDepth := 20)) | (refine Tn.wkPan ?_; simp (maxDischargeDepth := 20)))

end Go.Proofs.Yteebkkipeiggcaa


/- The run of ArithEvals. -/
namespace Go.Proofs.Yteebkkipeiggcaa
open Go Go.Vm

set_option maxRecDepth 20000
set_option maxHeartbeats 2000000

theorem rhold_same (a b : Tm) (ha : InR a) (hb : InR b) (sa : a.size ≤ 1000000) (sb : b.size ≤ 1000000) : ACalls Try.prog 53 [.str ⟨#[61, 58, 61]⟩, .agg a.enc, .agg b.enc] [] (fun r _ => r = .ret (hoO (holdE ⟨#[61, 58, 61]⟩ a b))) := by
  have ea := ref_Eval_ok a ha sa
  have eb := ref_Eval_ok b hb sb
  have hc : isCmp ⟨#[61, 58, 61]⟩ := by decide
  have hR : holdE ⟨#[61, 58, 61]⟩ a b = if (evE a).2.1 = 0 then (if (evE b).2.1 = 0 then (cmpOp ⟨#[61, 58, 61]⟩ (evE a).1 (evE b).1, 0, zT) else (false, (evE b).2)) else (false, (evE a).2) := if_pos hc
  rw [hR]
  clear hR
  generalize evE a = p at *
  generalize evE b = q at *
  obtain ⟨x, e, t⟩ := p
  obtain ⟨y, g, u⟩ := q
  dsimp only
  by_cases h1 : e = 0
  · subst h1
    by_cases h2 : g = 0
    · subst h2
      have e1 : (x != y) = !decide (x = y) := by by_cases h : x = y <;> simp [h]
      have e2 : (x == y) = decide (x = y) := by by_cases h : x = y <;> simp [h]
      refine ACalls.post (calls_tree 400 fn53 (by simp [Try.f53]) ?_); simp (maxSteps := 3000000) [Tr.map, Try.f53]
      (have hc_ := ea); (try simp at hc_); refine ACalls.retW hc_ (by simp (maxDischargeDepth := 20)) (by simp (maxDischargeDepth := 12)) (by simp (maxDischargeDepth := 12)) ?_; clear hc_; (try simp (maxSteps := 3000000) [Tr.map])
      (have hc_ := eb); (try simp at hc_); refine ACalls.retW hc_ (by simp (maxDischargeDepth := 20)) (by simp (maxDischargeDepth := 12)) (by simp (maxDischargeDepth := 12)) ?_; clear hc_; (try simp (maxSteps := 3000000) [Tr.map])
      (try simp [Tm.enc, cmpOp, e1, e2]); (first | (refine .done ?_; simp [Tm.enc, cmpOp, e1, e2]; done) | (refine Tn.wkRet ?_; simp (maxDischargeDepth := 20)) | (refine Tn.wkPan ?_; simp (maxDischargeDepth := 20)))
    · rw [if_pos rfl, if_neg h2]
      refine ACalls.post (calls_tree 400 fn53 (by simp [Try.f53]) ?_); simp (maxSteps := 3000000) [Tr.map, Try.f53]
      (have hc_ := ea); (try simp at hc_); refine ACalls.retW hc_ (by simp (maxDischargeDepth := 20)) (by simp (maxDischargeDepth := 12)) (by simp (maxDischargeDepth := 12)) ?_; clear hc_; (try simp (maxSteps := 3000000) [Tr.map])
      (have hc_ := eb); (try simp at hc_); refine ACalls.retW hc_ (by simp (maxDischargeDepth := 20)) (by simp (maxDischargeDepth := 12)) (by simp (maxDischargeDepth := 12)) ?_; clear hc_; (try simp (maxSteps := 3000000) [Tr.map, h2])
      refine stk_draw mixed (tabOf_ok _) (fnOf_ok _) 4 (by kernel_rfl) ?_; simp (maxSteps := 3000000) [Tr.map]
      refine stk_run 400 ?_; simp (maxSteps := 3000000) [Tr.map]
      (try simp [Tm.enc]); (first | (refine .done ?_; simp [Tm.enc]; done) | (refine Tn.wkRet ?_; simp (maxDischargeDepth := 20)) | (refine Tn.wkPan ?_; simp (maxDischargeDepth := 20)))
  · rw [if_neg h1]
    refine ACalls.post (calls_tree 400 fn53 (by simp [Try.f53]) ?_); simp (maxSteps := 3000000) [Tr.map, Try.f53]
    (have hc_ := ea); (try simp at hc_); refine ACalls.retW hc_ (by simp (maxDischargeDepth := 20)) (by simp (maxDischargeDepth := 12)) (by simp (maxDischargeDepth := 12)) ?_; clear hc_; (try simp (maxSteps := 3000000) [Tr.map, h1])
    refine stk_draw mixed (tabOf_ok _) (fnOf_ok _) 4 (by kernel_rfl) ?_; simp (maxSteps := 3000000) [Tr.map]
    refine stk_run 400 ?_; simp (maxSteps := 3000000) [Tr.map]
    (try simp [Tm.enc]); (first | (refine .done ?_; simp [Tm.enc]; done) | (refine Tn.wkRet ?_; simp (maxDischargeDepth := 20)) | (refine Tn.wkPan ?_; simp (maxDischargeDepth := 20)))
theorem rhold_other (a b : Tm) (ha : InR a) (hb : InR b) (sa : a.size ≤ 1000000) (sb : b.size ≤ 1000000) : ACalls Try.prog 53 [.str ⟨#[61, 92, 61]⟩, .agg a.enc, .agg b.enc] [] (fun r _ => r = .ret (hoO (holdE ⟨#[61, 92, 61]⟩ a b))) := by
  have ea := ref_Eval_ok a ha sa
  have eb := ref_Eval_ok b hb sb
  have hc : isCmp ⟨#[61, 92, 61]⟩ := by decide
  have hR : holdE ⟨#[61, 92, 61]⟩ a b = if (evE a).2.1 = 0 then (if (evE b).2.1 = 0 then (cmpOp ⟨#[61, 92, 61]⟩ (evE a).1 (evE b).1, 0, zT) else (false, (evE b).2)) else (false, (evE a).2) := if_pos hc
  rw [hR]
  clear hR
  generalize evE a = p at *
  generalize evE b = q at *
  obtain ⟨x, e, t⟩ := p
  obtain ⟨y, g, u⟩ := q
  dsimp only
  by_cases h1 : e = 0
  · subst h1
    by_cases h2 : g = 0
    · subst h2
      have e1 : (x != y) = !decide (x = y) := by by_cases h : x = y <;> simp [h]
      have e2 : (x == y) = decide (x = y) := by by_cases h : x = y <;> simp [h]
      refine ACalls.post (calls_tree 400 fn53 (by simp [Try.f53]) ?_); simp (maxSteps := 3000000) [Tr.map, Try.f53]
      (have hc_ := ea); (try simp at hc_); refine ACalls.retW hc_ (by simp (maxDischargeDepth := 20)) (by simp (maxDischargeDepth := 12)) (by simp (maxDischargeDepth := 12)) ?_; clear hc_; (try simp (maxSteps := 3000000) [Tr.map])
      (have hc_ := eb); (try simp at hc_); refine ACalls.retW hc_ (by simp (maxDischargeDepth := 20)) (by simp (maxDischargeDepth := 12)) (by simp (maxDischargeDepth := 12)) ?_; clear hc_; (try simp (maxSteps := 3000000) [Tr.map])
      (try simp [Tm.enc, cmpOp, e1, e2]); (first | (refine .done ?_; simp [Tm.enc, cmpOp, e1, e2]; done) | (refine Tn.wkRet ?_; simp (maxDischargeDepth := 20)) | (refine Tn.wkPan ?_; simp (maxDischargeDepth := 20)))
    · rw [if_pos rfl, if_neg h2]
      refine ACalls.post (calls_tree 400 fn53 (by simp [Try.f53]) ?_); simp (maxSteps := 3000000) [Tr.map, Try.f53]
      (have hc_ := ea); (try simp at hc_); refine ACalls.retW hc_ (by simp (maxDischargeDepth := 20)) (by simp (maxDischargeDepth := 12)) (by simp (maxDischargeDepth := 12)) ?_; clear hc_; (try simp (maxSteps := 3000000) [Tr.map])
      (have hc_ := eb); (try simp at hc_); refine ACalls.retW hc_ (by simp (maxDischargeDepth := 20)) (by simp (maxDischargeDepth := 12)) (by simp (maxDischargeDepth := 12)) ?_; clear hc_; (try simp (maxSteps := 3000000) [Tr.map, h2])
      refine stk_draw mixed (tabOf_ok _) (fnOf_ok _) 4 (by kernel_rfl) ?_; simp (maxSteps := 3000000) [Tr.map]
      refine stk_run 400 ?_; simp (maxSteps := 3000000) [Tr.map]
      (try simp [Tm.enc]); (first | (refine .done ?_; simp [Tm.enc]; done) | (refine Tn.wkRet ?_; simp (maxDischargeDepth := 20)) | (refine Tn.wkPan ?_; simp (maxDischargeDepth := 20)))
  · rw [if_neg h1]
    refine ACalls.post (calls_tree 400 fn53 (by simp [Try.f53]) ?_); simp (maxSteps := 3000000) [Tr.map, Try.f53]
    (have hc_ := ea); (try simp at hc_); refine ACalls.retW hc_ (by simp (maxDischargeDepth := 20)) (by simp (maxDischargeDepth := 12)) (by simp (maxDischargeDepth := 12)) ?_; clear hc_; (try simp (maxSteps := 3000000) [Tr.map, h1])
    refine stk_draw mixed (tabOf_ok _) (fnOf_ok _) 4 (by kernel_rfl) ?_; simp (maxSteps := 3000000) [Tr.map]
    refine stk_run 400 ?_; simp (maxSteps := 3000000) [Tr.map]
    (try simp [Tm.enc]); (first | (refine .done ?_; simp [Tm.enc]; done) | (refine Tn.wkRet ?_; simp (maxDischargeDepth := 20)) | (refine Tn.wkPan ?_; simp (maxDischargeDepth := 20)))
theorem rhold_less (a b : Tm) (ha : InR a) (hb : InR b) (sa : a.size ≤ 1000000) (sb : b.size ≤ 1000000) : ACalls Try.prog 53 [.str ⟨#[60]⟩, .agg a.enc, .agg b.enc] [] (fun r _ => r = .ret (hoO (holdE ⟨#[60]⟩ a b))) := by
  have ea := ref_Eval_ok a ha sa
  have eb := ref_Eval_ok b hb sb
  have hc : isCmp ⟨#[60]⟩ := by decide
  have hR : holdE ⟨#[60]⟩ a b = if (evE a).2.1 = 0 then (if (evE b).2.1 = 0 then (cmpOp ⟨#[60]⟩ (evE a).1 (evE b).1, 0, zT) else (false, (evE b).2)) else (false, (evE a).2) := if_pos hc
  rw [hR]
  clear hR
  generalize evE a = p at *
  generalize evE b = q at *
  obtain ⟨x, e, t⟩ := p
  obtain ⟨y, g, u⟩ := q
  dsimp only
  by_cases h1 : e = 0
  · subst h1
    by_cases h2 : g = 0
    · subst h2
      have e1 : (x != y) = !decide (x = y) := by by_cases h : x = y <;> simp [h]
      have e2 : (x == y) = decide (x = y) := by by_cases h : x = y <;> simp [h]
      refine ACalls.post (calls_tree 400 fn53 (by simp [Try.f53]) ?_); simp (maxSteps := 3000000) [Tr.map, Try.f53]
      (have hc_ := ea); (try simp at hc_); refine ACalls.retW hc_ (by simp (maxDischargeDepth := 20)) (by simp (maxDischargeDepth := 12)) (by simp (maxDischargeDepth := 12)) ?_; clear hc_; (try simp (maxSteps := 3000000) [Tr.map])
      (have hc_ := eb); (try simp at hc_); refine ACalls.retW hc_ (by simp (maxDischargeDepth := 20)) (by simp (maxDischargeDepth := 12)) (by simp (maxDischargeDepth := 12)) ?_; clear hc_; (try simp (maxSteps := 3000000) [Tr.map])
      (try simp [Tm.enc, cmpOp, e1, e2]); (first | (refine .done ?_; simp [Tm.enc, cmpOp, e1, e2]; done) | (refine Tn.wkRet ?_; simp (maxDischargeDepth := 20)) | (refine Tn.wkPan ?_; simp (maxDischargeDepth := 20)))
    · rw [if_pos rfl, if_neg h2]
      refine ACalls.post (calls_tree 400 fn53 (by simp [Try.f53]) ?_); simp (maxSteps := 3000000) [Tr.map, Try.f53]
      (have hc_ := ea); (try simp at hc_); refine ACalls.retW hc_ (by simp (maxDischargeDepth := 20)) (by simp (maxDischargeDepth := 12)) (by simp (maxDischargeDepth := 12)) ?_; clear hc_; (try simp (maxSteps := 3000000) [Tr.map])
      (have hc_ := eb); (try simp at hc_); refine ACalls.retW hc_ (by simp (maxDischargeDepth := 20)) (by simp (maxDischargeDepth := 12)) (by simp (maxDischargeDepth := 12)) ?_; clear hc_; (try simp (maxSteps := 3000000) [Tr.map, h2])
      refine stk_draw mixed (tabOf_ok _) (fnOf_ok _) 4 (by kernel_rfl) ?_; simp (maxSteps := 3000000) [Tr.map]
      refine stk_run 400 ?_; simp (maxSteps := 3000000) [Tr.map]
      (try simp [Tm.enc]); (first | (refine .done ?_; simp [Tm.enc]; done) | (refine Tn.wkRet ?_; simp (maxDischargeDepth := 20)) | (refine Tn.wkPan ?_; simp (maxDischargeDepth := 20)))
  · rw [if_neg h1]
    refine ACalls.post (calls_tree 400 fn53 (by simp [Try.f53]) ?_); simp (maxSteps := 3000000) [Tr.map, Try.f53]
    (have hc_ := ea); (try simp at hc_); refine ACalls.retW hc_ (by simp (maxDischargeDepth := 20)) (by simp (maxDischargeDepth := 12)) (by simp (maxDischargeDepth := 12)) ?_; clear hc_; (try simp (maxSteps := 3000000) [Tr.map, h1])
    refine stk_draw mixed (tabOf_ok _) (fnOf_ok _) 4 (by kernel_rfl) ?_; simp (maxSteps := 3000000) [Tr.map]
    refine stk_run 400 ?_; simp (maxSteps := 3000000) [Tr.map]
    (try simp [Tm.enc]); (first | (refine .done ?_; simp [Tm.enc]; done) | (refine Tn.wkRet ?_; simp (maxDischargeDepth := 20)) | (refine Tn.wkPan ?_; simp (maxDischargeDepth := 20)))
theorem rhold_more (a b : Tm) (ha : InR a) (hb : InR b) (sa : a.size ≤ 1000000) (sb : b.size ≤ 1000000) : ACalls Try.prog 53 [.str ⟨#[62]⟩, .agg a.enc, .agg b.enc] [] (fun r _ => r = .ret (hoO (holdE ⟨#[62]⟩ a b))) := by
  have ea := ref_Eval_ok a ha sa
  have eb := ref_Eval_ok b hb sb
  have hc : isCmp ⟨#[62]⟩ := by decide
  have hR : holdE ⟨#[62]⟩ a b = if (evE a).2.1 = 0 then (if (evE b).2.1 = 0 then (cmpOp ⟨#[62]⟩ (evE a).1 (evE b).1, 0, zT) else (false, (evE b).2)) else (false, (evE a).2) := if_pos hc
  rw [hR]
  clear hR
  generalize evE a = p at *
  generalize evE b = q at *
  obtain ⟨x, e, t⟩ := p
  obtain ⟨y, g, u⟩ := q
  dsimp only
  by_cases h1 : e = 0
  · subst h1
    by_cases h2 : g = 0
    · subst h2
      have e1 : (x != y) = !decide (x = y) := by by_cases h : x = y <;> simp [h]
      have e2 : (x == y) = decide (x = y) := by by_cases h : x = y <;> simp [h]
      refine ACalls.post (calls_tree 400 fn53 (by simp [Try.f53]) ?_); simp (maxSteps := 3000000) [Tr.map, Try.f53]
      (have hc_ := ea); (try simp at hc_); refine ACalls.retW hc_ (by simp (maxDischargeDepth := 20)) (by simp (maxDischargeDepth := 12)) (by simp (maxDischargeDepth := 12)) ?_; clear hc_; (try simp (maxSteps := 3000000) [Tr.map])
      (have hc_ := eb); (try simp at hc_); refine ACalls.retW hc_ (by simp (maxDischargeDepth := 20)) (by simp (maxDischargeDepth := 12)) (by simp (maxDischargeDepth := 12)) ?_; clear hc_; (try simp (maxSteps := 3000000) [Tr.map])
      (try simp [Tm.enc, cmpOp, e1, e2]); (first | (refine .done ?_; simp [Tm.enc, cmpOp, e1, e2]; done) | (refine Tn.wkRet ?_; simp (maxDischargeDepth := 20)) | (refine Tn.wkPan ?_; simp (maxDischargeDepth := 20)))
    · rw [if_pos rfl, if_neg h2]
      refine ACalls.post (calls_tree 400 fn53 (by simp [Try.f53]) ?_); simp (maxSteps := 3000000) [Tr.map, Try.f53]
      (have hc_ := ea); (try simp at hc_); refine ACalls.retW hc_ (by simp (maxDischargeDepth := 20)) (by simp (maxDischargeDepth := 12)) (by simp (maxDischargeDepth := 12)) ?_; clear hc_; (try simp (maxSteps := 3000000) [Tr.map])
      (have hc_ := eb); (try simp at hc_); refine ACalls.retW hc_ (by simp (maxDischargeDepth := 20)) (by simp (maxDischargeDepth := 12)) (by simp (maxDischargeDepth := 12)) ?_; clear hc_; (try simp (maxSteps := 3000000) [Tr.map, h2])
      refine stk_draw mixed (tabOf_ok _) (fnOf_ok _) 4 (by kernel_rfl) ?_; simp (maxSteps := 3000000) [Tr.map]
      refine stk_run 400 ?_; simp (maxSteps := 3000000) [Tr.map]
      (try simp [Tm.enc]); (first | (refine .done ?_; simp [Tm.enc]; done) | (refine Tn.wkRet ?_; simp (maxDischargeDepth := 20)) | (refine Tn.wkPan ?_; simp (maxDischargeDepth := 20)))
  · rw [if_neg h1]
    refine ACalls.post (calls_tree 400 fn53 (by simp [Try.f53]) ?_); simp (maxSteps := 3000000) [Tr.map, Try.f53]
    (have hc_ := ea); (try simp at hc_); refine ACalls.retW hc_ (by simp (maxDischargeDepth := 20)) (by simp (maxDischargeDepth := 12)) (by simp (maxDischargeDepth := 12)) ?_; clear hc_; (try simp (maxSteps := 3000000) [Tr.map, h1])
    refine stk_draw mixed (tabOf_ok _) (fnOf_ok _) 4 (by kernel_rfl) ?_; simp (maxSteps := 3000000) [Tr.map]
    refine stk_run 400 ?_; simp (maxSteps := 3000000) [Tr.map]
    (try simp [Tm.enc]); (first | (refine .done ?_; simp [Tm.enc]; done) | (refine Tn.wkRet ?_; simp (maxDischargeDepth := 20)) | (refine Tn.wkPan ?_; simp (maxDischargeDepth := 20)))
theorem rhold_notMore (a b : Tm) (ha : InR a) (hb : InR b) (sa : a.size ≤ 1000000) (sb : b.size ≤ 1000000) : ACalls Try.prog 53 [.str ⟨#[61, 60]⟩, .agg a.enc, .agg b.enc] [] (fun r _ => r = .ret (hoO (holdE ⟨#[61, 60]⟩ a b))) := by
  have ea := ref_Eval_ok a ha sa
  have eb := ref_Eval_ok b hb sb
  have hc : isCmp ⟨#[61, 60]⟩ := by decide
  have hR : holdE ⟨#[61, 60]⟩ a b = if (evE a).2.1 = 0 then (if (evE b).2.1 = 0 then (cmpOp ⟨#[61, 60]⟩ (evE a).1 (evE b).1, 0, zT) else (false, (evE b).2)) else (false, (evE a).2) := if_pos hc
  rw [hR]
  clear hR
  generalize evE a = p at *
  generalize evE b = q at *
  obtain ⟨x, e, t⟩ := p
  obtain ⟨y, g, u⟩ := q
  dsimp only
  by_cases h1 : e = 0
  · subst h1
    by_cases h2 : g = 0
    · subst h2
      have e1 : (x != y) = !decide (x = y) := by by_cases h : x = y <;> simp [h]
      have e2 : (x == y) = decide (x = y) := by by_cases h : x = y <;> simp [h]
      refine ACalls.post (calls_tree 400 fn53 (by simp [Try.f53]) ?_); simp (maxSteps := 3000000) [Tr.map, Try.f53]
      (have hc_ := ea); (try simp at hc_); refine ACalls.retW hc_ (by simp (maxDischargeDepth := 20)) (by simp (maxDischargeDepth := 12)) (by simp (maxDischargeDepth := 12)) ?_; clear hc_; (try simp (maxSteps := 3000000) [Tr.map])
      (have hc_ := eb); (try simp at hc_); refine ACalls.retW hc_ (by simp (maxDischargeDepth := 20)) (by simp (maxDischargeDepth := 12)) (by simp (maxDischargeDepth := 12)) ?_; clear hc_; (try simp (maxSteps := 3000000) [Tr.map])
      (try simp [Tm.enc, cmpOp, e1, e2]); (first | (refine .done ?_; simp [Tm.enc, cmpOp, e1, e2]; done) | (refine Tn.wkRet ?_; simp (maxDischargeDepth := 20)) | (refine Tn.wkPan ?_; simp (maxDischargeDepth := 20)))
    · rw [if_pos rfl, if_neg h2]
      refine ACalls.post (calls_tree 400 fn53 (by simp [Try.f53]) ?_); simp (maxSteps := 3000000) [Tr.map, Try.f53]
      (have hc_ := ea); (try simp at hc_); refine ACalls.retW hc_ (by simp (maxDischargeDepth := 20)) (by simp (maxDischargeDepth := 12)) (by simp (maxDischargeDepth := 12)) ?_; clear hc_; (try simp (maxSteps := 3000000) [Tr.map])
      (have hc_ := eb); (try simp at hc_); refine ACalls.retW hc_ (by simp (maxDischargeDepth := 20)) (by simp (maxDischargeDepth := 12)) (by simp (maxDischargeDepth := 12)) ?_; clear hc_; (try simp (maxSteps := 3000000) [Tr.map, h2])
      refine stk_draw mixed (tabOf_ok _) (fnOf_ok _) 4 (by kernel_rfl) ?_; simp (maxSteps := 3000000) [Tr.map]
      refine stk_run 400 ?_; simp (maxSteps := 3000000) [Tr.map]
      (try simp [Tm.enc]); (first | (refine .done ?_; simp [Tm.enc]; done) | (refine Tn.wkRet ?_; simp (maxDischargeDepth := 20)) | (refine Tn.wkPan ?_; simp (maxDischargeDepth := 20)))
  · rw [if_neg h1]
    refine ACalls.post (calls_tree 400 fn53 (by simp [Try.f53]) ?_); simp (maxSteps := 3000000) [Tr.map, Try.f53]
    (have hc_ := ea); (try simp at hc_); refine ACalls.retW hc_ (by simp (maxDischargeDepth := 20)) (by simp (maxDischargeDepth := 12)) (by simp (maxDischargeDepth := 12)) ?_; clear hc_; (try simp (maxSteps := 3000000) [Tr.map, h1])
    refine stk_draw mixed (tabOf_ok _) (fnOf_ok _) 4 (by kernel_rfl) ?_; simp (maxSteps := 3000000) [Tr.map]
    refine stk_run 400 ?_; simp (maxSteps := 3000000) [Tr.map]
    (try simp [Tm.enc]); (first | (refine .done ?_; simp [Tm.enc]; done) | (refine Tn.wkRet ?_; simp (maxDischargeDepth := 20)) | (refine Tn.wkPan ?_; simp (maxDischargeDepth := 20)))
theorem rhold_notLess (a b : Tm) (ha : InR a) (hb : InR b) (sa : a.size ≤ 1000000) (sb : b.size ≤ 1000000) : ACalls Try.prog 53 [.str ⟨#[62, 61]⟩, .agg a.enc, .agg b.enc] [] (fun r _ => r = .ret (hoO (holdE ⟨#[62, 61]⟩ a b))) := by
  have ea := ref_Eval_ok a ha sa
  have eb := ref_Eval_ok b hb sb
  have hc : isCmp ⟨#[62, 61]⟩ := by decide
  have hR : holdE ⟨#[62, 61]⟩ a b = if (evE a).2.1 = 0 then (if (evE b).2.1 = 0 then (cmpOp ⟨#[62, 61]⟩ (evE a).1 (evE b).1, 0, zT) else (false, (evE b).2)) else (false, (evE a).2) := if_pos hc
  rw [hR]
  clear hR
  generalize evE a = p at *
  generalize evE b = q at *
  obtain ⟨x, e, t⟩ := p
  obtain ⟨y, g, u⟩ := q
  dsimp only
  by_cases h1 : e = 0
  · subst h1
    by_cases h2 : g = 0
    · subst h2
      have e1 : (x != y) = !decide (x = y) := by by_cases h : x = y <;> simp [h]
      have e2 : (x == y) = decide (x = y) := by by_cases h : x = y <;> simp [h]
      refine ACalls.post (calls_tree 400 fn53 (by simp [Try.f53]) ?_); simp (maxSteps := 3000000) [Tr.map, Try.f53]
      (have hc_ := ea); (try simp at hc_); refine ACalls.retW hc_ (by simp (maxDischargeDepth := 20)) (by simp (maxDischargeDepth := 12)) (by simp (maxDischargeDepth := 12)) ?_; clear hc_; (try simp (maxSteps := 3000000) [Tr.map])
      (have hc_ := eb); (try simp at hc_); refine ACalls.retW hc_ (by simp (maxDischargeDepth := 20)) (by simp (maxDischargeDepth := 12)) (by simp (maxDischargeDepth := 12)) ?_; clear hc_; (try simp (maxSteps := 3000000) [Tr.map])
      (try simp [Tm.enc, cmpOp, e1, e2]); (first | (refine .done ?_; simp [Tm.enc, cmpOp, e1, e2]; done) | (refine Tn.wkRet ?_; simp (maxDischargeDepth := 20)) | (refine Tn.wkPan ?_; simp (maxDischargeDepth := 20)))
    · rw [if_pos rfl, if_neg h2]
      refine ACalls.post (calls_tree 400 fn53 (by simp [Try.f53]) ?_); simp (maxSteps := 3000000) [Tr.map, Try.f53]
      (have hc_ := ea); (try simp at hc_); refine ACalls.retW hc_ (by simp (maxDischargeDepth := 20)) (by simp (maxDischargeDepth := 12)) (by simp (maxDischargeDepth := 12)) ?_; clear hc_; (try simp (maxSteps := 3000000) [Tr.map])
      (have hc_ := eb); (try simp at hc_); refine ACalls.retW hc_ (by simp (maxDischargeDepth := 20)) (by simp (maxDischargeDepth := 12)) (by simp (maxDischargeDepth := 12)) ?_; clear hc_; (try simp (maxSteps := 3000000) [Tr.map, h2])
      refine stk_draw mixed (tabOf_ok _) (fnOf_ok _) 4 (by kernel_rfl) ?_; simp (maxSteps := 3000000) [Tr.map]
      refine stk_run 400 ?_; simp (maxSteps := 3000000) [Tr.map]
      (try simp [Tm.enc]); (first | (refine .done ?_; simp [Tm.enc]; done) | (refine Tn.wkRet ?_; simp (maxDischargeDepth := 20)) | (refine Tn.wkPan ?_; simp (maxDischargeDepth := 20)))
  · rw [if_neg h1]
    refine ACalls.post (calls_tree 400 fn53 (by simp [Try.f53]) ?_); simp (maxSteps := 3000000) [Tr.map, Try.f53]
    (have hc_ := ea); (try simp at hc_); refine ACalls.retW hc_ (by simp (maxDischargeDepth := 20)) (by simp (maxDischargeDepth := 12)) (by simp (maxDischargeDepth := 12)) ?_; clear hc_; (try simp (maxSteps := 3000000) [Tr.map, h1])
    refine stk_draw mixed (tabOf_ok _) (fnOf_ok _) 4 (by kernel_rfl) ?_; simp (maxSteps := 3000000) [Tr.map]
    refine stk_run 400 ?_; simp (maxSteps := 3000000) [Tr.map]
    (try simp [Tm.enc]); (first | (refine .done ?_; simp [Tm.enc]; done) | (refine Tn.wkRet ?_; simp (maxDischargeDepth := 20)) | (refine Tn.wkPan ?_; simp (maxDischargeDepth := 20)))
theorem ref_Holds_ok (op : ByteArray) (a b : Tm) (ha : InR a) (hb : InR b) (sa : a.size ≤ 1000000) (sb : b.size ≤ 1000000) : ACalls Try.prog 53 [.str op, .agg a.enc, .agg b.enc] [] (fun r _ => r = .ret (hoO (holdE op a b))) := by
  by_cases hsame : op = ⟨#[61, 58, 61]⟩
  · subst hsame; exact rhold_same a b ha hb sa sb
  by_cases hother : op = ⟨#[61, 92, 61]⟩
  · subst hother; exact rhold_other a b ha hb sa sb
  by_cases hless : op = ⟨#[60]⟩
  · subst hless; exact rhold_less a b ha hb sa sb
  by_cases hmore : op = ⟨#[62]⟩
  · subst hmore; exact rhold_more a b ha hb sa sb
  by_cases hnotMore : op = ⟨#[61, 60]⟩
  · subst hnotMore; exact rhold_notMore a b ha hb sa sb
  by_cases hnotLess : op = ⟨#[62, 61]⟩
  · subst hnotLess; exact rhold_notLess a b ha hb sa sb
  have hc : ¬ isCmp op := by unfold isCmp; simp [hsame, hother, hless, hmore, hnotMore, hnotLess]
  have hR : holdE op a b = (false, 8, zT) := if_neg hc
  rw [hR]
  refine ACalls.post (calls_tree 400 fn53 (by simp [Try.f53]) ?_); simp (maxSteps := 3000000) [Tr.map, Try.f53, hsame, hother, hless, hmore, hnotMore, hnotLess]
  (try simp [Tm.enc]); (first | (refine .done ?_; simp [Tm.enc]; done) | (refine Tn.wkRet ?_; simp (maxDischargeDepth := 20)) | (refine Tn.wkPan ?_; simp (maxDischargeDepth := 20)))

theorem ev_size2 (t : Tm) : ∀ {e : Int} {x : Tm}, evalT t = .bad e x → x.size ≤ 3 := by
  have hz : zT.size = 1 := by simp [Tm.size_eq zT]
  have hi : ∀ s n, (indA s n).size = 3 := fun s n => by simp [Tm.size_eq (Tm.mk _ _ _ _)]
  induction t using Tm.ind with | _ t ih
  intro e x h
  obtain ⟨k, m, s, a⟩ := t
  unfold evalT at h
  by_cases k2 : k = 2
  · rw [if_pos k2] at h; cases h
  rw [if_neg k2] at h
  by_cases k1 : k = 1
  · rw [if_pos k1] at h; cases h; omega
  rw [if_neg k1] at h
  by_cases kb : knowsB s a.length = false
  · rw [if_pos kb] at h; cases h; rw [hi]; omega
  rw [if_neg kb] at h
  have ho : ∀ {p : Int × Int}, outEv p = .bad e x → x.size ≤ 3 := fun {p} hp => by
    unfold outEv at hp
    split at hp
    · cases hp
    · cases hp; omega
  rcases a with _ | ⟨y, _ | ⟨z, _ | ⟨w, a⟩⟩⟩
  · dsimp only at h; cases h; omega
  · dsimp only at h
    cases hx : evalT y with
    | bad e' t => rw [hx] at h; cases h; exact ih y (by simp) hx
    | val m' => rw [hx] at h; exact ho h
  · dsimp only at h
    cases hx : evalT y with
    | bad e' t => rw [hx] at h; cases h; exact ih y (by simp) hx
    | val m' =>
      rw [hx] at h
      cases hy : evalT z with
      | bad e' t => rw [hy] at h; cases h; exact ih z (by simp) hy
      | val l => rw [hy] at h; exact ho h
  · dsimp only at h; cases h; omega
theorem evE_size (t : Tm) : (evE t).2.2.size ≤ 3 := by
  have hz : zT.size = 1 := by simp [Tm.size_eq zT]
  unfold evE
  split
  · cases h : evalT t with
    | val n => simp only; omega
    | bad e x => exact ev_size2 t h
  · simp only; omega
theorem hold_size (op : ByteArray) (a b : Tm) : (holdE op a b).2.2.size ≤ 3 := by
  have hz : zT.size = 1 := by simp [Tm.size_eq zT]
  unfold holdE
  (repeat' split) <;> first | exact evE_size _ | (simp only; omega)

theorem arithEvals_run (l m : List Pt) (op : ByteArray) (hl : ∀ p ∈ l, (0 ≤ p.args ∧ p.args ≤ 255) ∧ In64 p.n) (hm : ∀ p ∈ m, (0 ≤ p.args ∧ p.args ≤ 255) ∧ In64 p.n) (_ : op.size ≤ maxLen) :
    ACalls Try.prog 13 [.ro 4 (encP l), .ro 4 (encP m), .str op] [] (fun r _ => r = .ret (.bool true)) := by
  refine ACalls.post (calls_tree 400 fn13 (by simp [Try.f13]) ?_); simp (maxSteps := 3000000) [Tr.map, Try.f13]
  (have hc_ := law12_alive_ok); (try simp at hc_); refine ACalls.retW hc_ (by simp (maxDischargeDepth := 20)) (by simp (maxDischargeDepth := 12)) (by simp (maxDischargeDepth := 12)) ?_; clear hc_; (try simp (maxSteps := 3000000) [Tr.map])
  by_cases l60 : 60 < l.length
  · (have hc_ := great_big l l60); (try simp at hc_); refine ACalls.retW hc_ (by simp (maxDischargeDepth := 20)) (by simp (maxDischargeDepth := 12)) (by simp (maxDischargeDepth := 12)) ?_; clear hc_; (try simp (maxSteps := 3000000) [Tr.map])
    (try simp [Tm.enc]); (first | (refine .done ?_; simp [Tm.enc]; done) | (refine Tn.wkRet ?_; simp (maxDischargeDepth := 20)) | (refine Tn.wkPan ?_; simp (maxDischargeDepth := 20)))
  (have hc_ := great_small l (by omega)); (try simp at hc_); refine ACalls.retW hc_ (by simp (maxDischargeDepth := 20)) (by simp (maxDischargeDepth := 12)) (by simp (maxDischargeDepth := 12)) ?_; clear hc_; (try simp (maxSteps := 3000000) [Tr.map])
  by_cases m60 : 60 < m.length
  · (have hc_ := great_big m m60); (try simp at hc_); refine ACalls.retW hc_ (by simp (maxDischargeDepth := 20)) (by simp (maxDischargeDepth := 12)) (by simp (maxDischargeDepth := 12)) ?_; clear hc_; (try simp (maxSteps := 3000000) [Tr.map])
    (try simp [Tm.enc]); (first | (refine .done ?_; simp [Tm.enc]; done) | (refine Tn.wkRet ?_; simp (maxDischargeDepth := 20)) | (refine Tn.wkPan ?_; simp (maxDischargeDepth := 20)))
  (have hc_ := great_small m (by omega)); (try simp at hc_); refine ACalls.retW hc_ (by simp (maxDischargeDepth := 20)) (by simp (maxDischargeDepth := 12)) (by simp (maxDischargeDepth := 12)) ?_; clear hc_; (try simp (maxSteps := 3000000) [Tr.map])
  have o1 := of_ok (l.length + 1) l (by omega) (by omega) fun p hp => (hl p hp).1
  have o2 := of_ok (m.length + 1) m (by omega) (by omega) fun p hp => (hm p hp).1
  have sx := ofF_size (l.length + 1) l
  have lx := ofF_le (l.length + 1) l
  have sy := ofF_size (m.length + 1) m
  have ly := ofF_le (m.length + 1) m
  have ix := ofF_inR (l.length + 1) l fun p hp => (hl p hp).2
  have iy := ofF_inR (m.length + 1) m fun p hp => (hm p hp).2
  have px : (ofF (l.length + 1) l).1.size ≤ 500 := by omega
  have py : (ofF (m.length + 1) m).1.size ≤ 500 := by omega
  clear sx lx sy ly
  generalize ofF (l.length + 1) l = P1 at *
  generalize ofF (m.length + 1) m = P2 at *
  obtain ⟨x, n1⟩ := P1
  obtain ⟨y, n2⟩ := P2
  simp only at o1 o2 ix iy px py
  have mx := mend_ok x (by omega)
  have my := mend_ok y (by omega)
  have jx := mendF_inR x ix
  have jy := mendF_inR y iy
  have qx := mendF_size x
  have qy := mendF_size y
  generalize mendF x = z at *
  generalize mendF y = w at *
  have ax := ar_Eval_ok x (by assumption) (by omega)
  have rx := ref_Eval_ok x (by assumption) (by omega)
  have sx := same_self (evE x).2.2 (by have := evE_size x; omega)
  generalize evE x = Vx at *
  have ay := ar_Eval_ok y (by assumption) (by omega)
  have ry := ref_Eval_ok y (by assumption) (by omega)
  have sy := same_self (evE y).2.2 (by have := evE_size y; omega)
  generalize evE y = Vy at *
  have az := ar_Eval_ok z (by assumption) (by omega)
  have rz := ref_Eval_ok z (by assumption) (by omega)
  have sz := same_self (evE z).2.2 (by have := evE_size z; omega)
  generalize evE z = Vz at *
  have aw := ar_Eval_ok w (by assumption) (by omega)
  have rw := ref_Eval_ok w (by assumption) (by omega)
  have sw := same_self (evE w).2.2 (by have := evE_size w; omega)
  generalize evE w = Vw at *
  have h1 := ar_Holds_ok op z w jx jy (by omega) (by omega)
  have h2 := ref_Holds_ok op z w jx jy (by omega) (by omega)
  have h3 := same_self (holdE op z w).2.2 (by have := hold_size op z w; omega)
  generalize holdE op z w = H at *
  (have hc_ := o1); (try simp at hc_); refine ACalls.retW hc_ (by simp (maxDischargeDepth := 20)) (by simp (maxDischargeDepth := 12)) (by simp (maxDischargeDepth := 12)) ?_; clear hc_; (try simp (maxSteps := 3000000) [Tr.map])
  (have hc_ := o2); (try simp at hc_); refine ACalls.retW hc_ (by simp (maxDischargeDepth := 20)) (by simp (maxDischargeDepth := 12)) (by simp (maxDischargeDepth := 12)) ?_; clear hc_; (try simp (maxSteps := 3000000) [Tr.map])
  refine stk_draw mixed (tabOf_ok _) (fnOf_ok _) 8 (by kernel_rfl) ?_; simp (maxSteps := 3000000) [Tr.map]
  (have hc_ := mx); (try simp at hc_); refine QCall.introW hc_ (by simp (maxDischargeDepth := 20)) (by simp (maxDischargeDepth := 12)) (by simp (maxDischargeDepth := 12)) ?_; clear hc_; (try simp (maxSteps := 3000000) [Tr.map])
  (have hc_ := my); (try simp at hc_); refine QCall.introW hc_ (by simp (maxDischargeDepth := 20)) (by simp (maxDischargeDepth := 12)) (by simp (maxDischargeDepth := 12)) ?_; clear hc_; (try simp (maxSteps := 3000000) [Tr.map])
  refine stk_run 400 ?_; simp (maxSteps := 3000000) [Tr.map]
  refine AStk.liveT [2, 7, 9, 49, 50] (AStk.gc [0, 1] (by simp) (by simp) (by simp) ?_); simp [Tr.map]
  refine AStk.round ?_
  refine stk_run 400 ?_; simp (maxSteps := 3000000) [Tr.map]
  (have hc_ := ax); (try simp at hc_); refine ACalls.retW hc_ (by simp (maxDischargeDepth := 20)) (by simp (maxDischargeDepth := 12)) (by simp (maxDischargeDepth := 12)) ?_; clear hc_; (try simp (maxSteps := 3000000) [Tr.map])
  (have hc_ := rx); (try simp at hc_); refine ACalls.retW hc_ (by simp (maxDischargeDepth := 20)) (by simp (maxDischargeDepth := 12)) (by simp (maxDischargeDepth := 12)) ?_; clear hc_; (try simp (maxSteps := 3000000) [Tr.map])
  (have hc_ := sx); (try simp at hc_); refine ACalls.retW hc_ (by simp (maxDischargeDepth := 20)) (by simp (maxDischargeDepth := 12)) (by simp (maxDischargeDepth := 12)) ?_; clear hc_; (try simp (maxSteps := 3000000) [Tr.map])
  refine AStk.liveT [2, 7, 9, 49, 50] (AStk.gc [0, 1] (by simp) (by simp) (by simp) ?_); simp [Tr.map]
  refine AStk.round ?_
  refine stk_run 400 ?_; simp (maxSteps := 3000000) [Tr.map]
  (have hc_ := ay); (try simp at hc_); refine ACalls.retW hc_ (by simp (maxDischargeDepth := 20)) (by simp (maxDischargeDepth := 12)) (by simp (maxDischargeDepth := 12)) ?_; clear hc_; (try simp (maxSteps := 3000000) [Tr.map])
  (have hc_ := ry); (try simp at hc_); refine ACalls.retW hc_ (by simp (maxDischargeDepth := 20)) (by simp (maxDischargeDepth := 12)) (by simp (maxDischargeDepth := 12)) ?_; clear hc_; (try simp (maxSteps := 3000000) [Tr.map])
  (have hc_ := sy); (try simp at hc_); refine ACalls.retW hc_ (by simp (maxDischargeDepth := 20)) (by simp (maxDischargeDepth := 12)) (by simp (maxDischargeDepth := 12)) ?_; clear hc_; (try simp (maxSteps := 3000000) [Tr.map])
  refine AStk.liveT [2, 7, 9, 49, 50] (AStk.gc [0, 1] (by simp) (by simp) (by simp) ?_); simp [Tr.map]
  refine AStk.round ?_
  refine stk_run 400 ?_; simp (maxSteps := 3000000) [Tr.map]
  (have hc_ := az); (try simp at hc_); refine ACalls.retW hc_ (by simp (maxDischargeDepth := 20)) (by simp (maxDischargeDepth := 12)) (by simp (maxDischargeDepth := 12)) ?_; clear hc_; (try simp (maxSteps := 3000000) [Tr.map])
  (have hc_ := rz); (try simp at hc_); refine ACalls.retW hc_ (by simp (maxDischargeDepth := 20)) (by simp (maxDischargeDepth := 12)) (by simp (maxDischargeDepth := 12)) ?_; clear hc_; (try simp (maxSteps := 3000000) [Tr.map])
  (have hc_ := sz); (try simp at hc_); refine ACalls.retW hc_ (by simp (maxDischargeDepth := 20)) (by simp (maxDischargeDepth := 12)) (by simp (maxDischargeDepth := 12)) ?_; clear hc_; (try simp (maxSteps := 3000000) [Tr.map])
  refine AStk.liveT [2, 7, 9, 49, 50] (AStk.gc [0, 1] (by simp) (by simp) (by simp) ?_); simp [Tr.map]
  refine AStk.round ?_
  refine stk_run 400 ?_; simp (maxSteps := 3000000) [Tr.map]
  (have hc_ := aw); (try simp at hc_); refine ACalls.retW hc_ (by simp (maxDischargeDepth := 20)) (by simp (maxDischargeDepth := 12)) (by simp (maxDischargeDepth := 12)) ?_; clear hc_; (try simp (maxSteps := 3000000) [Tr.map])
  (have hc_ := rw); (try simp at hc_); refine ACalls.retW hc_ (by simp (maxDischargeDepth := 20)) (by simp (maxDischargeDepth := 12)) (by simp (maxDischargeDepth := 12)) ?_; clear hc_; (try simp (maxSteps := 3000000) [Tr.map])
  (have hc_ := sw); (try simp at hc_); refine ACalls.retW hc_ (by simp (maxDischargeDepth := 20)) (by simp (maxDischargeDepth := 12)) (by simp (maxDischargeDepth := 12)) ?_; clear hc_; (try simp (maxSteps := 3000000) [Tr.map])
  refine AStk.liveT [2, 7, 9, 49, 50] (AStk.gc [0, 1] (by simp) (by simp) (by simp) ?_); simp [Tr.map]
  refine AStk.round ?_
  refine stk_run 400 ?_; simp (maxSteps := 3000000) [Tr.map]
  refine stk_draw mixed (tabOf_ok _) (fnOf_ok _) 13 (by kernel_rfl) ?_; simp (maxSteps := 3000000) [Tr.map]
  (have hc_ := mx); (try simp at hc_); refine QCall.introW hc_ (by simp (maxDischargeDepth := 20)) (by simp (maxDischargeDepth := 12)) (by simp (maxDischargeDepth := 12)) ?_; clear hc_; (try simp (maxSteps := 3000000) [Tr.map])
  (have hc_ := my); (try simp at hc_); refine QCall.introW hc_ (by simp (maxDischargeDepth := 20)) (by simp (maxDischargeDepth := 12)) (by simp (maxDischargeDepth := 12)) ?_; clear hc_; (try simp (maxSteps := 3000000) [Tr.map])
  (have hc_ := h1); (try simp at hc_); refine QCall.introW hc_ (by simp (maxDischargeDepth := 20)) (by simp (maxDischargeDepth := 12)) (by simp (maxDischargeDepth := 12)) ?_; clear hc_; (try simp (maxSteps := 3000000) [Tr.map])
  refine stk_run 400 ?_; simp (maxSteps := 3000000) [Tr.map]
  refine stk_draw mixed (tabOf_ok _) (fnOf_ok _) 13 (by kernel_rfl) ?_; simp (maxSteps := 3000000) [Tr.map]
  (have hc_ := mx); (try simp at hc_); refine QCall.introW hc_ (by simp (maxDischargeDepth := 20)) (by simp (maxDischargeDepth := 12)) (by simp (maxDischargeDepth := 12)) ?_; clear hc_; (try simp (maxSteps := 3000000) [Tr.map])
  (have hc_ := my); (try simp at hc_); refine QCall.introW hc_ (by simp (maxDischargeDepth := 20)) (by simp (maxDischargeDepth := 12)) (by simp (maxDischargeDepth := 12)) ?_; clear hc_; (try simp (maxSteps := 3000000) [Tr.map])
  (have hc_ := h2); (try simp at hc_); refine QCall.introW hc_ (by simp (maxDischargeDepth := 20)) (by simp (maxDischargeDepth := 12)) (by simp (maxDischargeDepth := 12)) ?_; clear hc_; (try simp (maxSteps := 3000000) [Tr.map])
  refine stk_run 400 ?_; simp (maxSteps := 3000000) [Tr.map]
  (have hc_ := h3); (try simp at hc_); refine ACalls.retW hc_ (by simp (maxDischargeDepth := 20)) (by simp (maxDischargeDepth := 12)) (by simp (maxDischargeDepth := 12)) ?_; clear hc_; (try simp (maxSteps := 3000000) [Tr.map])
  (try simp [Tm.enc]); (first | (refine .done ?_; simp [Tm.enc]; done) | (refine Tn.wkRet ?_; simp (maxDischargeDepth := 20)) | (refine Tn.wkPan ?_; simp (maxDischargeDepth := 20)))

end Go.Proofs.Yteebkkipeiggcaa
