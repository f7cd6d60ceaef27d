/- Plain laws: terms' order. -/
import Derived.Test.YteebkkipeiggcaaCmp
set_option linter.unusedVariables false
set_option linter.unusedSimpArgs false
namespace Go.Proofs.Yteebkkipeiggcaa
open Go Go.Vm

def or2 (a b : Int) : Int := if a = 0 then b else a

/-- How three stand: x is of a and b, y of b and c, z of a and c. -/
def Tri (x y z : Int) : Prop := (x ≤ 0 → y ≤ 0 → z ≤ 0 ∧ (z = 0 → x = 0 ∧ y = 0)) ∧ (x ≥ 0 → y ≥ 0 → z ≥ 0 ∧ (z = 0 → x = 0 ∧ y = 0))

theorem tri_or {x1 y1 z1 x2 y2 z2 : Int} (h1 : Tri x1 y1 z1) (h2 : Tri x2 y2 z2) : Tri (or2 x1 x2) (or2 y1 y2) (or2 z1 z2) := by
  unfold Tri or2 at *
  split <;> split <;> split <;> omega

theorem cmpI_neg (a b : Int) : cmpI b a = - cmpI a b := by unfold cmpI; (repeat' split) <;> omega
theorem cmpI_zero (a b : Int) : cmpI a b = 0 ↔ a = b := by unfold cmpI; (repeat' split) <;> omega
theorem cmpI_tri (a b c : Int) : Tri (cmpI a b) (cmpI b c) (cmpI a c) := by unfold Tri cmpI; (repeat' split) <;> omega

theorem cb_neg : ∀ a b : List UInt8, Lib.compareBytes b a = - Lib.compareBytes a b
  | [], [] => by simp [Lib.compareBytes]
  | [], _ :: _ => by simp [Lib.compareBytes]
  | _ :: _, [] => by simp [Lib.compareBytes]
  | x :: a, y :: b => by
    simp only [Lib.compareBytes]
    by_cases h1 : x < y
    · have h2 : ¬ y < x := fun h => absurd (UInt8.lt_trans h1 h) (UInt8.lt_irrefl _)
      simp [h1, h2]
    · by_cases h2 : y < x
      · simp [h1, h2]
      · simp [h1, h2, cb_neg a b]

theorem u8_eq {x y : UInt8} (h1 : ¬ x < y) (h2 : ¬ y < x) : x = y := by
  rw [UInt8.lt_iff_toNat_lt] at h1 h2
  exact UInt8.toNat_inj.1 (by omega)

theorem cb_zero : ∀ a b : List UInt8, Lib.compareBytes a b = 0 ↔ a = b
  | [], [] => by simp [Lib.compareBytes]
  | [], _ :: _ => by simp [Lib.compareBytes]
  | _ :: _, [] => by simp [Lib.compareBytes]
  | x :: a, y :: b => by
    simp only [Lib.compareBytes]
    by_cases h1 : x < y
    · have : x ≠ y := fun e => by subst e; exact UInt8.lt_irrefl _ h1
      simp [h1, this]
    · by_cases h2 : y < x
      · have : x ≠ y := fun e => by subst e; exact UInt8.lt_irrefl _ h2
        simp [h1, h2, this]
      · simp [h1, h2, cb_zero a b, u8_eq h1 h2]

theorem cb_tri : ∀ a b c : List UInt8, Tri (Lib.compareBytes a b) (Lib.compareBytes b c) (Lib.compareBytes a c)
  | [], [], [] => by simp [Lib.compareBytes, Tri]
  | [], [], _ :: _ => by simp [Lib.compareBytes, Tri]
  | [], _ :: _, [] => by simp [Lib.compareBytes, Tri]
  | [], _ :: _, _ :: _ => by simp [Lib.compareBytes, Tri]
  | _ :: _, [], [] => by simp [Lib.compareBytes, Tri]
  | _ :: _, [], _ :: _ => by simp [Lib.compareBytes, Tri]
  | _ :: _, _ :: _, [] => by simp [Lib.compareBytes, Tri]
  | x :: a, y :: b, z :: c => by
    have ih := cb_tri a b c
    have e : ∀ (u v : UInt8) (l m : List UInt8), Lib.compareBytes (u :: l) (v :: m) = or2 (cmpI u.toNat v.toNat) (Lib.compareBytes l m) := fun u v l m => by
      simp only [Lib.compareBytes, or2, cmpI, UInt8.lt_iff_toNat_lt]
      by_cases h1 : u.toNat < v.toNat
      · have : (u.toNat : Int) < v.toNat := by omega
        simp [h1, this]
      · by_cases h2 : v.toNat < u.toNat
        · have h3 : (v.toNat : Int) < u.toNat := by omega
          have h4 : ¬ (u.toNat : Int) < v.toNat := by omega
          simp [h1, h2, h3, h4]
        · have h3 : ¬ (v.toNat : Int) < u.toNat := by omega
          have h4 : ¬ (u.toNat : Int) < v.toNat := by omega
          simp [h1, h2, h3, h4]
    rw [e, e, e]
    exact tri_or (cmpI_tri _ _ _) ih

theorem cmpS_neg (a b : ByteArray) : cmpS b a = - cmpS a b := cb_neg _ _
theorem cmpS_zero (a b : ByteArray) : cmpS a b = 0 ↔ a = b := by
  unfold cmpS
  rw [cb_zero]
  constructor
  · intro h
    obtain ⟨⟨a⟩⟩ := a; obtain ⟨⟨b⟩⟩ := b
    simpa using h
  · intro h; rw [h]
theorem cmpS_tri (a b c : ByteArray) : Tri (cmpS a b) (cmpS b c) (cmpS a c) := cb_tri _ _ _

theorem orI3 (a b c : Int) : orI [a, b, c] = or2 a (or2 b c) := by simp only [orI, or2]; (repeat' split) <;> omega

theorem or2_neg (a b : Int) : or2 (-a) (-b) = - or2 a b := by unfold or2; split <;> split <;> omega
theorem or2_zero (a b : Int) : or2 a b = 0 ↔ a = 0 ∧ b = 0 := by unfold or2; split <;> omega

theorem cmpL_cons (x y : Tm) (a b : List Tm) : cmpL (x :: a) (y :: b) = or2 (cmpT x y) (cmpL a b) := by simp [cmpL, or2]

theorem cmpT_k {s t : Tm} {k : Int} (h1 : s.kind = k) (h2 : t.kind = k) : cmpT s t = if k = 1 ∨ k = 2 then cmpI s.n t.n else orI [cmpI s.args.length t.args.length, cmpS s.s t.s, cmpL s.args t.args] := by
  rw [cmpT_eq, h1, h2]; simp
theorem cmpT_ne {s t : Tm} (h : s.kind ≠ t.kind) : cmpT s t = cmpI s.kind t.kind := by rw [cmpT_eq, if_pos h]

theorem cmpT_neg (x y : Tm) : cmpT y x = - cmpT x y := by
  induction x using Tm.ind generalizing y with | _ x ih
  have hl : ∀ a b : List Tm, (∀ u ∈ a, u ∈ x.args) → cmpL b a = - cmpL a b := by
    intro a
    induction a with
    | nil => intro b _; cases b <;> simp [cmpL]
    | cons u a iha =>
      intro b hm
      cases b with
      | nil => simp [cmpL]
      | cons v b => rw [cmpL_cons, cmpL_cons, ih u (hm u (by simp)) v, iha b (fun w hw => hm w (by simp [hw])), or2_neg]
  by_cases hk : x.kind = y.kind
  · rw [cmpT_k hk rfl, cmpT_k rfl hk]
    split
    · exact cmpI_neg _ _
    · rw [orI3, orI3, cmpI_neg, cmpS_neg, hl _ _ (fun u h => h), or2_neg, or2_neg]
  · rw [cmpT_ne hk, cmpT_ne (fun h => hk h.symm)]
    exact cmpI_neg _ _

def Bd (a : Int) : Prop := a = -1 ∨ a = 0 ∨ a = 1
theorem cmpI_bd (a b : Int) : Bd (cmpI a b) := by unfold Bd cmpI; (repeat' split) <;> omega
theorem or2_bd {a b : Int} (h1 : Bd a) (h2 : Bd b) : Bd (or2 a b) := by unfold Bd or2 at *; split <;> omega
theorem cb_bd : ∀ a b : List UInt8, Bd (Lib.compareBytes a b)
  | [], [] => by simp [Lib.compareBytes, Bd]
  | [], _ :: _ => by simp [Lib.compareBytes, Bd]
  | _ :: _, [] => by simp [Lib.compareBytes, Bd]
  | x :: a, y :: b => by
    simp only [Lib.compareBytes]
    (repeat' split)
    · exact .inl rfl
    · exact .inr (.inr rfl)
    · exact cb_bd a b
theorem cmpT_bd (x y : Tm) : Bd (cmpT x y) := by
  induction x using Tm.ind generalizing y with | _ x ih
  have hl : ∀ a b : List Tm, (∀ u ∈ a, u ∈ x.args) → Bd (cmpL a b) := by
    intro a
    induction a with
    | nil => intro b _; cases b <;> simp [cmpL, Bd]
    | cons u a iha =>
      intro b hm
      cases b with
      | nil => simp [cmpL, Bd]
      | cons v b => rw [cmpL_cons]; exact or2_bd (ih u (hm u (by simp)) v) (iha b (fun w hw => hm w (by simp [hw])))
  rw [cmpT_eq]
  split
  · exact cmpI_bd _ _
  split
  · exact cmpI_bd _ _
  · rw [orI3]; exact or2_bd (cmpI_bd _ _) (or2_bd (cb_bd _ _) (hl _ _ (fun u h => h)))

theorem cmpT_tri (x y z : Tm) : Tri (cmpT x y) (cmpT y z) (cmpT x z) := by
  induction x using Tm.ind generalizing y z with | _ x ih
  have hl : ∀ a b c : List Tm, (∀ u ∈ a, u ∈ x.args) → Tri (cmpL a b) (cmpL b c) (cmpL a c) := by
    intro a
    induction a with
    | nil => intro b c _; cases b <;> cases c <;> simp [cmpL, Tri]
    | cons u a iha =>
      intro b c hm
      cases b with
      | nil => cases c <;> simp [cmpL, Tri]
      | cons v b =>
        cases c with
        | nil => simp [cmpL, Tri]
        | cons w c =>
          rw [cmpL_cons, cmpL_cons, cmpL_cons]
          exact tri_or (ih u (hm u (by simp)) v w) (iha b c (fun w hw => hm w (by simp [hw])))
  have e : ∀ s t : Tm, s.kind ≠ t.kind → cmpT s t = cmpI s.kind t.kind := fun s t h => by rw [cmpT_eq, if_pos h]
  by_cases h1 : x.kind = y.kind
  · by_cases h2 : y.kind = z.kind
    · rw [cmpT_k h1 rfl, cmpT_k (s := y) rfl h2.symm, cmpT_k h1 h2.symm]
      split
      · exact cmpI_tri _ _ _
      · rw [orI3, orI3, orI3]
        exact tri_or (cmpI_tri _ _ _) (tri_or (cmpS_tri _ _ _) (hl _ _ _ (fun u h => h)))
    · rw [e y z h2, e x z (fun h => h2 (h1 ▸ h)), h1]
      unfold Tri cmpI
      (repeat' split) <;> omega
  · by_cases h2 : y.kind = z.kind
    · rw [e x y h1, e x z (fun h => h1 (h2 ▸ h)), h2]
      unfold Tri cmpI
      (repeat' split) <;> omega
    · rw [e x y h1, e y z h2]
      by_cases h3 : x.kind = z.kind
      · unfold Tri cmpI
        (repeat' split) <;> omega
      · rw [e x z h3]
        exact cmpI_tri _ _ _

theorem cmpT_zero {x y : Tm} (hx : Fine x) (hy : Fine y) : cmpT x y = 0 ↔ x = y := by
  induction hx generalizing y with
  | var n h =>
    rw [cmpT_eq]
    cases hy with
    | var m h' => simp [cmpI_zero]
    | int m => simp [cmpI_zero]
    | atom s h => simp [cmpI_zero]
    | comp s h l hl hs => simp [cmpI_zero]
  | int n =>
    rw [cmpT_eq]
    cases hy with
    | var m h' => simp [cmpI_zero]
    | int m => simp [cmpI_zero]
    | atom s h => simp [cmpI_zero]
    | comp s h l hl hs => simp [cmpI_zero]
  | atom s h =>
    rw [cmpT_eq]
    cases hy with
    | var m h' => simp [cmpI_zero]
    | int m => simp [cmpI_zero]
    | atom s' h' => simp [orI3, or2_zero, cmpI_zero, cmpS_zero, cmpL]
    | comp s h l hl hs => simp [cmpI_zero]
  | comp s h l hl hs ih =>
    have hll : ∀ a b : List Tm, (∀ u ∈ a, u ∈ l) → (∀ u ∈ b, Fine u) → a.length = b.length → (cmpL a b = 0 ↔ a = b) := by
      intro a
      induction a with
      | nil => intro b _ _ h; cases b with
        | nil => simp [cmpL]
        | cons v b => simp at h
      | cons u a iha =>
        intro b hm hb h
        cases b with
        | nil => simp at h
        | cons v b =>
          rw [cmpL_cons, or2_zero, ih u (hm u (by simp)) (hb v (by simp)), iha b (fun w hw => hm w (by simp [hw])) (fun w hw => hb w (by simp [hw])) (by simpa using h)]
          simp
    rw [cmpT_eq]
    cases hy with
    | var m h' => simp [cmpI_zero]
    | int m => simp [cmpI_zero]
    | atom s' h' => simp [cmpI_zero]
    | comp s' h' l' hl' hs' =>
      simp [orI3, or2_zero, cmpI_zero, cmpS_zero]
      constructor
      · rintro ⟨a, b, c⟩
        exact ⟨b, (hll l l' (fun u h => h) hs' (by omega)).1 c⟩
      · rintro ⟨a, b⟩
        subst b
        exact ⟨rfl, a, (hll l l (fun u h => h) hs' rfl).2 rfl⟩

end Go.Proofs.Yteebkkipeiggcaa
