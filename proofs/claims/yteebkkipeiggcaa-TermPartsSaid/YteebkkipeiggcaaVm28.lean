/- Terms as plain data, and how they lie in the abstract machine. -/
import Derived.Test.YteebkkipeiggcaaVm30
set_option linter.unusedVariables false
set_option linter.unusedSimpArgs false
namespace Go.Vm
open Go

structure Tm where
  kind : Int
  n : Int
  s : ByteArray
  args : List Tm

instance : Inhabited Tm := ⟨⟨0, 0, .empty, []⟩⟩

mutual
def Tm.cells : Tm → List AV
  | ⟨k, n, s, a⟩ => [.int .i64 k, .int .i64 n, .str s, .ro 4 (encs a)]
def encs : List Tm → List (List AV)
  | [] => []
  | t :: l => t.cells :: encs l
end

abbrev Tm.enc (t : Tm) : List AV := [.int .i64 t.kind, .int .i64 t.n, .str t.s, .ro 4 (encs t.args)]

theorem Tm.cells_eq (t : Tm) : t.cells = t.enc := by cases t; simp [Tm.cells]
@[simp] theorem encs_nil : encs [] = [] := by simp [encs]
@[simp] theorem encs_cons (t : Tm) (l : List Tm) : encs (t :: l) = t.enc :: encs l := by simp [encs, Tm.cells_eq]
@[simp] theorem encs_length (l : List Tm) : (encs l).length = l.length := by induction l <;> simp [*]
@[simp] theorem encs_append (l m : List Tm) : encs (l ++ m) = encs l ++ encs m := by induction l <;> simp [*]
@[simp] theorem encs_take (l : List Tm) (k : Nat) : (encs l).take k = encs (l.take k) := by
  induction l generalizing k with
  | nil => simp
  | cons t l ih => cases k <;> simp [ih]
@[simp] theorem encs_drop (l : List Tm) (k : Nat) : (encs l).drop k = encs (l.drop k) := by
  induction l generalizing k with
  | nil => simp
  | cons t l ih => cases k <;> simp [ih]

theorem encs_map (l : List Tm) : encs l = l.map Tm.enc := by induction l <;> simp [*]

@[simp] theorem encs_get? (l : List Tm) (i : Nat) : (encs l)[i]? = (l[i]?).map Tm.enc := by rw [encs_map, List.getElem?_map]
@[simp] theorem encs_get (l : List Tm) (i : Nat) (h : i < (encs l).length) : (encs l)[i]'h = (l[i]'(by simpa using h)).enc := by simp only [encs_map, List.getElem_map]

theorem mid_facts {α : Type} {l ds es : List α} {x : α} (e : l = ds ++ x :: es) : ds.length < l.length ∧ (ds.length : Int) < l.length ∧ l[ds.length]? = some x ∧ (∀ h, l[ds.length]'h = x) ∧ l.length = ds.length + (es.length + 1) := by
  subst e; simp; omega

/-- How many parts. -/
def Tm.size : Tm → Nat
  | ⟨_, _, _, a⟩ => 1 + sizes a
where sizes : List Tm → Nat
  | [] => 0
  | t :: l => t.size + sizes l

abbrev sizes := Tm.size.sizes

theorem Tm.size_eq (t : Tm) : t.size = 1 + sizes t.args := by cases t; simp [Tm.size]
@[simp] theorem sizes_nil : sizes [] = 0 := by simp [sizes, Tm.size.sizes]
@[simp] theorem sizes_cons (t : Tm) (l : List Tm) : sizes (t :: l) = t.size + sizes l := by simp [sizes, Tm.size.sizes]
@[simp] theorem sizes_append (l m : List Tm) : sizes (l ++ m) = sizes l + sizes m := by induction l <;> simp [*]; omega
theorem Tm.size_pos (t : Tm) : 0 < t.size := by rw [t.size_eq]; omega
theorem length_le_sizes (l : List Tm) : l.length ≤ sizes l := by
  induction l with
  | nil => simp
  | cons t l ih => have := t.size_pos; simp; omega
theorem Tm.length_lt (t : Tm) : t.args.length < t.size := by have := length_le_sizes t.args; rw [t.size_eq]; omega
theorem size_mem {l : List Tm} {t : Tm} (h : t ∈ l) : t.size ≤ sizes l := by
  induction l with
  | nil => simp at h
  | cons u l ih =>
    rcases List.mem_cons.1 h with rfl | h
    · simp
    · have := ih h; simp; omega
/-- How deep. -/
def Tm.deep : Tm → Nat
  | ⟨_, _, _, a⟩ => deeps a + 1
where deeps : List Tm → Nat
  | [] => 0
  | t :: l => max t.deep (deeps l)
abbrev deeps := Tm.deep.deeps
theorem Tm.deep_eq (t : Tm) : t.deep = deeps t.args + 1 := by cases t; simp [Tm.deep]
@[simp] theorem deeps_nil : deeps [] = 0 := by simp [deeps, Tm.deep.deeps]
@[simp] theorem deeps_cons (t : Tm) (l : List Tm) : deeps (t :: l) = max t.deep (deeps l) := by simp [deeps, Tm.deep.deeps]
@[simp] theorem deeps_append (l m : List Tm) : deeps (l ++ m) = max (deeps l) (deeps m) := by induction l <;> simp [*, Nat.max_assoc]

theorem deep_le_size (t : Tm) : t.deep ≤ t.size := by
  suffices ∀ (m : Nat), (∀ t : Tm, t.size < m → t.deep ≤ t.size) from this _ t (Nat.lt_succ_self _)
  intro m
  induction m with
  | zero => intro t h; omega
  | succ m ih =>
    intro t ht
    have hl : ∀ l : List Tm, sizes l ≤ m - 0 → sizes l < m → deeps l ≤ sizes l := by
      intro l h1 h2
      induction l with
      | nil => simp
      | cons u l ihl => simp at h1 h2 ⊢; have := ih u (by omega); have := ihl (by omega) (by omega); omega
    have := t.size_eq
    rw [t.deep_eq, t.size_eq]
    have := hl t.args (by omega) (by omega)
    omega
theorem Tm.size_lt {t u : Tm} (h : u ∈ t.args) : u.size < t.size := by have := size_mem h; rw [t.size_eq]; omega

/-! Terms have no block. -/
mutual
theorem cells_noid (f : Nat → Sb) : ∀ t : Tm, subL f t.cells = t.cells
  | ⟨k, n, s, a⟩ => by simp [Tm.cells, encs_noid f a]
theorem encs_noid (f : Nat → Sb) : ∀ l : List Tm, subLL f (encs l) = encs l
  | [] => by simp
  | t :: l => by simp only [encs, subLL, cells_noid f t, encs_noid f l]
end
attribute [simp] encs_noid

@[simp] theorem encs_noid_map (f : Nat → Sb) (l : List Tm) : (encs l).map (fun e => e.map (AV.sub f)) = encs l := by rw [← subLL_map]; exact encs_noid f l
@[simp] theorem closed_encs (l : List Tm) : Closed (.ro 4 (encs l)) := NoId.closed fun f => by simp
@[simp] theorem mem_encs {l : List Tm} {e : List AV} (h : e ∈ encs l) : e.length = 4 := by
  rw [encs_map] at h
  obtain ⟨t, _, rfl⟩ := List.mem_map.1 h
  rfl

theorem Tm.closed (t : Tm) : ∀ x ∈ t.enc, Closed x := by simp

/-- The same term? -/
noncomputable def Tm.eqb (t u : Tm) : Bool := @decide (t = u) (Classical.propDecidable _)
@[simp] theorem Tm.eqb_self (t : Tm) : t.eqb t = true := by simp [Tm.eqb]
theorem Tm.eqb_iff (t u : Tm) : t.eqb u = true ↔ t = u := by simp [Tm.eqb]
theorem Tm.eqb_ne {t u : Tm} (h : t ≠ u) : t.eqb u = false := by simp [Tm.eqb, h]
theorem Tm.ext4 {t u : Tm} (h1 : t.kind = u.kind) (h2 : t.n = u.n) (h3 : t.s = u.s) (h4 : t.args = u.args) : t = u := by
  cases t; cases u; simp_all

/-- Induction on a term by its size. -/
theorem Tm.ind {C : Tm → Prop} (h : ∀ t, (∀ u ∈ t.args, C u) → C t) (t : Tm) : C t := by
  suffices ∀ (m : Nat) (t : Tm), t.size < m → C t from this _ t (Nat.lt_succ_self _)
  intro m
  induction m with
  | zero => intro t h; omega
  | succ m ih => intro t ht; exact h t fun u hu => ih u (by have := Tm.size_lt hu; omega)

theorem wrap64 {n : Int} (h1 : -9223372036854775808 ≤ n) (h2 : n < 9223372036854775808) : IntKind.i64.wrap n = n := by
  simp [IntKind.wrap, IntKind.bits, IntKind.signed]; omega

/-- What the law's parts are. -/
structure Pt where
  kind : Int
  n : Int
  s : ByteArray
  args : Int

abbrev Pt.enc (p : Pt) : List AV := [.int .i64 p.kind, .int .i64 p.n, .str p.s, .int .u8 p.args]

/-- A list as cells, element by element. -/
def encL {α : Type} (f : α → List AV) : List α → List (List AV)
  | [] => []
  | x :: l => f x :: encL f l
section
variable {α : Type} {f : α → List AV}
@[simp] theorem encL_nil : encL f [] = [] := rfl
@[simp] theorem encL_cons (x : α) (l : List α) : encL f (x :: l) = f x :: encL f l := rfl
theorem encL_map (l : List α) : encL f l = l.map f := by induction l <;> simp [*]
@[simp] theorem encL_length (l : List α) : (encL f l).length = l.length := by simp [encL_map]
@[simp] theorem encL_append (l m : List α) : encL f (l ++ m) = encL f l ++ encL f m := by simp [encL_map]
@[simp] theorem encL_take (l : List α) (k : Nat) : (encL f l).take k = encL f (l.take k) := by simp [encL_map]
@[simp] theorem encL_drop (l : List α) (k : Nat) : (encL f l).drop k = encL f (l.drop k) := by simp [encL_map]
@[simp] theorem encL_get? (l : List α) (i : Nat) : (encL f l)[i]? = (l[i]?).map f := by simp [encL_map]
@[simp] theorem encL_get (l : List α) (i : Nat) (h : i < (encL f l).length) : (encL f l)[i]'h = f (l[i]'(by simpa using h)) := by simp [encL_map]
theorem encL_noid (g : Nat → Sb) (hf : ∀ x, subL g (f x) = f x) (l : List α) : subLL g (encL f l) = encL f l := by induction l <;> simp [*, subLL]
theorem encL_closed {sz : Nat} (hf : ∀ g x, subL g (f x) = f x) (l : List α) : Closed (.ro sz (encL f l)) := NoId.closed fun g => by simp [encL_noid g (hf g)]
end

abbrev encP (l : List Pt) : List (List AV) := encL Pt.enc l
abbrev intE (n : Int) : List AV := [.int .i64 n]
abbrev encI (l : List Int) : List (List AV) := encL intE l
abbrev strE (s : ByteArray) : List AV := [.str s]
abbrev encS (l : List ByteArray) : List (List AV) := encL strE l
@[simp] theorem encP_noid (g : Nat → Sb) (l : List Pt) : subLL g (encL Pt.enc l) = encL Pt.enc l := encL_noid g (fun x => by simp) l
@[simp] theorem encI_noid (g : Nat → Sb) (l : List Int) : subLL g (encL intE l) = encL intE l := encL_noid g (fun x => by simp) l
@[simp] theorem encS_noid (g : Nat → Sb) (l : List ByteArray) : subLL g (encL strE l) = encL strE l := encL_noid g (fun x => by simp) l
@[simp] theorem closed_encP (l : List Pt) : Closed (.ro 4 (encL Pt.enc l)) := encL_closed (fun g x => by simp) l
@[simp] theorem closed_encI (l : List Int) : Closed (.ro 1 (encL intE l)) := encL_closed (fun g x => by simp) l
@[simp] theorem closed_encS (l : List ByteArray) : Closed (.ro 1 (encL strE l)) := encL_closed (fun g x => by simp) l
@[simp] theorem encP_noid_map (g : Nat → Sb) (l : List Pt) : (encL Pt.enc l).map (fun e => e.map (AV.sub g)) = encL Pt.enc l := by rw [← subLL_map]; simp
@[simp] theorem encI_noid_map (g : Nat → Sb) (l : List Int) : (encL intE l).map (fun e => e.map (AV.sub g)) = encL intE l := by rw [← subLL_map]; simp
@[simp] theorem encS_noid_map (g : Nat → Sb) (l : List ByteArray) : (encL strE l).map (fun e => e.map (AV.sub g)) = encL strE l := by rw [← subLL_map]; simp
@[simp] theorem take_rest {α : Type} (l : List α) (k : Nat) : (l.drop k).take (l.length - k) = l.drop k := List.take_of_length_le (by simp)

@[simp] theorem wrap64_nat (n : Nat) (h : n < 9000000000000000000) : IntKind.i64.wrap (n : Int) = n := wrap64 (by omega) (by omega)

theorem beq_yes {a b : Int} (h : a = b) : (a == b) = true := by simp [h]
theorem beq_no {a b : Int} (h : a ≠ b) : (a == b) = false := by simp [h]
theorem bne_yes {a b : Int} (h : a ≠ b) : (a != b) = true := by simp [h]
theorem bne_no {a b : Int} (h : a = b) : (a != b) = false := by simp [h]

@[simp] theorem bytes_nil (a : ByteArray) : (a.toList = []) = (a = ⟨#[]⟩) := by
  have h : (⟨#[]⟩ : ByteArray).toList = [] := by simp
  exact propext ⟨fun e => (bytes_inj a ⟨#[]⟩).mp (e.trans h.symm), fun e => by rw [e]; exact h⟩
@[simp] theorem bytes_nil' (a : ByteArray) : ([] = a.toList) = (a = ⟨#[]⟩) := by rw [← bytes_nil a]; exact propext ⟨fun h => h.symm, fun h => h.symm⟩

end Go.Vm
