/- The abstract machine, part 9: maps. -/
import Derived.Test.YteebkkipeiggcaaVm8
set_option linter.unusedVariables false
set_option linter.unusedSimpArgs false
namespace Go.Vm
open Go

section
variable {P : Program} {T : Tab} {c : Cx} {h : AH} {K : AV → AH → Prop}

theorem bytes_beq_iff (a b : ByteArray) : (a == b) = true ↔ a = b := by
  obtain ⟨a⟩ := a
  obtain ⟨b⟩ := b
  show (a == b) = true ↔ _
  simp

/-- Are two keys of a type the same? -/
def keyEq : TypeDesc → AV → AV → Option Bool
  | .int _, .int k a, .int k' b => if k = k' then some (a == b) else none
  | .string, .str a, .str b => some (a == b)
  | .bool, .bool a, .bool b => some (a == b)
  | _, _, _ => none

/-- Looks for a key, entry by entry. -/
def findA (d : TypeDesc) (k : AV) (Ks : Nat → AV → Prop) (Kn : Prop) : List (AV × AV × Nat) → Nat → Prop
  | [], _ => Kn
  | (k', v, _) :: es, i =>
    match keyEq d k k' with
    | some b => if b = true then Ks i v else findA d k Ks Kn es (i + 1)
    | none => False

/-- A map's entries. -/
def EntsR (c : Cx) (es : List (AV × AV × Nat)) (ents : List MapEntry) : Prop :=
  es.length = ents.length ∧ ∀ (i : Nat) (k v : AV) (n : Nat) (e : MapEntry), es[i]? = some (k, v, n) → ents[i]? = some e → VR c k e.key ∧ VR c v e.val ∧ e.born = n

theorem keyEq_sound {d : TypeDesc} {k k' : AV} {v v' : Value} {b : Bool} (hk : VR c k v) (hk' : VR c k' v') (he : keyEq d k k' = some b) : Instr.sameNow d v v' = some b ∧ (b = true → Instr.sameBits 10000 v' v = true) := by
  unfold keyEq at he
  split at he
  · cases hk; cases hk'
    split at he
    · rename_i hkk
      subst hkk
      cases he
      refine ⟨by simp [Instr.sameNow], fun hb => ?_⟩
      simp only [beq_iff_eq] at hb
      subst hb
      simp [Instr.sameBits]
    · cases he
  · cases hk; cases hk'
    cases he
    refine ⟨by simp [Instr.sameNow], fun hb => ?_⟩
    rw [bytes_beq_iff] at hb
    subst hb
    simp only [Instr.sameBits]
    rw [bytes_beq_iff]
  · cases hk; cases hk'
    cases he
    refine ⟨by simp [Instr.sameNow], fun hb => ?_⟩
    simp only [beq_iff_eq] at hb
    subst hb
    simp [Instr.sameBits]
  · cases he

theorem findA_sound {d : TypeDesc} {k : AV} {v : Value} (hk : VR c k v) {Ks : Nat → AV → Prop} {Kn : Prop} : ∀ {es : List (AV × AV × Nat)} {ents : List MapEntry} {i : Nat}, EntsR c es ents → findA d k Ks Kn es i →
    (∃ (j : Nat) (x y : AV) (n : Nat) (e : MapEntry), es[j]? = some (x, y, n) ∧ ents[j]? = some e ∧ Ks (i + j) y ∧ Instr.findNow d v ents i = some (some (i + j, e.val)) ∧ Instr.sameBits 10000 e.key v = true) ∨
    (Kn ∧ Instr.findNow d v ents i = some none) := by
  intro es
  induction es with
  | nil =>
    intro ents i he hf
    have : ents = [] := List.eq_nil_of_length_eq_zero he.1.symm
    subst this
    exact .inr ⟨hf, rfl⟩
  | cons a es ih =>
    intro ents i he hf
    obtain ⟨k', y, n⟩ := a
    cases ents with
    | nil => exact absurd he.1 (by simp)
    | cons e ents =>
      obtain ⟨h1, h2, h3⟩ := he.2 0 k' y n e rfl rfl
      have hrest : EntsR c es ents := ⟨by simpa using he.1, fun i k v n e a b => he.2 (i + 1) k v n e (by simpa using a) (by simpa using b)⟩
      simp only [findA] at hf
      split at hf
      · rename_i b hb
        obtain ⟨g1, g2⟩ := keyEq_sound hk h1 hb
        split at hf
        · rename_i hbt
          subst hbt
          exact .inl ⟨0, k', y, n, e, rfl, rfl, hf, by simp [Instr.findNow, g1], g2 rfl⟩
        · rename_i hbf
          have hbf' : b = false := by simpa using hbf
          subst hbf'
          rcases ih hrest hf with ⟨j, x', y', n', e', q1, q2, q3, q4, q5⟩ | ⟨q1, q2⟩
          · refine .inl ⟨j + 1, x', y', n', e', by simpa using q1, by simpa using q2, by rw [Nat.add_comm j 1, ← Nat.add_assoc]; exact q3, ?_, q5⟩
            simp only [Instr.findNow, g1]
            rw [q4]; congr 3; omega
          · exact .inr ⟨q1, by simp only [Instr.findNow, g1]; exact q2⟩
      · exact hf.elim

def plainKey : TypeDesc → Bool
  | .int _ | .string | .bool => true
  | _ => false

theorem run_checkKey_plain {kt : TypeId} {ki : TyI} (hk : TyOK P kt ki) (hp : plainKey ki.desc = true) (w : World) (e : Bool) (v : Value) : (Instr.checkKey e 10000 kt v).run P w = .ok () w := by
  show (Instr.checkKey e (9999 + 1) kt v).run P w = _
  have h1 := hk.run_underlying w
  rw [Instr.checkKey]
  simp only [Sem.run_bind, h1, Result.andThen_ok]
  generalize ki.desc = d at hp
  cases d <;> simp [plainKey] at hp <;> rfl

theorem run_findKey_now {kt : TypeId} {ki : TyI} (hk : TyOK P kt ki) {w : World} {v : Value} {ents : List MapEntry} {r : Option (Nat × Value)} (hr : Instr.findNow ki.desc v ents 0 = some r) :
    (Instr.findKey kt v ents).run P w = .ok r w := by
  simp only [Instr.findKey, Sem.run_bind, hk.run_underlying w, Result.andThen_ok, hr, Sem.run_pure]

theorem Rd.map_ents (hs : Rd c h) {id : Nat} {es : List (AV × AV × Nat)} {clk : Nat} {l : Loc} (hid : h[id]? = some (.map es clk)) (hφ : c.φ id = some l) :
    ∃ ents, c.w.heap[l.b]? = some (.map ents clk) ∧ EntsR c es ents.toList ∧ c.L l.b = 0 := by
  have f3 := hs id _ l hid rfl hφ
  cases f3 with
  | map hh hL hlen hv => exact ⟨_, hh, ⟨by simpa using hlen, fun i k v n e a b => hv i k v n e a (by simpa using b)⟩, hL⟩

def aMakeMap (T : Tab) (t : TypeId) (r : Option AV) (h : AH) (K : AV → AH → Prop) : Prop :=
  match r with
  | none => K (.map h.length) (h ++ [.map [] 0])
  | some (.int _ _) => (match T t with
    | some { desc := .map _ _, .. } => K (.map h.length) (h ++ [.map [] 0])
    | _ => False)
  | _ => False

theorem aMakeMap_sound (hT : T.OK P) (hs : Sim c h) {t : TypeId} {r : Option AV} {vr : Option Value} (h1 : ∀ x, r = some x → ∃ v, vr = some v ∧ VR c x v) (n1 : r = none → vr = none) (hk : aMakeMap T t r h K) :
    SV P (Instr.makeMap t vr) c h K := by
  have hnew := Sim.new hs (o := .map #[] 0) (b := .map [] 0) (l := ⟨c.w.heap.size, 0, 0, 0⟩) (w' := c.w.alloc (.map #[] 0)) rfl rfl rfl rfl rfl
    (fun hle hL => .map (ents := #[]) (by show (c.w.heap.push _)[c.w.heap.size]? = _; simp) hL rfl (fun i k v n e a => by simp at a))
  have hv : VR ⟨upd c.φ h.length ⟨c.w.heap.size, 0, 0, 0⟩, c.L, c.w.alloc (.map #[] 0)⟩ (.map h.length) (.map (some c.w.heap.size)) := VR.map (l := ⟨c.w.heap.size, 0, 0, 0⟩) upd_same
  unfold aMakeMap at hk
  split at hk
  · have := n1 rfl; subst this
    exact ⟨_, _, _, _, hk, hnew.2, hnew.1, rfl, hv⟩
  · obtain ⟨v, rfl, hv'⟩ := h1 _ rfl
    cases hv'
    split at hk
    · rename_i ht
      refine ⟨_, _, _, _, hk, hnew.2, hnew.1, ?_, hv⟩
      simp only [Instr.makeMap, Sem.run_bind, (hT t _ ht).run_underlying c.w, Result.andThen_ok, asInt, asIntOf, Sem.run_pure, run_newObj]
      rfl
    · exact hk.elim
  · exact hk.elim

def aLookup (T : Tab) (t : TypeId) (m k : AV) (ok : Bool) (h : AH) (K : AV → AH → Prop) : Prop :=
  match T t with
  | some { desc := .map kt et, .. } => (match T kt, T et with
    | some ki, some ei => if plainKey ki.desc = true then (match m with
      | .nilm => K (if ok then .tup [ofVal ei.zero, .bool false] else ofVal ei.zero) h
      | .map id => (match h[id]? with
        | some (.map es _) => findA ki.desc k (fun _ v => K (if ok then .tup [v, .bool true] else v) h) (K (if ok then .tup [ofVal ei.zero, .bool false] else ofVal ei.zero) h) es 0
        | _ => False)
      | _ => False) else False
    | _, _ => False)
  | _ => False

theorem aLookup_sound (hT : T.OK P) (hs : Rd c h) {t : TypeId} {m k : AV} {vm vk : Value} {ok : Bool} (hm : VR c m vm) (hkv : VR c k vk) (hk : aLookup T t m k ok h K) : SV0 P (Instr.lookup t vm vk ok) c fun y => K y h := by
  have hres : ∀ {x : AV} {v : Value} (b : Bool), VR c x v → VR c (if ok then .tup [x, .bool b] else x) (if ok then .tuple #[v, .bool b] else v) := fun {x v} b hx => by
    cases ok
    · exact hx
    · exact hx.tup2 .bool
  unfold aLookup at hk
  split at hk
  · rename_i kt et s b z ht
    have h1 := (hT t _ ht).run_underlying c.w
    split at hk
    · rename_i ki ei hki hei
      have hko := hT kt ki hki
      have hz := (hT et ei hei).run_zeroValue c.w
      split at hk
      · rename_i hp
        split at hk
        · cases hm
          refine SV0.same hk (v := if ok then .tuple #[ei.zero, .bool false] else ei.zero) ?_ (hres false (VR.ofVal c _))
          have hf : (Instr.findKey kt vk []).run P c.w = .ok none c.w := run_findKey_now hko rfl
          simp only [Instr.lookup, Sem.run_bind, h1, Result.andThen_ok, Sem.run_pure, run_checkKey_plain hko hp, hf, hz]
        · rename_i id
          split at hk
          · rename_i es clk hid
            cases hm with
            | map hl =>
              obtain ⟨ents, e1, e2, _⟩ := hs.map_ents hid hl
              rcases findA_sound hkv e2 hk with ⟨j, x, y, n, e, q1, q2, q3, q4, q5⟩ | ⟨q1, q2⟩
              · refine SV0.same q3 (v := if ok then .tuple #[e.val, .bool true] else e.val) ?_ (hres true (e2.2 j x y n e q1 q2).2.1)
                have hf := run_findKey_now (w := c.w) hko q4
                simp only [Instr.lookup, Sem.run_bind, h1, Result.andThen_ok, Sem.run_pure, run_getObj_map e1, run_checkKey_plain hko hp, hf]
              · refine SV0.same q1 (v := if ok then .tuple #[ei.zero, .bool false] else ei.zero) ?_ (hres false (VR.ofVal c _))
                have hf := run_findKey_now (w := c.w) hko q2
                simp only [Instr.lookup, Sem.run_bind, h1, Result.andThen_ok, Sem.run_pure, run_getObj_map e1, run_checkKey_plain hko hp, hf, hz]
          · exact hk.elim
        · exact hk.elim
      · exact hk.elim
    · exact hk.elim
  · exact hk.elim

def aMapUpd (T : Tab) (t : TypeId) (m k v : AV) (h : AH) (K : AH → Prop) : Prop :=
  match T t with
  | some { desc := .map kt _, .. } => (match T kt with
    | some ki => if plainKey ki.desc = true then (match m with
      | .map id => (match h[id]? with
        | some (.map es clk) => findA ki.desc k (fun i _ => K (h.set id (.map (es.modify i fun p => (k, v, p.2.2)) clk))) (K (h.set id (.map (es ++ [(k, v, clk)]) (clk + 1)))) es 0
        | _ => False)
      | _ => False) else False
    | none => False)
  | _ => False

theorem aMapUpd_sound (hT : T.OK P) (hs : Sim c h) {t : TypeId} {m k v : AV} {vm vk vv : Value} (hm : VR c m vm) (hkv : VR c k vk) (hv : VR c v vv) {K : AH → Prop} (hk : aMapUpd T t m k v h K) : SU P (Instr.mapUpdate t vm vk vv) c h K := by
  unfold aMapUpd at hk
  split at hk
  · rename_i kt et s b z ht
    have h1 := (hT t _ ht).run_underlying c.w
    split at hk
    · rename_i ki hki
      have hko := hT kt ki hki
      split at hk
      · rename_i hp
        split at hk
        · rename_i id
          split at hk
          · rename_i es clk hid
            cases hm with
            | map hl =>
              rename_i l
              obtain ⟨ents, e1, e2, hL⟩ := hs.rd.map_ents hid hl
              have hset : ∀ (o : Obj), (setObj l.b o).run P c.w = .ok () { c.w with heap := c.w.heap.setIfInBounds l.b o } := fun o => by simp [setObj, Sem.run, e1]
              have hlt : l.b < c.w.heap.size := Owns.lt hs ⟨id, l, ⟨_, hid, rfl⟩, hl, rfl⟩
              have step : ∀ (es' : List (AV × AV × Nat)) (ents' : Array MapEntry) (clk' : Nat), EntsR c es' ents'.toList → K (h.set id (.map es' clk')) →
                  (Instr.mapUpdate t (.map (some l.b)) vk vv).run P c.w = .ok () { c.w with heap := c.w.heap.setIfInBounds l.b (.map ents' clk') } → SU P (Instr.mapUpdate t (.map (some l.b)) vk vv) c h K := by
                intro es' ents' clk' he hK hr
                have h2 := Sim.upd hs (b' := .map es' clk') (w' := { c.w with heap := c.w.heap.setIfInBounds l.b (.map ents' clk') }) hid rfl hl (by simp) (fun x hx => by simp [Array.getElem?_setIfInBounds, Ne.symm hx]) (fun o ho => by rw [hL] at ho; omega) rfl rfl rfl
                  (fun hle => .map (ents := ents') (by simp [hlt]) hL (by simpa using he.1) (fun i k v n e a b => by
                    obtain ⟨p, q, r⟩ := he.2 i k v n e a (by simpa using b)
                    exact ⟨p.mono hle, q.mono hle, r⟩))
                exact ⟨_, _, hK, h2.2, h2.1, hr⟩
              rcases findA_sound hkv e2 hk with ⟨j, x, y, n, e, q1, q2, q3, q4, q5⟩ | ⟨q1, q2⟩
              · rw [Nat.zero_add] at q3 q4
                refine step _ (ents.modify j fun e => { e with key := vk, val := vv }) clk ?_ q3 ?_
                · refine ⟨by simpa using e2.1, fun i k' v' n' e' a b => ?_⟩
                  rw [List.getElem?_modify] at a
                  simp only [Array.toList_modify, List.getElem?_modify] at b
                  by_cases hij : j = i
                  · subst hij
                    rw [q1] at a
                    rw [q2] at b
                    simp at a b
                    obtain ⟨rfl, rfl, rfl⟩ := a
                    subst b
                    exact ⟨hkv, hv, (e2.2 j x y n e q1 q2).2.2⟩
                  · simp only [hij, if_false] at a b
                    exact e2.2 i k' v' n' e' (by simpa using a) (by simpa using b)
                · have hf := run_findKey_now (w := c.w) hko q4
                  have hej : ents[j]? = some e := by simpa using q2
                  simp only [Instr.mapUpdate, Sem.run_bind, h1, Result.andThen_ok, run_getObj_map e1, run_checkKey_plain hko hp, hf, hej, Option.map_some, Option.getD_some, Instr.keyThatStays, q5, if_true, Sem.run_pure, hset]
              · refine step _ (ents.push { key := vk, val := vv, born := clk }) (clk + 1) ?_ q1 ?_
                · refine ⟨by simp [e2.1], fun i k' v' n' e' a b => ?_⟩
                  simp only [Array.toList_push] at b
                  rcases Nat.lt_or_ge i es.length with hi | hi
                  · rw [List.getElem?_append_left hi] at a
                    rw [List.getElem?_append_left (by rw [← e2.1]; exact hi)] at b
                    exact e2.2 i k' v' n' e' a b
                  · rw [List.getElem?_append_right hi] at a
                    rw [List.getElem?_append_right (by rw [← e2.1]; exact hi), ← e2.1] at b
                    have hi0 : i - es.length = 0 := by
                      have := (List.getElem?_eq_some_iff.1 a).1
                      simp at this; omega
                    rw [hi0] at a b
                    simp at a b
                    obtain ⟨rfl, rfl, rfl⟩ := a
                    subst b
                    exact ⟨hkv, hv, rfl⟩
                · have hf := run_findKey_now (w := c.w) hko q2
                  simp only [Instr.mapUpdate, Sem.run_bind, h1, Result.andThen_ok, run_getObj_map e1, run_checkKey_plain hko hp, hf, hset]
          · exact hk.elim
        · exact hk.elim
      · exact hk.elim
    · exact hk.elim
  · exact hk.elim

end
end Go.Vm
