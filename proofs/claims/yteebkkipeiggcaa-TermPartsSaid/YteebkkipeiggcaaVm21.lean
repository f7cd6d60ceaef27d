/- The abstract machine, part 21: the law of the regions that draw their order, joined. -/
import Derived.Test.YteebkkipeiggcaaVm20
set_option linter.unusedVariables false
set_option linter.unusedSimpArgs false
namespace Go.Vm
open Go

section
variable {P : Program} {T : Tab} {F : FTab} {all : Array Oper} {p : Nat}

theorem OnA.wanted {c : Cx} {a : AAct} {act : Act} (ha : ActR c a act) {o : Oper} {on : Bool} (h : OnA all o a on) : Region.wanted o (yielded all act.tmps) = on := by
  unfold OnA at h
  unfold Region.wanted
  cases hg : o.guard with
  | none => rw [hg] at h; exact h.symm
  | some g =>
    obtain ⟨j, want⟩ := g
    rw [hg] at h
    obtain ⟨r, h1, h2⟩ := h
    simp only
    rw [yieldA_sound ha h1, h2]

theorem cnt_set {f f' : Nat → Bool} {i : Nat} (hf : f i = false) (hf' : ∀ j, f' j = (f j || decide (j = i))) : ∀ {p : Nat}, i < p → (List.range p).countP f' = (List.range p).countP f + 1 := by
  intro p
  induction p with
  | zero => intro h; omega
  | succ p ih =>
    intro h
    rw [List.range_succ, List.countP_append, List.countP_append]
    rcases Nat.lt_or_ge i p with hlt | hge
    · rw [ih hlt]
      have : f' p = f p := by rw [hf']; simp; omega
      simp [List.countP_cons, this]; omega
    · have hip : i = p := by omega
      subst hip
      have h1 : (List.range i).countP f' = (List.range i).countP f := by
        apply List.countP_congr
        intro x hx
        rw [List.mem_range] at hx
        rw [hf']; simp; omega
      have h2 : f' i = true := by rw [hf']; simp
      rw [h1]
      simp [List.countP_cons, h2, hf]

theorem ev_agree {t1 t2 : List AV} {o : Oper} (h : ∀ t ∈ o.looksAt all, t1[t]? = t2[t]?) : ∀ x ∈ o.op.operands, ev t1 x = ev t2 x := by
  intro x hx
  cases x with
  | tmp t =>
    have := h t (List.mem_append_left _ (List.mem_filterMap.2 ⟨.tmp t, by simpa using hx, rfl⟩))
    simp only [ev, List.getD_eq_getElem?_getD, this]
  | _ => rfl

theorem yieldA_agree {t1 t2 : List AV} {o : Oper} (h : ∀ t ∈ o.looksAt all, t1[t]? = t2[t]?) {j : Nat} {want : Bool} (hg : o.guard = some (j, want)) : yieldA all t1 j = yieldA all t2 j := by
  unfold yieldA
  cases hd : (all[j]?).bind (·.dst) with
  | none => rfl
  | some d =>
    simp only
    rw [h d (List.mem_append_right _ (by rw [hg]; simp [hd]))]

theorem OnA.agree {a1 a2 : AAct} {o : Oper} {on : Bool} (h : ∀ t ∈ o.looksAt all, a1.tmps[t]? = a2.tmps[t]?) (hon : OnA all o a2 on) : OnA all o a1 on := by
  unfold OnA at *
  cases hg : o.guard with
  | none => rw [hg] at hon; exact hon
  | some g =>
    obtain ⟨j, want⟩ := g
    rw [hg] at hon
    obtain ⟨r, h1, h2⟩ := hon
    exact ⟨r, (yieldA_agree h hg).trans h1, h2⟩

theorem HeapAt.quiet {h0 g : AH} {vs : List (AV × Option AB)} {done done' : Nat → Prop} {φ : Nat → Option Loc} (hh : HeapAt h0 vs done g φ) {i : Nat} {x : AV} (hx : vs[i]? = some (x, none)) (hd : ∀ j, done' j ↔ done j ∨ j = i) : HeapAt h0 vs done' g φ := by
  refine ⟨hh.len, hh.old, fun j y b e hj => ?_, fun j y b e hj => hh.no j y b e fun h => hj ((hd j).2 (.inl h))⟩
  rcases (hd j).1 hj with h | h
  · exact hh.yes j y b e h
  · subst h; rw [hx] at e; cases e

theorem slot_ne {m : Nat} {vs : List (AV × Option AB)} {i j : Nat} {x y : AV} {b b' : AB} (hi : vs[i]? = some (x, some b)) (hj : vs[j]? = some (y, some b')) (hne : i ≠ j) : slotOf m vs i ≠ slotOf m vs j := by
  unfold slotOf
  rcases Nat.lt_or_gt_of_ne hne with h | h
  · have := newsL_take_lt hi h; omega
  · have := newsL_take_lt hj h; omega

theorem HeapAt.new {h0 g : AH} {vs : List (AV × Option AB)} {done done' : Nat → Prop} {φ : Nat → Option Loc} (hh : HeapAt h0 vs done g φ) {i : Nat} {x : AV} {b : AB} {l : Loc} (hx : vs[i]? = some (x, some b)) (hd : ∀ j, done' j ↔ done j ∨ j = i) :
    HeapAt h0 vs done' (g.set (slotOf h0.length vs i) b) (upd φ (slotOf h0.length vs i) l) := by
  have hlt : slotOf h0.length vs i < g.length := by
    rw [hh.len, List.length_append]
    have := (List.getElem?_eq_some_iff.1 (newsL_slot hx)).1
    unfold slotOf; omega
  refine ⟨by simpa using hh.len, fun k hk => ?_, fun j y b' e hj => ?_, fun j y b' e hj => ?_⟩
  · rw [List.getElem?_set_ne (by unfold slotOf; omega)]; exact hh.old k hk
  · by_cases hji : j = i
    · subst hji
      rw [hx] at e; cases e
      exact List.getElem?_set_self hlt
    · rw [List.getElem?_set_ne (slot_ne hx e (Ne.symm hji))]
      exact hh.yes j y b' e (((hd j).1 hj).resolve_right hji)
  · have hji : j ≠ i := fun h => hj ((hd j).2 (.inr h))
    obtain ⟨h1, h2⟩ := hh.no j y b' e fun h => hj ((hd j).2 (.inl h))
    exact ⟨by rw [List.getElem?_set_ne (slot_ne hx e (Ne.symm hji))]; exact h1, by rw [upd_ne (slot_ne e hx hji)]; exact h2⟩

theorem HeapAt.start {c : Cx} {h0 : AH} (hs : Sim c h0) (vs : List (AV × Option AB)) {done : Nat → Prop} (hd : ∀ i, ¬ done i) : HeapAt h0 vs done (h0 ++ List.replicate (newsL vs).length .dead) c.φ := by
  refine ⟨by simp, fun k hk => List.getElem?_append_left hk, fun i x b e h => absurd h (hd i), fun i x b e _ => ⟨?_, hs.dom _ (by unfold slotOf; omega)⟩⟩
  have := (List.getElem?_eq_some_iff.1 (newsL_slot e)).1
  rw [List.getElem?_append_right (by unfold slotOf; omega)]
  unfold slotOf
  rw [List.getElem?_replicate, if_pos (by omega)]

/-- The drawn part of the region. -/
theorem draw_run (hT : T.OK P) (hF : F.OK P) (hL : Lex all p) {a0 : AAct} {h0 hb : AH} {vs : List (AV × Option AB)} {k : List It} {K : AExit → AAct → AH → Prop} (hvl : vs.length = p)
    (hst : ∀ (i : Nat) (o : Oper) (x : AV) (b : Option AB), (all.toList.take p)[i]? = some o → vs[i]? = some (x, b) → QStep P T F all o (puts ((all.toList.take p).take i) (vs.take i) a0) (h0 ++ newsL (vs.take i)) x b)
    (hK : AStk P hb (.ops all (all.toList.drop p) :: k) (puts (all.toList.take p) vs a0) (h0 ++ newsL vs) K) {c00 : Cx} (hd0 : ∀ i, hb.length ≤ i → c00.φ i = none) :
    ∀ (fuel : Nat) (listed : Array Bool) (c : Cx) (act : Act) (tl : List AV) (g : AH), listed.size = all.size → (∀ i o, all[i]? = some o → DoneL listed i → ∀ d ∈ depsOf o, DoneL listed d) → (∀ i, DoneL listed i → i < p) →
      Cur (all.toList.take p) vs a0.tmps (DoneL listed) tl → ActR c ⟨tl, a0.defers⟩ act → HeapAt h0 vs (DoneL listed) g c.φ → Sim c g → Ext c00 hb c g → all.size ≤ fuel + (List.range p).countP (fun i => listed.getD i false) →
      wpAny P .any all (runsTo P (QL c00 hb K) k) fuel listed act c.w := by
  have hple := hL.le
  have hll : (all.toList.take p).length = p := by simp; omega
  have hget : ∀ (i : Nat) (o : Oper), (all.toList.take p)[i]? = some o → i < p ∧ all[i]? = some o := fun i o e => by
    have h1 := (List.getElem?_eq_some_iff.1 e).1
    rw [hll] at h1
    rw [List.getElem?_take_of_lt h1] at e
    exact ⟨h1, by simpa using e⟩
  have honce : ∀ (i j : Nat) (x y : Oper) (d : Tmp), i ≠ j → (all.toList.take p)[i]? = some x → (all.toList.take p)[j]? = some y → y.dst = some d → x.dst ≠ some d := fun i j x y d hne hx hy hd =>
    hL.once i j x y d (hget i x hx).1 (hget j y hy).1 hne (hget i x hx).2 (hget j y hy).2 hd
  have hvl' : vs.length = (all.toList.take p).length := by rw [hll]; exact hvl
  intro fuel
  induction fuel with
  | zero =>
    intro listed c act tl g hsz hcl hlt hcur ha hh hs hext hf
    have hcnt : (List.range p).countP (fun i => listed.getD i false) ≤ p := by
      have := List.countP_le_length (p := fun i => listed.getD i false) (l := List.range p)
      simpa using this
    have hall : ∀ i, i < p → DoneL listed i := by
      have : (List.range p).countP (fun i => listed.getD i false) = (List.range p).length := by simp only [List.length_range]; omega
      rw [List.countP_eq_length] at this
      exact fun i hi => this i (List.mem_range.2 hi)
    have hg := hh.full (fun i hi => hall i (by omega))
    have htl : tl = (puts (all.toList.take p) vs a0).tmps := by
      have ht := cur_text hvl' honce (a := a0) p (by omega)
      rw [List.take_take, Nat.min_self, List.take_of_length_le (by omega : vs.length ≤ p)] at ht
      apply List.ext_getElem?
      intro t
      exact hcur.agree hvl' ht honce fun j o hj _ => ⟨fun h => hlt j h, fun h => hall j h⟩
    subst hg
    subst htl
    have := hK c00 c act hd0 hext hs ⟨ha.tmps, by rw [puts_defers]; exact ha.defers⟩
    exact wpAny_tail hL 0 p listed act c.w (Nat.le_refl _) hple hsz (fun i => ⟨hlt i, hall i⟩) (by omega) (by simpa only [runsTo] using this)
  | succ fuel ih =>
    intro listed c act tl g hsz hcl hlt hcur ha hh hs hext hf
    by_cases hall : ∀ i, i < p → DoneL listed i
    · have hg := hh.full (fun i hi => hall i (by omega))
      have htl : tl = (puts (all.toList.take p) vs a0).tmps := by
        have ht := cur_text hvl' honce (a := a0) p (by omega)
        rw [List.take_take, Nat.min_self, List.take_of_length_le (by omega : vs.length ≤ p)] at ht
        apply List.ext_getElem?
        intro t
        exact hcur.agree hvl' ht honce fun j o hj _ => ⟨fun h => hlt j h, fun h => hall j h⟩
      subst hg
      subst htl
      have := hK c00 c act hd0 hext hs ⟨ha.tmps, by rw [puts_defers]; exact ha.defers⟩
      have hcnt : (List.range p).countP (fun i => listed.getD i false) ≤ p := by
        have := List.countP_le_length (p := fun i => listed.getD i false) (l := List.range p)
        simpa using this
      exact wpAny_tail hL (fuel + 1) p listed act c.w (Nat.le_refl _) hple hsz (fun i => ⟨hlt i, hall i⟩) (by omega) (by simpa only [runsTo] using this)
    · refine ⟨fun hr => ?_, fun i hi => ?_⟩
      · exfalso
        apply hall
        intro i
        induction i using Nat.strongRecOn with
        | ind i ihi =>
          intro hip
          apply Classical.byContradiction
          intro hnd
          have hin : i < all.size := by omega
          have : i ∈ Region.ready .any all listed := (ready_iff hsz).2 ⟨hnd, all[i], by simp [hin], fun d hd => by
            have := hL.edge i _ (by simp [hin]) d hd
            exact ihi d this (by omega)⟩
          rw [hr] at this; simp at this
      · obtain ⟨hnd, o, ho, hdeps⟩ := (ready_iff hsz).1 hi
        have hin : i < all.size := (Array.getElem?_eq_some_iff.1 ho).1
        have hip : i < p := by
          rcases Nat.lt_or_ge i p with h' | h'
          · exact h'
          · exact absurd (fun j hj => (hL.tail j i h' hin (by omega)).ready hcl ho hdeps) hall
        have hol : (all.toList.take p)[i]? = some o := by rw [List.getElem?_take_of_lt hip]; simpa using ho
        have hvi : i < vs.length := by omega
        obtain ⟨x, b, hv⟩ : ∃ x b, vs[i]? = some (x, b) := ⟨vs[i].1, vs[i].2, List.getElem?_eq_getElem hvi⟩
        have hq := hst i o x b hol hv
        have hct := cur_text hvl' honce (a := a0) i (by omega)
        have hag : ∀ t ∈ o.looksAt all, tl[t]? = (puts ((all.toList.take p).take i) (vs.take i) a0).tmps[t]? := fun t ht =>
          hcur.agree hvl' hct honce fun j oj hj hd => by
            obtain ⟨hjp, hja⟩ := hget j oj hj
            by_cases hji : i = j
            · subst hji
              exact ⟨fun h => absurd h hnd, fun h => absurd h (Nat.lt_irrefl i)⟩
            · obtain ⟨l1, l2⟩ := hL.looks i j o oj t hip hjp hji ho hja hd ht
              refine ⟨fun h => ?_, fun h => (l1 h).ready hcl ho hdeps⟩
              rcases Nat.lt_or_gt_of_ne hji with h' | h'
              · exact absurd ((l2 h').listed hcl h) hnd
              · exact h'
        have hd' : ∀ j, DoneL (listed.setIfInBounds i true) j ↔ DoneL listed j ∨ j = i := fun j => getD_set (by omega)
        have hnext : ∀ (c' : Cx) (g' : AH) (v : Value), Le c c' → VR c' x v → HeapAt h0 vs (DoneL (listed.setIfInBounds i true)) g' c'.φ → Sim c' g' → Ext c00 hb c' g' →
            wpAny P .any all (runsTo P (QL c00 hb K) k) fuel (listed.setIfInBounds i true) (act.put o.dst v) c'.w := fun c' g' v hle hxv hh' hs' he' => by
          have hput := (ha.mono hle).put o.dst hxv
          have hdf : (AAct.put ⟨tl, a0.defers⟩ o.dst x).defers = a0.defers := by cases o.dst <;> rfl
          refine ih _ c' _ (AAct.put ⟨tl, a0.defers⟩ o.dst x).tmps g' (by simpa using hsz) (fun j oj hj hdj d hdd => ?_) (fun j hj => ?_) (hcur.step hvl' honce hol hv hd' rfl) ⟨hput.tmps, by rw [← hdf]; exact hput.defers⟩ hh' hs' he' ?_
          · rcases (hd' j).1 hdj with h' | h'
            · exact (hd' d).2 (.inl (hcl j oj hj h' d hdd))
            · subst h'; rw [ho] at hj; cases hj; exact (hd' d).2 (.inl (hdeps d hdd))
          · rcases (hd' j).1 hj with h' | h'
            · exact hlt j h'
            · omega
          · rw [cnt_set (f := fun i => listed.getD i false) (f' := fun j => (listed.setIfInBounds i true).getD j false) (by unfold DoneL at hnd; simpa using hnd) (fun j => ?_) hip]
            · omega
            · have := hd' j
              unfold DoneL at this
              rw [Bool.eq_iff_iff]
              simpa using this
        unfold wpOp
        rw [ho]
        simp only
        generalize ha' : puts ((all.toList.take p).take i) (vs.take i) a0 = at' at hq hag
        have hρ : ∀ y, VR c (ev tl y) (act.eval y) := fun y => ev_sound ha.tmps y
        cases hq with
        | off hon =>
          have hon' : OnA all o ⟨tl, a0.defers⟩ false := hon.agree hag
          rw [if_neg (by rw [hon'.wanted ha]; decide)]
          exact hnext c g undef (Le.refl c) .undef (hh.quiet hv hd') hs hext
        | quiet hon hq hk =>
          have hon' : OnA all o ⟨tl, a0.defers⟩ true := hon.agree hag
          rw [if_pos (hon'.wanted ha)]
          rw [aop_congr (fun y hy => (ev_agree hag y hy).symm)] at hk
          obtain ⟨v, h1, h2⟩ := aop_quiet_sound hT hq (hh.rd hs i) hρ hk
          refine .inl ?_
          unfold Oper.wp
          rw [h1]
          exact hnext c g v (Le.refl c) h2 (hh.quiet hv hd') hs hext
        | @row sz es hon hn hcl hk =>
          have hon' : OnA all o ⟨tl, a0.defers⟩ true := hon.agree hag
          rw [if_pos (hon'.wanted ha)]
          rw [aop_congr (fun y hy => (ev_agree hag y hy).symm)] at hk
          obtain ⟨b', nk', _, ⟨h1, h2⟩, _, h3⟩ := aop_new hT hn hk
          obtain ⟨ob, v, l, g1, g2, g3⟩ := h3 c act.eval hρ
          have hnk : nk' = .sl es.length := NK.inj (ANext.val.inj h1)
          have hbb : b' = .arr sz es false := by simpa using h2
          subst hnk
          subst hbb
          refine .inl ?_
          unfold Oper.wp
          rw [g2]
          obtain ⟨c', e1, e2, e3, e4, e5⟩ := hs.newRow g1 g3 hcl
          have := hnext c' g v e4.le e5 (by rw [e2]; exact hh.quiet hv hd') e3 (hext.trans e4)
          rw [e1] at this
          exact this
        | call hon hc hac hxc hk =>
          have hon' : OnA all o ⟨tl, a0.defers⟩ true := hon.agree hag
          rw [if_pos (hon'.wanted ha)]
          rw [callOf_congr (fun y hy => (ev_agree hag y hy).symm)] at hc
          obtain ⟨us, h1, h2⟩ := callOf_sound hF hρ hc
          refine .inl ?_
          unfold Oper.wp
          rw [h1]
          refine (hk.framed hac hxc hs h2).mono fun e w ⟨v, e1, c', e2, e3, e4, e5, e6⟩ => ?_
          subst e1
          subst e2
          exact hnext c' g v e4.le e6 (by rw [e3]; exact hh.quiet hv hd') e5 (hext.trans e4)
        | @new b nk hon hn hbl hk =>
          have hon' : OnA all o ⟨tl, a0.defers⟩ true := hon.agree hag
          rw [if_pos (hon'.wanted ha)]
          rw [aop_congr (fun y hy => (ev_agree hag y hy).symm)] at hk
          obtain ⟨b', nk', _, ⟨h1, h2⟩, _, h3⟩ := aop_new hT hn hk
          obtain ⟨ob, v, l, g1, g2, g3⟩ := h3 c act.eval hρ
          have hnk : nk' = nk := NK.inj (ANext.val.inj h1)
          have hbb : b' = b := by simpa using h2
          subst hnk
          subst hbb
          have hsl : (h0 ++ newsL (vs.take i)).length = slotOf h0.length vs i := by simp [slotOf]
          refine .inl ?_
          unfold Oper.wp
          rw [g2]
          obtain ⟨n1, n2⟩ := hh.no i _ b' hv hnd
          obtain ⟨s1, s2⟩ := hs.newAt (o := ob) (b := b') (l := l) (w' := c.w.alloc ob) n1 n2 g1 rfl rfl rfl rfl fun hle hL0 => (g3 _ (slotOf h0.length vs i) hle rfl hL0 upd_same).1
          have hL0 : c.L l.b = 0 := by
            rcases Nat.eq_zero_or_pos (c.L l.b) with h' | h'
            · exact h'
            · have := hs.lock _ h'; omega
          refine hnext ⟨upd c.φ (slotOf h0.length vs i) l, c.L, c.w.alloc ob⟩ _ v s2.le ?_ (hh.new hv hd') s1 (hext.trans s2)
          rw [hsl]
          exact (g3 _ (slotOf h0.length vs i) s2.le rfl hL0 upd_same).2

/-- A region that draws its order. -/
theorem stk_draw (hm : P.follows .mixedOrders = true) (hT : T.OK P) (hF : F.OK P) {i : Nat} {all : Array Oper} (p : Nat) (hL : lexOK all p = true) {k : List It} {a : AAct} {h0 h : AH} {K : AExit → AAct → AH → Prop}
    (hq : qrun P T F all (fun a h => AStk P h0 (.ops all (all.toList.drop p) :: k) a h K) (all.toList.take p) a h) : AStk P h0 (.code (.region i all true) :: k) a h K := by
  have hLex := lexOK_spec hL
  intro c0 c act hd0 he hs ha
  obtain ⟨vs, hvs⟩ := qrun_trace hT hq
  obtain ⟨h1, h2, h3⟩ := hvs.at
  have hll : (all.toList.take p).length = p := by have := hLex.le; simp; omega
  have hnone : ∀ i, ¬ DoneL (Array.replicate all.size false) i := fun i => by simp [DoneL, Array.getD]
  refine wp_region_any hm ?_
  obtain ⟨s1, s2⟩ := hs.pad (newsL vs).length
  have hw : Ext c h ⟨c.φ, c.L, { c.w with drawn := c.w.drawn + 1 }⟩ h := ⟨⟨fun _ _ e => e, fun _ => Nat.le_refl _, fun _ _ _ => rfl⟩, Nat.le_refl _, fun _ _ _ => ⟨rfl, rfl⟩, fun _ h => .inr h, rfl, rfl, rfl⟩
  have hs' : Sim ⟨c.φ, c.L, { c.w with drawn := c.w.drawn + 1 }⟩ h := ⟨hs.dom, fun i b e1 e2 => by
    obtain ⟨l, f1, f2, f3⟩ := hs.blk i b e1 e2
    exact ⟨l, f1, f2, f3.mono hw.le rfl rfl⟩, hs.inj, hs.lock⟩
  obtain ⟨s1, s2⟩ := hs'.pad (newsL vs).length
  refine draw_run hT hF hLex (by omega) h3 h2 hd0 all.size _ ⟨c.φ, c.L, { c.w with drawn := c.w.drawn + 1 }⟩ act a.tmps _ (by simp) (fun i o _ h => absurd h (hnone i)) (fun i h => absurd h (hnone i)) ⟨rfl, fun i o x b t _ _ h => absurd h (hnone i), fun t _ => rfl⟩ (ha.mono hw.le) (HeapAt.start hs' vs hnone) s1 ((he.trans hw).trans s2) (by omega)

end
end Go.Vm
