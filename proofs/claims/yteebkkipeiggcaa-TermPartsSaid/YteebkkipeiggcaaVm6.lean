/- The abstract machine, part 6: append. -/
import Derived.Test.YteebkkipeiggcaaVm5
set_option linter.unusedVariables false
set_option linter.unusedSimpArgs false
namespace Go.Vm
open Go

section
variable {P : Program} {T : Tab} {c : Cx} {h : AH} {K : AV → AH → Prop}

theorem app_fits {w : World} {ats : Array TypeId} {ty t u e : TypeId} {ti ui ei : TyI} (h0 : ats[0]? = some t) (h1 : ats[1]? = some u) (ht : TyOK P t ti) (hd : ti.desc = .slice e) (hu : TyOK P u ui)
    (hui : isIntD ui.desc = false) (he : TyOK P e ei) {base : Option Addr} {sLen sCap n : Nat} {vy : Value} {ws : Array Value}
    (hn : (Builtin.lenOf vy).run P w = .ok n w) (hw : (Builtin.firstCells ei.size n vy).run P w = .ok ws w) (hfit : sLen + n ≤ sCap) :
    (Builtin.append_ ats ty #[.slice base sLen sCap, vy]).run P w =
      ((match base with | some a => (storeCells (a.add (sLen * ei.size)) ws.toList).run P w | none => .ok () w) : Result Unit).andThen fun _ w' => .ok (.slice base (sLen + n) sCap) w' := by
  have ht' := ht.run_underlying w
  rw [hd] at ht'
  have hu' := hu.run_underlying w
  unfold Builtin.append_
  simp only [h0, h1, List.getElem?_toArray, List.getElem?_cons_zero, List.getElem?_cons_succ, Sem.run_bind, ht', Result.andThen_ok, he.run_sizeOf w, hu', Sem.run_pure]
  generalize ui.desc = dd at hui
  cases dd <;> first
    | (simp [isIntD] at hui; done)
    | (simp only [hn, hw, Bool.false_eq_true, if_false, Result.andThen_ok, hfit, if_true, Bool.not_false, Sem.run_bind]
       cases base with
       | none => rfl
       | some a => simp only [Sem.run_bind, Sem.run_pure])

theorem app_grows {w : World} {ats : Array TypeId} {ty t u e : TypeId} {ti ui ei : TyI} (h0 : ats[0]? = some t) (h1 : ats[1]? = some u) (ht : TyOK P t ti) (hd : ti.desc = .slice e) (hu : TyOK P u ui)
    (hui : isIntD ui.desc = false) (he : TyOK P e ei) (hb : 0 < ei.bytes) {base : Option Addr} {sLen sCap n : Nat} {vy : Value} {os ws : Array Value}
    (hn : (Builtin.lenOf vy).run P w = .ok n w) (ho : (Builtin.firstCells ei.size sLen (.slice base sLen sCap)).run P w.drew = .ok os w.drew) (hw : (Builtin.firstCells ei.size n vy).run P w.drew = .ok ws w.drew)
    (hfit : ¬ sLen + n ≤ sCap) (hroom : (sLen + n) * ei.bytes ≤ 140737488355328) :
    ∃ newCap, sLen + n ≤ newCap ∧ (Builtin.append_ ats ty #[.slice base sLen sCap, vy]).run P w =
      .ok (.slice (some ⟨w.heap.size, 0, none⟩) (sLen + n) newCap) (w.drew.alloc (.cells (os ++ ws ++ Builtin.zeroCells ei.zero.cells (newCap - (sLen + n))) e)) := by
  have ht' := ht.run_underlying w
  rw [hd] at ht'
  have hu' := hu.run_underlying w
  have hgs := growslice_fits (need := sLen + n) (old := sCap) (by omega) hroom
  refine ⟨Question.cut (.appendCap (sLen + n) sCap e) (w.tape w.drawn (.appendCap (sLen + n) sCap e)), by simp [Question.cut], ?_⟩
  obtain ⟨i, hi, hi1, hi2, hi3⟩ := he.run_typeInfo w
  have hi' : (typeInfo e).run P w.drew = .ok i w.drew := by
    obtain ⟨j, hj, _⟩ := he.info
    simp [typeInfo, hj] at hi ⊢
    exact hi
  have hb0 : ¬ (((sLen + n : Nat) : Int) > IntKind.i64.max ∧ (False ∨ ei.bytes = 0)) := fun hx => by
    rcases hx.2 with hx | hx
    · exact hx
    · omega
  have hb1 : ¬ (Builtin.nextslicecap (sLen + n) sCap * ei.bytes > 2 ^ 48) := by omega
  unfold Builtin.append_
  simp only [h0, h1, List.getElem?_toArray, List.getElem?_cons_zero, List.getElem?_cons_succ, Sem.run_bind, ht', Result.andThen_ok, he.run_sizeOf w, hu', Sem.run_pure]
  generalize ui.desc = dd at hui
  cases dd <;> first
    | (simp [isIntD] at hui; done)
    | (simp only [hn, Bool.false_eq_true, if_false, Result.andThen_ok, hfit, Bool.not_false, if_true, Sem.run_bind, hi, hi2, Sem.run_ite, hb0, hb1, Sem.run_pure, run_choose, Question.forced, World.drew_eq, hi', run_askRoom, ho, hw, he.run_zeroValue w.drew]
       rfl)


theorem zeroCells_size (z : Array Value) (n : Nat) : (Builtin.zeroCells z n).size = n * z.size := by simp [Builtin.zeroCells]

theorem ones_zeroCells {z : Array Value} {k : Nat} (_ : z.size = k) (h1 : Ones z.toList) (n : Nat) : Ones (Builtin.zeroCells z n).toList := by
  intro v hv
  simp only [Builtin.zeroCells, Array.toList_map, List.mem_map, Array.toList_range, List.mem_range] at hv
  obtain ⟨j, hj, rfl⟩ := hv
  have hz : 0 < z.size := Nat.pos_of_ne_zero fun h0 => by rw [h0] at hj; simp at hj
  rw [getElem!_pos z (j % z.size) (Nat.mod_lt _ hz)]
  exact h1 _ (by simp)

theorem aAppend_sound (hT : T.OK P) (hs : Sim c h) {ts : List TypeId} {ty : TypeId} {x y : AV} {v u : Value} (hv : VR c x v) (hu : VR c y u) (hk : aAppend T ts x y h K) :
    SV P (Builtin.append_ ts.toArray ty #[v, u]) c h K := by
  unfold aAppend at hk
  split at hk
  · rename_i t u' rest
    split at hk
    · rename_i e s b z ui ht hu'
      split at hk
      · exact hk.elim
      · rename_i hui
        have hui' : isIntD ui.desc = false := by simpa using hui
        have hok := hT t _ ht
        have huo := hT u' ui hu'
        split at hk
        · rename_i ei he
          have heo := hT e ei he
          split at hk
          · rename_i h0
            split at hk
            · rename_i ne hne
              have h00 : (t :: u' :: rest).toArray[0]? = some t := rfl
              have h01 : (t :: u' :: rest).toArray[1]? = some u' := rfl
              obtain ⟨ws, e1, e2, e3, e4⟩ := elems_run (P := P) hs hu hne h0.1
              have hd := hs.world (w' := c.w.drew) rfl rfl rfl rfl
              have hud : VR ⟨c.φ, c.L, c.w.drew⟩ y u := hu.mono (Le.world (w' := c.w.drew) rfl)
              obtain ⟨ws', d1, d2, d3, d4⟩ := elems_run (P := P) hd.1 hud hne h0.1
              split at hk
              · -- nil
                cases hv
                split at hk
                · exact SV.same hs hk (v := .slice none 0 0) (by
                    have := app_fits (P := P) (w := c.w) (ty := ty) (base := none) (sLen := 0) (sCap := 0) h00 h01 hok rfl huo hui' heo e1 e2 (by simp)
                    simpa using this) .nils
                · rename_i e0 es0
                  split at hk
                  · rename_i hroom
                    obtain ⟨newCap, g1, g2⟩ := app_grows (P := P) (w := c.w) (ty := ty) (base := none) (sLen := 0) (sCap := 0) (os := #[]) h00 h01 hok rfl huo hui' heo h0.2 e1 (by simp [Builtin.firstCells]) d2 (by simp) (by simpa using hroom)
                    have hrow : RowR c ei.size 0 (e0 :: es0) (#[] ++ ws' ++ Builtin.zeroCells ei.zero.cells (newCap - (0 + (e0 :: es0).length))) := by
                      have := RowR.append (c := ⟨c.φ, c.L, c.w.drew⟩) (sz := ei.size) (es := []) (fs := e0 :: es0) (vs := #[]) (us := ws') (rest := Builtin.zeroCells ei.zero.cells (newCap - (0 + (e0 :: es0).length)))
                        ⟨by simp, by simp, fun i e j x v g => by simp at g, fun v hv => by simp at hv⟩ d4 (by simp) (ones_zeroCells heo.zsz heo.zone _)
                      rw [List.nil_append] at this
                      exact ⟨this.1, this.2.1, fun i e j x v a b d => (this.2.2.1 i e j x v a b d).mono (Le.world (c := ⟨c.φ, c.L, c.w.drew⟩) (w' := c.w) rfl), this.2.2.2⟩
                    have hnew := sim_newRow hs e (w' := c.w.drew.alloc (.cells (#[] ++ ws' ++ Builtin.zeroCells ei.zero.cells (newCap - (0 + (e0 :: es0).length))) e)) rfl rfl rfl rfl h0.1 hrow false
                    refine ⟨_, _, _, _, hk, hnew.2, hnew.1, g2, ?_⟩
                    have hsz : ((#[] ++ ws' ++ Builtin.zeroCells ei.zero.cells (newCap - (0 + (e0 :: es0).length))) : Array Value).size = newCap * ei.size := by
                      rw [Array.size_append, Array.size_append, d3, zeroCells_size, heo.zsz]
                      show 0 + _ + _ = _
                      rw [Nat.zero_add, ← Nat.add_mul]
                      congr 1; omega
                    have := VR.sl (c := ⟨upd c.φ h.length ⟨c.w.heap.size, 0, (#[] ++ ws' ++ Builtin.zeroCells ei.zero.cells (newCap - (0 + (e0 :: es0).length))).size, ei.size⟩, c.L, c.w.drew.alloc (.cells (#[] ++ ws' ++ Builtin.zeroCells ei.zero.cells (newCap - (0 + (e0 :: es0).length))) e)⟩) (id := h.length) (off := 0) (len := (e0 :: es0).length) (cap := newCap) upd_same (by omega) h0.1 (by rw [hsz]; simp)
                    simpa using this
                  · exact hk.elim
              · rename_i id off len
                split at hk
                · rename_i sz es lk hid
                  split at hk
                  · rename_i hc
                    obtain ⟨rfl, hle, hlk, hroom⟩ := hc
                    obtain ⟨l, f1, f2, f3⟩ := hs.blk id _ hid rfl
                    have harr := hs.rd.arr_cells hid f1
                    -- the old elements
                    have hold : elems? ei.size h (.sl id off len) = some ((es.drop off).take len) := by simp [elems?, hid, hle]
                    have hl2 : ((es.drop off).take len).length = len := by simp; omega
                    obtain ⟨os, o1, o2, o3, o4⟩ := elems_run (P := P) hd.1 (hv.mono (Le.world (w' := c.w.drew) rfl)) hold h0.1
                    rw [hl2] at o2 o3
                    -- the model's slice
                    have hgrow : ∀ (base : Option Addr) (cap : Nat), v = .slice base len cap → ¬ len + ne.length ≤ cap → SV P (Builtin.append_ (t :: u' :: rest).toArray ty #[v, u]) c h K := by
                      intro base cap hveq hnf
                      rw [hveq] at o2 ⊢
                      obtain ⟨newCap, g1, g2⟩ := app_grows (P := P) (w := c.w) (ty := ty) h00 h01 hok rfl huo hui' heo h0.2 e1 o2 d2 hnf hroom
                      have hrow := RowR.append (rest := Builtin.zeroCells ei.zero.cells (newCap - (len + ne.length))) o4 d4 (by rw [hl2]; exact o3) (ones_zeroCells heo.zsz heo.zone _)
                      have hk1 := hs.kill id
                      have hrow' : RowR c ei.size 0 ((es.drop off).take len ++ ne) (os ++ ws' ++ Builtin.zeroCells ei.zero.cells (newCap - (len + ne.length))) :=
                        ⟨hrow.1, hrow.2.1, fun i e j x v a b d => (hrow.2.2.1 i e j x v a b d).mono (Le.world (c := ⟨c.φ, c.L, c.w.drew⟩) (w' := c.w) rfl), hrow.2.2.2⟩
                      have hnew := sim_newRow hk1.1 e (w' := c.w.drew.alloc (.cells (os ++ ws' ++ Builtin.zeroCells ei.zero.cells (newCap - (len + ne.length))) e)) rfl rfl rfl rfl h0.1 hrow' lk
                      refine ⟨_, _, _, _, hk, hk1.2.trans hnew.2, hnew.1, g2, ?_⟩
                      have hsz : ((os ++ ws' ++ Builtin.zeroCells ei.zero.cells (newCap - (len + ne.length))) : Array Value).size = newCap * ei.size := by
                        rw [Array.size_append, Array.size_append, d3, o3, zeroCells_size, heo.zsz, ← Nat.add_mul, ← Nat.add_mul]
                        congr 1; omega
                      have := VR.sl (c := ⟨upd c.φ (h.set id .dead).length ⟨c.w.heap.size, 0, (os ++ ws' ++ Builtin.zeroCells ei.zero.cells (newCap - (len + ne.length))).size, ei.size⟩, c.L, c.w.drew.alloc (.cells (os ++ ws' ++ Builtin.zeroCells ei.zero.cells (newCap - (len + ne.length))) e)⟩) (id := (h.set id .dead).length) (off := 0) (len := len + ne.length) (cap := newCap) upd_same (by omega) h0.1 (by rw [hsz]; simp)
                      simpa using this
                    cases hv with
                    | sl hl hcap hls hn =>
                      rename_i l' cap
                      rw [f1] at hl; cases hl
                      by_cases hfit : len + ne.length ≤ cap
                      · cases f3 with
                        | arr a1 a2 a3 a4 a5 a6 a7 a8 a9 a10 =>
                          rename_i vs TT
                          have hrun := app_fits (P := P) (w := c.w) (ty := ty) (base := some ⟨l.b, l.base + off * l.sz, none⟩) (sLen := len) (sCap := cap) h00 h01 hok rfl huo hui' heo e1 e2 hfit
                          simp only [Addr.add_none] at hrun
                          have hmul : (len + ne.length) * ei.size ≤ cap * ei.size := Nat.mul_le_mul_right _ hfit
                          rw [Nat.add_mul] at hmul
                          rw [a3] at hn
                          have hwl : ws.toList.length = ne.length * ei.size := by simpa using e3
                          obtain ⟨w', r1, r2, r3, r4, r5, r6, r7⟩ := run_storeCells_at P (b := l.b) (o := l.base + off * l.sz + len * ei.size) ws.toList 0 c.w vs a1 e4.2.2.2 (by rw [hwl, a3]; omega)
                          rw [r1] at hrun
                          simp only [Nat.add_zero] at r2
                          have hLle : c.L l.b ≤ l.base + off * ei.size + len * ei.size := by
                            cases lk with
                            | false => rw [a9 rfl]; omega
                            | true =>
                              have := hlk rfl
                              rw [← this, Nat.add_mul] at a8
                              omega
                          have hdt : ∀ (i : Nat) (e' : List AV), i < len → ((es.drop off).take len ++ ne)[i]? = some e' → es[off + i]? = some e' := fun i e' hi g => by
                            rw [List.getElem?_append_left (by rw [hl2]; exact hi), List.getElem?_take_of_lt hi, List.getElem?_drop] at g
                            exact g
                          have hmv := Sim.move hs (b' := .arr ei.size ((es.drop off).take len ++ ne) lk) (l' := ⟨l.b, l.base + off * l.sz, l.n, l.sz⟩) (w' := w') hid rfl f1 rfl r4 r3 (fun o ho => by
                              simp only [World.cell?, r2, a1, Option.isSome_none, Bool.false_eq_true, if_false, setArr_get]
                              rw [if_neg (by rw [a3]; omega)]) r5 r6 r7
                            (fun hle' => by
                              refine .arr (vs := setArr vs (l.base + off * l.sz + len * ei.size) ws.toList) r2 (by rw [setArr_size]; exact a2) a3 h0.1 ?_ (fun e' he' => ?_) (fun i e' j x' v' g1 g2 g3 => ?_) ?_ (fun hlf => a9 hlf) (Ones.setArr e4.2.2.2 a10 _)
                              · rw [setArr_size, List.length_append, hl2, Nat.add_mul, a3]; show l.base + off * ei.size + _ ≤ _; omega
                              · rcases List.mem_append.1 he' with h' | h'
                                · exact a6 e' (List.mem_of_mem_drop (List.mem_of_mem_take h'))
                                · exact e4.2.1 e' h'
                              · have hj := (List.getElem?_eq_some_iff.1 g2).1
                                have g3' : (setArr vs (l.base + off * l.sz + len * ei.size) ws.toList)[l.base + off * l.sz + i * ei.size + j]? = some v' := g3
                                rw [setArr_get, hwl, a3] at g3'
                                rcases Nat.lt_or_ge i len with hi | hi
                                · have g1' := hdt i e' hi g1
                                  rw [a6 e' (List.mem_of_getElem? g1')] at hj
                                  have hb : (i + 1) * ei.size ≤ len * ei.size := Nat.mul_le_mul_right _ (by omega)
                                  rw [Nat.add_mul, Nat.one_mul] at hb
                                  rw [if_neg (by omega)] at g3'
                                  refine (a7 (off + i) e' j x' v' g1' g2 ?_).mono hle'
                                  rw [Nat.add_mul, ← Nat.add_assoc]; exact g3'
                                · rw [List.getElem?_append_right (by rw [hl2]; exact hi), hl2] at g1
                                  rw [e4.2.1 e' (List.mem_of_getElem? g1)] at hj
                                  have hi2 := (List.getElem?_eq_some_iff.1 g1).1
                                  have hb : (i - len + 1) * ei.size ≤ ne.length * ei.size := Nat.mul_le_mul_right _ (by omega)
                                  rw [Nat.add_mul, Nat.one_mul] at hb
                                  have hsp : i * ei.size = len * ei.size + (i - len) * ei.size := by rw [← Nat.add_mul]; congr 1; omega
                                  rw [if_pos (by omega)] at g3'
                                  refine (e4.2.2.1 (i - len) e' j x' v' g1 g2 ?_).mono hle'
                                  rw [Nat.zero_add, show (i - len) * ei.size + j = l.base + off * ei.size + i * ei.size + j - (l.base + off * ei.size + len * ei.size) by omega]
                                  simpa using g3'
                              · show c.L l.b ≤ l.base + off * l.sz + _
                                rw [List.length_append, hl2, Nat.add_mul, a3]; omega)
                          refine ⟨_, _, _, _, hk, hmv.2, hmv.1, hrun, ?_⟩
                          have := VR.sl (c := ⟨upd c.φ h.length ⟨l.b, l.base + off * l.sz, l.n, l.sz⟩, c.L, w'⟩) (id := h.length) (off := 0) (len := len + ne.length) (cap := cap) upd_same hfit hls (by simp only [Nat.zero_mul, Nat.add_zero]; rw [a3]; exact hn)
                          simpa using this
                      · exact hgrow _ _ rfl hfit
                    | sl0 hl =>
                      rw [f1] at hl; cases hl
                      rename_i o
                      by_cases hfit : 0 + ne.length ≤ 0
                      · cases f3 with
                        | arr a1 a2 a3 a4 a5 a6 a7 a8 a9 a10 =>
                          rename_i vs TT
                          have hne0 : ne = [] := List.eq_nil_of_length_eq_zero (by omega)
                          subst hne0
                          have hrun := app_fits (P := P) (w := c.w) (ty := ty) (base := some ⟨l.b, o, none⟩) (sLen := 0) (sCap := 0) h00 h01 hok rfl huo hui' heo e1 e2 hfit
                          have hws : ws.toList = [] := List.eq_nil_of_length_eq_zero (by simpa using e3)
                          rw [hws] at hrun
                          simp only [storeCells, Sem.run_pure, Result.andThen_ok] at hrun
                          have hmv := Sim.move hs (b' := .arr ei.size ((es.drop off).take 0 ++ []) lk) (l' := ⟨l.b, l.base + es.length * ei.size, l.n, l.sz⟩) (w' := c.w) hid rfl f1 rfl rfl (fun _ _ => rfl) (fun _ _ => rfl) rfl rfl rfl
                            (fun hle' => .arr a1 a2 a3 h0.1 (by simpa using a5) (by simp) (fun i e' j x' v' g1 => by simp at g1) (by simpa using a8) a9 a10)
                          refine ⟨_, _, _, _, hk, hmv.2, hmv.1, hrun, ?_⟩
                          exact VR.sl0 (c := ⟨upd c.φ h.length ⟨l.b, l.base + es.length * ei.size, l.n, l.sz⟩, c.L, c.w⟩) (id := h.length) (off := 0) (l := ⟨l.b, l.base + es.length * ei.size, l.n, l.sz⟩) (o := o) upd_same
                      · exact hgrow _ _ rfl hfit
                  · exact hk.elim
                · exact hk.elim
              · exact hk.elim
            · exact hk.elim
          · exact hk.elim
        · exact hk.elim
    · exact hk.elim
  · exact hk.elim

end
end Go.Vm
