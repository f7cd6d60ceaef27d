/- The abstract machine, part 13: the tables, read off a program. -/
import Derived.Test.YteebkkipeiggcaaVm12
import Derived.KernelRfl
set_option linter.unusedVariables false
set_option linter.unusedSimpArgs false
namespace Go.Vm
open Go

def tabOf (P : Program) : Tab := fun t =>
  match P.underlying t, P.info? t with
  | some d, some i => (match i.zero with
    | some z => if z.cells.size = i.size ∧ z.cells.toList.all Value.oneCell' = true then some ⟨d, i.size, i.bytes, z⟩ else none
    | none => none)
  | _, _ => none

theorem tabOf_ok (P : Program) : (tabOf P).OK P := by
  intro t ti h
  unfold tabOf at h
  split at h
  · rename_i d i hd hi
    split at h
    · rename_i z hz
      split at h
      · rename_i hc
        cases h
        exact ⟨hd, ⟨i, hi, rfl, rfl, hz⟩, hc.1, fun v hv => by have := hc.2; rw [List.all_eq_true] at this; exact this v hv⟩
      · cases h
    · cases h
  · cases h

def fnOf (P : Program) : FTab := fun f =>
  match P.funcs[f]? with
  | some fn => (match fn.body with
    | some b => if (fn.name == "runtime.NumGoroutine") = false then some ⟨fn.ntmps, fn.results.toList, b⟩ else none
    | none => none)
  | none => none

theorem fnOf_ok (P : Program) : (fnOf P).OK P := by
  intro f fi h
  unfold fnOf at h
  split at h
  · rename_i fn hf
    split at h
    · rename_i b hb
      split at h
      · rename_i hn
        cases h
        exact ⟨fn, hf, hb, rfl, rfl, hn⟩
      · cases h
    · cases h
  · cases h

/-- A call, by the function's own code. -/
theorem calls_run {P : Program} (n : Nat) {f : FuncId} {fi : FnI} (hf : fnOf P f = some fi) {args : List AV} {h : AH} {K : ARes → AH → Prop}
    (hh : run P (tabOf P) (fnOf P) h (EndsV (tabOf P) fi.results K) n [.code fi.body] ⟨args ++ List.replicate (fi.ntmps - args.length) .undef, []⟩ h) : ACalls P f args h K :=
  calls_of_run (tabOf_ok P) (fnOf_ok P) hf n hh

/-- Further on in a function. -/
theorem stk_run {P : Program} (n : Nat) {h0 : AH} {k : List It} {a : AAct} {h : AH} {K : AExit → AAct → AH → Prop} (hh : run P (tabOf P) (fnOf P) h0 K n k a h) : AStk P h0 k a h K :=
  run_sound (tabOf_ok P) (fnOf_ok P) n k a h hh

end Go.Vm
