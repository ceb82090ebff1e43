/-
  append.
-/
import Derived.Test.YtknmkakbpokpjaaGreatDoorAbGrow
namespace Go.Ab

def drewN (w : World) (d : Nat) : World := { w with drawn := d }
theorem rel_drew {G : List Nat} {σ : Sg} {rd : Rd} {w : World} (h : Rel G σ rd w) (d : Nat) : Rel G σ rd (drewN w d) := ⟨h.cells, h.iter, h.apart, h.ok, h.glob⟩

theorem notInt (d : TypeDesc) (h : isIntD d = false) : Builtin.append_.match_1 (fun _ => Bool) d (fun _ => true) (fun _ => false) = false := by cases d <;> first | rfl | cases h
section
variable {E : Tys} {P : Program} (hE : TysOk E P)
include hE
/-- The run where there is room. -/
theorem run_room {ts : Array Nat} {ty t u e : Nat} {d : TypeDesc} {i : TypeInfo} (h0 : ts[0]? = some t) (h1 : ts[1]? = some u) (ht : und E t = some (.slice e)) (hu : und E u = some d) (hd : isIntD d = false) (hi : E.ty.get e = some i)
    {a : Option Addr} {sl sc n : Nat} {X : Value} {w : World} {vs : Array Value} (hn : (Builtin.lenOf X).run P w = .ok n w) (hf : (Builtin.firstCells i.size n X).run P w = .ok vs w) (hroom : sl + n ≤ sc) :
    (Builtin.append_ ts ty #[.slice a sl sc, X]).run P w = ((match a with | some a => storeCells (a.add (sl * i.size)) vs.toList | none => pure () : Sem Unit).run P w).andThen fun _ w' => .ok (.slice a (sl + n) sc) w' := by
  have hzi := notInt d hd
  unfold Builtin.append_
  cases a <;> simp only [h0, h1, List.getElem?_toArray, List.getElem?_cons_zero, List.getElem?_cons_succ, Sem.run_bind, run_und hE ht, run_und hE hu, Result.andThen_ok, sizeOf, run_info hE hi, Sem.run_pure, hzi,
    Bool.false_eq_true, if_false, hn, Sem.run_ite, if_pos hroom, Bool.not_false, if_true, hf]
/-- The run where it grows. -/
theorem run_grows {ts : Array Nat} {ty t u e : Nat} {d : TypeDesc} {i : TypeInfo} {z : Value} (h0 : ts[0]? = some t) (h1 : ts[1]? = some u) (ht : und E t = some (.slice e)) (hu : und E u = some d) (hd : isIntD d = false) (hi : E.ty.get e = some i)
    (hz : i.zero = some z) {a : Option Addr} {sl sc n : Nat} {X : Value} {w : World} {vs old : Array Value} (hn : (Builtin.lenOf X).run P w = .ok n w) (hf : (Builtin.firstCells i.size n X).run P (drewN w (w.drawn + 1)) = .ok vs (drewN w (w.drawn + 1)))
    (ho : (Builtin.firstCells i.size sl (.slice a sl sc)).run P (drewN w (w.drawn + 1)) = .ok old (drewN w (w.drawn + 1))) (hroom : ¬ sl + n ≤ sc) (hb : (sl + n) * i.bytes ≤ 70368744177664) (h62 : sl + n ≤ 4611686018427387904) :
    (Builtin.append_ ts ty #[.slice a sl sc, X]).run P w = .ok (.slice (some ⟨w.heap.size, 0, none⟩) (sl + n) (grownCap w (sl + n) sc e))
      (push w (w.drawn + 1) (.cells (old ++ vs ++ Builtin.zeroCells z.cells (grownCap w (sl + n) sc e - (sl + n))) e)) := by
  have hnext := growslice_fits (need := sl + n) (old := sc) (bytes := i.bytes) (by omega) (by omega)
  have c1 : ¬ (((sl + n : Nat) : Int) > IntKind.i64.max) := by
    have : IntKind.i64.max = 9223372036854775807 := by decide
    rw [this]; omega
  have c2 : ¬ (Builtin.nextslicecap (sl + n) sc * i.bytes > 2 ^ 48) := by omega
  have hzv : ∀ w : World, (zeroValue e).run P w = .ok z w := fun w => by
    unfold zeroValue
    simp only [Sem.run_bind, run_info hE hi, Result.andThen_ok, hz, Sem.run_pure]
  unfold Builtin.append_
  have hd1 : ({ w with drawn := w.drawn + 1 } : World) = drewN w (w.drawn + 1) := rfl
  simp only [h0, h1, List.getElem?_toArray, List.getElem?_cons_zero, List.getElem?_cons_succ, Sem.run_bind, run_und hE ht, run_und hE hu, Result.andThen_ok, sizeOf, run_info hE hi, Sem.run_pure, notInt d hd, Bool.false_eq_true, if_false, hn,
    Sem.run_ite, if_neg hroom, if_neg (fun h => c1 (And.left h)), if_neg c2, run_choose, Question.forced, run_askRoom, hd1, ho, Bool.not_false, if_true, hf, hzv, newRow, run_newObj, false_or]
  rfl
end
end Go.Ab
