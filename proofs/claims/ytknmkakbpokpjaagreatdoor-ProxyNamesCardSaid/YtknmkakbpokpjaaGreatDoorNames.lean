/-
  What is proved: in every world that holds the table of fields as the program's text lays it, flotillalaw14.ProxyNames answers true.
  The whole call, its examples included, is run by the evaluator of these texts, inside the kernel.
-/
import Derived.Test.YtknmkakbpokpjaaGreatDoorCards
import Derived.Test.YtknmkakbpokpjaaGreatDoorTie
import Derived.Test.YtknmkakbpokpjaaGreatDoorAbPost
import Derived.WalkKit
import Derived.ProofKit
import Derived.OpenShut
import Derived.Deep.DeepHandedRow
namespace Go.Proofs.YtknmkakbpokpjaaGreatDoor.proxyNames
open Go.ChangeShapes Go.WideShapes Go.ChangeAt Go.RowKit

theorem own : ownKnob Tryz.prog.godebug = none := by kernel_rfl
theorem gTab : Tryz.prog.globalNamed "flotilla/mail.fields" = some 0 := by kernel_rfl
theorem gTabType : (Tryz.prog.globals[0]?).map (·.type) = some 161 := by kernel_rfl
theorem cellsTab : Tryz.prog.cellsOf 161 = 16 := by kernel_rfl
theorem cellsText : Tryz.prog.cellsOf 9 = 1 := by kernel_rfl
theorem mixed : Tryz.prog.follows .mixedOrders = true := by kernel_rfl
theorem plainEq : (([32] : List Nat).all fun t => !Tryz.prog.stoodInHeld t && !Tryz.prog.eqGuardType Tryz.prog.depth t && (Tryz.prog.fieldsOf t).all fun f => f.name != "_") = true := by kernel_rfl

/-- The table. -/
def zs : List (List UInt8) := [[], [35, 79], [86, 78, 35, 88], [86, 35], [86, 78, 67, 69], [86, 78], [86, 78, 67], [86], [86, 67, 82, 71], [86, 67, 71], [86, 76], [86, 67, 76, 72, 71], [86, 78, 67], [86, 67, 71], [78, 35, 79], [78, 35, 88]]

set_option maxRecDepth 100000 in
/-- The call, run. -/
theorem namesRun : Ab.saysTrue (Ab.callE (Ab.fnsE Tryz.prog [32] [0]) 100000 3 [] (Ab.tabH 0 (zs.map Ab.AV.str) 1)) = true := by kernel_rfl

theorem table {W : World} (h : laidMetH Tryz.prog Rows.proxyNamesRow.laid W) : ∃ el fz, W.heap[0]? = some (.cells (zs.map fun z => Value.string ⟨z.toArray⟩).toArray el fz) :=
  Ab.texts_of_head (rest := []) gTab gTabType Tryz.underlying161 Tryz.underlying9 cellsText cellsTab h

theorem okzs : Ab.okVs (fun _ => False) (zs.map Ab.AV.str) := ⟨trivial, trivial, trivial, trivial, trivial, trivial, trivial, trivial, trivial, trivial, trivial, trivial, trivial, trivial, trivial, trivial, trivial⟩

theorem walk {W : World} (h : laidMetH Tryz.prog Rows.proxyNamesRow.laid W) : Calls Tryz.prog 3 #[] W fun e w' => e = .returned (.bool true) ∧ Ab.Kept W w' := by
  obtain ⟨el, fz, hc⟩ := table h
  refine Ab.calls_true (P := Tryz.prog) (eqOk := [32]) (g := 0) (n := 100000) (f := 3) (k := 1) (l := zs.map Ab.AV.str) plainEq mixed Nat.one_pos namesRun hc (fun i v hi => ?_) (by decide) okzs
  rw [List.getElem?_map, Option.map_eq_some_iff] at hi
  obtain ⟨z, hz, rfl⟩ := hi
  simp only [List.getElem?_toArray, List.getElem?_map, hz, Option.map_some, Ab.toV]

set_option maxRecDepth 100000 in
/-- What the run gives, in every world that holds the table. -/
theorem contract (H : Type) (enc : TypeId × Value → H) (W : World) (base : Nat) (args : Array Value) (ds gs : List (DataW H)) (before : List MemPlace)
    (hval : ∀ (j : Nat) t v, Tryz.f3.params[j]? = some t → args[j]? = some v → Value.okWide Tryz.prog W .any base t v)
    (hW : DataW.Whole enc Tryz.prog Tryz.f3.params.toList Rows.proxyNamesSpec.vars false W args.toList ds gs before) (hL : laidMetH Tryz.prog Rows.proxyNamesRow.laid W) :
    Calls Tryz.prog 3 args W fun e W' => ∃ v, e = .returned v ∧ Rows.proxyNamesSpec.post enc Tryz.prog Tryz.f3 false true false false W args v W' := by
  have hW' := hW
  obtain ⟨p, q, hA0, hV, rfl, hfz, hnd⟩ := hW
  have hA : DataW.TrodAll enc Tryz.prog W 0 (fun _ => true) true Tryz.f3.params.toList args.toList ds p := hA0
  rw [Tryz.params3] at hA
  obtain ⟨hargs, rfl, rfl⟩ := trodAll_nil hA
  obtain rfl : args = #[] := by cases args; simp_all
  obtain ⟨rfl, rfl⟩ := trodVars_none hV
  clear hA0
  refine (walk hL).mono fun e W' ⟨he, hg⟩ => ?_
  subst he
  exact ⟨_, rfl, Ab.post_of_kept (pa := []) (pv := []) hW' (fun _ _ _ => trodAll_cons_mk (shut_bool Tryz.underlying4 _) trodAll_mk0) (fun _ _ => trodAll_mk0) (fun _ _ => rfl) rfl
    hg (ok_one (by kernel_rfl) rfl (okWide_bool_mk Tryz.underlying4 _))⟩

/-- A world for the witness: the settled one, the table holding what its initialiser lays. -/
noncomputable def laidWorld (os : Os) : World :=
  { World.holding Tryz.prog os ⟨#[], #[], []⟩ with heap := (World.holding Tryz.prog os ⟨#[], #[], []⟩).heap.modify 0 fun
      | .cells _ t frozen => .cells (zs.map fun z => Value.string ⟨z.toArray⟩).toArray t frozen
      | o => o }
set_option maxRecDepth 100000 in
theorem laid_met (os : Os) : laidMet Tryz.prog Rows.proxyNamesRow.laid ((laidWorld os).forCall (fun _ _ => 0) ⟨#[], #[], []⟩).memory :=
  laidMet_of_run' 8 (by kernel_rfl) (by kernel_rfl)
set_option maxRecDepth 100000 in
theorem reads (os : Os) {H : Type} (enc : TypeId × Value → H) : ∃ places, DataW.whole enc Tryz.prog ((laidWorld os).forCall (fun _ _ => 0) ⟨#[], #[], []⟩).memory Tryz.f3.params.toList Rows.proxyNamesSpec.vars false (#[] : Array Value).toList 8 = some ([], [], places) :=
  ⟨[], by kernel_rfl⟩

set_option maxRecDepth 100000 in
theorem lifted (os : Os) (started : os.Started) (H : Type) (enc : TypeId × Value → H) (F : Stop.Interp) :
    ReturnsInHanded {} Tryz.checked os 3 .any ((OpenSpec.ofChange Rows.proxyNamesSpec).preRow enc Tryz.prog Tryz.f3 Rows.proxyNamesRow.domain false Rows.proxyNamesRow.laid) (((OpenSpec.ofChange Rows.proxyNamesSpec).at F).post enc Tryz.prog Tryz.f3 false true false false) := by
  obtain ⟨places, hx⟩ := reads os enc
  refine returnsInHanded_of_row (C := Tryz.checked) (s := OpenSpec.ofChange Rows.proxyNamesSpec) own started (by kernel_rfl) Tryz.func3
    (witness_row_at (enc := enc) (C := Tryz.checked) false (laidWorld os) #[] rfl (by kernel_rfl) (by kernel_rfl) (by kernel_rfl)
      (OpenSpec.preRow_of_cond 8 hx (by kernel_rfl) (fun k hk => by cases hk) (by kernel_rfl) (laid_met os))) ?_
  intro W base args ds gs before hval hW _ _ _ hL _ _
  exact contract H enc W base args ds gs before hval hW hL

theorem said : Rows.ProxyNamesSaid :=
  OpenClaim.holds_of_cond 3 Tryz.f3 rfl rfl rfl rfl rfl rfl rfl ⟨rfl, rfl, rfl, rfl, rfl⟩ rfl rfl rfl rfl rfl (by kernel_rfl) Tryz.func3 (by kernel_rfl)
    (of_decide_eq_true (by kernel_rfl)) (by unfold Func.isWrapper; first | (rw [if_pos (by decide +kernel)]; kernel_rfl) | (rw [if_neg (by decide +kernel)]; exact ⟨rfl, rfl⟩))
    (fun os started H enc _ F => by rw [OpenClaim.pre_eq_preRow]; exact lifted os started H enc F)

/-- No parameter wants a stand-in; the program's own looks are off. -/
theorem plain (f : FuncId) (fn : Func) (hf : Tryz.pinned.checked.prog.funcNamed "flotilla/flotillalaw14.ProxyNames" = some f) (hfn : Tryz.pinned.checked.prog.funcs[f]? = some fn) :
    false = Tryz.pinned.checked.prog.looks [] ∧ ∀ (j : Nat) t, fn.params[j]? = some t → Tryz.pinned.checked.prog.wantsStandIn t = false := by
  obtain rfl : f = 3 := Option.some.inj ((show Tryz.prog.funcNamed "flotilla/flotillalaw14.ProxyNames" = some 3 by kernel_rfl).symm.trans hf) |>.symm
  obtain rfl : fn = Tryz.f3 := (Option.some.inj (Tryz.func3.symm.trans hfn)).symm
  refine ⟨by kernel_rfl, fun j t ht => ?_⟩
  rw [Tryz.params3] at ht
  simp at ht

/-- THE CARD. -/
theorem card : Rows.ProxyNamesCardSaid :=
  Claim7.holds_tied_plain_at .later [] _ _ _ _ said (fun _ h => by cases h) (by kernel_rfl) (fun _ h => by cases h) proxyNames_row_tie rfl ⟨rfl, rfl⟩ (by kernel_rfl) rfl plain (by kernel_rfl)
end Go.Proofs.YtknmkakbpokpjaaGreatDoor.proxyNames

namespace Go.Proofs.YtknmkakbpokpjaaGreatDoor
theorem proxyNames_holds : Rows.ProxyNamesCardSaid := proxyNames.card
end Go.Proofs.YtknmkakbpokpjaaGreatDoor
