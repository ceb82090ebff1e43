/-
  What is proved: for every kind, in every world that holds the table of fields as the program's text lays it, flotillalaw11.MailKinds answers true and leaves its argument as it was.
  The examples at its head are run by the evaluator of these texts, inside the kernel; the rest is walked.
-/
import Derived.Test.YtgoindnlaednbaaDoorCards
import Derived.Test.YtgoindnlaednbaaDoorTie
import Derived.Test.YtgoindnlaednbaaDoorAbPost
import Derived.WalkKit
import Derived.ProofKit
import Derived.OpenShut
import Derived.Deep.DeepHandedRow
namespace Go.Proofs.YtgoindnlaednbaaDoor.mailKinds
open Go.ChangeShapes Go.WideShapes Go.ChangeAt Go.RowKit

theorem own : ownKnob Tryd.prog.godebug = none := by kernel_rfl
theorem gTab : Tryd.prog.globalNamed "flotilla/mail.fields" = some 0 := by kernel_rfl
theorem gTabType : (Tryd.prog.globals[0]?).map (·.type) = some 54 := by kernel_rfl
theorem cells54 : Tryd.prog.cellsOf 54 = 16 := by kernel_rfl
theorem cells9 : Tryd.prog.cellsOf 9 = 1 := by kernel_rfl
theorem mixed : Tryd.prog.follows .mixedOrders = true := by kernel_rfl
theorem plainEq : (([25] : List Nat).all fun t => !Tryd.prog.stoodInHeld t && !Tryd.prog.eqGuardType Tryd.prog.depth t && (Tryd.prog.fieldsOf t).all fun f => f.name != "_") = true := by kernel_rfl

/-- The table. -/
def zs : List (List UInt8) := [[], [35, 79], [86, 78, 35, 88], [86, 35], [86, 78, 67, 69], [86, 78], [86, 78, 67], [86], [86, 67, 82, 71], [86, 67, 71], [86, 76], [86, 67, 76, 72, 71], [86, 78, 67], [86, 67, 71], [78, 35, 79], [78, 35, 88]]

set_option maxRecDepth 100000 in
/-- The examples, run. -/
theorem shownRun : Ab.saysTrue (Ab.callE (Ab.fnsE Tryd.prog [25] [0]) 100000 6 [] (Ab.tabH 0 (zs.map Ab.AV.str) 1)) = true := by kernel_rfl

theorem table {W : World} (h : laidMetH Tryd.prog Rows.mailKindsRow.laid W) : ∃ el fz, W.heap[0]? = some (.cells (zs.map fun z => Value.string ⟨z.toArray⟩).toArray el fz) :=
  Ab.texts_of_head (rest := []) gTab gTabType Tryd.underlying54 Tryd.underlying9 cells9 cells54 h

theorem okzs : Ab.okVs (fun _ => False) (zs.map Ab.AV.str) := ⟨trivial, trivial, trivial, trivial, trivial, trivial, trivial, trivial, trivial, trivial, trivial, trivial, trivial, trivial, trivial, trivial, trivial⟩

theorem shown {W : World} (h : laidMetH Tryd.prog Rows.mailKindsRow.laid W) : Calls Tryd.prog 6 #[] W fun e w' => e = .returned (.bool true) ∧ Ab.Kept W w' := by
  obtain ⟨el, fz, hc⟩ := table h
  refine Ab.calls_true (P := Tryd.prog) (eqOk := [25]) (g := 0) (n := 100000) (f := 6) (k := 1) (l := zs.map Ab.AV.str) plainEq mixed Nat.one_pos shownRun hc (fun i v hi => ?_) (by decide) okzs
  rw [List.getElem?_map, Option.map_eq_some_iff] at hi
  obtain ⟨z, hz, rfl⟩ := hi
  simp only [List.getElem?_toArray, List.getElem?_map, hz, Option.map_some, Ab.toV]

theorem fromClient (k : Int) (w : World) : Calls Tryd.prog 7 #[.int .i64 k] w fun e w' => e = .returned (.bool (k == 1 || k == 14)) ∧ w' = w := by
  by_cases h : k = 1
  · subst h
    go_enter Tryd.func7, Tryd.ntmps7
    go_wp2
    all_goals go_ret
    all_goals exact ⟨rfl, rfl⟩
  · have h' : (k == 1) = false := by simpa using h
    go_enter Tryd.func7, Tryd.ntmps7
    go_wp2
    all_goals go_ret
    all_goals exact ⟨by simp [h], rfl⟩
theorem toClient (k : Int) (w : World) : Calls Tryd.prog 8 #[.int .i64 k] w fun e w' => e = .returned (.bool (k == 2 || k == 3 || k == 15)) ∧ w' = w := by
  by_cases h : k = 2
  · subst h
    go_enter Tryd.func8, Tryd.ntmps8
    go_wp2
    all_goals go_ret
    all_goals exact ⟨rfl, rfl⟩
  · have h' : (k == 2) = false := by simpa using h
    by_cases h2 : k = 3
    · subst h2
      go_enter Tryd.func8, Tryd.ntmps8
      go_wp2
      all_goals go_ret
      all_goals exact ⟨rfl, rfl⟩
    · have h2' : (k == 3) = false := by simpa using h2
      go_enter Tryd.func8, Tryd.ntmps8
      go_wp2
      all_goals go_ret
      all_goals exact ⟨by simp [h, h2], rfl⟩
theorem refFromClient (k : Int) (w : World) : Calls Tryd.prog 9 #[.int .i64 k] w fun e w' => e = .returned (.bool (k == 1 || k == 14)) ∧ w' = w := by
  by_cases h : k = 1
  · subst h
    go_enter Tryd.func9, Tryd.ntmps9
    go_wp2
    all_goals go_ret
    all_goals exact ⟨rfl, rfl⟩
  · have h' : (k == 1) = false := by simpa using h
    go_enter Tryd.func9, Tryd.ntmps9
    go_wp2
    all_goals go_ret
    all_goals exact ⟨by simp [h], rfl⟩
theorem refToClient (k : Int) (w : World) : Calls Tryd.prog 10 #[.int .i64 k] w fun e w' => e = .returned (.bool (k == 2 || k == 3 || k == 15)) ∧ w' = w := by
  by_cases h : k = 2
  · subst h
    go_enter Tryd.func10, Tryd.ntmps10
    go_wp2
    all_goals go_ret
    all_goals exact ⟨rfl, rfl⟩
  · have h' : (k == 2) = false := by simpa using h
    by_cases h2 : k = 3
    · subst h2
      go_enter Tryd.func10, Tryd.ntmps10
      go_wp2
      all_goals go_ret
      all_goals exact ⟨rfl, rfl⟩
    · have h2' : (k == 3) = false := by simpa using h2
      go_enter Tryd.func10, Tryd.ntmps10
      go_wp2
      all_goals go_ret
      all_goals exact ⟨by simp [h, h2], rfl⟩

theorem walk (k : Int) {W : World} (h : laidMetH Tryd.prog Rows.mailKindsRow.laid W) :
    Calls Tryd.prog 3 #[.int .i64 k] W fun e w' => e = .returned (.bool true) ∧ Ab.Kept W w' := by
  obtain ⟨b, hb⟩ : ∃ b, (k == 1 || k == 14) = b := ⟨_, rfl⟩
  obtain ⟨c, hc⟩ : ∃ c, (k == 2 || k == 3 || k == 15) = c := ⟨_, rfl⟩
  have c7 := fromClient k
  have c8 := toClient k
  have c9 := refFromClient k
  have c10 := refToClient k
  rw [hb] at c7 c9
  rw [hc] at c8 c10
  clear hb hc
  have hs := shown h
  clear h
  cases b <;> cases c
  all_goals (
    go_enter Tryd.func3, Tryd.ntmps3
    go_wp2_with (first
      | (go_at_call 6; refine hs.mono ?_; rintro e w' ⟨rfl, hk⟩)
      | (go_at_call 7; refine (c7 _).mono ?_; rintro e w' ⟨rfl, rfl⟩)
      | (go_at_call 8; refine (c8 _).mono ?_; rintro e w' ⟨rfl, rfl⟩)
      | (go_at_call 9; refine (c9 _).mono ?_; rintro e w' ⟨rfl, rfl⟩)
      | (go_at_call 10; refine (c10 _).mono ?_; rintro e w' ⟨rfl, rfl⟩)))
  all_goals go_ret
  all_goals exact ⟨rfl, by assumption⟩

set_option maxRecDepth 100000 in
/-- What the walk gives, for every argument and every world that holds the table. -/
theorem contract (H : Type) (enc : TypeId × Value → H) (W : World) (base : Nat) (args : Array Value) (ds gs : List (DataW H)) (before : List MemPlace)
    (hval : ∀ (j : Nat) t v, Tryd.f3.params[j]? = some t → args[j]? = some v → Value.okWide Tryd.prog W .any base t v)
    (hW : DataW.Whole enc Tryd.prog Tryd.f3.params.toList Rows.mailKindsSpec.vars false W args.toList ds gs before) (hL : laidMetH Tryd.prog Rows.mailKindsRow.laid W) :
    Calls Tryd.prog 3 args W fun e W' => ∃ v, e = .returned v ∧ Rows.mailKindsSpec.post enc Tryd.prog Tryd.f3 false true false false W args v W' := by
  have hW' := hW
  obtain ⟨p, q, hA0, hV, rfl, hfz, hnd⟩ := hW
  have hA : DataW.TrodAll enc Tryd.prog W 0 (fun _ => true) true Tryd.f3.params.toList args.toList ds p := hA0
  rw [Tryd.params3] at hA hval
  obtain ⟨v0, vs0, d0, ds0, p0, q0, hargs, rfl, rfl, h0, r0⟩ := trodAll_cons hA
  obtain ⟨rfl, rfl, rfl⟩ := trodAll_nil r0
  obtain rfl : args = #[v0] := by cases args; simp_all
  obtain ⟨rfl, rfl⟩ := trodVars_none hV
  obtain ⟨k, rfl, rfl, rfl, hk⟩ := open_int Tryd.underlying3 (hval 0 3 v0 rfl rfl) h0
  clear hA0
  simp only [List.append_nil] at hW'
  refine (walk k hL).mono fun e W' ⟨he, hg⟩ => ?_
  subst he
  exact ⟨_, rfl, Ab.post_of_kept (pa := []) (pv := []) hW' (fun _ _ _ => trodAll_cons_mk (shut_bool Tryd.underlying4 _) trodAll_mk0) (fun _ _ => trodAll_cons_mk (shut_int Tryd.underlying3 hk) trodAll_mk0) (fun _ _ => rfl) rfl
    hg (ok_one (by kernel_rfl) rfl (okWide_bool_mk Tryd.underlying4 _))⟩

/-- A world for the witness: the settled one, the table holding what its initialiser lays. -/
noncomputable def laidWorld (os : Os) : World :=
  { World.holding Tryd.prog os ⟨#[], #[], []⟩ with heap := (World.holding Tryd.prog os ⟨#[], #[], []⟩).heap.modify 0 fun
      | .cells _ t frozen => .cells (zs.map fun z => Value.string ⟨z.toArray⟩).toArray t frozen
      | o => o }
set_option maxRecDepth 100000 in
theorem laid_met (os : Os) : laidMet Tryd.prog Rows.mailKindsRow.laid ((laidWorld os).forCall (fun _ _ => 0) ⟨#[], #[.int .i64 0], []⟩).memory :=
  laidMet_of_run' 8 (by kernel_rfl) (by kernel_rfl)
set_option maxRecDepth 100000 in
theorem reads (os : Os) {H : Type} (enc : TypeId × Value → H) : ∃ places, DataW.whole enc Tryd.prog ((laidWorld os).forCall (fun _ _ => 0) ⟨#[], #[.int .i64 0], []⟩).memory Tryd.f3.params.toList Rows.mailKindsSpec.vars false #[Value.int .i64 0].toList 8 = some ([.lit (.int .i64 0)], [], places) :=
  ⟨[], by kernel_rfl⟩

set_option maxRecDepth 100000 in
theorem lifted (os : Os) (started : os.Started) (H : Type) (enc : TypeId × Value → H) (F : Stop.Interp) :
    ReturnsInHanded {} Tryd.checked os 3 .any ((OpenSpec.ofChange Rows.mailKindsSpec).preRow enc Tryd.prog Tryd.f3 Rows.mailKindsRow.domain false Rows.mailKindsRow.laid) (((OpenSpec.ofChange Rows.mailKindsSpec).at F).post enc Tryd.prog Tryd.f3 false true false false) := by
  obtain ⟨places, hx⟩ := reads os enc
  refine returnsInHanded_of_row (C := Tryd.checked) (s := OpenSpec.ofChange Rows.mailKindsSpec) own started (by kernel_rfl) Tryd.func3
    (witness_row_at (enc := enc) (C := Tryd.checked) false (laidWorld os) #[.int .i64 0] rfl (by kernel_rfl) (by kernel_rfl) (by kernel_rfl)
      (OpenSpec.preRow_of_cond 8 hx (by kernel_rfl) (fun k hk => by cases hk) (by kernel_rfl) (laid_met os))) ?_
  intro W base args ds gs before hval hW _ _ _ hL _ _
  exact contract H enc W base args ds gs before hval hW hL

theorem said : Rows.MailKindsSaid :=
  OpenClaim.holds_of_cond 3 Tryd.f3 rfl rfl rfl rfl rfl rfl rfl ⟨rfl, rfl, rfl, rfl, rfl⟩ rfl rfl rfl rfl rfl (by kernel_rfl) Tryd.func3 (by kernel_rfl)
    (of_decide_eq_true (by kernel_rfl)) (by unfold Func.isWrapper; first | (rw [if_pos (by decide +kernel)]; kernel_rfl) | (rw [if_neg (by decide +kernel)]; exact ⟨rfl, rfl⟩))
    (fun os started H enc _ F => by rw [OpenClaim.pre_eq_preRow]; exact lifted os started H enc F)

/-- No parameter wants a stand-in; the program's own looks are off. -/
theorem plain (f : FuncId) (fn : Func) (hf : Tryd.pinned.checked.prog.funcNamed "flotilla/flotillalaw11.MailKinds" = some f) (hfn : Tryd.pinned.checked.prog.funcs[f]? = some fn) :
    false = Tryd.pinned.checked.prog.looks [] ∧ ∀ (j : Nat) t, fn.params[j]? = some t → Tryd.pinned.checked.prog.wantsStandIn t = false := by
  obtain rfl : f = 3 := Option.some.inj ((show Tryd.prog.funcNamed "flotilla/flotillalaw11.MailKinds" = some 3 by kernel_rfl).symm.trans hf) |>.symm
  obtain rfl : fn = Tryd.f3 := (Option.some.inj (Tryd.func3.symm.trans hfn)).symm
  refine ⟨by kernel_rfl, fun j t ht => ?_⟩
  rw [Tryd.params3] at ht
  obtain rfl : t = 3 := by simpa using Array.mem_of_getElem? ht
  exact (show Tryd.prog.wantsStandIn 3 = false by kernel_rfl)

/-- THE CARD. -/
theorem card : Rows.MailKindsCardSaid :=
  Claim7.holds_tied_plain_at .later [] _ _ _ _ said (fun _ h => by cases h) (by kernel_rfl) (fun _ h => by cases h) mailKinds_row_tie rfl ⟨rfl, rfl⟩ (by kernel_rfl) rfl plain (by kernel_rfl)
end Go.Proofs.YtgoindnlaednbaaDoor.mailKinds

namespace Go.Proofs.YtgoindnlaednbaaDoor
theorem mailKinds_holds : Rows.MailKindsCardSaid := mailKinds.card
end Go.Proofs.YtgoindnlaednbaaDoor
