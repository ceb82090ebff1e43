/-
  The evaluator's calls are the model's.
-/
import Derived.Test.YtknmkakbpokpjaaGreatDoorAbCodeOk
namespace Go.Ab

/-- The table's rows are the program's functions. -/
def FnsOk (E : Tys) (P : Program) (fns : T (Option AFn)) : Prop :=
  ∀ f fn', fns.get f = some (some fn') → ∃ fn, P.funcs[f]? = some fn ∧ fnC E fn = some fn'

theorem fnC_ok {E : Tys} {fn : Func} {fn' : AFn} (h : fnC E fn = some fn') : ∃ c, fn.body = some c ∧ codeC E fn.ntmps c = some fn'.c ∧ resC E fn.ntmps fn.results.toList = some fn'.res ∧ fn'.nt = fn.ntmps ∧ (fn.name == "runtime.NumGoroutine") = false := by
  unfold fnC at h
  split at h
  · rename_i c hc
    split at h
    · rename_i x r hx hr
      cases hn : (fn.name == "runtime.NumGoroutine") with
      | true => rw [hn] at h; cases h
      | false => rw [hn] at h; cases h; exact ⟨c, hc, hx, hr, rfl, rfl⟩
    · cases h
  · cases h
theorem run_callFunc {E : Tys} {P : Program} {f : Nat} {fn : Func} {fn' : AFn} (hf : P.funcs[f]? = some fn) (h : fnC E fn = some fn') (A : Array Value) (w : World) : (callFunc f A).run P w = .ok (.enter f A) w := by
  obtain ⟨c, h1, _, _, _, h5⟩ := fnC_ok h
  unfold callFunc
  simp only [Sem.run_bind, run_program, Result.andThen_ok, hf, h5, Bool.false_eq_true, if_false, h1, Option.isNone_some, Sem.run_pure]

section
variable {E : Tys} {P : Program} (hE : TysOk E P)
include hE
theorem res_ok {nt : Nat} {σ : Sg} {st : St} {a : Act} {w : World} (hS : SR E.gl nt σ st a w) : ∀ {l : List ResultVar} {rs : List ARes} {r : List AV}, resC E nt l = some rs → resE st.fr st.h rs = some r →
    (l.mapM fun
      | .tmp t => pure (a.tmps.getD t undef)
      | .cell x t => do loadVar t (← asAddr (a.tmps.getD x undef)) : Sem (List Value)).run P w = .ok (toVs σ r) w ∧ okVs (Known st.h.m.get) r := by
  have hget : ∀ t, t < nt → a.tmps.getD t undef = toV σ (fget st.fr t) := fun t ht => by
    rw [Array.getD_eq_getD_getElem?, hS.fr.val t ht]; rfl
  intro l
  induction l with
  | nil => intro rs r h1 h2; cases h1; cases h2; exact ⟨rfl, trivial⟩
  | cons x l ih =>
    intro rs r h1 h2
    cases x with
    | tmp t =>
      simp only [resC] at h1
      cases hb : Nat.blt t nt with
      | false => rw [hb] at h1; cases h1
      | true =>
        rw [hb] at h1
        simp only [cond_true] at h1
        have hlt : t < nt := by simpa using hb
        split at h1
        · rename_i q hq
          cases h1
          have e : resE st.fr st.h (.tmp t :: q) = Option.rec (motive := fun _ => Option (List AV)) none (fun z => some (fget st.fr t :: z)) (resE st.fr st.h q) := rfl
          rw [e, ob_eq] at h2
          cases hr : resE st.fr st.h q with
          | none => rw [hr] at h2; cases h2
          | some z =>
            rw [hr] at h2
            cases h2
            obtain ⟨g1, g2⟩ := ih hq hr
            refine ⟨?_, hS.fr.ok t hlt, g2⟩
            simp only [List.mapM_cons, Sem.run_bind, Sem.run_pure, Result.andThen_ok, hget t hlt]
            rw [g1]
            rfl
        · cases h1
    | cell x t =>
      simp only [resC] at h1
      cases hb : Nat.blt x nt with
      | false => rw [hb] at h1; cases h1
      | true =>
        rw [hb] at h1
        simp only [cond_true] at h1
        have hlt : x < nt := by simpa using hb
        split at h1
        · rename_i k q hk hq
          cases h1
          have e : resE st.fr st.h (.cell x k :: q) = (match fget st.fr x with
            | .ptr n off => match blkOf st.h.m.get n with
              | some l => match partE k l off with
                | some v => Option.rec (motive := fun _ => Option (List AV)) none (fun z => some (v :: z)) (resE st.fr st.h q)
                | none => none
              | none => none
            | _ => none) := rfl
          rw [e] at h2
          split at h2
          · rename_i n off hn
            split at h2
            · rename_i cl hcl
              split at h2
              · rename_i v hv
                rw [ob_eq] at h2
                cases hr : resE st.fr st.h q with
                | none => rw [hr] at h2; cases h2
                | some z =>
                  rw [hr] at h2
                  cases h2
                  obtain ⟨g1, g2⟩ := ih hq hr
                  obtain ⟨g3, g4⟩ := load_ok hE hk hS.rel hcl hv
                  refine ⟨?_, g4, g2⟩
                  have := hget x hlt
                  rw [hn] at this
                  simp only [toV] at this
                  have ha : ∀ (b : Addr), (asAddr (.pointer (some b))).run P w = .ok b w := fun _ => rfl
                  simp only [List.mapM_cons, Sem.run_bind, this, ha, Sem.run_pure, Result.andThen_ok, g3]
                  rw [g1]
                  rfl
              · cases h2
            · cases h2
          · cases h2
        · cases h1

theorem results_ok {fn : Func} {rs : List ARes} {r : List AV} {σ : Sg} {st : St} {a : Act} {w : World} (hS : SR E.gl fn.ntmps σ st a w) (h1 : resC E fn.ntmps fn.results.toList = some rs) (h2 : resE st.fr st.h rs = some r) :
    (results fn a.tmps).run P w = .ok (toV σ (resOne r)) w ∧ okV (Known st.h.m.get) (resOne r) := by
  obtain ⟨g1, g2⟩ := res_ok hE hS h1 h2
  constructor
  · have hx : ∀ m : Sem (List Value), m.run P w = .ok (toVs σ r) w → ((List.toArray <$> m) >>= fun vs : Array Value => (pure (if h : vs.size = 1 then vs[0] else .tuple vs) : Sem Value)).run P w = .ok (toV σ (resOne r)) w := by
      intro m hm
      simp only [Sem.run_bind, Sem.run_map, hm, Result.andThen_ok, Sem.run_pure]
      congr 1
      cases r with
      | nil => rfl
      | cons v r =>
        cases r with
        | nil => rfl
        | cons u r =>
          have : ¬ ((toVs σ (v :: u :: r)).toArray.size = 1) := by simp [toVs_len]
          rw [dif_neg this]
          rfl
    unfold results
    rw [Array.mapM_eq_mapM_toList]
    exact hx _ g1
  · cases r with
    | nil => exact trivial
    | cons v r =>
      cases r with
      | nil => exact g2.1
      | cons u r => exact g2
end

section
variable {E : Tys} {P : Program} (hE : TysOk E P) (hm : P.follows .mixedOrders = true) {fns : T (Option AFn)} (hfns : FnsOk E P fns)
include hE hm hfns

omit hm hfns in
/-- The deferred calls, and the results behind them. -/
theorem leaves_ok {calld : CallE} (hcd : CallDOk P E.gl calld) {fn : Func} {fn' : AFn} (hf : fnC E fn = some fn') {G0 : Ending → World → Prop} {tmps : Array Value} {fr : T AV} {σ0 : Sg} {h0 : H} {w0 : World} : ∀ (ds : List Dfr) (l : List Deferred) (h h' : H) (r : List AV) (σ : Sg) (w : World),
    runDs calld ds h = some h' → resE fr h' fn'.res = some r → SR E.gl fn.ntmps σ ⟨fr, h, ds⟩ ⟨tmps, l⟩ w → Ext σ0 h0.m.get w0 σ h.m.get w → Mono h0 h →
    (∀ σ' w', SR E.gl fn.ntmps σ' ⟨fr, h', []⟩ ⟨tmps, []⟩ w' → Ext σ0 h0.m.get w0 σ' h'.m.get w' → Mono h0 h' → okV (Known h'.m.get) (resOne r) → G0 (.returned (toV σ' (resOne r))) w') → Leaves P fn tmps G0 l .returning w := by
  obtain ⟨c, _, _, hres, hnt, _⟩ := fnC_ok hf
  intro ds
  induction ds with
  | nil =>
    intro l h h' r σ w h1 h2 hS hE0 hM0 hK
    cases h1
    cases hS.ds
    obtain ⟨g1, g2⟩ := results_ok hE (fn := fn) hS hres h2
    exact ⟨_, g1, hK σ w hS hE0 hM0 g2⟩
  | cons d ds ih =>
    intro l h h' r σ w h1 h2 hS hE0 hM0 hK
    have hds := hS.ds
    cases hds with
    | @cons _ D _ l' hd hds =>
      obtain ⟨cap, ht, hargs⟩ := hd
      have e : runDs calld (d :: ds) h = (match calld d.f d.args h with
        | some (_, h') => runDs calld ds h'
        | none => none) := rfl
      rw [e] at h1
      split at h1
      · rename_i v h2' hc
        obtain ⟨k1, k2⟩ := hcd d.f d.args h v h2' hc σ w hS.rel hS.fresh (hS.dok d (List.mem_cons_self ..)) (D.args ++ cap) hargs
        refine ⟨by simp, .func d.f, cap, d.f, D.args ++ cap, ht, ?_, ?_⟩
        · rw [ht]
          exact k1
        · refine (k2 .returning).mono fun e u' w' he => ?_
          obtain ⟨rfl, hp⟩ := he
          cases e with
          | returned V =>
            obtain ⟨σ', _, _, q3, q4, q5, q6⟩ := hp
            show Leaves P fn tmps G0 l' (settle .returning) w'
            have hS' : SR E.gl fn.ntmps σ' ⟨fr, h2', ds⟩ ⟨tmps, l'⟩ w' := by
              have hb : SR E.gl fn.ntmps σ ⟨fr, h, ds⟩ ⟨tmps, l'⟩ w := ⟨hS.rel, hS.fresh, hS.fr, hds, fun d hd => hS.dok d (List.mem_cons_of_mem _ hd)⟩
              exact hb.move (h' := h2') q3 q4 q5
            exact ih l' h2' h' r σ' w' h1 h2 hS' (hE0.trans q5) (hM0.trans q6) hK
          | panicked ch => exact hp.elim
          | outgrown => exact hp.elim
      · cases h1

theorem fn_ok : ∀ n, CallOk P E.gl (callB fns n false) ∧ CallDOk P E.gl (callB fns n true) := by
  intro n
  induction n with
  | zero => exact ⟨fun _ _ _ _ _ h => (by cases h), fun _ _ _ _ _ h => (by cases h)⟩
  | succ n ih =>
    obtain ⟨ihA, ihD⟩ := ih
    have body : ∀ (dd : Bool) f args h v h', callB fns (n + 1) dd f args h = some (v, h') → ∀ σ w, Rel E.gl σ h.m.get w → Fresh h → okVs (Known h.m.get) args → ∀ A : Array Value, A.toList = toVs σ args →
        ∃ fn fn' c ex s hd r, P.funcs[f]? = some fn ∧ fnC E fn = some fn' ∧ fn.body = some c ∧ codeC E fn.ntmps c = some fn'.c ∧ codeE (callB fns n false) n fn'.c ⟨T.ofList args, h, []⟩ = some (ex, s) ∧ (∀ id, ex ≠ .ext id) ∧
          (dd = true → s.ds = []) ∧ runDs (callB fns n true) s.ds s.h = some hd ∧ resE s.fr hd fn'.res = some r ∧ v = resOne r ∧ h' = hd ∧ SR E.gl fn.ntmps σ ⟨T.ofList args, h, []⟩ ⟨A ++ Array.replicate (fn.ntmps - A.size) undef, []⟩ w := by
      intro dd f args h v h' he σ w hR hF hok A hA
      have he' : bodyE fns (callB fns n false) (callB fns n true) n dd f args h = some (v, h') := he
      unfold bodyE at he'
      split at he'
      · rename_i fn' hfn
        obtain ⟨fn, hf1, hf2⟩ := hfns f fn' hfn
        obtain ⟨c, hc1, hc2, hc3, hc4, _⟩ := fnC_ok hf2
        cases hb : Nat.ble args.length fn'.nt with
        | false => rw [hb] at he'; cases he'
        | true =>
          rw [hb] at he'
          simp only [cond_true] at he'
          have hle : args.length ≤ fn.ntmps := by rw [← hc4]; simpa using hb
          split at he'
          · cases he'
          · rename_i ex s hne hcode
            cases hdd : (dd && !s.ds.isEmpty) with
            | true => rw [hdd] at he'; cases he'
            | false =>
              rw [hdd] at he'
              simp only [cond_false] at he'
              split at he'
              · rename_i hd hrun
                split at he'
                · rename_i r hr
                  cases he'
                  refine ⟨fn, fn', c, ex, s, h', r, hf1, hf2, hc1, hc2, hcode, fun id e => hne id (by rw [e]), fun h => ?_, hrun, hr, rfl, rfl, ⟨hR, hF, ?_, .nil, fun d hd => by cases hd⟩⟩
                  · subst h
                    simp only [Bool.true_and, Bool.not_eq_false'] at hdd
                    exact List.isEmpty_iff.1 hdd
                  · have hAs : A.size = args.length := by rw [← Array.length_toList, hA, toVs_len]
                    refine ⟨by simp only [Array.size_append, Array.size_replicate]; omega, fun t ht => ?_, fun t ht => ?_⟩
                    · rw [fget_ofList, Array.getElem?_append, hAs]
                      by_cases hlt : t < args.length
                      · rw [if_pos hlt, ← Array.getElem?_toList, hA, toVs_get, List.getD_eq_getElem?_getD, List.getElem?_eq_getElem hlt]
                        rfl
                      · rw [if_neg hlt, List.getD_eq_getElem?_getD, List.getElem?_eq_none (by omega)]
                        rw [Array.getElem?_replicate, if_pos (by omega)]
                        rfl
                    · rw [fget_ofList, List.getD_eq_getElem?_getD]
                      cases hg : args[t]? with
                      | none => exact trivial
                      | some u => exact okVs_get hok hg
                · cases he'
              · cases he'
          · cases he'
      · cases he'
    refine ⟨fun f args h v h' he σ w hR hF hok A hA => ?_, fun f args h v h' he σ w hR hF hok A hA => ?_⟩
    · obtain ⟨fn, fn', c, ex, s, hd, r, h1, h2, h3, h4, h5, h6, _, h8, h9, rfl, rfl, hS⟩ := body false f args h v h' he σ w hR hF hok A hA
      refine ⟨run_callFunc h1 h2 A w, calls_of_wp_defers h1 h3 ?_⟩
      refine (code_ok hE hm ihA n).1 c fn'.c σ _ s ex _ w _ h4 h5 hS fun σ' a' w' hS' hE' hM' => ?_
      have hl : Leaves P fn a'.tmps (CP E.gl σ h w (resOne r) h') a'.defers .returning w' := by
        refine leaves_ok hE ihD h2 (σ0 := σ) (h0 := h) (w0 := w) s.ds a'.defers s.h h' r σ' w' h8 h9 hS' hE' hM' fun σ'' w'' hS'' hE'' hM'' hk => ?_
        exact ⟨σ'', rfl, hk, hS''.rel, hS''.fresh, hE'', hM''⟩
      cases ex with
      | nrm => exact hl
      | ret => exact hl
      | ext id => exact absurd rfl (h6 id)
    · obtain ⟨fn, fn', c, ex, s, hd, r, h1, h2, h3, h4, h5, h6, h7, h8, h9, rfl, rfl, hS⟩ := body true f args h v h' he σ w hR hF hok A hA
      refine ⟨run_callFunc h1 h2 A w, fun u => callsD_of_wp h1 h3 ?_⟩
      refine (code_ok hE hm ihA n).1 c fn'.c σ _ s ex _ w _ h4 h5 hS fun σ' a' w' hS' hE' hM' => ?_
      have hds := h7 rfl
      have hdf : a'.defers = [] := by
        have := hS'.ds
        rw [hds] at this
        cases h : a'.defers with
        | nil => rfl
        | cons x l => rw [h] at this; cases this
      have hhd : s.h = h' := by rw [hds] at h8; cases h8; rfl
      rw [← hhd] at h9 ⊢
      obtain ⟨c', _, _, hres, _, _⟩ := fnC_ok h2
      obtain ⟨g1, g2⟩ := results_ok hE (fn := fn) hS' hres h9
      have hl : a'.defers = [] ∧ ∃ v, (results fn a'.tmps).run P w' = .ok v w' ∧ CP E.gl σ h w (resOne r) s.h (.returned v) w' :=
        ⟨hdf, _, g1, σ', rfl, g2, hS'.rel, hS'.fresh, hE', hM'⟩
      cases ex with
      | nrm => exact hl
      | ret => exact hl
      | ext id => exact absurd rfl (h6 id)
end
end Go.Ab
