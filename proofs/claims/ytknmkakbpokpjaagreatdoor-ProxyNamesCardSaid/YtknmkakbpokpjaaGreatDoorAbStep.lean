/-
  One step of the evaluator is one operation of the model.
-/
import Derived.Test.YtknmkakbpokpjaaGreatDoorAbLoud2
namespace Go.Ab

section
variable {E : Tys} {P : Program} (hE : TysOk E P)
include hE
theorem copy_ok {G : List Nat} {σ : Sg} {h h' : H} {w : World} (hR : Rel G σ h.m.get w) (hf : Fresh h) {ts : Array Nat} {ty t e k : Nat} (h0 : ts[0]? = some t)
    (ht : und E t = some (.slice e)) (hk : sizeT E e = some k) {s x v : AV} (ha : copyE k s x h = some (v, h')) :
    ∃ V w', (Builtin.copy_ ts ty #[toV σ s, toV σ x]).run P w = .ok V w' ∧ LS G σ h w v h' V w' := by
  unfold copyE at ha
  split at ha
  · rename_i dl sl hdl hsl
    split at ha
    · rename_i vs hvs
      obtain ⟨f1, f2⟩ := firstCells_ok (P := P) hR hvs w.drawn
      have f1' : (Builtin.firstCells k (Nat.min sl dl) (toV σ x)).run P w = .ok ⟨toVs σ vs⟩ w := f1
      have hl := lenS_ok (σ := σ) (P := P) (w := w) hsl
      split at ha
      · cases ha
        have hd : dl = 0 := by cases hdl; rfl
        subst hd
        have e0 : Nat.min sl 0 = 0 := Nat.min_zero sl
        have e1 : min sl 0 = 0 := Nat.min_zero sl
        refine ⟨_, _, ?_, σ, rfl, trivial, hR, hf, Ext.refl _ _ _, Mono.refl _⟩
        rw [e0] at f1'
        unfold Builtin.copy_
        simp [h0, run_und hE ht, toV, run_size hE hk, hl, f1', goInt]
      · rename_i b off len cap op
        have hd : dl = len := by cases hdl; rfl
        subst hd
        split at ha
        · rename_i h2 hp
          cases ha
          obtain ⟨w', r1, r2, r3, r4, r5⟩ := put_ok (P := P) hR hf f2 hp
          refine ⟨_, _, ?_, σ, rfl, trivial, r2, r3, r4, r5⟩
          unfold Builtin.copy_
          simp only [h0, List.getElem?_toArray, List.getElem?_cons_zero, List.getElem?_cons_succ, toV, Sem.run_bind, run_und hE ht, Result.andThen_ok, run_size hE hk, hl, f1', r1, Sem.run_pure, goInt]
          rfl
        · cases ha
      · cases ha
    · cases ha
  · cases ha
end

theorem next_ok {P : Program} {G : List Nat} {σ : Sg} {h h' : H} {w : World} (hR : Rel G σ h.m.get w) (hf : Fresh h) {ty : Nat} {x v : AV} (ha : nextE x h = some (v, h')) :
    ∃ V w', (Instr.next (toV σ x) true ty).run P w = .ok V w' ∧ LS G σ h w v h' V w' := by
  unfold nextE at ha
  split at ha
  · rename_i n
    split at ha
    · rename_i s pos hn
      obtain ⟨h1, h2⟩ := hR.iter n s pos hn
      have hobj : (getObj (σ n).blk).run P w = .ok (.stringIter ⟨s.toArray⟩ pos) w := by
        simp only [getObj, Sem.run, h1]
      cases hlt : Nat.blt pos s.length with
      | false =>
        rw [hlt] at ha
        cases ha
        have hge : ¬ pos < s.length := by
          intro hh
          have : Nat.blt pos s.length = true := by simpa using hh
          rw [this] at hlt; cases hlt
        refine ⟨_, _, ?_, σ, rfl, ⟨trivial, trivial⟩, hR, hf, Ext.refl _ _ _, Mono.refl _⟩
        unfold Instr.next
        simp only [toV, h2, Nat.add_zero, Sem.run_bind, hobj, Result.andThen_ok, size_mk, if_neg hge, Sem.run_pure, toVs]
      | true =>
        rw [hlt] at ha
        simp only [cond_true] at ha
        have hlt' : pos < s.length := by simpa using hlt
        cases ha
        have hset : ∀ o, (setObj (σ n).blk o).run P w = .ok () { w with heap := w.heap.setIfInBounds (σ n).blk o } := fun o => by
          simp only [setObj, Sem.run, h1]
        have hlt2 : (σ n).blk < w.heap.size := (Array.getElem?_eq_some_iff.1 h1).1
        have hkn : ∀ m, Known h.m.get m → Known (h.m.set n (.iter s (Nat.add pos (Utf8.decode ⟨s.toArray⟩ pos).2))).get m := fun m hm => by
          show (h.m.set n _).get m ≠ none
          rw [T.get_set]
          split
          · simp
          · exact hm
        have hne : ∀ m b, h.m.get m = some b → live b = true → m ≠ n → (σ m).blk ≠ (σ n).blk := fun m b hm hl e => (hR.apart n m _ _ hn hm rfl hl (fun x => e x.symm)).symm
        have hh : ∀ j, j ≠ (σ n).blk → (w.heap.setIfInBounds (σ n).blk (.stringIter ⟨s.toArray⟩ (pos + (Utf8.decode ⟨s.toArray⟩ pos).2)))[j]? = w.heap[j]? := fun j hj => by
          rw [Array.getElem?_setIfInBounds, if_neg (fun e => hj e.symm)]
        refine ⟨.tuple #[.bool true, goInt pos, .int .i32 (Utf8.decode ⟨s.toArray⟩ pos).1], { w with heap := w.heap.setIfInBounds (σ n).blk (.stringIter ⟨s.toArray⟩ (pos + (Utf8.decode ⟨s.toArray⟩ pos).2)) }, ?_, σ, rfl, ⟨trivial, trivial, trivial, trivial⟩, ?_, fresh_set hf hn, ?_, Mono.set hn⟩
        · unfold Instr.next
          simp only [toV, h2, Nat.add_zero, Sem.run_bind, hobj, Result.andThen_ok, size_mk, if_pos hlt', hset, Sem.run_pure]
        · refine ⟨fun m l ro k hm => ?_, fun m s' p hm => ?_, fun m m' b b' hm hm' hw hl he => ?_, fun m l ro k hm => ?_, fun g hg => ⟨(hR.glob g hg).1, (hR.glob g hg).2.1, hkn g (hR.glob g hg).2.2⟩⟩
          · rw [T.get_set] at hm
            split at hm
            · cases hm
            · rename_i e
              obtain ⟨c2, e2, fz2, q1, q2⟩ := hR.cells m l ro k hm
              exact ⟨c2, e2, fz2, (hh _ (hne m _ hm rfl e)).trans q1, q2⟩
          · rw [T.get_set] at hm
            split at hm
            · rename_i e
              subst e
              cases hm
              refine ⟨?_, h2⟩
              show (w.heap.setIfInBounds _ _)[_]? = _
              rw [Array.getElem?_setIfInBounds, if_pos rfl, if_pos hlt2]
              rfl
            · rename_i e
              exact ⟨(hh _ (hne m _ hm rfl e)).trans (hR.iter m s' p hm).1, (hR.iter m s' p hm).2⟩
          · rw [T.get_set] at hm hm'
            split at hm
            · rename_i e
              subst e
              cases hm
              rw [if_neg (fun x => he x.symm)] at hm'
              exact hR.apart m m' _ _ hn hm' rfl hl he
            · split at hm'
              · rename_i e e'
                subst e'
                cases hm'
                exact hR.apart m m' _ _ hm hn hw rfl he
              · exact hR.apart m m' _ _ hm hm' hw hl he
          · rw [T.get_set] at hm
            split at hm
            · cases hm
            · exact okVs.mono hkn _ (hR.ok m l ro k hm)
        · refine ⟨fun m hm => ⟨hkn m hm, rfl⟩, fun m b hm hw => ?_, ?_, rfl, rfl, rfl, fun j hj hfr => hh j fun e => hfr n _ hn rfl e.symm⟩
          · rw [T.get_set] at hm
            split at hm
            · rename_i e
              subst e
              exact .inr ⟨m, _, hn, rfl, rfl⟩
            · exact .inr ⟨m, b, hm, hw, rfl⟩
          · show w.heap.size ≤ (w.heap.setIfInBounds _ _).size
            simp
    · cases ha
  · cases ha

/-- A deferred call, as the model keeps it. -/
def DR (σ : Sg) (d : Dfr) (D : Deferred) : Prop := ∃ cap : Array Value, D.target = .fn (.func d.f) cap ∧ (D.args ++ cap).toList = toVs σ d.args
structure SR (G : List Nat) (nt : Nat) (σ : Sg) (st : St) (a : Act) (w : World) : Prop where
  rel : Rel G σ st.h.m.get w
  fresh : Fresh st.h
  fr : FR σ (Known st.h.m.get) st.fr a.tmps nt
  ds : F2 (DR σ) st.ds a.defers
  dok : ∀ d ∈ st.ds, okVs (Known st.h.m.get) d.args

theorem DR.mono {σ σ' : Sg} {D : Nat → Prop} (hk : ∀ n, D n → σ' n = σ n) : ∀ {ds : List Dfr} {l : List Deferred}, F2 (DR σ) ds l → (∀ d ∈ ds, okVs D d.args) → F2 (DR σ') ds l := by
  intro ds l h
  induction h with
  | nil => intro _; exact .nil
  | cons h _ ih =>
    intro hd
    obtain ⟨cap, h1, h2⟩ := h
    refine .cons ⟨cap, h1, ?_⟩ (ih fun d hm => hd d (List.mem_cons_of_mem _ hm))
    rw [h2, toVs_congr hk _ (hd _ (List.mem_cons_self ..))]
theorem SR.move {G : List Nat} {nt : Nat} {σ σ' : Sg} {st : St} {a : Act} {w w' : World} {h' : H} (h : SR G nt σ st a w) (hR : Rel G σ' h'.m.get w') (hf : Fresh h') (he : Ext σ st.h.m.get w σ' h'.m.get w') :
    SR G nt σ' ⟨st.fr, h', st.ds⟩ a w' :=
  ⟨hR, hf, h.fr.mono he.known, DR.mono (fun n hn => (he.known n hn).2) h.ds h.dok, fun d hd => okVs.mono (fun n hn => (he.known n hn).1) _ (h.dok d hd)⟩
theorem SR.put {G : List Nat} {nt : Nat} {σ : Sg} {st : St} {a : Act} {w : World} (h : SR G nt σ st a w) (dst : Option Nat) {v : AV} (hv : okV (Known st.h.m.get) v) :
    SR G nt σ ⟨putD dst v st.fr, st.h, st.ds⟩ (a.put dst (toV σ v)) w := by
  cases dst with
  | none => exact h
  | some d => exact ⟨h.rel, h.fresh, h.fr.put v hv, h.ds, h.dok⟩
theorem toV_U (σ : Sg) : toV σ U = undef := rfl

/-- What a call's answer says of the model's call. -/
def CP (G : List Nat) (σ : Sg) (h : H) (w : World) (v : AV) (h' : H) : Ending → World → Prop
  | .returned V, w' => LS G σ h w v h' V w'
  | .panicked _, _ => False
  | .outgrown, _ => False
def CallOk (P : Program) (G : List Nat) (call : CallE) : Prop :=
  ∀ f args h v h', call f args h = some (v, h') → ∀ σ w, Rel G σ h.m.get w → Fresh h → okVs (Known h.m.get) args →
    ∀ A : Array Value, A.toList = toVs σ args → (callFunc f A).run P w = .ok (.enter f A) w ∧ Calls P f A w (CP G σ h w v h')
/-- The same for a deferred call. -/
def CallDOk (P : Program) (G : List Nat) (call : CallE) : Prop :=
  ∀ f args h v h', call f args h = some (v, h') → ∀ σ w, Rel G σ h.m.get w → Fresh h → okVs (Known h.m.get) args →
    ∀ A : Array Value, A.toList = toVs σ args → (callFunc f A).run P w = .ok (.enter f A) w ∧ ∀ u, CallsD P f A u w fun e u' w' => u' = u ∧ CP G σ h w v h' e w'

/-- What a step leaves, for whatever comes behind it. -/
def Go1 (G : List Nat) (nt : Nat) (σ : Sg) (st st' : St) (w : World) (K : Act → World → Prop) : Prop :=
  ∀ σ' a' w', SR G nt σ' st' a' w' → Ext σ st.h.m.get w σ' st'.h.m.get w' → Mono st.h st'.h → K a' w'

section
variable {E : Tys} {P : Program} (hE : TysOk E P) {nt : Nat} {call : CallE} (hcall : CallOk P E.gl call)
include hE hcall
theorem loud_ok {σ : Sg} {st : St} {a : Act} {w : World} (hS : SR E.gl nt σ st a w) {o : Oper} {ao : AOp} (hc : opC E nt o = some ao) (hld : loud ao = true) {v : AV} {h' : H} {ds : List Dfr} (hl : loudE ao call st.fr st.h = some (v, h', ds))
    {K : Act → World → Prop} {Q : Exit → Act → World → Prop} (hK : Go1 E.gl nt σ st ⟨putD o.dst v st.fr, h', ds ++ st.ds⟩ w K) : o.wp P a w K Q := by
  have fin : ∀ {V : Value} {w' : World}, LS E.gl σ st.h w v h' V w' → ds = [] → K (a.put o.dst V) w' := by
    intro V w' hls e1
    obtain ⟨σ', rfl, h2, h3, h4, h5, h6⟩ := hls
    subst e1
    exact hK σ' _ w' ((hS.move h3 h4 h5).put o.dst h2) h5 h6
  have lrr : ∀ {r : Option (AV × H)}, lr r = some (v, h', ds) → r = some (v, h') ∧ ds = [] := by
    intro r h
    cases r with
    | none => cases h
    | some p => obtain ⟨x, y⟩ := p; cases h; exact ⟨rfl, rfl⟩
  have val : ∀ {s : Sem Value}, execOp a.eval o = (do pure (Next.value (← s)) : Sem Next) → (∃ V w', s.run P w = .ok V w' ∧ LS E.gl σ st.h w v h' V w') → ds = [] → o.wp P a w K Q := by
    intro s he hr e
    obtain ⟨V, w', h1, h2⟩ := hr
    unfold Oper.wp
    rw [he, run_v h1, Oper.upon_value]
    exact fin h2 e
  unfold opC at hc
  split at hc
  case h_23 t x y ho =>
    split at hc
    · rename_i k x' y' hk hx hy
      cases hc
      have hl' : l_store k x' y' call st.fr st.h = some (v, h', ds) := hl
      unfold l_store at hl'
      split at hl'
      · rename_i n off hn
        cases hb : Nat.beq (cellsA (aget st.fr y')).length k with
        | false => rw [hb] at hl'; cases hl'
        | true =>
          rw [hb] at hl'
          simp only [cond_true] at hl'
          split at hl'
          · rename_i h2 hp
            cases hl'
            obtain ⟨g1, g2⟩ := ao_ok hS.rel hS.fr hx
            obtain ⟨g3, g4⟩ := ao_ok hS.rel hS.fr hy
            rw [hn] at g1
            obtain ⟨w', r1, r2, r3, r4, r5⟩ := put_ok (P := P) hS.rel hS.fresh (okV_cells g4) hp
            have hrun : (execOp a.eval o).run P w = .ok .skip w' := by
              unfold execOp
              have hsz : ¬ ((⟨toVs σ (cellsA (aget st.fr y'))⟩ : Array Value).size ≠ k) := by
                simp only [List.size_toArray, toVs_len]
                exact fun h => h (Nat.eq_of_beq_eq_true hb)
              simp only [ho, Instr.storeAt, g1, g3, toV, Instr.sureAddr, storeVar, Sem.run_bind, Sem.run_pure, Result.andThen_ok, run_size hE hk, toV_cells, Sem.run_ite, if_neg hsz, r1]
            unfold Oper.wp
            rw [hrun, Oper.upon_skip]
            exact fin ⟨σ, rfl, trivial, r2, r3, r4, r5⟩ rfl
          · cases hl'
      · cases hl'
    · cases hc
  case h_24 x ho =>
    split at hc
    · rename_i x' hx
      cases hc
      have hl' : lr (nextE (aget st.fr x') st.h) = some (v, h', ds) := hl
      obtain ⟨e1, e2⟩ := lrr hl'
      refine val (s := Instr.next (a.eval x) true o.type) (by unfold execOp; rw [ho]) ?_ e2
      rw [(ao_ok hS.rel hS.fr hx).1]
      exact next_ok hS.rel hS.fresh e1
    · cases hc
  case h_25 c ho =>
    split at hc
    · rename_i f hcal
      split at hc
      · rename_i f' l hf hll
        cases hc
        have hl' : l_defer f' l call st.fr st.h = some (v, h', ds) := hl
        unfold l_defer at hl'
        split at hl'
        · rename_i g p cc hfn
          cases hl'
          obtain ⟨g1, g2⟩ := ao_ok hS.rel hS.fr hf
          obtain ⟨g3, g4⟩ := aos_ok hS.rel hS.fr hll
          rw [hfn] at g1 g2
          have hargs : c.args.map a.eval = ⟨toVs σ (agets st.fr l)⟩ := by apply Array.ext'; rw [Array.toList_map, g3]
          have hrun : (execOp a.eval o).run P w = .ok (.defer { target := .fn (.func g) ⟨toVs σ cc⟩, args := ⟨toVs σ p⟩ ++ ⟨toVs σ (agets st.fr l)⟩ }) w := by
            unfold execOp
            simp only [ho, resolve, hcal, g1, toV, Deferred.ofValue, hargs, Sem.run_bind, Sem.run_pure, Result.andThen_ok]
          unfold Oper.wp
          rw [hrun, Oper.upon_defer]
          have hbase : SR E.gl nt σ ⟨st.fr, st.h, ⟨g, p ++ agets st.fr l ++ cc⟩ :: st.ds⟩ { a with defers := { target := .fn (.func g) ⟨toVs σ cc⟩, args := ⟨toVs σ p⟩ ++ ⟨toVs σ (agets st.fr l)⟩ } :: a.defers } w := by
            refine ⟨hS.rel, hS.fresh, hS.fr, .cons ⟨⟨toVs σ cc⟩, rfl, ?_⟩ hS.ds, fun d hd => ?_⟩
            · simp only [toVs_append]
              simp
            · rcases List.mem_cons.1 hd with rfl | hd
              · exact okVs_append.2 ⟨okVs_append.2 ⟨g2.1, g4⟩, g2.2⟩
              · exact hS.dok d hd
          exact hK σ _ w (hbase.put o.dst (v := U) trivial) (Ext.refl _ _ _) (Mono.refl _)
        · cases hl'
      · cases hc
    · cases hc
  case h_26 c ho =>
    split at hc
    · rename_i f hcal
      split at hc
      · rename_i f' l hf hll
        cases hc
        have hl' : l_call f' l call st.fr st.h = some (v, h', ds) := hl
        unfold l_call at hl'
        split at hl'
        · rename_i g p cc hfn
          obtain ⟨e1, e2⟩ := lrr hl'
          obtain ⟨g1, g2⟩ := ao_ok hS.rel hS.fr hf
          obtain ⟨g3, g4⟩ := aos_ok hS.rel hS.fr hll
          rw [hfn] at g1 g2
          have hargs : c.args.map a.eval = ⟨toVs σ (agets st.fr l)⟩ := by apply Array.ext'; rw [Array.toList_map, g3]
          obtain ⟨k1, k2⟩ := hcall g _ _ v h' e1 σ w hS.rel hS.fresh (okVs_append.2 ⟨okVs_append.2 ⟨g2.1, g4⟩, g2.2⟩) ((⟨toVs σ p⟩ ++ ⟨toVs σ (agets st.fr l)⟩) ++ ⟨toVs σ cc⟩ : Array Value) (by simp only [toVs_append]; simp)
          have hrun : (execOp a.eval o).run P w = .ok (.enter g ((⟨toVs σ p⟩ ++ ⟨toVs σ (agets st.fr l)⟩) ++ ⟨toVs σ cc⟩)) w := by
            unfold execOp
            simp only [ho, resolve, hcal, g1, toV, Deferred.ofValue, hargs, Sem.run_bind, Sem.run_pure, Result.andThen_ok, invoke]
            exact k1
          unfold Oper.wp
          rw [hrun, Oper.upon_enter]
          refine k2.mono fun e w' he => ?_
          cases e with
          | returned V => exact fin he e2
          | panicked ch => exact he.elim
          | outgrown => exact he.elim
        · cases hl'
      · cases hc
    · split at hc
      · split at hc
        · cases hc; cases hl
        · cases hc; cases hl
        · cases hc; cases hl
        · cases hc
      · cases hc
    · split at hc
      · cases hc; cases hl
      · cases hc
    · split at hc
      · cases hc; cases hl
      · cases hc
    · rename_i hcal
      split at hc
      · rename_i t u x y h0 h1 hll
        split at hc
        · rename_i e d ht hu
          split at hc
          · rename_i i z hd hi hz
            cases hc
            have hl' : lr (appendE i.size i.bytes (aget st.fr x) (aget st.fr y) st.h) = some (v, h', ds) := hl
            obtain ⟨e1, e2⟩ := lrr hl'
            obtain ⟨cs, he⟩ := run_call_builtin (P := P) hS.rel hS.fr ho hcal hll
            have hok := (aos_ok hS.rel hS.fr hll).2
            obtain ⟨V, w', r1, r2⟩ := append_ok (ty := o.type) hE hS.rel hS.fresh h0 h1 ht hu hd hi hz hok.1 e1
            unfold Oper.wp
            rw [he]
            have : (builtin .append c.argTypes o.type cs ⟨toVs σ (agets st.fr [x, y])⟩).run P w = .ok (.value V) w' := by
              simp only [builtin]
              exact run_v r1
            rw [this, Oper.upon_value]
            exact fin r2 e2
          · cases hc
        · cases hc
      · cases hc
    · rename_i hcal
      split at hc
      · rename_i t x y h0 hll
        split at hc
        · rename_i e ht
          split at hc
          · rename_i k hk
            cases hc
            have hl' : lr (copyE k (aget st.fr x) (aget st.fr y) st.h) = some (v, h', ds) := hl
            obtain ⟨e1, e2⟩ := lrr hl'
            obtain ⟨cs, he⟩ := run_call_builtin (P := P) hS.rel hS.fr ho hcal hll
            obtain ⟨V, w', r1, r2⟩ := copy_ok (ty := o.type) hE hS.rel hS.fresh h0 ht hk e1
            unfold Oper.wp
            rw [he]
            have : (builtin .copy c.argTypes o.type cs ⟨toVs σ (agets st.fr [x, y])⟩).run P w = .ok (.value V) w' := by
              simp only [builtin]
              exact run_v r1
            rw [this, Oper.upon_value]
            exact fin r2 e2
          · cases hc
        · cases hc
      · cases hc
    · cases hc
  all_goals
    exfalso
    repeat' split at hc
    all_goals first
      | (cases hc; done)
      | (cases hc; cases hld; done)
      | (unfold cond at hc; split at hc <;> first | (cases hc; done) | (cases hc; cases hld; done))
end
end Go.Ab
