/-
  The evaluator's quiet operations are the model's.
-/
import Derived.Test.YtknmkakbpokpjaaGreatDoorAbEq
namespace Go.Ab

/-- The frame: each slot holds what the evaluator's holds. -/
structure FR (σ : Sg) (D : Nat → Prop) (fr : T AV) (tmps : Array Value) (nt : Nat) : Prop where
  size : tmps.size = nt
  val : ∀ t, t < nt → tmps[t]? = some (toV σ (fget fr t))
  ok : ∀ t, t < nt → okV D (fget fr t)

theorem FR.put {σ : Sg} {D : Nat → Prop} {fr : T AV} {tmps : Array Value} {nt : Nat} (h : FR σ D fr tmps nt) {d : Nat} (v : AV) (hv : okV D v) :
    FR σ D (fr.set d v) (tmps.setIfInBounds d (toV σ v)) nt := by
  refine ⟨by simp [h.size], fun t ht => ?_, fun t ht => ?_⟩
  · rw [fget_set, Array.getElem?_setIfInBounds]
    by_cases e : d = t
    · subst e
      simp [h.size, ht]
    · rw [if_neg e, if_neg (fun x => e x.symm), h.val t ht]
  · rw [fget_set]
    split
    · exact hv
    · exact h.ok t ht
theorem FR.mono {σ σ' : Sg} {D D' : Nat → Prop} {fr : T AV} {tmps : Array Value} {nt : Nat} (h : FR σ D fr tmps nt) (hk : ∀ n, D n → D' n ∧ σ' n = σ n) : FR σ' D' fr tmps nt :=
  ⟨h.size, fun t ht => by rw [h.val t ht, toV_congr (D := D) (fun n hn => (hk n hn).2) _ (h.ok t ht)], fun t ht => okV.mono (fun n hn => (hk n hn).1) _ (h.ok t ht)⟩

section
variable {E : Tys} {P : Program} (hE : TysOk E P) {nt : Nat} {σ : Sg} {rd : Rd} {w : World} (hR : Rel E.gl σ rd w) {fr : T AV} {a : Act} (hF : FR σ (Known rd) fr a.tmps nt)
include hR hF
theorem ao_ok {x : Operand} {y : AO} (h : aoC E nt x = some y) : a.eval x = toV σ (aget fr y) ∧ okV (Known rd) (aget fr y) := by
  cases x with
  | tmp t =>
    simp only [aoC] at h
    cases ht : Nat.blt t nt with
    | false => rw [ht] at h; cases h
    | true =>
      rw [ht] at h
      cases h
      have hlt : t < nt := by simpa using ht
      refine ⟨?_, hF.ok t hlt⟩
      show a.tmps.getD t undef = _
      rw [Array.getD_eq_getD_getElem?, hF.val t hlt]
      rfl
  | const v =>
    simp only [aoC] at h
    split at h
    · rename_i x hx
      cases h
      obtain ⟨h1, h2⟩ := ofVal_ok σ (Known rd) v x hx
      exact ⟨h1.symm, h2⟩
    · cases h
  | global g =>
    simp only [aoC] at h
    cases hg : memN E.gl g with
    | false => rw [hg] at h; cases h
    | true =>
      rw [hg] at h
      cases h
      obtain ⟨h1, h2, h3⟩ := hR.glob g ((memN_iff _ _).1 hg)
      refine ⟨?_, h3⟩
      show Value.pointer (some ⟨g, 0, none⟩) = toV σ (.ptr g 0)
      simp only [toV, h1, h2]
  | func f =>
    simp only [aoC] at h
    cases h
    exact ⟨rfl, trivial, trivial⟩
theorem aos_ok {l : List Operand} : ∀ {r : List AO}, aosC E nt l = some r → l.map a.eval = toVs σ (agets fr r) ∧ okVs (Known rd) (agets fr r) := by
  induction l with
  | nil => intro r h; cases h; exact ⟨rfl, trivial⟩
  | cons x l ih =>
    intro r h
    simp only [aosC] at h
    split at h
    · rename_i v hv
      split at h
      · rename_i q hq
        cases h
        obtain ⟨h1, h2⟩ := ao_ok hR hF hv
        obtain ⟨h3, h4⟩ := ih hq
        exact ⟨by rw [List.map_cons, h1, h3]; rfl, h2, h4⟩
      · cases h
    · cases h
theorem aopt_ok {x : Option Operand} {y : Option AO} (h : aoptC E nt x = some y) : x.map a.eval = (agetO fr y).map (toV σ) := by
  cases x with
  | none => cases h; rfl
  | some x =>
    simp only [aoptC] at h
    split at h
    · rename_i v hv
      cases h
      show some (a.eval x) = some (toV σ (aget fr v))
      rw [(ao_ok hR hF hv).1]
    · cases h
end

/-- What a quiet operation's answer says of the model's run. -/
def QS (P : Program) (o : Oper) (a : Act) (σ : Sg) (rd : Rd) (w : World) : QR → Prop
  | .val v => (execOp a.eval o).run P w = .ok (.value (toV σ v)) w ∧ okV (Known rd) v
  | .made b v => ∃ ob extra d V, (execOp a.eval o).run P w = .ok (.value V) (push w d ob) ∧ wr b = true ∧ Holds σ ⟨w.heap.size, 0, extra⟩ b ob ∧ okB (Known rd) b ∧
      ∀ nm, V = toV (upd σ nm ⟨w.heap.size, 0, extra⟩) (v nm) ∧ okV (· = nm) (v nm)

theorem qv_ok {r : Option AV} {q : QR} (h : qv r = some q) : ∃ v, r = some v ∧ q = .val v := by
  cases r with
  | none => cases h
  | some v => cases h; exact ⟨v, rfl, rfl⟩

/-- The run of an operation whose answer is a value. -/
theorem run_v {P : Program} {s : Sem Value} {v : Value} {w w' : World} (h : s.run P w = .ok v w') : (do pure (Next.value (← s)) : Sem Next).run P w = .ok (.value v) w' := by
  simp only [Sem.run_bind, h, Result.andThen_ok, Sem.run_pure]

theorem holds_cells {σ : Sg} {l : List AV} {b : Nat} {k e : Nat} {c : Array Value} (hc : c = ⟨toVs σ l⟩) : Holds σ ⟨b, 0, 0⟩ (.cells l false k) (.cells c e) := by
  subst hc
  refine ⟨_, _, _, rfl, fun i v hi => ?_, by simp [toVs_len], fun j _ => by omega⟩
  rw [Nat.zero_add, List.getElem?_toArray, toVs_get, hi]; rfl

theorem natOf_ok {σ : Sg} {v : AV} {n : Nat} (h : natOf v = some n) : ∃ k, toV σ v = .int k n := by
  unfold natOf at h
  split at h
  · cases h; exact ⟨_, rfl⟩
  · cases h
theorem run_sliceBound {P : Program} {w : World} {k : IntKind} {n y : Nat} {code : BoundsCode} (h : n ≤ y) : (Instr.sliceBound (.int k n) y code).run P w = .ok n w := by
  unfold Instr.sliceBound
  simp only [asIntOf, Sem.run_bind, Sem.run_pure, Result.andThen_ok]
  rw [if_pos ⟨by omega, by omega⟩]
  simp
theorem run_sliceBounds {P : Program} {w : World} {isSlice : Bool} {len cap : Nat} {σ : Sg} {lo hi mx : Option AV} {l h m : Nat}
    (h0 : natOpt 0 lo = some l) (h1 : natOpt (match mx with | some _ => cap | none => len) hi = some h) (h2 : natOpt cap mx = some m) (hx : mx ≠ none → hi ≠ none)
    (hlh : l ≤ h) (hhm : h ≤ m) (hmc : m ≤ cap) :
    (Instr.sliceBounds isSlice len cap (lo.map (toV σ)) (hi.map (toV σ)) (mx.map (toV σ))).run P w = .ok (l, h, m) w := by
  cases lo with
  | none =>
    cases h0
    cases hi with
    | none =>
      cases mx with
      | none => cases h1; cases h2; simp [Instr.sliceBounds]
      | some z => exact absurd rfl (hx (by simp))
    | some y =>
      obtain ⟨ky, hy⟩ := natOf_ok (σ := σ) h1
      cases mx with
      | none => cases h2; simp [Instr.sliceBounds, hy, run_sliceBound hhm]
      | some z =>
        obtain ⟨kz, hz⟩ := natOf_ok (σ := σ) h2
        simp [Instr.sliceBounds, hy, hz, run_sliceBound hhm, run_sliceBound hmc]
  | some x =>
    obtain ⟨kx, hxx⟩ := natOf_ok (σ := σ) h0
    cases hi with
    | none =>
      cases mx with
      | none => cases h1; cases h2; simp [Instr.sliceBounds, hxx, run_sliceBound hlh]
      | some z => exact absurd rfl (hx (by simp))
    | some y =>
      obtain ⟨ky, hy⟩ := natOf_ok (σ := σ) h1
      cases mx with
      | none => cases h2; simp [Instr.sliceBounds, hxx, hy, run_sliceBound hhm, run_sliceBound hlh]
      | some z =>
        obtain ⟨kz, hz⟩ := natOf_ok (σ := σ) h2
        simp [Instr.sliceBounds, hxx, hy, hz, run_sliceBound hhm, run_sliceBound hmc, run_sliceBound hlh]

theorem inB_ok {i : Int} {len j : Nat} (h : inB i len = some j) : i = j ∧ j < len := by
  unfold inB at h
  split at h
  · rename_i n
    cases hb : Nat.blt n len with
    | false => rw [hb] at h; cases h
    | true => rw [hb] at h; cases h; exact ⟨rfl, by simpa using hb⟩
  · cases h
end Go.Ab
