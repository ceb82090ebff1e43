/-
  The operations of a region in the order of the text.
-/
import Derived.Test.YtknmkakbpokpjaaGreatDoorAbStep
namespace Go.Ab

theorem want_ok {E : Tys} {nt : Nat} {σ : Sg} {D : Nat → Prop} {fr : T AV} {tmps : Array Value} {ops : Array Oper} {o : Oper} {s : AStep} (hs : stepC E nt ops o = some s) (hF : FR σ D fr tmps nt) :
    Region.wanted o (yielded ops tmps) = wantE fr s.g := by
  unfold stepC at hs
  split at hs
  · split at hs
    · rename_i p hp
      split at hs
      · rename_i hg
        cases hs
        simp only [Region.wanted, hg, wantE]
      · rename_i j want hg
        split at hs
        · rename_i q hq
          split at hs
          · rename_i t ht
            cases hb : Nat.blt t nt with
            | false => rw [hb] at hs; cases hs
            | true =>
              rw [hb] at hs
              cases hs
              have hlt : t < nt := by simpa using hb
              simp only [Region.wanted, hg, wantE, yielded, hq, Option.bind_some, ht, hF.val t hlt]
              cases fget fr t <;> simp only [toV] <;> try rfl
              rename_i b
              cases b <;> cases want <;> rfl
          · cases hs
        · cases hs
    · cases hs
  · cases hs
theorem stepC_op {E : Tys} {nt : Nat} {ops : Array Oper} {o : Oper} {s : AStep} (hs : stepC E nt ops o = some s) : opC E nt o = some s.op ∧ s.dst = o.dst ∧ s.loud = loud s.op := by
  unfold stepC at hs
  split at hs
  · split at hs
    · rename_i p hp
      split at hs
      · cases hs; exact ⟨hp, rfl, rfl⟩
      · split at hs
        · split at hs
          · rename_i t ht
            cases hb : Nat.blt t nt with
            | false => rw [hb] at hs; cases hs
            | true => rw [hb] at hs; cases hs; exact ⟨hp, rfl, rfl⟩
          · cases hs
        · cases hs
    · cases hs
  · cases hs

theorem SR.new {G : List Nat} {nt : Nat} {σ : Sg} {st : St} {a : Act} {w : World} (hS : SR G nt σ st a w) (dst : Option Nat) {b : Blk} {o : Obj} {extra d nm nx : Nat} (hnm : st.h.m.get nm = none) (hnx : nm < nx) (hn : st.h.next ≤ nx)
    (hw : wr b = true) (hb : Holds σ ⟨w.heap.size, 0, extra⟩ b o) (hk : okB (Known st.h.m.get) b) {v : AV} {V : Value} (hV : V = toV (upd σ nm ⟨w.heap.size, 0, extra⟩) v) (hv : okV (· = nm) v) :
    SR G nt (upd σ nm ⟨w.heap.size, 0, extra⟩) ⟨putD dst v st.fr, ⟨st.h.m.set nm b, nx⟩, st.ds⟩ (a.put dst V) (push w d o) ∧
    Ext σ st.h.m.get w (upd σ nm ⟨w.heap.size, 0, extra⟩) (st.h.m.set nm b).get (push w d o) := by
  obtain ⟨h1, h2⟩ := rel_new hS.rel hnm d hw hb hk
  rw [← get_upd] at h1 h2
  refine ⟨?_, h2⟩
  subst hV
  have hf : Fresh ⟨st.h.m.set nm b, nx⟩ := by
    intro m hm
    have hm' : nx ≤ m := hm
    show (st.h.m.set nm b).get m = none
    rw [T.get_set, if_neg (by omega)]
    exact hS.fresh m (by omega)
  refine (hS.move (h' := ⟨st.h.m.set nm b, nx⟩) h1 hf h2).put dst (okV.mono (fun n hn => ?_) v hv)
  have : n = nm := hn
  subst this
  show (st.h.m.set n b).get n ≠ none
  rw [T.get_set, if_pos rfl]
  simp

section
variable {E : Tys} {P : Program} (hE : TysOk E P) {nt : Nat} {call : CallE} (hcall : CallOk P E.gl call)
include hE hcall
theorem step_ok {σ : Sg} {st st' : St} {a : Act} {w : World} (hS : SR E.gl nt σ st a w) {ops : Array Oper} {o : Oper} {s : AStep} (hs : stepC E nt ops o = some s) (he : stepE call s st = some st')
    {K : Act → World → Prop} {Q : Exit → Act → World → Prop} (hK : Go1 E.gl nt σ st st' w K) :
    if Region.wanted o (yielded ops a.tmps) then o.wp P a w K Q else K (a.put o.dst undef) w := by
  rw [want_ok hs hS.fr]
  obtain ⟨hop, hdst, hld⟩ := stepC_op hs
  unfold stepE at he
  cases hw : wantE st.fr s.g with
  | false =>
    rw [hw] at he
    cases he
    rw [if_neg (by simp)]
    have := hS.put s.dst (v := U) trivial
    rw [hdst] at this hK
    exact hK σ _ w this (Ext.refl _ _ _) (Mono.refl _)
  | true =>
    rw [hw] at he
    simp only [cond_true] at he
    rw [if_pos rfl]
    split at he
    · split at he
      · rename_i v hq
        cases he
        obtain ⟨g1, g2⟩ := quiet_ok (P := P) hE hS.rel hS.fr hop hq
        unfold Oper.wp
        rw [g1, Oper.upon_value]
        have := hS.put s.dst g2
        rw [hdst] at this hK
        exact hK σ _ w this (Ext.refl _ _ _) (Mono.refl _)
      · rename_i b f hq
        cases he
        obtain ⟨ob, extra, d, V, g1, g2, g3, g4, g5⟩ := quiet_ok (P := P) hE hS.rel hS.fr hop hq
        obtain ⟨g6, g7⟩ := g5 st.h.next
        unfold Oper.wp
        rw [g1, Oper.upon_value]
        obtain ⟨k1, k2⟩ := hS.new s.dst (d := d) (hS.fresh st.h.next (Nat.le_refl _)) (Nat.lt_succ_self _) (Nat.le_succ _) g2 g3 g4 g6 g7
        rw [hdst] at k1 hK
        exact hK _ _ _ k1 k2 (Mono.new st.h b)
      · cases he
    · rename_i hl
      split at he
      · rename_i v h ds hle
        cases he
        refine loud_ok hE hcall hS hop (by rw [← hld]; exact hl) hle ?_
        rw [← hdst]
        exact hK
      · cases he
theorem steps_ok {ops : Array Oper} : ∀ {l : List Oper} {ls : List AStep} {σ : Sg} {st st' : St} {a : Act} {w : World}, stepsC E nt ops l = some ls → stepsE call ls st = some st' → SR E.gl nt σ st a w →
    ∀ {Q : Exit → Act → World → Prop}, Go1 E.gl nt σ st st' w (Q .normal) → wpList P ops Q l a w := by
  intro l
  induction l with
  | nil =>
    intro ls σ st st' a w hc he hS Q hK
    cases hc
    cases he
    exact hK σ a w hS (Ext.refl _ _ _) (Mono.refl _)
  | cons o l ih =>
    intro ls σ st st' a w hc he hS Q hK
    simp only [stepsC] at hc
    split at hc
    · rename_i s hs
      split at hc
      · rename_i r hr
        cases hc
        have e : stepsE call (s :: r) st = Option.rec (motive := fun _ => Option St) none (fun st' => stepsE call r st') (stepE call s st) := rfl
        rw [e, ob_eq] at he
        cases h1 : stepE call s st with
        | none => rw [h1] at he; cases he
        | some st1 =>
          rw [h1] at he
          have := step_ok hE hcall hS hs h1 (K := wpList P ops Q l) (Q := Q) fun σ' a' w' hS' hE' hM' =>
            ih hr he hS' fun σ'' a'' w'' hS'' hE'' hM'' => hK σ'' a'' w'' hS'' (hE'.trans hE'') (hM'.trans hM'')
          unfold wpList
          split at this
          · rename_i hw; rw [if_pos hw]; exact .inl this
          · rename_i hw; rw [if_neg hw]; exact this
      · cases hc
    · cases hc
end
end Go.Ab
