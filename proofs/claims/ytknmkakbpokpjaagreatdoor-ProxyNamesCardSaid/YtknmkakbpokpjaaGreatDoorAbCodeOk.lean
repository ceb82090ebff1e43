/-
  The evaluator's run of code, and of functions, is the model's.
-/
import Derived.Test.YtknmkakbpokpjaaGreatDoorAbAny
import Derived.LoopN
namespace Go.Ab

def exOf : Ex → Exit
  | .nrm => .normal
  | .ext id => .exit id
  | .ret => .ret
/-- What is owed behind a run of code. -/
def CK (G : List Nat) (nt : Nat) (σ : Sg) (st : St) (ex : Ex) (st' : St) (w : World) (Q : Exit → Act → World → Prop) : Prop := Go1 G nt σ st st' w (Q (exOf ex))

section
variable {E : Tys} {P : Program} (hE : TysOk E P) (hm : P.follows .mixedOrders = true) {nt : Nat} {call : CallE} (hcall : CallOk P E.gl call)
include hE hm hcall

theorem draw_ok {ops : Array Oper} {ls : List AStep} {dl : List DStep} {n id : Nat} (hs : stepsC E nt ops ops.toList = some ls) (hd : drawC ops ls = some (.draw n dl)) {σ : Sg} {st st' : St} {a : Act} {w : World} (hS : SR E.gl nt σ st a w)
    (he : drawE call n dl st = some st') {Q : Exit → Act → World → Prop} (hK : Go1 E.gl nt σ st st' w (Q .normal)) : (Code.region id ops true).wp P Q a w := by
  obtain ⟨rfl, hlen, hD, hcov⟩ := drawC_ok hs hd
  refine wp_region_any hm ?_
  have hr := run_of (show drawF call st.h.next ops.size dl ⟨st.fr, ⟨st.h.m, st.h.next + ops.size⟩, st.ds⟩ [] = some st' from he)
  have hS' : SR E.gl nt σ ⟨st.fr, ⟨st.h.m, st.h.next + ops.size⟩, st.ds⟩ a { w with drawn := w.drawn + 1 } :=
    ⟨rel_drew hS.rel _, fun k hk => hS.fresh k (by have : st.h.next + ops.size ≤ k := hk; omega), hS.fr, hS.ds, hS.dok⟩
  refine any_ok hE hcall hD (base := st.h.next) ops.size dl _ _ st' [] σ a _ hr hlen (fun d hd => hd) hD.pw (by simp) (fun i hi => ?_) (fun i j hi _ => ?_) (fun d _ => rfl) hS' (fun d _ => hS.fresh _ (Nat.le_add_right _ _)) (Nat.le_refl _) ?_
  · have : (Array.replicate ops.size false).getD i true = false := by
      rw [Array.getD_eq_getD_getElem?, Array.getElem?_eq_getElem (by simpa using hi)]
      simp
    rw [this]
    exact ⟨fun _ => hcov i hi, fun _ => rfl⟩
  · exfalso
    rw [Array.getD_eq_getD_getElem?] at hi
    by_cases h : i < ops.size
    · rw [Array.getElem?_eq_getElem (by simpa using h)] at hi
      simp at hi
    · rw [Array.getElem?_eq_none (by simp; omega)] at hi
      cases hi
  · intro σ' a' w' h1 h2 h3
    refine hK σ' a' w' h1 ?_ ⟨Nat.le_trans (Nat.le_add_right _ _) h3.1, h3.2⟩
    exact ⟨h2.known, h2.own, h2.size, h2.os, h2.tape, h2.output, h2.same⟩

theorem code_ok : ∀ (f : Nat),
    (∀ (c : Code) (ac : AC) (σ : Sg) (st st' : St) (ex : Ex) (a : Act) (w : World) (Q : Exit → Act → World → Prop), codeC E nt c = some ac → codeE call f ac st = some (ex, st') → SR E.gl nt σ st a w → CK E.gl nt σ st ex st' w Q → c.wp P Q a w) ∧
    (∀ (c : Code) (ac : AC) (σ : Sg) (st st' : St) (ex : Ex) (a : Act) (w : World) (Q : Exit → Act → World → Prop), codeC E nt c = some ac → codeE call f (.loop ac) st = some (ex, st') → SR E.gl nt σ st a w → CK E.gl nt σ st ex st' w Q → c.rounds P Q f a w) := by
  intro f
  induction f with
  | zero => exact ⟨fun _ _ _ _ _ _ _ _ _ _ h => (by cases h), fun _ _ _ _ _ _ _ _ _ _ h => (by cases h)⟩
  | succ f ih =>
    obtain ⟨ihA, ihB⟩ := ih
    -- one thing behind another
    have thenOk : ∀ {r : CodeR} {k : St → CodeR} {ex : Ex} {st' : St}, thenE r k = some (ex, st') → ∃ ex1 st1, r = some (ex1, st1) ∧ ((ex1 = .nrm ∧ k st1 = some (ex, st')) ∨ (ex1 ≠ .nrm ∧ ex1 = ex ∧ st1 = st')) := by
      intro r k ex st' h
      cases r with
      | none => cases h
      | some p =>
        obtain ⟨ex1, st1⟩ := p
        refine ⟨ex1, st1, rfl, ?_⟩
        cases ex1 with
        | nrm => exact .inl ⟨rfl, h⟩
        | ext i => cases h; exact .inr ⟨by simp, rfl, rfl⟩
        | ret => cases h; exact .inr ⟨by simp, rfl, rfl⟩
    have B : ∀ (c : Code) (ac : AC) (σ : Sg) (st st' : St) (ex : Ex) (a : Act) (w : World) (Q : Exit → Act → World → Prop), codeC E nt c = some ac → codeE call (f + 1) (.loop ac) st = some (ex, st') → SR E.gl nt σ st a w → CK E.gl nt σ st ex st' w Q → c.rounds P Q (f + 1) a w := by
      intro c ac σ st st' ex a w Q hc he hS hK
      have he' : thenE (codeE call f ac st) (codeE call f (.loop ac)) = some (ex, st') := he
      obtain ⟨ex1, st1, h1, h2⟩ := thenOk he'
      rw [rounds_succ]
      refine ihA c ac σ st st1 ex1 a w _ hc h1 hS fun σ' a' w' hS' hE' hM' => ?_
      rcases h2 with ⟨rfl, h3⟩ | ⟨hne, rfl, rfl⟩
      · exact ihB c ac σ' st1 st' ex a' w' Q hc h3 hS' fun σ'' a'' w'' hS'' hE'' hM'' => hK σ'' a'' w'' hS'' (hE'.trans hE'') (hM'.trans hM'')
      · have := hK σ' a' w' hS' hE' hM'
        cases ex1 <;> first | exact absurd rfl hne | exact this
    refine ⟨fun c ac σ st st' ex a w Q hc he hS hK => ?_, B⟩
    cases c with
    | skip =>
      cases hc
      cases he
      exact wp_skip (hK σ a w hS (Ext.refl _ _ _) (Mono.refl _))
    | region id ops draw =>
      simp only [codeC] at hc
      split at hc
      · rename_i ls hls
        split at hc
        · cases hc
          have he' : nrmE (stepsE call ls st) = some (ex, st') := he
          unfold nrmE at he'
          rw [ob_eq] at he'
          cases h1 : stepsE call ls st with
          | none => rw [h1] at he'; cases he'
          | some st1 =>
            rw [h1] at he'
            cases he'
            exact wp_region_list (steps_ok hE hcall hls h1 hS hK)
        · have hd : ∃ n dl, ac = .draw n dl := by
            unfold drawC at hc
            simp only at hc
            split at hc
            · unfold cond at hc
              split at hc
              · cases hc; exact ⟨_, _, rfl⟩
              · cases hc
            · cases hc
          obtain ⟨n, dl, rfl⟩ := hd
          have he' : nrmE (drawE call n dl st) = some (ex, st') := he
          unfold nrmE at he'
          rw [ob_eq] at he'
          cases h1 : drawE call n dl st with
          | none => rw [h1] at he'; cases he'
          | some st1 =>
            rw [h1] at he'
            cases he'
            exact draw_ok hE hm hcall hls hc hS h1 hK
      · cases hc
    | seq x y =>
      simp only [codeC] at hc
      split at hc
      · rename_i ax ay hx hy
        cases hc
        have he' : thenE (codeE call f ax st) (codeE call f ay) = some (ex, st') := he
        obtain ⟨ex1, st1, h1, h2⟩ := thenOk he'
        refine wp_seq (ihA x ax σ st st1 ex1 a w _ hx h1 hS fun σ' a' w' hS' hE' hM' => ?_)
        rcases h2 with ⟨rfl, h3⟩ | ⟨hne, rfl, rfl⟩
        · exact ihA y ay σ' st1 st' ex a' w' Q hy h3 hS' fun σ'' a'' w'' hS'' hE'' hM'' => hK σ'' a'' w'' hS'' (hE'.trans hE'') (hM'.trans hM'')
        · have := hK σ' a' w' hS' hE' hM'
          cases ex1 <;> first | exact absurd rfl hne | exact this
      · cases hc
    | cond x y z =>
      simp only [codeC] at hc
      split at hc
      · rename_i x' ay az hx hy hz
        cases hc
        have he' : c_cond x' ay az (codeE call f) st = some (ex, st') := he
        unfold c_cond at he'
        obtain ⟨g1, _⟩ := ao_ok hS.rel hS.fr hx
        split at he'
        · rename_i t ht
          rw [ht] at g1
          cases t with
          | true => exact wp_cond_true g1 (ihA y ay σ st st' ex a w Q hy he' hS hK)
          | false => exact wp_cond_false g1 (ihA z az σ st st' ex a w Q hz he' hS hK)
        · cases he'
      · cases hc
    | block id x =>
      simp only [codeC] at hc
      split at hc
      · rename_i ax hx
        cases hc
        have he' : c_block id (codeE call f ax st) = some (ex, st') := he
        cases h1 : codeE call f ax st with
        | none => rw [h1] at he'; cases he'
        | some p =>
          obtain ⟨ex1, st1⟩ := p
          rw [h1] at he'
          refine wp_block (ihA x ax σ st st1 ex1 a w _ hx h1 hS fun σ' a' w' hS' hE' hM' => ?_)
          cases ex1 with
          | nrm => cases he'; exact hK σ' a' w' hS' hE' hM'
          | ret => cases he'; exact hK σ' a' w' hS' hE' hM'
          | ext i =>
            have he2 : cond (Nat.beq i id) (some (.nrm, st1)) (some (.ext i, st1)) = some (ex, st') := he'
            cases hb : Nat.beq i id with
            | true =>
              rw [hb] at he2
              cases he2
              obtain rfl := Nat.eq_of_beq_eq_true hb
              show Exit.inBlock i Q (.exit i) a' w'
              simp only [Exit.inBlock, if_true]
              exact hK σ' a' w' hS' hE' hM'
            | false =>
              rw [hb] at he2
              cases he2
              show Exit.inBlock id Q (.exit i) a' w'
              simp only [Exit.inBlock, if_neg (Nat.ne_of_beq_eq_false hb)]
              exact hK σ' a' w' hS' hE' hM'
      · cases hc
    | loop x =>
      simp only [codeC] at hc
      split at hc
      · rename_i ax hx
        cases hc
        exact wp_loop_rounds (f + 1) (B x ax σ st st' ex a w Q hx he hS hK)
      · cases hc
    | exit id =>
      cases hc
      cases he
      exact wp_exit (hK σ a w hS (Ext.refl _ _ _) (Mono.refl _))
    | label l =>
      cases hc
      cases he
      exact wp_label (hK σ a w hS (Ext.refl _ _ _) (Mono.refl _))
    | ret =>
      cases hc
      cases he
      exact wp_ret (hK σ a w hS (Ext.refl _ _ _) (Mono.refl _))
    | rangeFunc f p x y => cases hc
    | scope x => cases hc
    | goto l => cases hc
    | refuse s => cases hc
end
end Go.Ab
