/-
  How the evaluator holds values against each other is how the model does.
-/
import Derived.Test.YtknmkakbpokpjaaGreatDoorAbNum
namespace Go.Ab

theorem run_eqGuard_free {P : Program} (op : BinOp) (t : TypeId) (x y : Operand) (a b : Value) (w : World)
    (h1 : ∀ c d, a = .agg c → b = .agg d → P.eqGuardType P.depth t = false) (h2 : a = .nilIface → b = .nilIface → isConst x = true ∨ isConst y = true) :
    (eqGuard op t x y a b).run P w = .ok () w := by
  unfold eqGuard
  cases op <;> first
    | rfl
    | (dsimp only
       rw [if_neg (by decide)]
       split
       · have := h2 rfl rfl
         cases x <;> cases y <;> simp [isConst] at this ⊢
       · simp [h1 _ _ rfl rfl]
       · rfl)

theorem fieldsOf_und {P : Program} {t : Nat} {fs : Array Field} (h : P.underlying t = some (.struct fs)) : P.fieldsOf t = fs := by unfold Program.fieldsOf; rw [h]

section
variable {E : Tys} {P : Program} (hE : TysOk E P)
include hE
mutual
theorem eq_ok (σ : Sg) (w : World) : ∀ (d t : Nat) (q : EqD) (x y : AV) (r : Bool) (n : Nat), eqC E d t = some q → eqE q x y = some r → d ≤ n →
    (Op.equalIn n t (toV σ x) (toV σ y)).run P w = .ok r w
  | 0, _, _, _, _, _, _, h, _, _ => by simp [eqC] at h
  | d + 1, t, q, x, y, r, n, h, hr, hn => by
    obtain ⟨n, rfl⟩ : ∃ m, n = m + 1 := ⟨n - 1, by omega⟩
    rw [eqC] at h
    split at h
    · rename_i hu
      cases h
      have hu := und_ok hE hu
      cases x <;> cases y <;> simp only [eqE] at hr <;> try (cases hr; done)
      rename_i a b
      cases hr
      simp only [toV, run_equalIn_bool' _ _ _ _ _ hu]
      cases a <;> cases b <;> rfl
    · rename_i k hu
      cases h
      have hu := und_ok hE hu
      cases x <;> cases y <;> simp only [eqE] at hr <;> try (cases hr; done)
      rename_i k1 a k2 b
      rw [kEq_eq] at hr
      by_cases hk : k1 = k2
      · subst hk
        rw [decide_eq_true rfl] at hr
        cases hr
        simp only [toV, run_equalIn_int _ _ _ _ _ _ _ hu, iEq_eq]
        congr 1
      · rw [decide_eq_false hk] at hr; cases hr
    · rename_i hu
      cases h
      have hu := und_ok hE hu
      cases x <;> cases y <;> simp only [eqE] at hr <;> try (cases hr; done)
      cases hr
      simp only [toV, run_equalIn_string _ _ _ _ _ hu, sEq_eq, ByteArray.toList_mk]
    · rename_i e hu
      cases h
      have hu := und_ok hE hu
      cases x <;> cases y <;> simp only [eqE] at hr <;> (try (cases hr; done)) <;> (cases hr; simp [toV, Op.equalIn, run_underlying hu])
    · rename_i e hu
      cases h
      have hu := und_ok hE hu
      cases x <;> cases y <;> simp only [eqE] at hr <;> (try (cases hr; done)) <;> (cases hr; simp [toV, Op.equalIn, run_underlying hu])
    · rename_i a b c hu
      cases h
      have hu := und_ok hE hu
      cases x <;> cases y <;> simp only [eqE] at hr <;> (try (cases hr; done)) <;> (cases hr; simp [toV, Op.equalIn, run_underlying hu])
    · rename_i ms hu
      cases h
      have hu := und_ok hE hu
      cases x <;> cases y <;> simp only [eqE] at hr <;> (try (cases hr; done)) <;> (cases hr; simp [toV, Op.equalIn, run_underlying hu])
    · rename_i fs hu
      have hu := und_ok hE hu
      cases hm : memN E.eqOk t with
      | false => rw [hm] at h; cases h
      | true =>
        rw [hm] at h
        simp only [cond_true] at h
        split at h
        · rename_i l hl
          cases h
          obtain ⟨h1, _, h3⟩ := hE.eq t hm
          rw [fieldsOf_und hu] at h3
          cases x <;> cases y <;> simp only [eqE] at hr <;> try (cases hr; done)
          rename_i xs ys
          simp only [toV]
          rw [run_equalIn_struct w n t _ _ (by rw [fieldsOf_und hu]; exact hu) h1, fieldsOf_und hu]
          refine eqs_ok σ w d fs.toList l xs ys r n hl hr (by omega) fun f hf => ?_
          have := Array.all_eq_true_iff_forall_mem.1 h3 f (Array.mem_toList_iff.1 hf)
          simpa using this
        · cases h
    · cases h
theorem eqs_ok (σ : Sg) (w : World) : ∀ (d : Nat) (fs : List Field) (l : List (Option Nat × Nat × EqD)) (xs ys : List AV) (r : Bool) (n : Nat), eqsC E d fs = some l → eqsE l xs ys = some r → d ≤ n →
    (∀ f ∈ fs, f.name ≠ "_") → (Op.eqFields n ⟨toVs σ xs⟩ ⟨toVs σ ys⟩ fs).run P w = .ok r w
  | 0, _, _, _, _, _, _, h, _, _, _ => by simp [eqsC] at h
  | d + 1, [], l, xs, ys, r, n, h, hr, hn, hf => by
    simp only [eqsC] at h
    cases h
    simp only [eqsE] at hr
    cases hr
    rfl
  | d + 1, f :: fs, l, xs, ys, r, n, h, hr, hn, hf => by
    rw [eqsC] at h
    split at h
    · rename_i k q l' h1 h2 h3
      cases h
      simp only [eqsE] at hr
      split at hr
      · rename_i a b ha hb
        have e1 := (part_ok hE h1 ha σ w).1
        have e2 := (part_ok hE h1 hb σ w).1
        simp only [Op.eqFields, if_pos (hf f (List.mem_cons_self ..)), Sem.run_bind, e1, e2, Result.andThen_ok]
        split at hr
        · rename_i hq
          rw [eq_ok σ w d f.type q a b true n h2 hq (by omega)]
          simp only [Result.andThen_ok, Bool.not_true, Bool.false_eq_true, if_false]
          exact eqs_ok σ w d fs l' xs ys r n h3 hr (by omega) fun g hg => hf g (List.mem_cons_of_mem _ hg)
        · rename_i hq
          cases r with
          | true => exact absurd hr hq
          | false =>
            rw [eq_ok σ w d f.type q a b false n h2 hr (by omega)]
            simp
      · cases hr
    · cases h
end

theorem eqOp_ok {t : Nat} {q : EqD} (hq : eqC E 100 t = some q) {s : Bool} {x y : AV} {v : AV} {xo yo : Operand} (h : eqOpE s q (isConst xo || isConst yo) x y = some v) (σ : Sg) (w : World)
    (hni : ∀ k, und E t ≠ some (.int k)) (hns : und E t ≠ some .string) :
    (do eqGuard (cond s .eql .neq) t xo yo (toV σ x) (toV σ y); Go.binOp (cond s .eql .neq) t (toV σ x) (toV σ y) : Sem Value).run P w = .ok (toV σ v) w ∧ ∀ D, okV D v := by
  unfold eqOpE at h
  cases hnil : (nilifs x y && !(isConst xo || isConst yo)) with
  | true => rw [hnil] at h; cases h
  | false =>
    rw [hnil] at h
    simp only [cond_false] at h
    split at h
    · rename_i r hr
      cases h
      refine ⟨?_, fun _ => trivial⟩
      have hg : (eqGuard (cond s .eql .neq) t xo yo (toV σ x) (toV σ y)).run P w = .ok () w := by
        refine run_eqGuard_free _ _ _ _ _ _ _ (fun c d hc hd => ?_) (fun hc hd => ?_)
        · cases x <;> simp only [toV] at hc <;> try (cases hc; done)
          cases y <;> simp only [toV] at hd <;> try (cases hd; done)
          cases q <;> simp only [eqE] at hr <;> try (cases hr; done)
          rw [eqC] at hq
          split at hq <;> try (cases hq; done)
          cases hm : memN E.eqOk t with
          | false => rw [hm] at hq; cases hq
          | true => exact (hE.eq t hm).2.1
        · cases x <;> simp only [toV] at hc <;> try (cases hc; done)
          cases y <;> simp only [toV] at hd <;> try (cases hd; done)
          simp only [nilifs, Bool.true_and, Bool.not_eq_false'] at hnil
          simpa using hnil
      have he := eq_ok hE σ w 100 t q x y r 10000 hq hr (by omega)
      simp only [Sem.run_bind, hg, Result.andThen_ok]
      have hb : Go.binOp (cond s .eql .neq) t (toV σ x) (toV σ y) = (do let r ← Op.equal t (toV σ x) (toV σ y); pure (.bool (cond s r (!r))) : Sem Value) := by
        cases q <;> cases x <;> cases y <;> simp only [eqE] at hr <;> (try (cases hr; done)) <;> first
          | (cases s <;> rfl)
          | (exfalso
             rw [eqC] at hq
             split at hq <;> first | (cases hq; done) | (rename_i hu; exact hns hu) | (rename_i k hu; exact hni k hu) | (rename_i hu; exact hni _ hu) | (cases hm : memN E.eqOk t <;> rw [hm] at hq <;> simp only [cond_true, cond_false] at hq <;> first | (cases hq; done) | (split at hq <;> cases hq)))
      rw [hb]
      simp only [Op.equal, Op.maxDepth, Sem.run_bind, he, Result.andThen_ok, Sem.run_pure, toV]
    · cases h
end
end Go.Ab
