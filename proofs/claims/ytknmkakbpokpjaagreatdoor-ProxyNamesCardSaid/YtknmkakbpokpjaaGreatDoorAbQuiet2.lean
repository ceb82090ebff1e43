/-
  The evaluator's quiet operations are the model's, one by one.
-/
import Derived.Test.YtknmkakbpokpjaaGreatDoorAbQuiet
import Derived.Laws.BytesString
import Derived.Laws.RangeString
namespace Go.Ab

inductive F2 {α β : Type} (R : α → β → Prop) : List α → List β → Prop where
  | nil : F2 R [] []
  | cons {x : α} {y : β} {l : List α} {r : List β} (h : R x y) (t : F2 R l r) : F2 R (x :: l) (y :: r)

theorem fill_ok (σ : Sg) {D : Nat → Prop} (fr : T AV) (place : Nat → Option (Nat × Nat)) (a : Act) : ∀ (ps : List (Nat × Operand)) (l : List (Nat × Nat × AO)) (z r : List AV),
    (∀ p ∈ l, okV D (aget fr p.2.2)) → okVs D z → fillE fr l z = some r →
    F2 (fun (p : Nat × Operand) (q : Nat × Nat × AO) => place p.1 = some (q.1, q.2.1) ∧ a.eval p.2 = toV σ (aget fr q.2.2)) ps l →
    Instr.fill place ⟨toVs σ z⟩ (ps.map fun p => (p.1, a.eval p.2)) = some ⟨toVs σ r⟩ ∧ okVs D r ∧ r.length = z.length := by
  intro ps l z r hok hz hr h
  induction h generalizing z with
  | nil => cases hr; exact ⟨rfl, hz, rfl⟩
  | @cons p q ps l hpq _ ih =>
    obtain ⟨i, x⟩ := p
    obtain ⟨off, k, y⟩ := q
    obtain ⟨h1, h2⟩ := hpq
    have e : fillE fr ((off, k, y) :: l) z = cond (Nat.beq (cellsA (aget fr y)).length k) (Option.rec (motive := fun _ => Option (List AV)) none (fun r => fillE fr l r) (splice off (cellsA (aget fr y)) z)) none := rfl
    rw [e, ob_eq] at hr
    cases hb : Nat.beq (cellsA (aget fr y)).length k with
    | false => rw [hb] at hr; cases hr
    | true =>
      rw [hb] at hr
      have hk := Nat.eq_of_beq_eq_true hb
      cases hs : splice off (cellsA (aget fr y)) z with
      | none => rw [hs] at hr; cases hr
      | some z' =>
        rw [hs] at hr
        simp only [cond_true, Option.bind_some] at hr
        have hoy := okV_cells (hok (off, k, y) (List.mem_cons_self ..))
        obtain ⟨g1, g2, g3, g4⟩ := splice_get hs
        obtain ⟨r1, r2, r3⟩ := ih z' (fun p hp => hok p (List.mem_cons_of_mem _ hp)) (okVs_splice hz hoy hs) hr
        refine ⟨?_, r2, r3.trans g1⟩
        simp only [List.map_cons, Instr.fill, h1, h2, toV_cells]
        have hsz : (⟨toVs σ (cellsA (aget fr y))⟩ : Array Value).size = k := by simp [toVs_len, hk]
        have hfit : ¬ (off + k > (⟨toVs σ z⟩ : Array Value).size) := by simp only [List.size_toArray, toVs_len]; omega
        simp only [hsz, ne_eq, not_true_eq_false]
        have key : Array.foldl (fun cs (x : Value × Nat) => cs.setIfInBounds (off + x.2) x.1) (⟨toVs σ z⟩ : Array Value) (⟨toVs σ (cellsA (aget fr y))⟩ : Array Value).zipIdx = ⟨toVs σ z'⟩ := by
          rw [splice_eq] at hs
          split at hs
          · rename_i hle
            cases hs
            have gen : ∀ (vs : List Value) (i : Nat) (cs : List Value), off + i + vs.length ≤ cs.length →
                List.foldl (fun (cs : Array Value) (x : Value × Nat) => cs.setIfInBounds (off + x.2) x.1) (⟨cs⟩ : Array Value) (vs.zipIdx i) = ⟨cs.take (off + i) ++ vs ++ cs.drop (off + i + vs.length)⟩ := by
              intro vs
              induction vs with
              | nil => intro i cs _; simp
              | cons v vs ihv =>
                intro i cs hle
                simp only [List.length_cons] at hle
                simp only [List.zipIdx_cons, List.foldl_cons, List.setIfInBounds_toArray]
                rw [ihv (i + 1) (cs.set (off + i) v) (by rw [List.length_set]; omega)]
                congr 1
                apply List.ext_getElem?
                intro j
                simp only [List.getElem?_append, List.length_append, List.length_take, List.length_set, List.getElem?_take, List.getElem?_drop, List.getElem?_set, List.length_cons, List.getElem?_cons]
                have hm1 : min (off + (i + 1)) cs.length = off + i + 1 := by omega
                have hm2 : min (off + i) cs.length = off + i := by omega
                rw [hm1, hm2]
                by_cases c1 : j < off + i
                · rw [if_pos (by omega), if_pos (by omega), if_pos (by omega), if_neg (by omega), if_pos (by omega), if_pos (by omega), if_pos (by omega)]
                · by_cases c2 : j = off + i
                  · subst c2
                    rw [if_pos (by omega), if_pos (by omega), if_pos (by omega), if_pos rfl, if_pos (by omega), if_pos (by omega), if_neg (by omega), if_pos (by omega)]
                  · by_cases c3 : j < off + i + (vs.length + 1)
                    · rw [if_pos (by omega), if_neg (by omega), if_pos (by omega), if_neg (by omega), if_neg (by omega)]
                      congr 1; first | done | omega
                    · rw [if_neg (by omega), if_neg (by omega), if_neg (by omega)]
                      congr 1; first | done | omega
            rw [← Array.foldl_toList]
            simp only [Array.toList_zipIdx]
            have := gen (toVs σ (cellsA (aget fr y))) 0 (toVs σ z) (by simp only [toVs_len]; omega)
            simp only [Nat.add_zero] at this
            rw [this]
            congr 1
            simp only [toVs_append, toVs_take, toVs_drop, toVs_len]
          · rename_i hle; exact absurd g2 hle
        rw [key, if_neg (by simp only [decide_false, Bool.false_or, decide_eq_true_eq]; exact hfit)]
        exact r1

section
variable {E : Tys} {P : Program} (hE : TysOk E P) {nt : Nat} {σ : Sg} {rd : Rd} {w : World} (hR : Rel E.gl σ rd w) {fr : T AV} {a : Act} (hF : FR σ (Known rd) fr a.tmps nt)
include hR hF
theorem parts_ok {place : Nat → Option (Nat × Nat)} : ∀ {ps : List (Nat × Operand)} {l : List (Nat × Nat × AO)}, partsC E nt place ps = some l →
    F2 (fun (p : Nat × Operand) (q : Nat × Nat × AO) => place p.1 = some (q.1, q.2.1) ∧ a.eval p.2 = toV σ (aget fr q.2.2)) ps l ∧ ∀ p ∈ l, okV (Known rd) (aget fr p.2.2) := by
  intro ps
  induction ps with
  | nil => intro l h; cases h; exact ⟨.nil, fun _ h => by cases h⟩
  | cons p ps ih =>
    intro l h
    obtain ⟨i, x⟩ := p
    simp only [partsC] at h
    split at h
    · rename_i o k v hp hv
      split at h
      · rename_i r hr
        cases h
        obtain ⟨h1, h2⟩ := ao_ok hR hF hv
        obtain ⟨h3, h4⟩ := ih hr
        refine ⟨.cons ⟨hp, h1⟩ h3, fun p hp => ?_⟩
        rcases List.mem_cons.1 hp with rfl | hp
        · exact h2
        · exact h4 p hp
      · cases h
    · cases h
end

theorem places_ok {E : Tys} {P : Program} (hE : TysOk E P) (w : World) : ∀ (fs : List Field) (pl : List (Nat × Nat)), placesC E fs = some pl →
    (fs.mapM fun f => (do pure (f.offset, ← sizeOf f.type) : Sem (Nat × Nat))).run P w = .ok pl w := by
  intro fs
  induction fs with
  | nil => intro pl h; cases h; rfl
  | cons f fs ih =>
    intro pl h
    simp only [placesC] at h
    split at h
    · rename_i k hk
      split at h
      · rename_i r hr
        cases h
        simp only [List.mapM_cons, Sem.run_bind, run_size hE hk, Result.andThen_ok, Sem.run_pure, ih r hr]
      · cases h
    · cases h

theorem getD_zip_reps {z : List Value} (k n : Nat) (hz : z.length = k) (zz : Array Value) (hzz : zz = ⟨z⟩) :
    (Array.range (n * k)).map (fun i => zz[i % zz.size]!) = (⟨(List.replicate n z).flatten⟩ : Array Value) := by
  subst hzz
  apply Array.ext'
  simp only [Array.toList_map, Array.toList_range, List.size_toArray, hz]
  induction n with
  | zero => simp
  | succ n ih =>
    rw [Nat.succ_mul, Nat.add_comm, List.replicate_succ, List.flatten_cons, ← ih]
    apply List.ext_getElem?
    intro j
    by_cases hj : j < k
    · rw [List.getElem?_append_left (by rw [hz]; exact hj), List.getElem?_map, List.getElem?_range (by omega), Option.map_some, Nat.mod_eq_of_lt hj]
      rw [List.getElem?_eq_getElem (by omega)]
      simp [hj, hz]
    · rw [List.getElem?_append_right (by omega), hz, List.getElem?_map, List.getElem?_map]
      by_cases h2 : j < k + n * k
      · rw [List.getElem?_range h2, List.getElem?_range (by omega), Option.map_some, Option.map_some, Nat.mod_eq_sub_mod (by omega)]
      · rw [List.getElem?_eq_none (by simp; omega), List.getElem?_eq_none (by simp; omega)]

theorem reps_eq (z : List AV) (n : Nat) : reps z n = (List.replicate n z).flatten := by
  induction n with
  | zero => rfl
  | succ n ih => show z ++ reps z n = _; rw [ih, List.replicate_succ, List.flatten_cons]
theorem toVs_reps (σ : Sg) (z : List AV) (n : Nat) : toVs σ (reps z n) = (List.replicate n (toVs σ z)).flatten := by
  induction n with
  | zero => rfl
  | succ n ih => show toVs σ (z ++ reps z n) = _; rw [toVs_append, ih, List.replicate_succ, List.flatten_cons]
theorem len_reps (z : List AV) (n : Nat) : (reps z n).length = n * z.length := by
  induction n with
  | zero => show 0 = _; omega
  | succ n ih => show (z ++ reps z n).length = _; rw [List.length_append, ih, Nat.succ_mul, Nat.add_comm]
theorem okVs_reps {D : Nat → Prop} {z : List AV} (h : okVs D z) (n : Nat) : okVs D (reps z n) := by
  induction n with
  | zero => exact trivial
  | succ n ih => exact okVs_append.2 ⟨h, ih⟩
end Go.Ab
