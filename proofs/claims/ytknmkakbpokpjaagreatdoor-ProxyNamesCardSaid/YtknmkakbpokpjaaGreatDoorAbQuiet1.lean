/-
  The evaluator's quiet operations are the model's: parts of values, numbers, texts, comparisons.
-/
import Derived.Test.YtknmkakbpokpjaaGreatDoorAbRel
import Derived.Laws.Build
import Derived.Laws.IdiomStrings
import Derived.Laws.StructEq
import Derived.Laws.MakeOwn
namespace Go.Ab

structure TysOk (E : Tys) (P : Program) : Prop where
  ty : ∀ t i, E.ty.get t = some i → P.info? t = some i
  eq : ∀ t, memN E.eqOk t = true → P.stoodInHeld t = false ∧ P.eqGuardType P.depth t = false ∧ ((P.fieldsOf t).all fun f => f.name != "_") = true

theorem memN_iff (l : List Nat) (n : Nat) : memN l n = true ↔ n ∈ l := by
  induction l with
  | nil => simp [memN]
  | cons x l ih =>
    simp only [memN, List.mem_cons]
    cases h : x.beq n with
    | true => simp [Nat.eq_of_beq_eq_true h]
    | false => simp [ih, Ne.symm (Nat.ne_of_beq_eq_false h)]

section
variable {E : Tys} {P : Program} (hE : TysOk E P)
include hE
theorem und_ok {t : Nat} {d : TypeDesc} (h : und E t = some d) : P.underlying t = some d := by
  unfold und at h
  split at h
  · rename_i i hi
    have h1 := hE.ty t i hi
    unfold Program.underlying
    rw [h1]
    split at h
    · rename_i n u hd
      split at h
      · rename_i j hj
        cases h
        have h2 := hE.ty u j hj
        obtain ⟨desc, _⟩ := i
        simp only at hd
        subst hd
        simp only [h2, Option.map_some]
      · cases h
    · rename_i hd
      cases h
      obtain ⟨desc, _⟩ := i
      cases desc <;> first | rfl | exact absurd rfl (hd _ _)
  · cases h
theorem run_und {t : Nat} {d : TypeDesc} (h : und E t = some d) (w : World) : (underlying t).run P w = .ok d w := by
  unfold underlying
  simp only [Sem.run_bind, run_program, Result.andThen_ok, und_ok hE h, Sem.run_pure]
theorem run_info {t : Nat} {i : TypeInfo} (h : E.ty.get t = some i) (w : World) : (typeInfo t).run P w = .ok i w := by
  unfold typeInfo
  simp only [Sem.run_bind, run_program, Result.andThen_ok, hE.ty t i h, Sem.run_pure]
theorem run_size {t k : Nat} (h : sizeT E t = some k) (w : World) : (sizeOf t).run P w = .ok k w := by
  unfold sizeT at h
  split at h
  · rename_i i hi
    cases h
    unfold sizeOf
    simp only [Sem.run_bind, run_info hE hi, Result.andThen_ok, Sem.run_pure]
  · cases h
theorem run_isAgg {t : Nat} {d : TypeDesc} (h : und E t = some d) (w : World) : (isAgg t).run P w = .ok (isAggD d) w := by
  unfold isAgg
  simp only [Sem.run_bind, run_und hE h, Result.andThen_ok]
  cases d <;> rfl
theorem form_ok {t : Nat} {k : Option Nat} (h : formT E t = some k) (w : World) :
    (∃ n, k = some n ∧ (isAgg t).run P w = .ok true w ∧ (sizeOf t).run P w = .ok n w) ∨ (k = none ∧ (isAgg t).run P w = .ok false w) := by
  unfold formT at h
  split at h
  · rename_i d hd
    have h1 := run_isAgg hE hd w
    split at h
    · rename_i ha
      rw [ha] at h1
      split at h
      · rename_i n hn
        cases h
        exact .inl ⟨n, rfl, h1, run_size hE hn w⟩
      · cases h
    · rename_i ha
      rw [ha] at h1
      cases h
      exact .inr ⟨rfl, h1⟩
  · cases h
theorem zero_ok {t : Nat} {z : List AV} (h : zeroT E t = some z) (σ : Sg) (D : Nat → Prop) (w : World) :
    ∃ i v, E.ty.get t = some i ∧ i.zero = some v ∧ (zeroValue t).run P w = .ok v w ∧ v.cells = ⟨toVs σ z⟩ ∧ z.length = i.size ∧ okVs D z := by
  unfold zeroT at h
  split at h
  · rename_i i hi
    split at h
    · rename_i v hv
      split at h
      · rename_i x hx
        cases hb : (cellsA x).length.beq i.size with
        | false => rw [hb] at h; cases h
        | true =>
          rw [hb] at h
          cases h
          obtain ⟨h1, h2⟩ := ofVal_ok σ D v x hx
          refine ⟨i, v, hi, hv, ?_, ?_, Nat.eq_of_beq_eq_true hb, okV_cells h2⟩
          · unfold zeroValue
            simp only [Sem.run_bind, run_info hE hi, Result.andThen_ok, hv, Sem.run_pure]
          · rw [← h1, toV_cells]
      · cases h
    · cases h
  · cases h
end

theorem toVs_get (σ : Sg) (l : List AV) (i : Nat) : (toVs σ l)[i]? = (l[i]?).map (toV σ) := by rw [toVs_map, List.getElem?_map]
theorem toVs_len (σ : Sg) (l : List AV) : (toVs σ l).length = l.length := by rw [toVs_map, List.length_map]
theorem toVs_append (σ : Sg) (l r : List AV) : toVs σ (l ++ r) = toVs σ l ++ toVs σ r := by simp [toVs_map]
theorem toVs_take (σ : Sg) (l : List AV) (n : Nat) : toVs σ (l.take n) = (toVs σ l).take n := by simp [toVs_map]
theorem toVs_drop (σ : Sg) (l : List AV) (n : Nat) : toVs σ (l.drop n) = (toVs σ l).drop n := by simp [toVs_map]
theorem okVs_get {D : Nat → Prop} {l : List AV} (h : okVs D l) {i : Nat} {v : AV} (hi : l[i]? = some v) : okV D v := okVs_all.1 h v (List.mem_of_getElem? hi)
theorem okVs_cut {D : Nat → Prop} {l r : List AV} {o n : Nat} (h : okVs D l) (hc : cut l o n = some r) : okVs D r := by
  rw [cut_eq] at hc
  split at hc
  · cases hc
    exact okVs_all.2 fun v hv => okVs_all.1 h v (List.mem_of_mem_drop (List.mem_of_mem_take hv))
  · cases hc
theorem okVs_append {D : Nat → Prop} {l r : List AV} : okVs D (l ++ r) ↔ okVs D l ∧ okVs D r := by
  simp only [okVs_all, List.mem_append]
  exact ⟨fun h => ⟨fun v hv => h v (.inl hv), fun v hv => h v (.inr hv)⟩, fun h v hv => hv.elim (h.1 v) (h.2 v)⟩
theorem okVs_splice {D : Nat → Prop} {l r vs : List AV} {o : Nat} (h : okVs D l) (hv : okVs D vs) (hs : splice o vs l = some r) : okVs D r := by
  rw [splice_eq] at hs
  split at hs
  · cases hs
    refine okVs_append.2 ⟨okVs_append.2 ⟨?_, hv⟩, ?_⟩
    · exact okVs_all.2 fun v hm => okVs_all.1 h v (List.mem_of_mem_take hm)
    · exact okVs_all.2 fun v hm => okVs_all.1 h v (List.mem_of_mem_drop hm)
  · cases hs

section
variable {E : Tys} {P : Program} (hE : TysOk E P)
include hE
theorem part_ok {t : Nat} {k : Option Nat} (h : formT E t = some k) {l : List AV} {off : Nat} {v : AV} (hv : partE k l off = some v) (σ : Sg) (w : World) :
    (part t ⟨toVs σ l⟩ off).run P w = .ok (toV σ v) w ∧ ∀ D, okVs D l → okV D v := by
  unfold part
  rcases form_ok hE h w with ⟨n, rfl, h1, h2⟩ | ⟨rfl, h1⟩
  · have hv' : (Option.rec (motive := fun _ => Option AV) none (fun r => some (.agg r)) (cut l off n)) = some v := hv
    rw [ob_eq] at hv'
    cases hc : cut l off n with
    | none => rw [hc] at hv'; cases hv'
    | some r =>
      rw [hc] at hv'
      cases hv'
      refine ⟨?_, fun D hl => okVs_cut hl hc⟩
      simp only [Sem.run_bind, h1, h2, Result.andThen_ok, if_true, Sem.run_pure, toV]
      rw [cut_eq] at hc
      split at hc
      · cases hc
        congr 3
        apply Array.ext'
        simp only [Array.toList_extract, List.extract_eq_take_drop, toVs_take, toVs_drop]
        congr 1
        omega
      · cases hc
  · have hv' : nth l off = some v := hv
    rw [nth_eq] at hv'
    refine ⟨?_, fun D hl => okVs_get hl hv'⟩
    have : (⟨toVs σ l⟩ : Array Value)[off]? = some (toV σ v) := by
      rw [List.getElem?_toArray, toVs_get, hv']; rfl
    simp only [Sem.run_bind, h1, Result.andThen_ok, Bool.false_eq_true, if_false, this, Sem.run_pure]
end

/-- A cell that a name's block holds. -/
theorem Rel.cell {G : List Nat} {σ : Sg} {rd : Rd} {w : World} (h : Rel G σ rd w) {n : Nat} {l : List AV} (hn : blkOf rd n = some l) {i : Nat} {v : AV} (hi : l[i]? = some v) :
    w.cell? ⟨(σ n).blk, (σ n).off + i, none⟩ = some (toV σ v) := by
  unfold blkOf at hn
  split at hn
  · rename_i l' ro k hr
    cases hn
    obtain ⟨c, e, fz, hc, h1, _⟩ := h.cells n l ro k hr
    simp only [World.cell?, hc]
    exact h1 i v hi
  · cases hn
theorem Rel.okl {G : List Nat} {σ : Sg} {rd : Rd} {w : World} (h : Rel G σ rd w) {n : Nat} {l : List AV} (hn : blkOf rd n = some l) : okVs (Known rd) l := by
  unfold blkOf at hn
  split at hn
  · rename_i l' ro k hr
    cases hn
    exact h.ok n l ro k hr
  · cases hn

theorem addr_add (b o n : Nat) : (⟨b, o, none⟩ : Addr).add n = ⟨b, o + n, none⟩ := by
  unfold Addr.add
  split
  · rename_i h; subst h; rfl
  · rfl

theorem run_cells {P : Program} {G : List Nat} {σ : Sg} {rd : Rd} {w : World} (h : Rel G σ rd w) {n : Nat} {l r : List AV} (hn : blkOf rd n = some l) {off k : Nat} (hc : cut l off k = some r) :
    (loadCells ⟨(σ n).blk, (σ n).off + off, none⟩ k).run P w = .ok ⟨toVs σ r⟩ w := by
  obtain ⟨h1, h2, h3⟩ := cut_get hc
  have := run_loadCells_list (P := P) (w := w) ⟨(σ n).blk, (σ n).off + off, none⟩ (toVs σ r) fun j v hj => by
    rw [addr_add]
    rw [toVs_get] at hj
    cases hr : r[j]? with
    | none => rw [hr] at hj; cases hj
    | some u =>
      rw [hr] at hj
      cases hj
      have hlt : j < k := by
        rw [← h1]
        exact (List.getElem?_eq_some_iff.1 hr).1
      rw [h3 j hlt] at hr
      rw [Nat.add_assoc]
      exact h.cell hn hr
  rw [toVs_len, h1] at this
  simpa using this

section
variable {E : Tys} {P : Program} (hE : TysOk E P)
include hE
theorem load_ok {t : Nat} {k : Option Nat} (hf : formT E t = some k) {G : List Nat} {σ : Sg} {rd : Rd} {w : World} (h : Rel G σ rd w) {n : Nat} {l : List AV}
    (hn : blkOf rd n = some l) {off : Nat} {v : AV} (hv : partE k l off = some v) :
    (loadVar t ⟨(σ n).blk, (σ n).off + off, none⟩).run P w = .ok (toV σ v) w ∧ okV (Known rd) v := by
  unfold loadVar
  rcases form_ok hE hf w with ⟨m, rfl, h1, h2⟩ | ⟨rfl, h1⟩
  · have hv' : (Option.rec (motive := fun _ => Option AV) none (fun r => some (.agg r)) (cut l off m)) = some v := hv
    rw [ob_eq] at hv'
    cases hc : cut l off m with
    | none => rw [hc] at hv'; cases hv'
    | some r =>
      rw [hc] at hv'
      cases hv'
      refine ⟨?_, okVs_cut (h.okl hn) hc⟩
      simp only [Sem.run_bind, h1, h2, Result.andThen_ok, if_true, run_cells h hn hc, Sem.run_pure, toV]
  · have hv' : nth l off = some v := hv
    rw [nth_eq] at hv'
    refine ⟨?_, okVs_get (h.okl hn) hv'⟩
    simp only [Sem.run_bind, h1, Result.andThen_ok, Bool.false_eq_true, if_false, run_load, h.cell hn hv']
end
end Go.Ab
