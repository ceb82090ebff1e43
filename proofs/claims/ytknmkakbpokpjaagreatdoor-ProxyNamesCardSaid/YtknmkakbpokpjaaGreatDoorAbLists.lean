/-
  What the evaluator's maps and lists do.
-/
import Derived.Test.YtknmkakbpokpjaaGreatDoorAbRun
namespace Go.Ab
theorem br_eq {α : Type} (b : Bool) (n y : α) : (Bool.rec (motive := fun _ => α) n y b) = if b = true then y else n := by cases b <;> rfl
theorem ob_eq {α β : Type} (o : Option α) (f : α → Option β) : (Option.rec (motive := fun _ => Option β) none f o) = o.bind f := by cases o <;> rfl
namespace T
variable {α : Type}
theorem get_e (k : Nat) : (T.e : T α).get k = none := rfl
theorem get_n (v : Option α) (l r : T α) (k : Nat) :
    (T.n v l r).get k = if k = 0 then v else if k % 2 = 1 then l.get (k / 2) else r.get (k / 2 - 1) := by
  have e : (T.n v l r).get k = Bool.rec (motive := fun _ => Option α) (Bool.rec (motive := fun _ => Option α) (r.get (k / 2 - 1)) (l.get (k / 2)) (Nat.beq (k % 2) 1)) v (Nat.beq k 0) := rfl
  rw [e, br_eq, br_eq]
  simp only [Nat.beq_eq]
theorem setF_succ_n (f : Nat) (v : Option α) (l r : T α) (k : Nat) (x : α) :
    setF (f + 1) (.n v l r) k x = if k = 0 then .n (some x) l r else if k % 2 = 1 then .n v (setF f l (k / 2) x) r else .n v l (setF f r (k / 2 - 1) x) := by
  have e : setF (f + 1) (.n v l r) k x = Bool.rec (motive := fun _ => T α) (Bool.rec (motive := fun _ => T α) (.n v l (setF f r (k / 2 - 1) x)) (.n v (setF f l (k / 2) x) r) (Nat.beq (k % 2) 1)) (.n (some x) l r) (Nat.beq k 0) := rfl
  rw [e, br_eq, br_eq]
  simp only [Nat.beq_eq]
theorem setF_succ_e (f : Nat) (k : Nat) (x : α) :
    setF (f + 1) .e k x = if k = 0 then .n (some x) .e .e else if k % 2 = 1 then .n none (setF f .e (k / 2) x) .e else .n none .e (setF f .e (k / 2 - 1) x) := by
  have e : setF (f + 1) .e k x = Bool.rec (motive := fun _ => T α) (Bool.rec (motive := fun _ => T α) (.n none .e (setF f .e (k / 2 - 1) x)) (.n none (setF f .e (k / 2) x) .e) (Nat.beq (k % 2) 1)) (.n (some x) .e .e) (Nat.beq k 0) := rfl
  rw [e, br_eq, br_eq]
  simp only [Nat.beq_eq]
theorem get_setF : ∀ (f : Nat) (t : T α) (k : Nat) (x : α) (j : Nat), k < f → (setF f t k x).get j = if j = k then some x else t.get j := by
  intro f
  induction f with
  | zero => intro t k x j h; omega
  | succ f ih =>
    intro t k x j h
    cases t with
    | e =>
      rw [setF_succ_e]
      by_cases hk : k = 0
      · subst hk
        rw [if_pos rfl, get_n]
        by_cases hj : j = 0
        · simp [hj]
        · simp [hj, get_e]
      · rw [if_neg hk]
        by_cases h2 : k % 2 = 1
        · rw [if_pos h2, get_n]
          by_cases hj : j = 0
          · subst hj; rw [if_pos rfl, if_neg (fun e => hk e.symm), get_e]
          · rw [if_neg hj]
            by_cases hj2 : j % 2 = 1
            · rw [if_pos hj2, ih _ _ _ _ (by omega)]
              by_cases e : j = k
              · subst e; simp
              · rw [if_neg e, if_neg (by omega), get_e, get_e]
            · rw [if_neg hj2, get_e, if_neg (by omega), get_e]
        · rw [if_neg h2, get_n]
          by_cases hj : j = 0
          · subst hj; rw [if_pos rfl, if_neg (fun e => hk e.symm), get_e]
          · rw [if_neg hj]
            by_cases hj2 : j % 2 = 1
            · rw [if_pos hj2, get_e, if_neg (by omega), get_e]
            · rw [if_neg hj2, ih _ _ _ _ (by omega)]
              by_cases e : j = k
              · subst e; simp
              · rw [if_neg e, if_neg (by omega), get_e, get_e]
    | n v l r =>
      rw [setF_succ_n]
      by_cases hk : k = 0
      · subst hk
        rw [if_pos rfl, get_n, get_n]
        by_cases hj : j = 0
        · simp [hj]
        · simp [hj]
      · rw [if_neg hk]
        by_cases h2 : k % 2 = 1
        · rw [if_pos h2, get_n, get_n]
          by_cases hj : j = 0
          · subst hj; rw [if_pos rfl, if_neg (fun e => hk e.symm)]; rfl
          · rw [if_neg hj]
            by_cases hj2 : j % 2 = 1
            · rw [if_pos hj2, ih _ _ _ _ (by omega)]
              by_cases e : j = k
              · subst e; simp
              · rw [if_neg e, if_neg (by omega), if_neg hj, if_pos hj2]
            · rw [if_neg hj2, if_neg (by omega), if_neg hj, if_neg hj2]
        · rw [if_neg h2, get_n, get_n]
          by_cases hj : j = 0
          · subst hj; rw [if_pos rfl, if_neg (fun e => hk e.symm)]; rfl
          · rw [if_neg hj]
            by_cases hj2 : j % 2 = 1
            · rw [if_pos hj2, if_neg (by omega), if_neg hj, if_pos hj2]
            · rw [if_neg hj2, ih _ _ _ _ (by omega)]
              by_cases e : j = k
              · subst e; simp
              · rw [if_neg e, if_neg (by omega), if_neg hj, if_neg hj2]
theorem get_set (t : T α) (k : Nat) (x : α) (j : Nat) : (t.set k x).get j = if j = k then some x else t.get j :=
  get_setF _ _ _ _ _ (Nat.lt_succ_self k)

theorem halves_get (l : List α) : ∀ i, (halves l).1[i]? = l[2 * i]? ∧ (halves l).2[i]? = l[2 * i + 1]? := by
  induction l with
  | nil => intro i; exact ⟨by simp [halves], by simp [halves]⟩
  | cons x l ih =>
    intro i
    show (x :: (halves l).2)[i]? = _ ∧ (halves l).1[i]? = _
    refine ⟨?_, ?_⟩
    · cases i with
      | zero => rfl
      | succ i =>
        rw [List.getElem?_cons_succ, (ih i).2, show 2 * (i + 1) = (2 * i + 1) + 1 by omega, List.getElem?_cons_succ]
    · rw [List.getElem?_cons_succ, (ih i).1]
theorem halves_len (l : List α) : (halves l).1.length + (halves l).2.length = l.length := by
  induction l with
  | nil => rfl
  | cons x l ih => show (x :: (halves l).2).length + (halves l).1.length = _; simp only [List.length_cons]; omega
theorem get_ofListF : ∀ (f : Nat) (l : List α) (k : Nat), l.length ≤ f → (ofListF f l).get k = l[k]? := by
  intro f
  induction f with
  | zero => intro l k h; rw [List.length_eq_zero_iff.1 (Nat.le_zero.1 h)]; rfl
  | succ f ih =>
    intro l k h
    cases l with
    | nil => rfl
    | cons x l =>
      show (T.n (some x) (ofListF f (halves l).1) (ofListF f (halves l).2)).get k = _
      have hl := halves_len l
      simp only [List.length_cons] at h
      rw [get_n]
      by_cases hk : k = 0
      · subst hk; simp
      · rw [if_neg hk]
        obtain ⟨m, rfl⟩ : ∃ m, k = m + 1 := ⟨k - 1, by omega⟩
        rw [List.getElem?_cons_succ]
        by_cases h2 : (m + 1) % 2 = 1
        · rw [if_pos h2, ih _ _ (by omega), (halves_get l _).1, show 2 * ((m + 1) / 2) = m by omega]
        · rw [if_neg h2, ih _ _ (by omega), (halves_get l _).2, show 2 * ((m + 1) / 2 - 1) + 1 = m by omega]
theorem get_ofList (l : List α) (k : Nat) : (ofList l).get k = l[k]? := get_ofListF _ _ _ (Nat.le_refl _)
end T

theorem fget_def (fr : T AV) (t : Nat) : fget fr t = (fr.get t).getD U := by unfold fget; cases fr.get t <;> rfl
theorem fget_set (fr : T AV) (i : Nat) (v : AV) (j : Nat) : fget (fr.set i v) j = if j = i then v else fget fr j := by
  rw [fget_def, T.get_set, fget_def]; split <;> simp
theorem fget_ofList (l : List AV) (j : Nat) : fget (T.ofList l) j = l.getD j U := by
  rw [fget_def, T.get_ofList]; simp

section lists
variable {α : Type}
theorem nth_eq (l : List α) : ∀ n, nth l n = l[n]? := by
  induction l with
  | nil => intro n; simp [nth]
  | cons x l ih => intro n; cases n with
    | zero => rfl
    | succ n => show nth l n = _; rw [ih]; simp
theorem takeE_eq : ∀ (n : Nat) (l : List α), takeE n l = if n ≤ l.length then some (l.take n) else none := by
  intro n
  induction n with
  | zero => intro l; simp only [Nat.zero_le, if_true, List.take_zero]; rfl
  | succ n ih =>
    intro l
    cases l with
    | nil => simp [takeE]
    | cons x r =>
      have e : takeE (n + 1) (x :: r) = Option.rec (motive := fun _ => Option (List α)) none (fun q => some (x :: q)) (takeE n r) := rfl
      rw [e, ob_eq, ih r]
      by_cases h : n ≤ r.length
      · rw [if_pos h, if_pos (by simp; exact h)]; rfl
      · rw [if_neg h, if_neg (by simp; omega)]; rfl
theorem dropE_eq : ∀ (n : Nat) (l : List α), dropE n l = if n ≤ l.length then some (l.drop n) else none := by
  intro n
  induction n with
  | zero => intro l; simp only [Nat.zero_le, if_true, List.drop_zero]; rfl
  | succ n ih =>
    intro l
    cases l with
    | nil => simp [dropE]
    | cons x r =>
      show dropE n r = _
      rw [ih r]
      by_cases h : n ≤ r.length
      · rw [if_pos h, if_pos (by simp; exact h)]; rfl
      · rw [if_neg h, if_neg (by simp; omega)]
theorem cut_eq (l : List α) (off n : Nat) : cut l off n = if off + n ≤ l.length then some ((l.drop off).take n) else none := by
  unfold cut
  rw [dropE_eq]
  by_cases h : off ≤ l.length
  · rw [if_pos h]
    show takeE n (l.drop off) = _
    rw [takeE_eq, List.length_drop]
    by_cases h2 : off + n ≤ l.length
    · rw [if_pos (by omega), if_pos h2]
    · rw [if_neg (by omega), if_neg h2]
  · rw [if_neg h, if_neg (by omega)]
theorem cut_get {l r : List α} {off n : Nat} (h : cut l off n = some r) : r.length = n ∧ off + n ≤ l.length ∧ ∀ i, i < n → r[i]? = l[off + i]? := by
  rw [cut_eq] at h
  split at h
  · rename_i hle
    cases h
    refine ⟨by rw [List.length_take, List.length_drop]; omega, hle, fun i hi => ?_⟩
    rw [List.getElem?_take, if_pos hi, List.getElem?_drop]
  · cases h
theorem over_eq (vs : List α) : ∀ l, over vs l = if vs.length ≤ l.length then some (vs ++ l.drop vs.length) else none := by
  induction vs with
  | nil => intro l; simp [over]
  | cons v vs ih =>
    intro l
    cases l with
    | nil => simp [over]
    | cons x r =>
      have e : over (v :: vs) (x :: r) = Option.rec (motive := fun _ => Option (List α)) none (fun q => some (v :: q)) (over vs r) := rfl
      rw [e, ob_eq, ih r]
      by_cases h : vs.length ≤ r.length
      · rw [if_pos h, if_pos (by simp; exact h)]; simp
      · rw [if_neg h, if_neg (by simp; omega)]; rfl
theorem splice_eq (vs : List α) : ∀ (off : Nat) (l : List α), splice off vs l = if off + vs.length ≤ l.length then some (l.take off ++ vs ++ l.drop (off + vs.length)) else none := by
  intro off
  induction off with
  | zero => intro l; show over vs l = _; rw [over_eq]; simp
  | succ n ih =>
    intro l
    cases l with
    | nil => simp [splice]
    | cons x r =>
      have e : splice (n + 1) vs (x :: r) = Option.rec (motive := fun _ => Option (List α)) none (fun q => some (x :: q)) (splice n vs r) := rfl
      rw [e, ob_eq, ih r]
      by_cases h : n + vs.length ≤ r.length
      · rw [if_pos h, if_pos (by simp; omega)]; simp [Nat.add_right_comm]
      · rw [if_neg h, if_neg (by simp; omega)]; rfl
theorem splice_get {l r vs : List α} {off : Nat} (h : splice off vs l = some r) :
    r.length = l.length ∧ off + vs.length ≤ l.length ∧ (∀ i, i < off ∨ off + vs.length ≤ i → r[i]? = l[i]?) ∧ ∀ i, i < vs.length → r[off + i]? = vs[i]? := by
  rw [splice_eq] at h
  split at h
  · rename_i hle
    cases h
    have e1 : (l.take off ++ vs).length = off + vs.length := by rw [List.length_append, List.length_take]; omega
    refine ⟨by rw [List.length_append, e1, List.length_drop]; omega, hle, fun i hi => ?_, fun i hi => ?_⟩
    · rcases hi with hi | hi
      · rw [List.getElem?_append_left (by omega), List.getElem?_append_left (by rw [List.length_take]; omega), List.getElem?_take, if_pos hi]
      · rw [List.getElem?_append_right (by omega), e1, List.getElem?_drop]
        congr 1; omega
    · rw [List.getElem?_append_left (by omega), List.getElem?_append_right (by rw [List.length_take]; omega), List.length_take]
      congr 1; omega
  · cases h
end lists
theorem ones_spec (l : List AV) : ones l = true ↔ ∀ v ∈ l, one v = true := by
  induction l with
  | nil => simp [ones]
  | cons v l ih =>
    show cond (one v) (ones l) false = true ↔ _
    cases h : one v <;> simp [h, ih]
end Go.Ab
