/-
  What a step looks at; writes to different places change places.
-/
import Derived.Test.YtknmkakbpokpjaaGreatDoorAbRegion
namespace Go.Ab

namespace T
variable {α : Type}
theorem setF_fuel : ∀ (f g : Nat) (t : T α) (k : Nat) (x : α), k < f → k < g → setF f t k x = setF g t k x := by
  intro f
  induction f with
  | zero => intro g t k x h; omega
  | succ f ih =>
    intro g t k x h1 h2
    obtain ⟨g, rfl⟩ : ∃ m, g = m + 1 := ⟨g - 1, by omega⟩
    cases t with
    | e =>
      rw [setF_succ_e, setF_succ_e]
      by_cases hk : k = 0
      · rw [if_pos hk, if_pos hk]
      · rw [if_neg hk, if_neg hk, ih g .e (k / 2) x (by omega) (by omega), ih g .e (k / 2 - 1) x (by omega) (by omega)]
    | n v l r =>
      rw [setF_succ_n, setF_succ_n]
      by_cases hk : k = 0
      · rw [if_pos hk, if_pos hk]
      · rw [if_neg hk, if_neg hk, ih g l (k / 2) x (by omega) (by omega), ih g r (k / 2 - 1) x (by omega) (by omega)]
/-- A tree, opened. -/
def opn : T α → Option α × T α × T α
  | .e => (none, .e, .e)
  | .n v l r => (v, l, r)
theorem setF_opn (f : Nat) (t : T α) (k : Nat) (x : α) : setF (f + 1) t k x =
    if k = 0 then .n (some x) t.opn.2.1 t.opn.2.2 else if k % 2 = 1 then .n t.opn.1 (setF f t.opn.2.1 (k / 2) x) t.opn.2.2 else .n t.opn.1 t.opn.2.1 (setF f t.opn.2.2 (k / 2 - 1) x) := by
  cases t with
  | e => rw [setF_succ_e]; rfl
  | n v l r => rw [setF_succ_n]; rfl
theorem setF_comm : ∀ (f : Nat) (t : T α) (k j : Nat) (x y : α), k < f → j < f → k ≠ j → setF f (setF f t k x) j y = setF f (setF f t j y) k x := by
  intro f
  induction f with
  | zero => intro t k j x y h; omega
  | succ f ih =>
    intro t k j x y h1 h2 hne
    rw [setF_opn f (setF (f + 1) t k x) j y, setF_opn f (setF (f + 1) t j y) k x, setF_opn f t k x, setF_opn f t j y]
    by_cases hk : k = 0
    · subst hk
      have hj : ¬ j = 0 := fun e => hne e.symm
      simp only [if_true, if_neg hj, opn]
      by_cases hj2 : j % 2 = 1
      · simp only [if_pos hj2]
      · simp only [if_neg hj2]
    · by_cases hj : j = 0
      · subst hj
        simp only [if_neg hk, if_true, opn]
        by_cases hk2 : k % 2 = 1
        · simp only [if_pos hk2]
        · simp only [if_neg hk2]
      · simp only [if_neg hk, if_neg hj]
        by_cases hk2 : k % 2 = 1
        · by_cases hj2 : j % 2 = 1
          · simp only [if_pos hk2, if_pos hj2, opn]
            rw [ih _ (k / 2) (j / 2) x y (by omega) (by omega) (by omega)]
          · simp only [if_pos hk2, if_neg hj2, opn]
        · by_cases hj2 : j % 2 = 1
          · simp only [if_neg hk2, if_pos hj2, opn]
          · simp only [if_neg hk2, if_neg hj2, opn]
            rw [ih _ (k / 2 - 1) (j / 2 - 1) x y (by omega) (by omega) (by omega)]
theorem set_comm (t : T α) (k j : Nat) (x y : α) (h : k ≠ j) : (t.set k x).set j y = (t.set j y).set k x := by
  have key : ∀ (t : T α) (k : Nat) (x : α), t.set k x = setF (max k j + max k j + k + j + 1) t k x := fun t k' x => setF_fuel _ _ t k' x (Nat.lt_succ_self _) (by omega)
  unfold set
  rw [setF_fuel (Nat.succ k) (k + j + 1) t k x (by omega) (by omega), setF_fuel (Nat.succ j) (k + j + 1) _ j y (by omega) (by omega),
    setF_fuel (Nat.succ j) (k + j + 1) t j y (by omega) (by omega), setF_fuel (Nat.succ k) (k + j + 1) _ k x (by omega) (by omega)]
  exact setF_comm _ t k j x y (by omega) (by omega) h
end T

/-- Two frames that agree on some slots. -/
def Agree (l : List Nat) (fr fr' : T AV) : Prop := ∀ t ∈ l, fget fr t = fget fr' t
theorem Agree.left {l r : List Nat} {fr fr' : T AV} (h : Agree (l ++ r) fr fr') : Agree l fr fr' := fun t ht => h t (List.mem_append_left _ ht)
theorem Agree.right {l r : List Nat} {fr fr' : T AV} (h : Agree (l ++ r) fr fr') : Agree r fr fr' := fun t ht => h t (List.mem_append_right _ ht)
theorem aget_congr {x : AO} {fr fr' : T AV} (h : Agree (otA x) fr fr') : aget fr x = aget fr' x := by
  cases x with
  | t i => exact h i (List.mem_singleton.2 rfl)
  | c v => rfl
theorem agets_congr {fr fr' : T AV} : ∀ {l : List AO}, Agree (otsA l) fr fr' → agets fr l = agets fr' l
  | [], _ => rfl
  | x :: l, h => by
    have h' : Agree (otA x ++ otsA l) fr fr' := h
    show aget fr x :: agets fr l = aget fr' x :: agets fr' l
    rw [aget_congr h'.left, agets_congr h'.right]
theorem agetO_congr {x : Option AO} {fr fr' : T AV} (h : Agree (otO x) fr fr') : agetO fr x = agetO fr' x := by
  cases x with
  | none => rfl
  | some x => show some (aget fr x) = some (aget fr' x); rw [aget_congr h]
theorem fillE_congr {fr fr' : T AV} : ∀ {l : List (Nat × Nat × AO)} {z : List AV}, Agree (otP l) fr fr' → fillE fr l z = fillE fr' l z
  | [], _, _ => rfl
  | (o, k, x) :: l, z, h => by
    have h' : Agree (otA x ++ otP l) fr fr' := h
    have e : ∀ fr, fillE fr ((o, k, x) :: l) z = cond (Nat.beq (cellsA (aget fr x)).length k) (Option.rec (motive := fun _ => Option (List AV)) none (fun r => fillE fr l r) (splice o (cellsA (aget fr x)) z)) none := fun _ => rfl
    rw [e fr, e fr', ob_eq, ob_eq, aget_congr h'.left]
    congr 2
    funext r
    exact fillE_congr h'.right

theorem quiet_fr {op : AOp} {rd : Rd} {fr fr' : T AV} (h : Agree (tmpsA op) fr fr') : quiet op rd fr = quiet op rd fr' := by
  cases op with
  | mov x => show q_mov x rd fr = q_mov x rd fr'; unfold q_mov; rw [aget_congr h]
  | pick c x y => show q_pick c x y rd fr = q_pick c x y rd fr'; unfold q_pick; rw [aget_congr h.left.left, aget_congr h.left.right, aget_congr h.right]
  | mkc l => rfl
  | box x => show q_box x rd fr = q_box x rd fr'; unfold q_box; rw [aget_congr h]
  | build z ps => show q_build z ps rd fr = q_build z ps rd fr'; unfold q_build; rw [fillE_congr h]
  | buildSl z n ps => show q_buildSl z n ps rd fr = q_buildSl z n ps rd fr'; unfold q_buildSl; rw [fillE_congr h]
  | load k x => show q_load k x rd fr = q_load k x rd fr'; unfold q_load; rw [aget_congr h]
  | nilCheck x => show q_nilCheck x rd fr = q_nilCheck x rd fr'; unfold q_nilCheck; rw [aget_congr h]
  | bin o x y => show q_bin o x y rd fr = q_bin o x y rd fr'; unfold q_bin; rw [aget_congr h.left, aget_congr h.right]
  | eq s d c x y => show q_eq s d c x y rd fr = q_eq s d c x y rd fr'; unfold q_eq; rw [aget_congr h.left, aget_congr h.right]
  | un o x => show q_un o x rd fr = q_un o x rd fr'; unfold q_un; rw [aget_congr h]
  | cvInt k x => show q_cvInt k x rd fr = q_cvInt k x rd fr'; unfold q_cvInt; rw [aget_congr h]
  | cvRune x => show q_cvRune x rd fr = q_cvRune x rd fr'; unfold q_cvRune; rw [aget_congr h]
  | cvStr x => show q_cvStr x rd fr = q_cvStr x rd fr'; unfold q_cvStr; rw [aget_congr h]
  | cvBytes x => show q_cvBytes x rd fr = q_cvBytes x rd fr'; unfold q_cvBytes; rw [aget_congr h]
  | cvText x => show q_cvText x rd fr = q_cvText x rd fr'; unfold q_cvText; rw [aget_congr h]
  | iface t x => show q_iface t x rd fr = q_iface t x rd fr'; unfold q_iface; rw [aget_congr h]
  | func f a c => show q_func f a c rd fr = q_func f a c rd fr'; unfold q_func; rw [agets_congr h.left, agets_congr h.right]
  | mkSl z b x y => show q_mkSl z b x y rd fr = q_mkSl z b x y rd fr'; unfold q_mkSl; rw [aget_congr h.left, aget_congr h.right]
  | subS x lo hi => show q_subS x lo hi rd fr = q_subS x lo hi rd fr'; unfold q_subS; rw [aget_congr h.left.left, agetO_congr h.left.right, agetO_congr h.right]
  | sub k x lo hi mx => show q_sub k x lo hi mx rd fr = q_sub k x lo hi mx rd fr'; unfold q_sub; rw [aget_congr h.left.left.left, agetO_congr h.left.left.right, agetO_congr h.left.right, agetO_congr h.right]
  | subA n k x lo hi mx => show q_subA n k x lo hi mx rd fr = q_subA n k x lo hi mx rd fr'; unfold q_subA; rw [aget_congr h.left.left.left, agetO_congr h.left.left.right, agetO_congr h.left.right, agetO_congr h.right]
  | fAddr o x => show q_fAddr o x rd fr = q_fAddr o x rd fr'; unfold q_fAddr; rw [aget_congr h]
  | fld k o x => show q_fld k o x rd fr = q_fld k o x rd fr'; unfold q_fld; rw [aget_congr h]
  | iAddr k x y => show q_iAddr k x y rd fr = q_iAddr k x y rd fr'; unfold q_iAddr; rw [aget_congr h.left, aget_congr h.right]
  | iAddrA n k x y => show q_iAddrA n k x y rd fr = q_iAddrA n k x y rd fr'; unfold q_iAddrA; rw [aget_congr h.left, aget_congr h.right]
  | idxS x y => show q_idxS x y rd fr = q_idxS x y rd fr'; unfold q_idxS; rw [aget_congr h.left, aget_congr h.right]
  | idxA n k g x y => show q_idxA n k g x y rd fr = q_idxA n k g x y rd fr'; unfold q_idxA; rw [aget_congr h.left, aget_congr h.right]
  | rng x => show q_rng x rd fr = q_rng x rd fr'; unfold q_rng; rw [aget_congr h]
  | ext x i => show q_ext x i rd fr = q_ext x i rd fr'; unfold q_ext; rw [aget_congr h]
  | len s x => show q_len s x rd fr = q_len s x rd fr'; unfold q_len; rw [aget_congr h]
  | minmax m l => show q_minmax m l rd fr = q_minmax m l rd fr'; unfold q_minmax; rw [agets_congr h]
  | store k x y => rfl
  | next x => rfl
  | defer f l => rfl
  | call f l => rfl
  | append k b x y => rfl
  | copy k x y => rfl
theorem loud_fr {op : AOp} {call : CallE} {fr fr' : T AV} {hp : H} (h : Agree (tmpsA op) fr fr') : loudE op call fr hp = loudE op call fr' hp := by
  cases op with
  | store k x y => show l_store k x y call fr hp = l_store k x y call fr' hp; unfold l_store; rw [aget_congr h.left, aget_congr h.right]
  | next x => show l_next x call fr hp = l_next x call fr' hp; unfold l_next; rw [aget_congr h]
  | defer f l => show l_defer f l call fr hp = l_defer f l call fr' hp; unfold l_defer; rw [aget_congr h.left, agets_congr h.right]
  | call f l => show l_call f l call fr hp = l_call f l call fr' hp; unfold l_call; rw [aget_congr h.left, agets_congr h.right]
  | append k b x y => show l_append k b x y call fr hp = l_append k b x y call fr' hp; unfold l_append; rw [aget_congr h.left, aget_congr h.right]
  | copy k x y => show l_copy k x y call fr hp = l_copy k x y call fr' hp; unfold l_copy; rw [aget_congr h.left, aget_congr h.right]
  | _ => rfl
theorem rdName_fr {op : AOp} {fr fr' : T AV} (h : Agree (tmpsA op) fr fr') : rdName op fr = rdName op fr' := by
  cases op <;> first | rfl | (simp only [rdName]; rw [aget_congr h])
theorem quiet_rd {op : AOp} {rd rd' : Rd} {fr : T AV} (h : ∀ n, rdName op fr = some n → rd n = rd' n) : quiet op rd fr = quiet op rd' fr := by
  cases op <;> first | rfl | skip
  case load k x =>
    show q_load k x rd fr = q_load k x rd' fr
    unfold q_load
    split
    · rename_i n off hn
      have := h n (by simp only [rdName, hn])
      unfold blkOf
      rw [this]
    · rfl
  case cvText x =>
    show q_cvText x rd fr = q_cvText x rd' fr
    unfold q_cvText
    split
    · rfl
    · rename_i n off len cap op hn
      have := h n (by simp only [rdName, hn])
      unfold blkOf
      rw [this]
    · rfl
theorem rdName_rds {op : AOp} {fr : T AV} {n : Nat} (h : rdName op fr = some n) : rds op = true := by
  cases op <;> first | rfl | cases h

mutual
theorem eqAV_eq : ∀ a b : AV, eqAV a b = true → a = b
  | .bool a, b, h => by cases b <;> first | cases h | skip
                        rename_i b; cases a <;> cases b <;> first | rfl | cases h
  | .int k n, b, h => by
    cases b <;> first | cases h | skip
    rename_i k' n'
    simp only [eqAV, Bool.and_eq_true, kEq_eq, iEq_eq, decide_eq_true_eq] at h
    rw [h.1, h.2]
  | .str s, b, h => by
    cases b <;> first | cases h | skip
    simp only [eqAV, sEq_eq, beq_iff_eq] at h
    rw [h]
  | .nilp, b, h => by cases b <;> first | rfl | cases h
  | .ptr a c, b, h => by
    cases b <;> first | cases h | skip
    simp only [eqAV, Bool.and_eq_true, Nat.beq_eq] at h
    rw [h.1, h.2]
  | .nils, b, h => by cases b <;> first | rfl | cases h
  | .sl a c d e f, b, h => by
    cases b <;> first | cases h | skip
    rename_i a' c' d' e' f'
    simp only [eqAV, Bool.and_eq_true, Nat.beq_eq] at h
    obtain ⟨⟨⟨⟨h1, h2⟩, h3⟩, h4⟩, h5⟩ := h
    subst h1; subst h2; subst h3; subst h4
    cases f <;> cases f' <;> first | rfl | cases h5
  | .agg l, b, h => by
    cases b <;> first | cases h | skip
    rw [eqAVs_eq l _ h]
  | .tup l, b, h => by
    cases b <;> first | cases h | skip
    rw [eqAVs_eq l _ h]
  | .fn f a c, b, h => by
    cases b <;> first | cases h | skip
    simp only [eqAV, Bool.and_eq_true, Nat.beq_eq] at h
    rw [h.1.1, eqAVs_eq a _ h.1.2, eqAVs_eq c _ h.2]
  | .nilfn, b, h => by cases b <;> first | rfl | cases h
  | .iface t a, b, h => by
    cases b <;> first | cases h | skip
    simp only [eqAV, Bool.and_eq_true, Nat.beq_eq] at h
    rw [h.1, eqAV_eq a _ h.2]
  | .nilif, b, h => by cases b <;> first | rfl | cases h
theorem eqAVs_eq : ∀ a b : List AV, eqAVs a b = true → a = b
  | [], b, h => by cases b <;> first | rfl | cases h
  | x :: l, b, h => by
    cases b with
    | nil => cases h
    | cons y r =>
      simp only [eqAVs, Bool.and_eq_true] at h
      rw [eqAV_eq x y h.1, eqAVs_eq l r h.2]
end
end Go.Ab
