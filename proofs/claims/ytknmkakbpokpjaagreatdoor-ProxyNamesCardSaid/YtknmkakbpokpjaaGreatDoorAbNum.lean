/-
  The evaluator's numbers, texts and comparisons are the model's.
-/
import Derived.Test.YtknmkakbpokpjaaGreatDoorAbQuiet1
import Derived.IntWalk
namespace Go.Ab

theorem fits_wrap {k : IntKind} {n : Int} (h : fits k n = true) : k.wrap n = n := by
  cases k with
  | i8 => cases n <;> cases h
  | i16 => cases n <;> cases h
  | u16 => cases n <;> cases h
  | i64 => cases n <;> simp only [fits, Nat.ble_eq] at h <;> exact IntWalk.i64_in _ (by (try rw [Int.negSucc_eq]); (try simp only [Int.ofNat_eq_natCast]); omega)
  | i32 => cases n <;> simp only [fits, Nat.ble_eq] at h <;> exact IntWalk.i32_in _ (by (try rw [Int.negSucc_eq]); (try simp only [Int.ofNat_eq_natCast]); omega)
  | u8 =>
    cases n with
    | ofNat m => simp only [fits, Nat.ble_eq] at h; exact IntWalk.u8_in _ (by simp only [Int.ofNat_eq_natCast]; omega)
    | negSucc m => cases h
  | u32 =>
    cases n with
    | ofNat m => simp only [fits, Nat.ble_eq] at h; exact IntWalk.u32_in _ (by simp only [Int.ofNat_eq_natCast]; omega)
    | negSucc m => cases h
  | u64 =>
    cases n with
    | ofNat m => simp only [fits, Nat.ble_eq] at h; exact IntWalk.u64_in _ (by simp only [Int.ofNat_eq_natCast]; omega)
    | negSucc m => cases h
theorem wrapK_eq (k : IntKind) (n : Int) : wrapK k n = k.wrap n := by
  unfold wrapK
  cases h : fits k n with
  | true => exact (fits_wrap h).symm
  | false => rfl
theorem iLe_eq (a b : Int) : iLe a b = decide (a ≤ b) := by
  rw [Bool.eq_iff_iff, decide_eq_true_iff]
  cases a <;> cases b <;> simp only [iLe, Nat.ble_eq, Bool.false_eq_true, Int.ofNat_eq_natCast, Int.negSucc_eq, true_iff, false_iff] <;> omega
theorem iEq_eq (a b : Int) : iEq a b = decide (a = b) := by
  rw [Bool.eq_iff_iff, decide_eq_true_iff]
  cases a <;> cases b <;> simp only [iEq, Nat.beq_eq, Bool.false_eq_true, Int.ofNat_eq_natCast, Int.negSucc_eq, false_iff] <;> omega
theorem kEq_eq (a b : IntKind) : kEq a b = decide (a = b) := by cases a <;> cases b <;> rfl
theorem shlE_eq (a : Int) (n : Nat) : shlE a n = a * 2 ^ n := by
  cases a with
  | ofNat m =>
    show Int.ofNat (m * 2 ^ n) = _
    simp
  | negSucc m => rfl
theorem shrE_eq (a : Int) (n : Nat) : shrE a n = a.fdiv (2 ^ n) := by
  cases a with
  | ofNat m =>
    show Int.ofNat (m / 2 ^ n) = _
    rw [Int.fdiv_eq_ediv_of_nonneg _ (by exact Int.le_of_lt (Int.pow_pos (by decide)))]
    simp
  | negSucc m => rfl
theorem u8_eq {a b : UInt8} (h : a.toNat = b.toNat) : a = b := UInt8.toNat_inj.1 h
theorem sEq_eq : ∀ x y : List UInt8, sEq x y = (x == y)
  | [], [] => rfl
  | [], _ :: _ => rfl
  | _ :: _, [] => rfl
  | a :: x, b :: y => by
    show cond (Nat.beq a.toNat b.toNat) (sEq x y) false = _
    rw [sEq_eq x y, List.cons_beq_cons]
    cases h : Nat.beq a.toNat b.toNat with
    | true =>
      obtain rfl := u8_eq (Nat.eq_of_beq_eq_true h)
      simp
    | false =>
      have : (a == b) = false := by
        rw [beq_eq_false_iff_ne]
        exact fun e => Nat.ne_of_beq_eq_false h (by rw [e])
      simp [this]
theorem sLt_eq : ∀ x y : List UInt8, sLt x y = Op.bytesLess x y
  | [], [] => rfl
  | _ :: _, [] => rfl
  | [], _ :: _ => rfl
  | a :: x, b :: y => by
    show cond (Nat.blt a.toNat b.toNat) true (cond (Nat.beq a.toNat b.toNat) (sLt x y) false) = (decide (a < b) || (a == b && Op.bytesLess x y))
    rw [sLt_eq x y]
    have h1 : Nat.blt a.toNat b.toNat = decide (a < b) := by
      rw [Bool.eq_iff_iff, decide_eq_true_iff, Nat.blt_eq, UInt8.lt_iff_toNat_lt]
    have h2 : Nat.beq a.toNat b.toNat = (a == b) := by
      rw [Bool.eq_iff_iff, Nat.beq_eq, beq_iff_eq, UInt8.toNat_inj]
    rw [h1, h2]
    cases decide (a < b) <;> cases (a == b) <;> rfl

theorem run_eqGuard_int {P : Program} (op : BinOp) (t : TypeId) (x y : Operand) (k k' : IntKind) (a b : Int) (w : World) :
    (eqGuard op t x y (.int k a) (.int k' b)).run P w = .ok () w := by
  unfold eqGuard
  cases op <;> rfl
theorem run_eqGuard_str {P : Program} (op : BinOp) (t : TypeId) (x y : Operand) (a b : ByteArray) (w : World) :
    (eqGuard op t x y (.string a) (.string b)).run P w = .ok () w := by
  unfold eqGuard
  cases op <;> rfl

theorem bitsE_ok {op : BinOp} {k : IntKind} {a b n : Int} (h : bitsE op k a b = some n) : ∃ k', Op.intBits op k a b = .pure (.int k' n) := by
  unfold bitsE at h
  split at h
  · rename_i k' m he
    cases h
    exact ⟨k', he⟩
  · cases h
theorem intBits_kind {op : BinOp} {k k' : IntKind} {a b n : Int} (h : Op.intBits op k a b = .pure (.int k' n)) : k' = k := by
  unfold Op.intBits at h
  cases op <;> simp only at h <;> first | (cases h; rfl) | (cases h)
theorem pureOk {P : Program} {w : World} {v v' : Value} (h : v = v') : (Pure.pure v : Sem Value).run P w = .ok v' w := by subst h; rfl
theorem bin_ok {P : Program} {op : BinOp} {t : TypeId} {xo yo : Operand} {x y v : AV} (h : binE op x y = some v) (σ : Sg) (w : World) :
    (do eqGuard op t xo yo (toV σ x) (toV σ y); Go.binOp op t (toV σ x) (toV σ y) : Sem Value).run P w = .ok (toV σ v) w ∧ ∀ D, okV D v := by
  cases x <;> cases y <;> try (cases h; done)
  case int.int k a k' b =>
    simp only [toV, Sem.run_bind, run_eqGuard_int, Result.andThen_ok]
    unfold Go.binOp
    have kk : ∀ {r : Option AV}, cond (kEq k k') r none = some v → k = k' ∧ r = some v := fun {r} h => by
      rw [kEq_eq] at h
      by_cases hk : k = k'
      · rw [decide_eq_true hk] at h; exact ⟨hk, h⟩
      · rw [decide_eq_false hk] at h; cases h
    have bb : ∀ {c : Bool} {p : Prop} [Decidable p], some (AV.bool c) = some v → c = decide p → (Pure.pure (Value.bool (decide p)) : Sem Value).run P w = .ok (toV σ v) w ∧ ∀ D, okV D v := fun {c p} _ h he => by
      cases h; subst he; exact ⟨rfl, fun _ => trivial⟩
    have ii : ∀ {m n : Int}, some (AV.int k m) = some v → m = n → (Pure.pure (Value.int k n) : Sem Value).run P w = .ok (toV σ v) w ∧ ∀ D, okV D v := fun {m n} h he => by
      cases h; subst he; exact ⟨rfl, fun _ => trivial⟩
    have ww : ∀ {op : BinOp}, (match bitsE op k a b with | some n => some (AV.int k n) | none => none) = some v → (Op.intBits op k a b).run P w = .ok (toV σ v) w ∧ ∀ D, okV D v := fun {op} h => by
      split at h
      · rename_i n hn
        cases h
        obtain ⟨k2, he⟩ := bitsE_ok hn
        obtain rfl := intBits_kind he
        rw [he]
        exact ⟨rfl, fun _ => trivial⟩
      · cases h
    have qq : ∀ {m : Int} {f : Int → Int → Int}, cond (iEq b (Int.ofNat 0)) none (some (AV.int k m)) = some v → ¬ b = 0 ∧ some (AV.int k m) = some v := fun {m f} h => by
      rw [iEq_eq] at h
      by_cases h0 : b = Int.ofNat 0
      · rw [h0] at h; cases h
      · rw [decide_eq_false h0] at h
        exact ⟨h0, h⟩
    cases op
    case add => simp only [binE] at h; obtain ⟨hk, h1⟩ := kk h; subst hk; have h := h1; simp only [ne_eq, not_true_eq_false, if_false]; exact ii h (wrapK_eq _ _)
    case sub => simp only [binE] at h; obtain ⟨hk, h1⟩ := kk h; subst hk; have h := h1; simp only [ne_eq, not_true_eq_false, if_false]; exact ii h (wrapK_eq _ _)
    case mul => simp only [binE] at h; obtain ⟨hk, h1⟩ := kk h; subst hk; have h := h1; simp only [ne_eq, not_true_eq_false, if_false]; exact ii h (wrapK_eq _ _)
    case quo =>
      simp only [binE] at h
      obtain ⟨hk, h1⟩ := kk h; subst hk; have h := h1
      obtain ⟨h0, h⟩ := qq (f := fun x _ => x) h
      simp only [ne_eq, not_true_eq_false, if_false, Op.intDiv, if_neg h0]
      exact ii h (wrapK_eq _ _)
    case rem =>
      simp only [binE] at h
      obtain ⟨hk, h1⟩ := kk h; subst hk; have h := h1
      obtain ⟨h0, h⟩ := qq (f := fun x _ => x) h
      simp only [ne_eq, not_true_eq_false, if_false, Op.intDiv, if_neg h0]
      exact ii h rfl
    case eql => simp only [binE] at h; obtain ⟨hk, h1⟩ := kk h; subst hk; have h := h1; simp only [ne_eq, not_true_eq_false, if_false, Op.intCmp]; exact bb (p := a = b) h (iEq_eq _ _)
    case neq =>
      simp only [binE] at h
      obtain ⟨hk, h1⟩ := kk h; subst hk; have h := h1
      simp only [ne_eq, not_true_eq_false, if_false, Op.intCmp]
      have e : (a != b) = decide (¬ a = b) := by rw [Bool.eq_iff_iff]; simp
      rw [e]
      exact bb (p := ¬ a = b) h (by rw [iEq_eq]; simp)
    case lss => simp only [binE] at h; obtain ⟨hk, h1⟩ := kk h; subst hk; have h := h1; simp only [ne_eq, not_true_eq_false, if_false, Op.intCmp]; exact bb (p := a < b) h (by rw [iLe_eq, Bool.eq_iff_iff]; simp)
    case leq => simp only [binE] at h; obtain ⟨hk, h1⟩ := kk h; subst hk; have h := h1; simp only [ne_eq, not_true_eq_false, if_false, Op.intCmp]; exact bb (p := a ≤ b) h (iLe_eq _ _)
    case gtr => simp only [binE] at h; obtain ⟨hk, h1⟩ := kk h; subst hk; have h := h1; simp only [ne_eq, not_true_eq_false, if_false, Op.intCmp]; exact bb (p := a > b) h (by rw [iLe_eq, Bool.eq_iff_iff]; simp)
    case geq => simp only [binE] at h; obtain ⟨hk, h1⟩ := kk h; subst hk; have h := h1; simp only [ne_eq, not_true_eq_false, if_false, Op.intCmp]; exact bb (p := a ≥ b) h (iLe_eq _ _)
    case and => simp only [binE] at h; obtain ⟨hk, h1⟩ := kk h; subst hk; have h := h1; simp only [ne_eq, not_true_eq_false, if_false]; exact ww h
    case or => simp only [binE] at h; obtain ⟨hk, h1⟩ := kk h; subst hk; have h := h1; simp only [ne_eq, not_true_eq_false, if_false]; exact ww h
    case xor => simp only [binE] at h; obtain ⟨hk, h1⟩ := kk h; subst hk; have h := h1; simp only [ne_eq, not_true_eq_false, if_false]; exact ww h
    case andNot => simp only [binE] at h; obtain ⟨hk, h1⟩ := kk h; subst hk; have h := h1; simp only [ne_eq, not_true_eq_false, if_false]; exact ww h
    case shl =>
      simp only [binE] at h
      cases b with
      | negSucc m => cases h
      | ofNat n =>
        have hn : ¬ ((Int.ofNat n : Int) < 0) := by simp
        simp only [Op.shift, if_neg hn]
        exact ii h (by rw [wrapK_eq, shlE_eq]; rfl)
    case shr =>
      simp only [binE] at h
      cases b with
      | negSucc m => cases h
      | ofNat n =>
        have hn : ¬ ((Int.ofNat n : Int) < 0) := by simp
        simp only [Op.shift, if_neg hn]
        exact ii h (by rw [shrE_eq]; rfl)
  case str.str a b =>
    simp only [toV, Sem.run_bind, run_eqGuard_str, Result.andThen_ok]
    have he : Go.binOp op t (.string ⟨a.toArray⟩) (.string ⟨b.toArray⟩) = Op.stringOp op ⟨a.toArray⟩ ⟨b.toArray⟩ := by cases op <;> rfl
    rw [he]
    cases op <;> simp only [binE] at h <;> (try (cases h; done)) <;> simp only [Op.stringOp, ByteArray.toList_mk]
    case add =>
      cases hb : Nat.ble (Nat.add a.length b.length) 9223372036854775807 with
      | false => rw [hb] at h; cases h
      | true =>
        rw [hb] at h
        cases h
        have hle : a.length + b.length ≤ 9223372036854775807 := by simpa using hb
        have hs : ¬ ((((⟨a.toArray⟩ : ByteArray).size + (⟨b.toArray⟩ : ByteArray).size : Nat) : Int) > IntKind.i64.max) := by
          show ¬ (((a.toArray.size + b.toArray.size : Nat) : Int) > _)
          simp [IntKind.max, IntKind.signed, IntKind.bits]
          omega
        rw [if_neg hs]
        refine ⟨pureOk ?_, fun _ => trivial⟩
        simp only [toV]
        congr 1
    all_goals
      cases h
      exact ⟨pureOk (by simp only [toV, sEq_eq, sLt_eq]), fun _ => trivial⟩

theorem un_ok {P : Program} {op : UnOp} {x v : AV} (h : unE op x = some v) (σ : Sg) (w : World) : (Op.unary op (toV σ x)).run P w = .ok (toV σ v) w ∧ ∀ D, okV D v := by
  cases op <;> cases x <;> simp only [unE] at h <;> try (cases h; done)
  · cases h
    exact ⟨pureOk (by simp only [toV, wrapK_eq]; rfl), fun _ => trivial⟩
  · split at h
    · rename_i k n m hm
      cases h
      obtain ⟨k2, he⟩ := bitsE_ok hm
      obtain rfl := intBits_kind he
      simp only [toV, Op.unary, he]
      exact ⟨rfl, fun _ => trivial⟩
    · cases h
  · cases h
    exact ⟨rfl, fun _ => trivial⟩
end Go.Ab
