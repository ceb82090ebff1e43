/-
  A region whose order is open: a quiet step may be taken as soon as it is ready.
-/
import Derived.Test.YtknmkakbpokpjaaGreatDoorAbComm
namespace Go.Ab

section
variable (call : CallE) (base n : Nat)
inductive Run : List DStep → St → List (Nat × H) → St → Prop where
  | nil (st : St) (hist : List (Nat × H)) : Run [] st hist st
  | cons {d : DStep} {l : List DStep} {st st1 st' : St} {hist : List (Nat × H)} (hc : chkE base n d st hist = true) (hd : dstepE call base d st = some st1)
      (hr : Run l st1 (cond d.s.loud ((d.i, st.h) :: hist) hist) st') : Run (d :: l) st hist st'
end
theorem run_of {call : CallE} {base n : Nat} : ∀ {l : List DStep} {st : St} {hist : List (Nat × H)} {st' : St}, drawF call base n l st hist = some st' → Run call base n l st hist st'
  | [], st, hist, st', h => by cases h; exact .nil _ _
  | d :: l, st, hist, st', h => by
    have e : drawF call base n (d :: l) st hist = cond (chkE base n d st hist) (Option.rec (motive := fun _ => Option St) none (fun st' => drawF call base n l st' (cond d.s.loud ((d.i, st.h) :: hist) hist)) (dstepE call base d st)) none := rfl
    rw [e, ob_eq] at h
    cases hc : chkE base n d st hist with
    | false => rw [hc] at h; cases h
    | true =>
      rw [hc] at h
      cases hd : dstepE call base d st with
      | none => rw [hd] at h; cases h
      | some st1 =>
        rw [hd] at h
        exact .cons hc hd (run_of h)

/-- What a quiet step does. -/
def QE (base : Nat) (d : DStep) (fr : T AV) (m : T Blk) (v : AV) (m' : T Blk) : Prop :=
  (wantE fr d.s.g = false ∧ v = U ∧ m' = m) ∨ (wantE fr d.s.g = true ∧ quiet d.s.op m.get fr = some (.val v) ∧ m' = m) ∨
  (wantE fr d.s.g = true ∧ ∃ bk f, quiet d.s.op m.get fr = some (.made bk f) ∧ v = f (base + d.i) ∧ m' = m.set (base + d.i) bk)
def LE (call : CallE) (d : DStep) (fr : T AV) (h : H) (v : AV) (h' : H) (ds : List Dfr) : Prop :=
  (wantE fr d.s.g = false ∧ v = U ∧ h' = h ∧ ds = []) ∨ (wantE fr d.s.g = true ∧ loudE d.s.op call fr h = some (v, h', ds))

theorem dstep_quiet {call : CallE} {base : Nat} {d : DStep} {st st1 : St} (hl : d.s.loud = false) :
    dstepE call base d st = some st1 ↔ ∃ v m', QE base d st.fr st.h.m v m' ∧ st1 = ⟨putD d.s.dst v st.fr, ⟨m', st.h.next⟩, st.ds⟩ := by
  unfold dstepE
  rw [hl]
  simp only [cond_false]
  cases hw : wantE st.fr d.s.g with
  | false =>
    simp only [cond_false, Option.some.injEq]
    constructor
    · intro h; exact ⟨U, st.h.m, .inl ⟨hw, rfl, rfl⟩, h.symm⟩
    · rintro ⟨v, m', h, rfl⟩
      rcases h with ⟨_, rfl, rfl⟩ | ⟨h, _⟩ | ⟨h, _⟩
      · rfl
      · rw [hw] at h; cases h
      · rw [hw] at h; cases h
  | true =>
    simp only [cond_true]
    constructor
    · intro h
      split at h
      · rename_i v hq
        cases h
        exact ⟨v, st.h.m, .inr (.inl ⟨hw, hq, rfl⟩), rfl⟩
      · rename_i bk f hq
        cases h
        exact ⟨_, _, .inr (.inr ⟨hw, bk, f, hq, rfl, rfl⟩), rfl⟩
      · cases h
    · rintro ⟨v, m', h, rfl⟩
      rcases h with ⟨h, _⟩ | ⟨_, h, rfl⟩ | ⟨_, bk, f, h, rfl, rfl⟩
      · rw [hw] at h; cases h
      · rw [h]
      · rw [h]; rfl
theorem dstep_loud {call : CallE} {base : Nat} {d : DStep} {st st1 : St} (hl : d.s.loud = true) :
    dstepE call base d st = some st1 ↔ ∃ v h' ds, LE call d st.fr st.h v h' ds ∧ st1 = ⟨putD d.s.dst v st.fr, h', ds ++ st.ds⟩ := by
  unfold dstepE
  rw [hl]
  simp only [cond_true]
  unfold stepE
  cases hw : wantE st.fr d.s.g with
  | false =>
    simp only [cond_false, Option.some.injEq]
    constructor
    · intro h; exact ⟨U, st.h, [], .inl ⟨hw, rfl, rfl, rfl⟩, h.symm⟩
    · rintro ⟨v, h', ds, h, rfl⟩
      rcases h with ⟨_, rfl, rfl, rfl⟩ | ⟨h, _⟩
      · rfl
      · rw [hw] at h; cases h
  | true =>
    simp only [cond_true, hl]
    constructor
    · intro h
      split at h
      · rename_i v h2 ds hq
        cases h
        exact ⟨v, h2, ds, .inr ⟨hw, hq⟩, rfl⟩
      · cases h
    · rintro ⟨v, h', ds, h, rfl⟩
      rcases h with ⟨h, _⟩ | ⟨_, h⟩
      · rw [hw] at h; cases h
      · rw [h]

theorem want_fr {s : AStep} {fr fr' : T AV} (h : Agree (looksA s) fr fr') : wantE fr s.g = wantE fr' s.g := by
  cases hg : s.g with
  | none => rfl
  | some p =>
    obtain ⟨t, want⟩ := p
    have : Agree [t] fr fr' := by
      have h' : Agree (looksA s) fr fr' := h
      unfold looksA at h'
      rw [hg] at h'
      exact h'.right
    simp only [wantE]
    rw [this t (List.mem_singleton.2 rfl)]
theorem op_fr {s : AStep} {fr fr' : T AV} (h : Agree (looksA s) fr fr') : Agree (tmpsA s.op) fr fr' := by
  have h' : Agree (looksA s) fr fr' := h
  unfold looksA at h'
  exact h'.left
theorem agree_put {l : List Nat} {dst : Option Nat} {v : AV} {fr : T AV} (h : ∀ d, dst = some d → d ∉ l) : Agree l fr (putD dst v fr) := by
  intro t ht
  cases dst with
  | none => rfl
  | some d =>
    show _ = fget (fr.set d v) t
    rw [fget_set, if_neg]
    exact fun e => h d rfl (e ▸ ht)
theorem Agree.symm {l : List Nat} {fr fr' : T AV} (h : Agree l fr fr') : Agree l fr' fr := fun t ht => (h t ht).symm
theorem putD_comm {a b : Option Nat} {u v : AV} {fr : T AV} (h : ∀ d e, a = some d → b = some e → d ≠ e) : putD a u (putD b v fr) = putD b v (putD a u fr) := by
  cases a with
  | none => rfl
  | some d =>
    cases b with
    | none => rfl
    | some e => exact (T.set_comm fr d e u v (h d e rfl rfl)).symm

/-- What a quiet step does in a heap that has a block more that it does not read, and in a frame that agrees. -/
theorem QE.move {base : Nat} {d : DStep} {fr fr' : T AV} {m m2 : T Blk} {v : AV} {m' : T Blk} (h : QE base d fr m v m') (hf : Agree (looksA d.s) fr fr')
    (hr : wantE fr d.s.g = true → ∀ k, rdName d.s.op fr = some k → m.get k = m2.get k) :
    ∃ m2', QE base d fr' m2 v m2' ∧ (m' = m ∧ m2' = m2 ∨ ∃ bk, m' = m.set (base + d.i) bk ∧ m2' = m2.set (base + d.i) bk ∧ ∃ f, quiet d.s.op m.get fr = some (.made bk f)) := by
  have hw := want_fr hf
  rcases h with ⟨h1, rfl, rfl⟩ | ⟨h1, h2, rfl⟩ | ⟨h1, bk, f, h2, rfl, rfl⟩
  · exact ⟨m2, .inl ⟨by rw [← hw]; exact h1, rfl, rfl⟩, .inl ⟨rfl, rfl⟩⟩
  · have e := quiet_rd (op := d.s.op) (fr := fr) (hr h1)
    rw [quiet_fr (op_fr hf)] at e
    exact ⟨m2, .inr (.inl ⟨by rw [← hw]; exact h1, by
      rw [quiet_fr (op_fr hf).symm, ← quiet_rd (hr h1)]; exact h2, rfl⟩), .inl ⟨rfl, rfl⟩⟩
  · refine ⟨m2.set (base + d.i) bk, .inr (.inr ⟨by rw [← hw]; exact h1, bk, f, ?_, rfl, rfl⟩), .inr ⟨bk, rfl, rfl, f, h2⟩⟩
    rw [quiet_fr (op_fr hf).symm, ← quiet_rd (hr h1)]; exact h2

/-- Two steps that neither order binds. -/
structure Pr (b : Array Nat) (n : Nat) (x q : DStep) : Prop where
  ne : x.i ≠ q.i
  xi : x.i < n
  qi : q.i < n
  xq : hasB b x.i q.i = false
  ap : apartA x.s q.s = true
  mx : ∀ j ∈ x.mks, hasB b x.i j = true
  mq : ∀ j ∈ q.mks, hasB b q.i j = true
theorem Pr.looks {b : Array Nat} {n : Nat} {x q : DStep} (h : Pr b n x q) :
    (∀ d, x.s.dst = some d → d ∉ looksA q.s) ∧ (∀ d, q.s.dst = some d → d ∉ looksA x.s) ∧ (∀ d e, x.s.dst = some d → q.s.dst = some e → d ≠ e) ∧ q.s.loud = false ∧ (makes q.s.op = true → x.s.loud = false) := by
  have ha := h.ap
  unfold apartA at ha
  simp only [Bool.and_eq_true, Bool.not_eq_true'] at ha
  obtain ⟨⟨⟨h1, h2⟩, h3⟩, h4⟩ := ha
  refine ⟨fun d hd => ?_, fun d hd => ?_, fun d e hd he => ?_, h3, fun hm => ?_⟩
  · rw [hd] at h1
    simp only [Bool.and_eq_true, Bool.not_eq_true'] at h1
    intro hm
    rw [(memN_iff _ _).2 hm] at h1
    cases h1.1
  · rw [hd] at h2
    simp only [Bool.not_eq_true'] at h2
    intro hm
    rw [(memN_iff _ _).2 hm] at h2
    cases h2
  · rw [hd, he] at h1
    simp only [Bool.and_eq_true, Bool.not_eq_true'] at h1
    exact Nat.ne_of_beq_eq_false h1.2
  · rw [hm] at h4
    simpa using h4

theorem rd_ne {base n i : Nat} {d : DStep} {b : Array Nat} {fr : T AV} (hmk : ∀ j ∈ d.mks, hasB b d.i j = true) (hn : hasB b d.i i = false) (hi : i < n) (h : rdOk base n d.mks d.s.op fr = true) {k : Nat} (hk : rdName d.s.op fr = some k) :
    k ≠ base + i := by
  intro e
  subst e
  unfold rdOk at h
  rw [hk] at h
  simp only at h
  have h1 : (Nat.blt (base + i) base || Nat.ble (Nat.add base n) (base + i)) = false := by
    rw [Bool.or_eq_false_iff]
    constructor
    · rw [Bool.eq_false_iff]; intro h; rw [Nat.blt_eq] at h; omega
    · rw [Bool.eq_false_iff]; intro h; rw [Nat.ble_eq] at h
      have : base + n ≤ base + i := h
      omega
  rw [h1] at h
  simp only [cond_false] at h
  have e2 : Nat.sub (base + i) base = i := by show base + i - base = i; omega
  rw [e2] at h
  rw [hmk i ((memN_iff _ _).1 h)] at hn
  cases hn

theorem chk_rd {base n : Nat} {d : DStep} {st : St} {hist : List (Nat × H)} (h : chkE base n d st hist = true) (hl : d.s.loud = false) (hw : wantE st.fr d.s.g = true) :
    rdOk base n d.mks d.s.op st.fr = true ∧ (rds d.s.op = true → ∃ v, quiet d.s.op st.h.m.get st.fr = some (.val v) ∧ sameE st.fr d.s.op v hist d.free = true) := by
  unfold chkE at h
  rw [hl, hw] at h
  simp only [Bool.not_true, Bool.or_self, cond_false, Bool.and_eq_true, Bool.or_eq_true, Bool.not_eq_true'] at h
  refine ⟨h.1, fun hr => ?_⟩
  rcases h.2 with h2 | h2
  · rw [hr] at h2; cases h2
  · split at h2
    · rename_i v hv
      exact ⟨v, hv, h2⟩
    · cases h2
theorem chk_mk {base n : Nat} {d : DStep} {st : St} {hist : List (Nat × H)} (h : d.s.loud = false → wantE st.fr d.s.g = true →
    rdOk base n d.mks d.s.op st.fr = true ∧ (rds d.s.op = true → ∃ v, quiet d.s.op st.h.m.get st.fr = some (.val v) ∧ sameE st.fr d.s.op v hist d.free = true)) : chkE base n d st hist = true := by
  unfold chkE
  cases hl : d.s.loud with
  | true => rfl
  | false =>
    cases hw : wantE st.fr d.s.g with
    | false => rfl
    | true =>
      obtain ⟨h1, h2⟩ := h hl hw
      simp only [Bool.not_true, Bool.or_self, cond_false, Bool.and_eq_true, Bool.or_eq_true, Bool.not_eq_true']
      refine ⟨h1, ?_⟩
      cases hr : rds d.s.op with
      | false => exact .inl rfl
      | true =>
        obtain ⟨v, hv, hs⟩ := h2 hr
        rw [hv]
        exact .inr hs

theorem same_fr {fr fr' : T AV} {op : AOp} {v : AV} {hist : List (Nat × H)} (h : Agree (tmpsA op) fr fr') : ∀ {l : List Nat}, sameE fr op v hist l = true → sameE fr' op v hist l = true
  | [], _ => rfl
  | i :: l, hs => by
    have e : ∀ fr, sameE fr op v hist (i :: l) = (match seenE hist i with
      | none => sameE fr op v hist l
      | some h => match quiet op h.m.get fr with
        | some (.val u) => cond (eqAV u v) (sameE fr op v hist l) false
        | _ => false) := fun _ => rfl
    rw [e fr] at hs
    rw [e fr']
    cases hh : seenE hist i with
    | none =>
      rw [hh] at hs
      simp only at hs ⊢
      exact same_fr h hs
    | some hp =>
      rw [hh] at hs
      simp only at hs ⊢
      rw [← quiet_fr h]
      split at hs
      · rename_i u hu
        cases he : eqAV u v with
        | false => rw [he] at hs; cases hs
        | true => rw [he] at hs; exact same_fr h hs
      · cases hs
/-- What was seen ahead of x: the same value; and without x all the rest. -/
theorem same_cons {fr : T AV} {op : AOp} {v : AV} {hist : List (Nat × H)} {i : Nat} {h : H} : ∀ {l : List Nat}, sameE fr op v ((i, h) :: hist) l = true → seenE hist i = none →
    sameE fr op v hist l = true ∧ (i ∈ l → quiet op h.m.get fr = some (.val v))
  | [], _, _ => ⟨rfl, fun h => by cases h⟩
  | j :: l, hs, hn => by
    have e : ∀ hist, sameE fr op v hist (j :: l) = (match seenE hist j with
      | none => sameE fr op v hist l
      | some h => match quiet op h.m.get fr with
        | some (.val u) => cond (eqAV u v) (sameE fr op v hist l) false
        | _ => false) := fun _ => rfl
    have es : seenE ((i, h) :: hist) j = cond (Nat.beq i j) (some h) (seenE hist j) := rfl
    rw [e, es] at hs
    rw [e hist]
    cases hij : Nat.beq i j with
    | true =>
      obtain rfl := Nat.eq_of_beq_eq_true hij
      rw [hij] at hs
      simp only [cond_true] at hs
      rw [hn]
      simp only
      split at hs
      · rename_i u hu
        cases he : eqAV u v with
        | false => rw [he] at hs; cases hs
        | true =>
          rw [he] at hs
          obtain ⟨h1, _⟩ := same_cons hs hn
          exact ⟨h1, fun _ => by rw [hu, eqAV_eq u v he]⟩
      · cases hs
    | false =>
      rw [hij] at hs
      simp only [cond_false] at hs
      have hne := Nat.ne_of_beq_eq_false hij
      cases hh : seenE hist j with
      | none =>
        rw [hh] at hs
        simp only at hs ⊢
        obtain ⟨h1, h2⟩ := same_cons hs hn
        exact ⟨h1, fun hm => h2 ((List.mem_cons.1 hm).resolve_left hne)⟩
      | some hp =>
        rw [hh] at hs
        simp only at hs ⊢
        split at hs
        · rename_i u hu
          cases he : eqAV u v with
          | false => rw [he] at hs; cases hs
          | true =>
            rw [he] at hs
            obtain ⟨h1, h2⟩ := same_cons hs hn
            exact ⟨h1, fun hm => h2 ((List.mem_cons.1 hm).resolve_left hne)⟩
        · cases hs

theorem made_makes {op : AOp} {rd : Rd} {fr : T AV} {bk : Blk} {f : Nat → AV} (h : quiet op rd fr = some (.made bk f)) : makes op = true := by
  have qv_no : ∀ {r : Option AV}, qv r ≠ some (.made bk f) := fun {r} h => by cases r <;> cases h
  cases op <;> first | rfl | (exfalso; revert h; skip)
  all_goals intro h
  case mov x => cases h
  case pick c x y =>
    have h' : q_pick c x y rd fr = _ := h
    unfold q_pick at h'; split at h' <;> cases h'
  case build z ps =>
    have h' : q_build z ps rd fr = _ := h
    unfold q_build at h'; split at h' <;> cases h'
  case load k x =>
    have h' : q_load k x rd fr = _ := h
    unfold q_load at h'
    split at h'
    · split at h'
      · exact qv_no h'
      · cases h'
    · cases h'
  case nilCheck x =>
    have h' : q_nilCheck x rd fr = _ := h
    unfold q_nilCheck at h'; split at h' <;> cases h'
  case bin o x y => exact qv_no (show qv _ = _ from h)
  case eq s d c x y => exact qv_no (show qv _ = _ from h)
  case un o x => exact qv_no (show qv _ = _ from h)
  case cvInt k x =>
    have h' : q_cvInt k x rd fr = _ := h
    unfold q_cvInt at h'; split at h' <;> cases h'
  case cvRune x =>
    have h' : q_cvRune x rd fr = _ := h
    unfold q_cvRune at h'; split at h' <;> cases h'
  case cvStr x =>
    have h' : q_cvStr x rd fr = _ := h
    unfold q_cvStr at h'; split at h' <;> cases h'
  case cvText x =>
    have h' : q_cvText x rd fr = _ := h
    unfold q_cvText at h'
    repeat' split at h'
    all_goals cases h'
  case iface t x => cases h
  case func g a c => cases h
  case subS x lo hi => exact qv_no (show qv _ = _ from h)
  case sub k x lo hi mx => exact qv_no (show qv _ = _ from h)
  case subA n k x lo hi mx => exact qv_no (show qv _ = _ from h)
  case fAddr o x =>
    have h' : q_fAddr o x rd fr = _ := h
    unfold q_fAddr at h'; split at h' <;> cases h'
  case fld k o x =>
    have h' : q_fld k o x rd fr = _ := h
    unfold q_fld at h'
    split at h'
    · exact qv_no h'
    · cases h'
  case iAddr k x y =>
    have h' : q_iAddr k x y rd fr = _ := h
    unfold q_iAddr at h'
    repeat' split at h'
    all_goals cases h'
  case iAddrA n k x y =>
    have h' : q_iAddrA n k x y rd fr = _ := h
    unfold q_iAddrA at h'
    repeat' split at h'
    all_goals cases h'
  case idxS x y =>
    have h' : q_idxS x y rd fr = _ := h
    unfold q_idxS at h'
    repeat' split at h'
    all_goals cases h'
  case idxA n k g x y =>
    have h' : q_idxA n k g x y rd fr = _ := h
    unfold q_idxA at h'
    split at h'
    · split at h'
      · exact qv_no h'
      · cases h'
    · cases h'
  case ext x i =>
    have h' : q_ext x i rd fr = _ := h
    unfold q_ext at h'
    split at h'
    · exact qv_no h'
    · cases h'
  case len s x =>
    have h' : q_len s x rd fr = _ := h
    unfold q_len at h'; split at h' <;> cases h'
  case minmax m l =>
    have h' : q_minmax m l rd fr = _ := h
    unfold q_minmax at h'
    split at h'
    · exact qv_no h'
    · cases h'
  all_goals cases h
end Go.Ab
