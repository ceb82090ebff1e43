/-
  A region whose order is open: whatever the order.
-/
import Derived.Test.YtknmkakbpokpjaaGreatDoorAbBubble
import Derived.Orders
namespace Go.Ab

theorem backOk_get : ∀ {l : List Oper} {k : Nat}, backOk k l = true → ∀ (i : Nat) (o : Oper), l[i]? = some o → ∀ e ∈ o.after, Region.binds .any e = true → e.on < k + i
  | [], k, _, i, o, hi => by simp at hi
  | x :: l, k, h, i, o, hi => by
    simp only [backOk, Bool.and_eq_true] at h
    cases i with
    | zero =>
      simp only [List.getElem?_cons_zero, Option.some.injEq] at hi
      subst hi
      intro e he hb
      have := Array.all_eq_true_iff_forall_mem.1 h.1 e he
      simp only [hb, Bool.not_true, Bool.false_or, Nat.blt_eq] at this
      omega
    | succ i =>
      simp only [List.getElem?_cons_succ] at hi
      intro e he hb
      have := backOk_get h.2 i o hi e he hb
      omega

theorem fold_bit (g : Nat → Nat) (j : Nat) : ∀ (l : List Edge) (s : Nat), Nat.testBit (l.foldl (fun s e => if Region.binds .any e then s ||| 2 ^ e.on ||| g e.on else s) s) j = true →
    Nat.testBit s j = true ∨ ∃ e ∈ l, Region.binds .any e = true ∧ (e.on = j ∨ Nat.testBit (g e.on) j = true) := by
  intro l
  induction l with
  | nil => intro s h; exact .inl h
  | cons e l ih =>
    intro s h
    rw [List.foldl_cons] at h
    rcases ih _ h with h1 | ⟨e', he', h2⟩
    · by_cases hb : Region.binds .any e = true
      · rw [if_pos hb] at h1
        simp only [Nat.testBit_or, Bool.or_eq_true] at h1
        rcases h1 with (h1 | h1) | h1
        · exact .inl h1
        · refine .inr ⟨e, List.mem_cons_self .., hb, .inl ?_⟩
          rw [Nat.testBit_two_pow] at h1
          simpa using h1
        · exact .inr ⟨e, List.mem_cons_self .., hb, .inr h1⟩
      · rw [if_neg hb] at h1
        exact .inl h1
    · exact .inr ⟨e', List.mem_cons_of_mem _ he', h2⟩
theorem before_elim {ops : Array Oper} (hb : backOk 0 ops.toList = true) : ∀ (i j : Nat), hasB (Region.before ops) i j = true →
    ∃ o, ops[i]? = some o ∧ ∃ e ∈ o.after, Region.binds .any e = true ∧ (e.on = j ∨ hasB (Region.before ops) e.on j = true) := by
  have key : ∀ (l pre : List Oper) (acc : Array Nat), acc.size = pre.length → backOk 0 (pre ++ l) = true →
      (∀ i j, hasB acc i j = true → ∃ o, pre[i]? = some o ∧ ∃ e ∈ o.after, Region.binds .any e = true ∧ (e.on = j ∨ hasB acc e.on j = true)) →
      ∀ i j, hasB (l.foldl (fun acc o => acc.push (o.after.foldl (fun s e => if Region.binds .any e then s ||| 2 ^ e.on ||| acc.getD e.on 0 else s) 0)) acc) i j = true →
        ∃ o, (pre ++ l)[i]? = some o ∧ ∃ e ∈ o.after, Region.binds .any e = true ∧ (e.on = j ∨ hasB (l.foldl (fun acc o => acc.push (o.after.foldl (fun s e => if Region.binds .any e then s ||| 2 ^ e.on ||| acc.getD e.on 0 else s) 0)) acc) e.on j = true) := by
    intro l
    induction l with
    | nil =>
      intro pre acc hs _ hI i j h
      obtain ⟨o, h1, h2⟩ := hI i j h
      exact ⟨o, by simpa using h1, h2⟩
    | cons x l ih =>
      intro pre acc hs hbk hI i j h
      rw [List.foldl_cons] at h ⊢
      have hbk' : backOk 0 ((pre ++ [x]) ++ l) = true := by simpa using hbk
      have := ih (pre ++ [x]) (acc.push (x.after.foldl (fun s e => if Region.binds .any e then s ||| 2 ^ e.on ||| acc.getD e.on 0 else s) 0)) (by simp [hs]) hbk' ?_ i j h
      · simpa using this
      · intro i j h
        have keep : ∀ k m, k < pre.length → hasB (acc.push m) k = hasB acc k := fun k m hk => by
          funext j
          unfold hasB
          rw [Array.getD_eq_getD_getElem?, Array.getD_eq_getD_getElem?, Array.getElem?_push, if_neg (by omega)]
        by_cases hi : i < pre.length
        · rw [keep i _ hi] at h
          obtain ⟨o, h1, e, he, hbd, h2⟩ := hI i j h
          refine ⟨o, by rw [List.getElem?_append_left hi]; exact h1, e, he, hbd, h2.imp id fun h3 => ?_⟩
          have hlt := backOk_get hbk i o (by rw [List.getElem?_append_left hi]; exact h1) e he hbd
          rw [keep e.on _ (by omega)]
          exact h3
        · by_cases hi2 : i = pre.length
          · subst hi2
            unfold hasB at h
            rw [Array.getD_eq_getD_getElem?, Array.getElem?_push, if_pos hs.symm, Option.getD_some, ← Array.foldl_toList] at h
            rcases fold_bit (fun k => acc.getD k 0) j x.after.toList 0 h with h0 | ⟨e, he, hbd, h2⟩
            · simp at h0
            · refine ⟨x, by rw [List.getElem?_append_right (Nat.le_refl _)]; simp, e, Array.mem_toList_iff.1 he, hbd, h2.imp id fun h3 => ?_⟩
              have hlt := backOk_get hbk pre.length x (by rw [List.getElem?_append_right (Nat.le_refl _)]; simp) e (Array.mem_toList_iff.1 he) hbd
              rw [keep e.on _ (by omega)]
              exact h3
          · exfalso
            unfold hasB at h
            rw [Array.getD_eq_getD_getElem?, Array.getElem?_push, if_neg (by omega), Array.getElem?_eq_none (by omega)] at h
            simp at h
  intro i j h
  have hd : Region.before ops = ops.toList.foldl (fun acc o => acc.push (o.after.foldl (fun s e => if Region.binds .any e then s ||| 2 ^ e.on ||| acc.getD e.on 0 else s) 0)) #[] := by
    unfold Region.before
    rw [← Array.foldl_toList]
  rw [hd] at h ⊢
  obtain ⟨o, h1, h2⟩ := key ops.toList [] #[] rfl (by simpa using hb) (fun i j h => by unfold hasB at h; simp at h) i j h
  exact ⟨o, by simpa using h1, h2⟩

theorem dstepsC_mem {n : Nat} {b : Array Nat} {l : List AStep} : ∀ {r : List Nat} {dl : List DStep}, dstepsC n b l r = some dl → ∀ d ∈ dl,
    l[d.i]? = some d.s ∧ d.mks = (List.range n).filter (fun j => makesAt l j && hasB b d.i j) ∧ d.free = (List.range n).filter fun j => loudAt l j && !hasB b d.i j
  | [], dl, h, d, hd => by cases h; cases hd
  | i :: r, dl, h, d, hd => by
    simp only [dstepsC] at h
    split at h
    · rename_i s hs
      split at h
      · rename_i q hq
        cases h
        rcases List.mem_cons.1 hd with rfl | hd
        · exact ⟨hs, rfl, rfl⟩
        · exact dstepsC_mem hq d hd
      · cases h
    · cases h
theorem coversOk_get {d : List DStep} : ∀ {n : Nat}, coversOk d n = true → ∀ i, i < n → ∃ x ∈ d, x.i = i
  | 0, _, i, hi => by omega
  | n + 1, h, i, hi => by
    simp only [coversOk, Bool.and_eq_true, List.any_eq_true] at h
    by_cases e : i = n
    · subst e
      obtain ⟨x, hx, he⟩ := h.1
      exact ⟨x, hx, Nat.eq_of_beq_eq_true he⟩
    · exact coversOk_get h.2 i (by omega)
theorem pairsOk_pw {b : Array Nat} : ∀ {d : List DStep}, pairsOk b d = true → d.Pairwise (fun x q => x.i ≠ q.i ∧ pairOk b x q = true)
  | [], _ => .nil
  | x :: l, h => by
    simp only [pairsOk, Bool.and_eq_true, List.all_eq_true] at h
    refine .cons (fun q hq => ?_) (pairsOk_pw h.2)
    have := h.1 q hq
    simp only [Bool.not_eq_true'] at this
    exact ⟨Nat.ne_of_beq_eq_false this.1, this.2⟩
theorem stepsC_get {E : Tys} {nt : Nat} {ops : Array Oper} : ∀ {l : List Oper} {ls : List AStep}, stepsC E nt ops l = some ls → ∀ (i : Nat) (s : AStep), ls[i]? = some s → ∃ o, l[i]? = some o ∧ stepC E nt ops o = some s
  | [], ls, h, i, s, hi => by cases h; simp at hi
  | o :: l, ls, h, i, s, hi => by
    simp only [stepsC] at h
    split at h
    · rename_i s0 hs
      split at h
      · rename_i r hr
        cases h
        cases i with
        | zero => simp only [List.getElem?_cons_zero, Option.some.injEq] at hi; subst hi; exact ⟨o, rfl, hs⟩
        | succ i => simp only [List.getElem?_cons_succ] at hi ⊢; exact stepsC_get hr i s hi
      · cases h
    · cases h

/-- What is known of a compiled region. -/
structure DrawOk (E : Tys) (nt : Nat) (ops : Array Oper) (dl : List DStep) : Prop where
  lt : ∀ d ∈ dl, d.i < ops.size
  op : ∀ d ∈ dl, ∃ o, ops[d.i]? = some o ∧ stepC E nt ops o = some d.s
  pw : dl.Pairwise (fun x q => x.i ≠ q.i ∧ pairOk (Region.before ops) x q = true)
  mks : ∀ d ∈ dl, ∀ j ∈ d.mks, hasB (Region.before ops) d.i j = true
  free : ∀ d ∈ dl, ∀ x ∈ dl, x.s.loud = true → hasB (Region.before ops) d.i x.i = false → x.i ∈ d.free
  back : backOk 0 ops.toList = true
theorem drawC_ok {E : Tys} {nt n : Nat} {ops : Array Oper} {ls : List AStep} {dl : List DStep} (hs : stepsC E nt ops ops.toList = some ls) (h : drawC ops ls = some (.draw n dl)) :
    n = ops.size ∧ dl.length = n ∧ DrawOk E nt ops dl ∧ ∀ i, i < n → ∃ x ∈ dl, x.i = i := by
  unfold drawC at h
  simp only at h
  split at h
  · rename_i d hd
    cases hb : (d.length.beq ops.size && pairsOk (Region.before ops) d && d.all (fun x => Nat.blt x.i ops.size) && backOk 0 ops.toList && coversOk d ops.size) with
    | false => rw [hb] at h; cases h
    | true =>
      rw [hb] at h
      cases h
      simp only [Bool.and_eq_true, List.all_eq_true, Nat.blt_eq] at hb
      obtain ⟨⟨⟨⟨b1, b2⟩, b3⟩, b4⟩, b5⟩ := hb
      refine ⟨rfl, Nat.eq_of_beq_eq_true b1, ⟨b3, fun d hm => ?_, pairsOk_pw b2, fun d hm j hj => ?_, fun d hm x hx hl hn => ?_, b4⟩, coversOk_get b5⟩
      · obtain ⟨h1, _, _⟩ := dstepsC_mem hd d hm
        obtain ⟨o, h2, h3⟩ := stepsC_get hs d.i d.s h1
        exact ⟨o, by simpa using h2, h3⟩
      · obtain ⟨_, h2, _⟩ := dstepsC_mem hd d hm
        rw [h2] at hj
        have := (List.mem_filter.1 hj).2
        simp only [Bool.and_eq_true] at this
        exact this.2
      · obtain ⟨_, _, h3⟩ := dstepsC_mem hd d hm
        obtain ⟨h1, _, _⟩ := dstepsC_mem hd x hx
        rw [h3]
        refine List.mem_filter.2 ⟨List.mem_range.2 (b3 x hx), ?_⟩
        simp only [loudAt, h1, hl, hn, Bool.not_false, Bool.and_self]
  · cases h

theorem DrawOk.pr {E : Tys} {nt : Nat} {ops : Array Oper} {dl : List DStep} (h : DrawOk E nt ops dl) {x q : DStep} (hx : x ∈ dl) (hq : q ∈ dl) (hne : x.i ≠ q.i) (hp : pairOk (Region.before ops) x q = true) (hn : hasB (Region.before ops) q.i x.i = false) :
    Pr (Region.before ops) ops.size x q := by
  unfold pairOk at hp
  simp only [Bool.and_eq_true, Bool.not_eq_true', Bool.or_eq_true] at hp
  refine ⟨hne, h.lt x hx, h.lt q hq, hp.1, ?_, h.mks x hx, h.mks q hq⟩
  rcases hp.2 with h2 | h2
  · rw [hn] at h2; cases h2
  · exact h2

section
variable {E : Tys} {P : Program} (hE : TysOk E P) {nt : Nat} {call : CallE} (hcall : CallOk P E.gl call) {ops : Array Oper} {dl : List DStep} (hD : DrawOk E nt ops dl) {base : Nat}
include hE hcall hD

theorem any_ok {Q : Exit → Act → World → Prop} : ∀ (fuel : Nat) (rem : List DStep) (listed : Array Bool) (st st' : St) (hist : List (Nat × H)) (σ : Sg) (a : Act) (w : World),
    Run call base ops.size rem st hist st' → rem.length = fuel → (∀ d ∈ rem, d ∈ dl) → rem.Pairwise (fun x q => x.i ≠ q.i ∧ pairOk (Region.before ops) x q = true) →
    listed.size = ops.size → (∀ i, i < ops.size → (listed.getD i true = false ↔ ∃ d ∈ rem, d.i = i)) → (∀ i j, listed.getD i false = true → hasB (Region.before ops) i j = true → listed.getD j false = true) →
    (∀ d ∈ rem, seenE hist d.i = none) → SR E.gl nt σ st a w → (∀ d ∈ rem, st.h.m.get (base + d.i) = none) → base + ops.size ≤ st.h.next →
    (∀ σ' a' w', SR E.gl nt σ' st' a' w' → Ext σ st.h.m.get w σ' st'.h.m.get w' → (st.h.next ≤ st'.h.next ∧ ∀ k, k < base → st'.h.m.get k ≠ none → st.h.m.get k ≠ none) → Q .normal a' w') →
    wpAny P .any ops Q fuel listed a w := by
  intro fuel
  induction fuel with
  | zero =>
    intro rem listed st st' hist σ a w hr hlen _ _ hsz hl _ _ hS _ _ hK
    have hrem := List.length_eq_zero_iff.1 hlen
    subst hrem
    cases hr
    refine ⟨?_, hK σ a w hS (Ext.refl _ _ _) ⟨Nat.le_refl _, fun _ _ h => h⟩⟩
    rw [List.eq_nil_iff_forall_not_mem]
    intro i hi
    obtain ⟨h1, o, h2, _⟩ := mem_ready.1 hi
    have hlt : i < ops.size := (Array.getElem?_eq_some_iff.1 h2).1
    obtain ⟨d, hd, _⟩ := (hl i hlt).1 h1
    cases hd
  | succ fuel ih =>
    intro rem listed st st' hist σ a w hr hlen hsub hpw hsz hl hcl hseen hS hnm hbase hK
    have getD_lt : ∀ i, i < ops.size → listed.getD i true = listed.getD i false := fun i hi => by
      rw [Array.getD_eq_getD_getElem?, Array.getD_eq_getD_getElem?, Array.getElem?_eq_getElem (by omega)]; rfl
    have getD_oob : ∀ i, listed.getD i false = true → i < ops.size := fun i hi => by
      rcases Nat.lt_or_ge i ops.size with h | h
      · exact h
      · rw [Array.getD_eq_getD_getElem?, Array.getElem?_eq_none (by omega)] at hi; cases hi
    refine ⟨fun hre => ?_, fun i hi => ?_⟩
    · -- the least operation that is not listed is ready
      exfalso
      have hne : ∃ d ∈ rem, True := by
        cases rem with
        | nil => cases hlen
        | cons d l => exact ⟨d, List.mem_cons_self .., trivial⟩
      obtain ⟨d, hd, _⟩ := hne
      have : ∀ m i, i ≤ m → i < ops.size → listed.getD i true = false → False := by
        intro m
        induction m using Nat.strongRecOn with
        | _ m ihm =>
          intro i him hi hun
          have hready : i ∈ Region.ready .any ops listed := by
            rw [mem_ready]
            refine ⟨hun, ops[i], by rw [Array.getElem?_eq_getElem hi], fun e he hb => ?_⟩
            have hlt := backOk_get hD.back i ops[i] (by rw [Array.getElem?_toList, Array.getElem?_eq_getElem hi]) e he hb
            cases hg : listed.getD e.on false with
            | true => rfl
            | false =>
              exfalso
              have hon : e.on < ops.size := by omega
              exact ihm e.on (by omega) e.on (Nat.le_refl _) hon (by rw [getD_lt _ hon]; exact hg)
          rw [hre] at hready
          cases hready
      exact this d.i d.i (Nat.le_refl _) (hD.lt d (hsub d hd)) ((hl d.i (hD.lt d (hsub d hd))).2 ⟨d, hd, rfl⟩)
    · obtain ⟨hun, o, ho, hedges⟩ := mem_ready.1 hi
      have hilt : i < ops.size := (Array.getElem?_eq_some_iff.1 ho).1
      obtain ⟨q, hqm, hqi⟩ := (hl i hilt).1 hun
      -- what stands ahead of it is listed
      have hbefore : ∀ j, hasB (Region.before ops) i j = true → listed.getD j false = true := fun j hj => by
        obtain ⟨o', ho', e, he, hbd, hor⟩ := before_elim hD.back i j hj
        rw [ho] at ho'
        cases ho'
        have := hedges e he hbd
        rcases hor with rfl | h2
        · exact this
        · exact hcl _ _ this h2
      obtain ⟨l1, l2, rfl⟩ := List.append_of_mem hqm
      have hq1 : ∀ x ∈ l1, x ∈ l1 ++ q :: l2 := fun x hx => List.mem_append_left _ hx
      obtain ⟨pw1, pw2, pw3⟩ := List.pairwise_append.1 hpw
      have hunl : ∀ x ∈ l1, hasB (Region.before ops) q.i x.i = false := fun x hx => by
        cases hb : hasB (Region.before ops) q.i x.i with
        | false => rfl
        | true =>
          exfalso
          have h1 := hbefore x.i (hqi ▸ hb)
          have hxlt := hD.lt x (hsub x (hq1 x hx))
          have h2 := (hl x.i hxlt).2 ⟨x, hq1 x hx, rfl⟩
          rw [getD_lt _ hxlt, h1] at h2
          cases h2
      obtain ⟨o2, ho2, hst⟩ := hD.op q (hsub q hqm)
      rw [hqi, ho] at ho2
      cases ho2
      -- the rest, behind it
      have hpw' : (l1 ++ l2).Pairwise (fun x q => x.i ≠ q.i ∧ pairOk (Region.before ops) x q = true) :=
        List.pairwise_append.2 ⟨pw1, (List.pairwise_cons.1 pw2).2, fun x hx y hy => pw3 x hx y (List.mem_cons_of_mem _ hy)⟩
      have hsub' : ∀ d ∈ l1 ++ l2, d ∈ l1 ++ q :: l2 := fun d hd => by
        rcases List.mem_append.1 hd with h | h
        · exact List.mem_append_left _ h
        · exact List.mem_append_right _ (List.mem_cons_of_mem _ h)
      have hdist : ∀ d ∈ l1 ++ l2, d.i ≠ i := fun d hd => by
        rcases List.mem_append.1 hd with h | h
        · exact fun e => (pw3 d h q (List.mem_cons_self ..)).1 (e.trans hqi.symm)
        · exact fun e => ((List.pairwise_cons.1 pw2).1 d h).1 (hqi.trans e.symm)
      have hlen' : (l1 ++ l2).length = fuel := by
        simp only [List.length_append, List.length_cons] at hlen ⊢
        omega
      have hl' : ∀ j, j < ops.size → ((listed.setIfInBounds i true).getD j true = false ↔ ∃ d ∈ l1 ++ l2, d.i = j) := fun j hj => by
        by_cases e : i = j
        · subst e
          have : (listed.setIfInBounds i true).getD i true = true := by
            rw [Array.getD_eq_getD_getElem?, Array.getElem?_setIfInBounds, if_pos rfl, if_pos (by omega)]; rfl
          rw [this]
          exact ⟨(fun h => by cases h), fun ⟨d, hd, he⟩ => absurd he (hdist d hd)⟩
        · rw [getD_set_ne true e, hl j hj]
          constructor
          · rintro ⟨d, hd, rfl⟩
            refine ⟨d, ?_, rfl⟩
            rcases List.mem_append.1 hd with h | h
            · exact List.mem_append_left _ h
            · rcases List.mem_cons.1 h with rfl | h
              · exact absurd hqi.symm e
              · exact List.mem_append_right _ h
          · rintro ⟨d, hd, rfl⟩
            exact ⟨d, hsub' d hd, rfl⟩
      have hcl' : ∀ k j, (listed.setIfInBounds i true).getD k false = true → hasB (Region.before ops) k j = true → (listed.setIfInBounds i true).getD j false = true := fun k j hk hb => by
        by_cases e : i = k
        · subst e
          exact getD_set_true (hbefore j hb)
        · rw [getD_set_ne false e] at hk
          exact getD_set_true (hcl k j hk hb)
      have hsz' : (listed.setIfInBounds i true).size = ops.size := by rw [Array.size_setIfInBounds, hsz]
      cases hql : q.s.loud with
      | true =>
        -- it stands at the head
        have hl1 : l1 = [] := by
          cases l1 with
          | nil => rfl
          | cons x l1 =>
            exfalso
            have hx := hunl x (List.mem_cons_self ..)
            have hp := pw3 x (List.mem_cons_self ..) q (List.mem_cons_self ..)
            have := (hD.pr (hsub x (hq1 x (List.mem_cons_self ..))) (hsub q hqm) hp.1 hp.2 hx).looks.2.2.2.1
            rw [hql] at this
            cases this
        subst hl1
        simp only [List.nil_append] at hr hlen' hl' hpw' hsub' hdist hnm hseen hsub
        cases hr with
        | @cons _ _ _ st1 _ _ hc hd hr =>
          have hd' : stepE call q.s st = some st1 := by
            unfold dstepE at hd
            rw [hql] at hd
            exact hd
          have hstep := step_ok hE hcall hS hst hd' (K := wpAny P .any ops Q fuel (listed.setIfInBounds i true)) (Q := Q) fun σ' a' w' hS' hE' hM' => by
            refine ih l2 _ st1 st' _ σ' a' w' hr hlen' (fun d hd => hsub d (hsub' d hd)) hpw' hsz' hl' hcl' (fun d hd => ?_) hS' (fun d hd => ?_) (Nat.le_trans hbase hM'.next)
              (fun σ'' a'' w'' hS'' hE'' hM'' => hK σ'' a'' w'' hS'' (hE'.trans hE'') ⟨Nat.le_trans hM'.next hM''.1, fun k hk hne => hM'.old k (by omega) (hM''.2 k hk hne)⟩)
            · rw [hql]
              show cond (Nat.beq q.i d.i) (some st.h) (seenE hist d.i) = none
              cases hb : Nat.beq q.i d.i with
              | true => exact absurd ((Nat.eq_of_beq_eq_true hb).symm.trans hqi) (hdist d hd)
              | false => exact hseen d (hsub' d hd)
            · cases hg : st1.h.m.get (base + d.i) with
              | none => rfl
              | some bk =>
                exfalso
                have hdlt := hD.lt d (hsub d (hsub' d hd))
                exact hM'.old (base + d.i) (by omega) (by rw [hg]; simp) (hnm d (hsub' d hd))
          unfold wpOp
          simp only [ho]
          split at hstep
          · rename_i hw; rw [if_pos hw]; exact .inl hstep
          · rename_i hw; rw [if_neg hw]; exact hstep
      | false =>
        obtain ⟨v, m', q1, _, q3⟩ := bubble (b := Region.before ops) hql l1 st hist st' hr (fun x hx => by
          have hp := pw3 x hx q (List.mem_cons_self ..)
          refine ⟨hunl x hx, hD.pr (hsub x (hq1 x hx)) (hsub q hqm) hp.1 hp.2 (hunl x hx), fun hxl => ⟨hD.free q (hsub q hqm) x (hsub x (hq1 x hx)) hxl (hunl x hx), hseen x (hq1 x hx)⟩⟩)
          (pw1.imp fun h => h.1)
        obtain ⟨hop, hdst, _⟩ := stepC_op hst
        have go : ∀ σ' a' w', SR E.gl nt σ' ⟨putD q.s.dst v st.fr, ⟨m', st.h.next⟩, st.ds⟩ a' w' → Ext σ st.h.m.get w σ' m'.get w' → (∀ k, k < st.h.next → k ≠ base + q.i → m'.get k = st.h.m.get k) →
            wpAny P .any ops Q fuel (listed.setIfInBounds i true) a' w' := fun σ' a' w' hS' hE' hM' => by
          refine ih (l1 ++ l2) _ _ st' hist σ' a' w' q3 hlen' (fun d hd => hsub d (hsub' d hd)) hpw' hsz' hl' hcl' (fun d hd => hseen d (hsub' d hd)) hS' (fun d hd => ?_) hbase ?_
          · have hdlt := hD.lt d (hsub d (hsub' d hd))
            show m'.get (base + d.i) = none
            rw [hM' _ (by omega) (fun e => hdist d hd (by omega))]
            exact hnm d (hsub' d hd)
          · intro σ'' a'' w'' hS'' hE'' hM''
            refine hK σ'' a'' w'' hS'' (hE'.trans hE'') ⟨hM''.1, fun k hk hne => ?_⟩
            have := hM''.2 k hk hne
            rw [← hM' k (by omega) (by omega)]
            exact this
        unfold wpOp
        simp only [ho]
        rw [want_ok hst hS.fr]
        rcases q1 with ⟨h1, rfl, rfl⟩ | ⟨h1, h2, rfl⟩ | ⟨h1, bk, f, h2, rfl, rfl⟩
        · rw [if_neg (by rw [h1]; simp)]
          have := hS.put q.s.dst (v := U) trivial
          rw [hdst] at this
          refine go σ _ w ?_ (Ext.refl _ _ _) fun _ _ _ => rfl
          rw [hdst]
          exact this
        · rw [if_pos h1]
          refine .inl ?_
          obtain ⟨g1, g2⟩ := quiet_ok (P := P) hE hS.rel hS.fr hop h2
          unfold Oper.wp
          rw [g1, Oper.upon_value]
          have := hS.put q.s.dst g2
          refine go σ _ w ?_ (Ext.refl _ _ _) fun _ _ _ => rfl
          rw [hdst] at this ⊢
          exact this
        · rw [if_pos h1]
          refine .inl ?_
          obtain ⟨ob, extra, d, V, g1, g2, g3, g4, g5⟩ := quiet_ok (P := P) hE hS.rel hS.fr hop h2
          obtain ⟨g6, g7⟩ := g5 (base + q.i)
          unfold Oper.wp
          rw [g1, Oper.upon_value]
          have hqlt := hD.lt q (hsub q hqm)
          obtain ⟨k1, k2⟩ := hS.new q.s.dst (d := d) (hnm q hqm) (by omega) (Nat.le_refl st.h.next) g2 g3 g4 g6 g7
          refine go _ _ _ ?_ k2 fun k _ hk => by rw [T.get_set, if_neg hk]
          rw [hdst] at k1 ⊢
          exact k1
end
end Go.Ab
