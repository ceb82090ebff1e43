/-
  A quiet step that is ready may be taken first.
-/
import Derived.Test.YtknmkakbpokpjaaGreatDoorAbDraw
namespace Go.Ab

theorem rdOk_fr {base n : Nat} {mks : List Nat} {s : AStep} {fr fr' : T AV} (h : Agree (looksA s) fr fr') : rdOk base n mks s.op fr = rdOk base n mks s.op fr' := by
  unfold rdOk
  rw [rdName_fr (op_fr h)]
theorem chk_move {base n : Nat} {d : DStep} {st st' : St} {hist : List (Nat × H)} (h : chkE base n d st hist = true) (hf : Agree (looksA d.s) st.fr st'.fr)
    (hr : wantE st.fr d.s.g = true → ∀ k, rdName d.s.op st.fr = some k → st.h.m.get k = st'.h.m.get k) : chkE base n d st' hist = true := by
  refine chk_mk fun hl hw => ?_
  have hw' : wantE st.fr d.s.g = true := by rw [want_fr hf]; exact hw
  obtain ⟨h1, h2⟩ := chk_rd h hl hw'
  refine ⟨by rw [← rdOk_fr hf]; exact h1, fun hrd => ?_⟩
  obtain ⟨v, hv, hs⟩ := h2 hrd
  exact ⟨v, by rw [← quiet_fr (op_fr hf), ← quiet_rd (hr hw')]; exact hv, same_fr (op_fr hf) hs⟩

theorem bubble {call : CallE} {base n : Nat} {b : Array Nat} {q : DStep} {l2 : List DStep} (hq : q.s.loud = false) : ∀ (l1 : List DStep) (st : St) (hist : List (Nat × H)) (st' : St),
    Run call base n (l1 ++ q :: l2) st hist st' → (∀ x ∈ l1, hasB b q.i x.i = false ∧ Pr b n x q ∧ (x.s.loud = true → x.i ∈ q.free ∧ seenE hist x.i = none)) → l1.Pairwise (fun x y => x.i ≠ y.i) →
    ∃ v m', QE base q st.fr st.h.m v m' ∧ chkE base n q st hist = true ∧ Run call base n (l1 ++ l2) ⟨putD q.s.dst v st.fr, ⟨m', st.h.next⟩, st.ds⟩ hist st' := by
  intro l1
  induction l1 with
  | nil =>
    intro st hist st' hr _ _
    cases hr with
    | cons hc hd hr =>
      obtain ⟨v, m', h1, rfl⟩ := (dstep_quiet hq).1 hd
      rw [hq] at hr
      exact ⟨v, m', h1, hc, hr⟩
  | cons x l1 ih =>
    intro st hist st' hr hx hp
    obtain ⟨hqx, hpr, hlx⟩ := hx x (List.mem_cons_self ..)
    obtain ⟨lk1, lk2, lk3, _, lk5⟩ := hpr.looks
    obtain ⟨hp1, hp2⟩ := List.pairwise_cons.1 hp
    cases hr with
    | @cons _ _ _ st1 _ _ hc hd hr =>
      have hseen : ∀ y ∈ l1, hasB b q.i y.i = false ∧ Pr b n y q ∧ (y.s.loud = true → y.i ∈ q.free ∧ seenE (cond x.s.loud ((x.i, st.h) :: hist) hist) y.i = none) := fun y hy => by
        obtain ⟨a1, a2, a3⟩ := hx y (List.mem_cons_of_mem _ hy)
        refine ⟨a1, a2, fun hl => ⟨(a3 hl).1, ?_⟩⟩
        cases hxl : x.s.loud with
        | false => exact (a3 hl).2
        | true =>
          show cond (Nat.beq x.i y.i) (some st.h) (seenE hist y.i) = none
          cases hb : Nat.beq x.i y.i with
          | true => exact absurd (Nat.eq_of_beq_eq_true hb) (hp1 y hy)
          | false => exact (a3 hl).2
      obtain ⟨v, m1, g1, g2, g3⟩ := ih st1 _ st' hr hseen hp2
      cases hxl : x.s.loud with
      | false =>
        rw [hxl] at g2 g3
        simp only [cond_false] at g2 g3
        obtain ⟨vx, mx, e1, rfl⟩ := (dstep_quiet hxl).1 hd
        have ag : Agree (looksA q.s) (putD x.s.dst vx st.fr) st.fr := (agree_put lk1).symm
        -- x's block is not what q reads
        have hmx : ∀ k, k ≠ base + x.i → mx.get k = st.h.m.get k := fun k hk => by
          rcases e1 with ⟨_, _, rfl⟩ | ⟨_, _, rfl⟩ | ⟨_, bk, f, _, _, rfl⟩
          · rfl
          · rfl
          · rw [T.get_set, if_neg hk]
        have hrq : wantE (putD x.s.dst vx st.fr) q.s.g = true → ∀ k, rdName q.s.op (putD x.s.dst vx st.fr) = some k → mx.get k = st.h.m.get k := fun hw k hk =>
          hmx k (rd_ne hpr.mq hqx hpr.xi (chk_rd g2 hq hw).1 hk)
        obtain ⟨m', q1, q2⟩ := g1.move ag hrq
        have chq : chkE base n q st hist = true := chk_move g2 ag hrq
        have agx : Agree (looksA x.s) st.fr (putD q.s.dst v st.fr) := agree_put lk2
        have hmq : ∀ k, k ≠ base + q.i → st.h.m.get k = m'.get k := fun k hk => by
          rcases q2 with ⟨_, rfl⟩ | ⟨bk, _, rfl, _⟩
          · rfl
          · rw [T.get_set, if_neg hk]
        have hrx : wantE st.fr x.s.g = true → ∀ k, rdName x.s.op st.fr = some k → st.h.m.get k = m'.get k := fun hw k hk =>
          hmq k (rd_ne hpr.mx hpr.xq hpr.qi (chk_rd hc hxl hw).1 hk)
        obtain ⟨mx', x1, x2⟩ := e1.move agx hrx
        refine ⟨v, m', q1, chq, ?_⟩
        refine Run.cons (st := ⟨putD q.s.dst v st.fr, ⟨m', st.h.next⟩, st.ds⟩) (chk_move hc agx hrx) ((dstep_quiet hxl).2 ⟨vx, mx', x1, rfl⟩) ?_
        rw [hxl]
        simp only [cond_false]
        have hm : mx' = m1 := by
          have hne : base + x.i ≠ base + q.i := fun e => hpr.ne (by omega)
          rcases q2 with ⟨a1, a2⟩ | ⟨bq, a1, a2, _⟩ <;> rcases x2 with ⟨b1, b2⟩ | ⟨bx, b1, b2, _⟩
          · rw [b2, a1, a2, ← b1]
          · rw [b2, a1, a2, ← b1]
          · rw [b2, a1, a2, ← b1]
          · rw [b2, a1, a2, b1, T.set_comm _ _ _ _ _ hne]
        have hfr : putD x.s.dst vx (putD q.s.dst v st.fr) = putD q.s.dst v (putD x.s.dst vx st.fr) := putD_comm lk3
        rw [hm, hfr]
        exact g3
      | true =>
        rw [hxl] at g2 g3
        simp only [cond_true] at g2 g3
        obtain ⟨vx, hx', dsx, e1, rfl⟩ := (dstep_loud hxl).1 hd
        have hnm : makes q.s.op = false := by
          cases hm : makes q.s.op with
          | false => rfl
          | true => rw [lk5 hm] at hxl; cases hxl
        have ag : Agree (looksA q.s) (putD x.s.dst vx st.fr) st.fr := (agree_put lk1).symm
        obtain ⟨hfree, hnone⟩ := hlx hxl
        have key : wantE (putD x.s.dst vx st.fr) q.s.g = true → ∀ u, quiet q.s.op hx'.m.get (putD x.s.dst vx st.fr) = some (.val u) → quiet q.s.op st.h.m.get st.fr = some (.val u) := fun hw u hu => by
          rw [← quiet_fr (op_fr ag)]
          cases hr : rds q.s.op with
          | false =>
            rw [← hu]
            exact quiet_rd fun k hk => by rw [rdName_rds hk] at hr; cases hr
          | true =>
            obtain ⟨v', hv', hs⟩ := (chk_rd g2 hq hw).2 hr
            have := (same_cons hs hnone).2 hfree
            have ev : v' = u := by
              have : some (QR.val v') = some (QR.val u) := hv'.symm.trans hu
              cases this; rfl
            rw [this, ev]
        have hq1 : QE base q st.fr st.h.m v st.h.m ∧ m1 = hx'.m := by
          rcases g1 with ⟨h1, rfl, h3⟩ | ⟨h1, h2, h3⟩ | ⟨h1, bk, f, h2, _⟩
          · exact ⟨.inl ⟨by rw [← want_fr ag]; exact h1, rfl, rfl⟩, h3⟩
          · exact ⟨.inr (.inl ⟨by rw [← want_fr ag]; exact h1, key h1 v h2, rfl⟩), h3⟩
          · rw [made_makes h2] at hnm; cases hnm
        have chq : chkE base n q st hist = true := by
          refine chk_mk fun _ hw => ?_
          have hw' : wantE (putD x.s.dst vx st.fr) q.s.g = true := by rw [want_fr ag]; exact hw
          obtain ⟨c1, c2⟩ := chk_rd g2 hq hw'
          refine ⟨by rw [← rdOk_fr ag]; exact c1, fun hr => ?_⟩
          obtain ⟨v', hv', hs⟩ := c2 hr
          exact ⟨v', key hw' v' hv', same_fr (op_fr ag) (same_cons hs hnone).1⟩
        obtain ⟨q1, q2⟩ := hq1
        refine ⟨v, st.h.m, q1, chq, ?_⟩
        have agx : Agree (looksA x.s) st.fr (putD q.s.dst v st.fr) := agree_put lk2
        have e2 : LE call x (putD q.s.dst v st.fr) st.h vx hx' dsx := by
          rcases e1 with ⟨h1, h2⟩ | ⟨h1, h2⟩
          · exact .inl ⟨by rw [← want_fr agx]; exact h1, h2⟩
          · exact .inr ⟨by rw [← want_fr agx]; exact h1, by rw [← loud_fr (op_fr agx)]; exact h2⟩
        refine Run.cons (st := ⟨putD q.s.dst v st.fr, ⟨st.h.m, st.h.next⟩, st.ds⟩) (chk_mk fun hl => by rw [hxl] at hl; cases hl) ((dstep_loud hxl).2 ⟨vx, hx', dsx, e2, rfl⟩) ?_
        rw [hxl]
        simp only [cond_true]
        have hfr : putD x.s.dst vx (putD q.s.dst v st.fr) = putD q.s.dst v (putD x.s.dst vx st.fr) := putD_comm lk3
        rw [hfr]
        rw [q2] at g3
        exact g3
end Go.Ab
