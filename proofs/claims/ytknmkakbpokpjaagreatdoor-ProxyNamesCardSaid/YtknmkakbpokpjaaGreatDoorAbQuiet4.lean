/-
  The quiet operations on slices, addresses, texts and bytes.
-/
import Derived.Test.YtknmkakbpokpjaaGreatDoorAbQuiet3
import Derived.Lib.ConvBytes
namespace Go.Ab

theorem size_mk (s : List UInt8) : (ByteArray.mk s.toArray).size = s.length := by show s.toArray.size = _; simp
theorem bytesCells_eq (σ : Sg) (s : List UInt8) : toVs σ (bytesCells s) = s.map fun b => Value.int .u8 b.toNat := by
  unfold bytesCells
  rw [toVs_map, List.map_map]
  rfl
theorem cellBytes_ok (σ : Sg) : ∀ (l : List AV) (s : List UInt8), cellBytes l = some s → ∃ ns : List Int, toVs σ l = ns.map (Value.int .u8) ∧ s = ns.map fun n => UInt8.ofNat n.toNat
  | [], s, h => by cases h; exact ⟨[], rfl, rfl⟩
  | v :: l, s, h => by
    cases v <;> try (cases h; done)
    rename_i k n
    cases k <;> try (cases h; done)
    simp only [cellBytes] at h
    split at h
    · rename_i r hr
      cases h
      obtain ⟨ns, h1, h2⟩ := cellBytes_ok σ l r hr
      exact ⟨n :: ns, by simp only [toVs, toV, h1, List.map_cons], by rw [h2, List.map_cons]⟩
    · cases h

section
variable {P : Program} {E : Tys} {nt : Nat} {σ : Sg} {rd : Rd} {w : World} (hR : Rel E.gl σ rd w) {fr : T AV} {a : Act} (hF : FR σ (Known rd) fr a.tmps nt) {o : Oper} {r : QR}
include hR hF
theorem s_ext {x : Operand} {y : AO} {i : Nat} (ho : o.op = .extract x i) (hx : aoC E nt x = some y) (hq : q_ext y i rd fr = some r) : QS P o a σ rd w r := by
  unfold q_ext at hq
  split at hq
  · rename_i l hl
    obtain ⟨v, hv, rfl⟩ := qv_ok hq
    rw [nth_eq] at hv
    obtain ⟨h1, h2⟩ := ao_ok hR hF hx
    rw [hl] at h1 h2
    refine ofv (s := Instr.extract (a.eval x) i) (by unfold execOp; rw [ho]) ?_ (okVs_get h2 hv)
    have : (⟨toVs σ l⟩ : Array Value)[i]? = some (toV σ v) := by rw [List.getElem?_toArray, toVs_get, hv]; rfl
    rw [h1]
    simp only [Instr.extract, toV, this, Sem.run_pure]
  · cases hq
theorem run_call_builtin {c : Call} {b : Builtin} (ho : o.op = .call c) (hc : c.callee = .builtin b) {l : List AO} (hl : aosC E nt c.args.toList = some l) :
    ∃ cs, (execOp a.eval o).run P w = (builtin b c.argTypes o.type cs ⟨toVs σ (agets fr l)⟩).run P w := by
  obtain ⟨h1, _⟩ := aos_ok hR hF hl
  have e : c.args.map a.eval = ⟨toVs σ (agets fr l)⟩ := by apply Array.ext'; rw [Array.toList_map, h1]
  unfold execOp
  rw [ho]
  simp only [resolve, hc, e, Sem.run_bind, Sem.run_pure, Result.andThen_ok, invoke]
  exact ⟨_, rfl⟩
theorem s_minmax {c : Call} {mx : Bool} {l : List AO} (ho : o.op = .call c) (hc : c.callee = .builtin (cond mx .max .min)) (hl : aosC E nt c.args.toList = some l) (hq : q_minmax mx l rd fr = some r) : QS P o a σ rd w r := by
  unfold q_minmax at hq
  split at hq
  · rename_i x q hxq
    obtain ⟨v, hv, rfl⟩ := qv_ok hq
    have gen : ∀ (q : List AV) (x v : AV), minmaxE mx x q = some v → okV (Known rd) x →
        (List.foldlM (cond mx Builtin.max2 Builtin.min2) (toV σ x) (toVs σ q)).run P w = .ok (toV σ v) w ∧ okV (Known rd) v := by
      intro q
      induction q with
      | nil => intro x v h hk; simp only [minmaxE] at h; cases h; exact ⟨rfl, hk⟩
      | cons y q ih =>
        intro x v h hk
        cases x <;> cases y <;> simp only [minmaxE] at h <;> try (cases h; done)
        rename_i k1 n1 k2 n2
        obtain ⟨h1, h2⟩ := ih _ v h trivial
        refine ⟨?_, h2⟩
        simp only [toVs, List.foldlM_cons, Sem.run_bind]
        have hstep : ((cond mx Builtin.max2 Builtin.min2) (toV σ (.int k1 n1)) (toV σ (.int k2 n2))).run P w = .ok (toV σ (.int k1 (cond (cond mx (!iLe n2 n1) (!iLe n1 n2)) n2 n1))) w := by
          cases mx
          · simp only [cond_false, toV, Builtin.min2, Sem.run_pure, iLe_eq]
            congr 2
            by_cases hlt : n2 < n1
            · rw [if_pos hlt, decide_eq_false (by omega)]; rfl
            · rw [if_neg hlt, decide_eq_true (by omega)]; rfl
          · simp only [cond_true, toV, Builtin.max2, Sem.run_pure, iLe_eq]
            congr 2
            by_cases hlt : n2 > n1
            · rw [if_pos hlt, decide_eq_false (by omega)]; rfl
            · rw [if_neg hlt, decide_eq_true (by omega)]; rfl
        rw [hstep]
        exact h1
    have hk := (aos_ok hR hF hl).2
    rw [hxq] at hk
    obtain ⟨h1, h2⟩ := gen q x v hv hk.1
    refine ⟨?_, h2⟩
    obtain ⟨cs, he⟩ := run_call_builtin (P := P) hR hF ho hc hl
    rw [he, hxq]
    cases mx
    · exact run_v h1
    · exact run_v h1
  · cases hq
end

section
variable {E : Tys} {P : Program} (hE : TysOk E P) {nt : Nat} {σ : Sg} {rd : Rd} {w : World} (hR : Rel E.gl σ rd w) {fr : T AV} {a : Act} (hF : FR σ (Known rd) fr a.tmps nt)
  {o : Oper} {r : QR}
include hE hR hF
theorem s_len {c : Call} {t : Nat} {d : TypeDesc} {s : Bool} {x : AO} (ho : o.op = .call c) (hc : c.callee = .builtin .len) (ht : c.argTypes[0]? = some t) (hu : und E t = some d) (hd : (s = true ∧ d = .string) ∨ (s = false ∧ ∃ e, d = .slice e))
    (hl : aosC E nt c.args.toList = some [x]) (hq : q_len s x rd fr = some r) : QS P o a σ rd w r := by
  obtain ⟨cs, he⟩ := run_call_builtin (P := P) hR hF ho hc hl
  have hg : agets fr [x] = [aget fr x] := rfl
  unfold q_len at hq
  rcases hd with ⟨rfl, rfl⟩ | ⟨rfl, e, rfl⟩ <;> split at hq <;> rename_i hm hv <;> first | (cases hq; done) | (cases hm; done) | skip
  all_goals
    cases hq
    refine ⟨?_, trivial⟩
    rw [he, hg]
    simp only [builtin, toVs, hv]
    refine run_v ?_
    unfold Builtin.len_
    simp [ht, run_und hE hu, toV, goInt, size_mk]
theorem s_fAddr {s f n : Nat} {x : Operand} {y : AO} {fs : Array Field} {fd : Field} (ho : o.op = .fieldAddr s x f) (hu : und E s = some (.struct fs)) (hf : fs[f]? = some fd) (hk : sizeT E fd.type = some (n + 1)) (hx : aoC E nt x = some y)
    (hq : q_fAddr fd.offset y rd fr = some r) : QS P o a σ rd w r := by
  unfold q_fAddr at hq
  split at hq
  · rename_i m off hm
    cases hq
    obtain ⟨h1, h2⟩ := ao_ok hR hF hx
    rw [hm] at h1 h2
    refine ofv (s := Instr.fieldAt s (a.eval x) f) (by unfold execOp; rw [ho]) ?_ h2
    unfold Instr.fieldAt
    rw [h1]
    simp only [toV, Sem.run_bind, run_und hE hu, Result.andThen_ok, hf, Instr.sureAddr, Sem.run_pure, fieldPlace, run_size hE hk, Sem.run_ite, Nat.add_one_ne_zero, if_false, addr_add]
    rw [Nat.add_assoc]
    rfl
  · cases hq
theorem s_fld {s f : Nat} {k : Option Nat} {x : Operand} {y : AO} {fs : Array Field} {fd : Field} (ho : o.op = .field s x f) (hu : und E s = some (.struct fs)) (hf : fs[f]? = some fd) (hk : formT E fd.type = some k) (hx : aoC E nt x = some y)
    (hq : q_fld k fd.offset y rd fr = some r) : QS P o a σ rd w r := by
  unfold q_fld at hq
  split at hq
  · rename_i l hl
    obtain ⟨v, hv, rfl⟩ := qv_ok hq
    obtain ⟨h1, h2⟩ := ao_ok hR hF hx
    rw [hl] at h1 h2
    obtain ⟨g1, g2⟩ := part_ok hE hk hv σ w
    refine ofv (s := Instr.field s (a.eval x) f) (by unfold execOp; rw [ho]) ?_ (g2 _ h2)
    unfold Instr.field
    rw [h1]
    simp only [toV, Sem.run_bind, run_und hE hu, Result.andThen_ok, hf, asAgg, Sem.run_pure, g1]
  · cases hq
theorem s_iAddr {t e k : Nat} {x i : Operand} {x' i' : AO} (ho : o.op = .indexAddr t x i) (hu : und E t = some (.slice e)) (hk : sizeT E e = some k) (hx : aoC E nt x = some x') (hi : aoC E nt i = some i')
    (hq : q_iAddr k x' i' rd fr = some r) : QS P o a σ rd w r := by
  unfold q_iAddr at hq
  split at hq
  · rename_i m off len cap op ki n hm hn
    split at hq
    · rename_i j hj
      cases hq
      obtain ⟨h1, h2⟩ := ao_ok hR hF hx
      obtain ⟨h3, _⟩ := ao_ok hR hF hi
      rw [hm] at h1 h2
      rw [hn] at h3
      obtain ⟨rfl, hlt⟩ := inB_ok hj
      refine ofv (s := Instr.indexAt t (a.eval x) (a.eval i)) (by unfold execOp; rw [ho]) ?_ h2
      unfold Instr.indexAt
      rw [h1, h3]
      have hc : (0 : Int) ≤ (j : Int) ∧ (j : Int) < (len : Int) := ⟨by omega, by omega⟩
      simp only [toV, asIntOf, Sem.run_bind, run_und hE hu, Result.andThen_ok, Sem.run_pure, Sem.run_ite, if_pos hc, run_size hE hk, addr_add, Int.toNat_natCast]
      rw [Nat.add_assoc]
      rfl
    · cases hq
  · cases hq
theorem s_iAddrA {t e k len : Nat} {x i : Operand} {x' i' : AO} (ho : o.op = .indexAddr t x i) (hu : und E t = some (.array len e)) (hk : sizeT E e = some k) (hx : aoC E nt x = some x') (hi : aoC E nt i = some i')
    (hq : q_iAddrA len k x' i' rd fr = some r) : QS P o a σ rd w r := by
  unfold q_iAddrA at hq
  split at hq
  · rename_i m off ki n hm hn
    split at hq
    · rename_i j hj
      cases hq
      obtain ⟨h1, h2⟩ := ao_ok hR hF hx
      obtain ⟨h3, _⟩ := ao_ok hR hF hi
      rw [hm] at h1 h2
      rw [hn] at h3
      obtain ⟨rfl, hlt⟩ := inB_ok hj
      refine ofv (s := Instr.indexAt t (a.eval x) (a.eval i)) (by unfold execOp; rw [ho]) ?_ h2
      unfold Instr.indexAt
      rw [h1, h3]
      have hc : (0 : Int) ≤ (j : Int) ∧ (j : Int) < (len : Int) := ⟨by omega, by omega⟩
      simp only [toV, asIntOf, Sem.run_bind, run_und hE hu, Result.andThen_ok, Sem.run_pure, Instr.sureAddr, Sem.run_ite, if_pos hc, run_size hE hk, addr_add, Int.toNat_natCast]
      rw [Nat.add_assoc]
      rfl
    · cases hq
  · cases hq
theorem s_idxS {t : Nat} {x i : Operand} {x' i' : AO} (ho : o.op = .index t x i) (hu : und E t = some .string) (hx : aoC E nt x = some x') (hi : aoC E nt i = some i')
    (hq : q_idxS x' i' rd fr = some r) : QS P o a σ rd w r := by
  unfold q_idxS at hq
  split at hq
  · rename_i s ki j hs hn
    split at hq
    · rename_i b hb
      cases hq
      rw [nth_eq] at hb
      obtain ⟨h1, _⟩ := ao_ok hR hF hx
      obtain ⟨h3, _⟩ := ao_ok hR hF hi
      rw [hs] at h1
      rw [hn] at h3
      refine ofv (s := Instr.index t (a.eval x) (a.eval i)) (by unfold execOp; rw [ho]) ?_ trivial
      unfold Instr.index
      rw [h1, h3]
      have hlt : j < s.length := (List.getElem?_eq_some_iff.1 hb).1
      have hget : (if (0 : Int) ≤ Int.ofNat j then (ByteArray.mk s.toArray)[(Int.ofNat j).toNat]? else none) = some b := by
        rw [if_pos (by simp)]
        have hj : (Int.ofNat j).toNat = j := rfl
        rw [hj, ByteArray.getElem?_lt' _ _ (by show j < s.toArray.size; simpa using hlt)]
        congr 1
        have := (List.getElem?_eq_some_iff.1 hb).2
        rw [← this]
        rfl
      simp only [toV, asIntOf, Sem.run_bind, run_und hE hu, Result.andThen_ok, Sem.run_pure, hget]
      rfl
    · cases hq
  · cases hq
theorem s_idxA {t e k len : Nat} {g : Option Nat} {x i : Operand} {x' i' : AO} (ho : o.op = .index t x i) (hu : und E t = some (.array len e)) (hk : sizeT E e = some k) (hg : formT E e = some g) (hx : aoC E nt x = some x') (hi : aoC E nt i = some i')
    (hq : q_idxA len k g x' i' rd fr = some r) : QS P o a σ rd w r := by
  unfold q_idxA at hq
  split at hq
  · rename_i l ki n hl hn
    split at hq
    · rename_i j hj
      obtain ⟨v, hv, rfl⟩ := qv_ok hq
      obtain ⟨h1, h2⟩ := ao_ok hR hF hx
      obtain ⟨h3, _⟩ := ao_ok hR hF hi
      rw [hl] at h1 h2
      rw [hn] at h3
      obtain ⟨rfl, hlt⟩ := inB_ok hj
      obtain ⟨g1, g2⟩ := part_ok hE hg hv σ w
      refine ofv (s := Instr.index t (a.eval x) (a.eval i)) (by unfold execOp; rw [ho]) ?_ (g2 _ h2)
      unfold Instr.index
      rw [h1, h3]
      have hc : (0 : Int) ≤ (j : Int) ∧ (j : Int) < (len : Int) := ⟨by omega, by omega⟩
      have e1 : Nat.mul j k = j * k := rfl
      rw [e1] at g1
      simp only [toV, asIntOf, Sem.run_bind, run_und hE hu, Result.andThen_ok, Sem.run_pure, Sem.run_ite, if_pos hc, run_size hE hk, Int.toNat_natCast, g1]
    · cases hq
  · cases hq
theorem s_rng {t : Nat} {x : Operand} {y : AO} (ho : o.op = .range t x) (hu : und E t = some .string) (hx : aoC E nt x = some y) (hq : q_rng y rd fr = some r) : QS P o a σ rd w r := by
  unfold q_rng at hq
  split at hq
  · rename_i s hs
    cases hq
    obtain ⟨h1, _⟩ := ao_ok hR hF hx
    rw [hs] at h1
    refine ⟨.stringIter ⟨s.toArray⟩ 0, 0, w.drawn, .pointer (some ⟨w.heap.size, 0, none⟩), ?_, rfl, ⟨rfl, rfl⟩, trivial, fun nm => ⟨by simp [toV, upd_same], rfl⟩⟩
    unfold execOp
    simp only [ho, Instr.range, h1, toV, Sem.run_bind, run_und hE hu, Result.andThen_ok, Sem.run_pure, run_newObj]
    rfl
  · cases hq
theorem s_sub {t e k : Nat} {x : Operand} {y : AO} {lo hi mx : Option Operand} {l' h' m' : Option AO} (ho : o.op = .slice t x lo hi mx) (hu : und E t = some (.slice e)) (hk : sizeT E e = some k) (hx : aoC E nt x = some y)
    (hl : aoptC E nt lo = some l') (hh : aoptC E nt hi = some h') (hm : aoptC E nt mx = some m') (hmx : m' ≠ none → h' ≠ none) (hq : q_sub k y l' h' m' rd fr = some r) : QS P o a σ rd w r := by
  obtain ⟨v, hv, rfl⟩ := qv_ok hq
  obtain ⟨g1, g2⟩ := ao_ok hR hF hx
  have he : execOp a.eval o = (do pure (Next.value (← Instr.sliceAt t (a.eval x) (lo.map a.eval) (hi.map a.eval) (mx.map a.eval))) : Sem Next) := by unfold execOp; rw [ho]
  have hmx' : agetO fr m' ≠ none → agetO fr h' ≠ none := by
    intro h1 h2
    refine hmx (fun e => h1 (by rw [e]; rfl)) ?_
    cases h' with
    | none => rfl
    | some z => cases h2
  unfold subE at hv
  split at hv
  · rename_i hy
    rw [hy] at g1
    split at hv
    · rename_i e0 e1 e2
      cases hv
      refine ofv he ?_ trivial
      rw [g1, aopt_ok hR hF hl, aopt_ok hR hF hh, aopt_ok hR hF hm]
      have hb := run_sliceBounds (P := P) (w := w) (isSlice := true) (len := 0) (cap := 0) (σ := σ) (lo := agetO fr l') (hi := agetO fr h') (mx := agetO fr m') e0 (by cases h : agetO fr m' <;> exact e1) e2 hmx' (Nat.le_refl _) (Nat.le_refl _) (Nat.le_refl _)
      unfold Instr.sliceAt Instr.slice
      simp only [toV, Sem.run_bind, run_und hE hu, Result.andThen_ok, hb, run_size hE hk, Sem.run_pure]
      rfl
    · cases hv
  · rename_i n off len cap op hy
    rw [hy] at g1 g2
    split at hv
    · rename_i l h m e0 e1 e2
      cases hb : (Nat.ble m cap && Nat.ble h m && Nat.ble l h) with
      | false => rw [hb] at hv; cases hv
      | true =>
        rw [hb] at hv
        simp only [cond_true] at hv
        simp only [Bool.and_eq_true, Nat.ble_eq] at hb
        obtain ⟨⟨b1, b2⟩, b3⟩ := hb
        -- the model's cap is at least ours
        have run : ∀ capC mC, capC = (cond op (cap + (σ n).extra) cap) → natOpt capC (agetO fr m') = some mC → (match agetO fr m' with | some _ => capC | none => len) = (match agetO fr m' with | some _ => capC | none => len) →
            natOpt (match agetO fr m' with | some _ => capC | none => len) (agetO fr h') = some h → h ≤ mC → mC ≤ capC →
            (Instr.sliceAt t (toV σ (.sl n off len cap op)) ((agetO fr l').map (toV σ)) ((agetO fr h').map (toV σ)) ((agetO fr m').map (toV σ))).run P w =
              .ok (.slice (if mC = l then some ⟨(σ n).blk, (σ n).off + off, none⟩ else some ⟨(σ n).blk, (σ n).off + off + l * k, none⟩) (h - l) (mC - l)) w := by
          intro capC mC hcap hmC _ hhC h1 h2
          have hb := run_sliceBounds (P := P) (w := w) (isSlice := true) (len := len) (cap := capC) (σ := σ) (lo := agetO fr l') (hi := agetO fr h') (mx := agetO fr m') e0 hhC hmC hmx' b3 h1 h2
          unfold Instr.sliceAt Instr.slice
          simp only [toV, ← hcap, Sem.run_bind, run_und hE hu, Result.andThen_ok, hb, run_size hE hk, Sem.run_pure, Option.map_some, addr_add]
        have hcapge : cap ≤ cond op (cap + (σ n).extra) cap := by cases op <;> simp
        refine ofv he ?_ ?_
        · rw [g1, aopt_ok hR hF hl, aopt_ok hR hF hh, aopt_ok hR hF hm]
          cases hM : agetO fr m' with
          | none =>
            rw [hM] at e1 e2 hv run
            cases e2
            cases op with
            | false =>
              simp only at hv
              cases hv
              rw [run cap cap rfl rfl rfl e1 b2 (Nat.le_refl _)]
              simp only [toV, cond_false]
              cases hml : Nat.beq cap l with
              | true => rw [if_pos (Nat.eq_of_beq_eq_true hml)]; rfl
              | false =>
                rw [if_neg (Nat.ne_of_beq_eq_false hml)]
                show Result.ok (Value.slice (some ⟨_, (σ n).off + off + l * k, none⟩) _ _) w = Result.ok (Value.slice (some ⟨_, (σ n).off + (off + l * k), none⟩) _ _) w
                rw [Nat.add_assoc]
                rfl
            | true =>
              simp only at hv
              rw [run (cap + (σ n).extra) (cap + (σ n).extra) rfl rfl rfl e1 (by omega) (Nat.le_refl _)]
              cases hl0 : Nat.beq l 0 with
              | true =>
                rw [hl0] at hv
                cases hv
                obtain rfl := Nat.eq_of_beq_eq_true hl0
                simp only [Nat.zero_mul, Nat.add_zero, ite_self, Nat.sub_zero, toV, cond_true]
              | false =>
                rw [hl0] at hv
                simp only [cond_false] at hv
                cases hlc : Nat.beq l cap with
                | true => rw [hlc] at hv; cases hv
                | false =>
                  rw [hlc] at hv
                  cases hv
                  have hne := Nat.ne_of_beq_eq_false hlc
                  rw [if_neg (by omega)]
                  show Result.ok (Value.slice (some ⟨_, (σ n).off + off + l * k, none⟩) _ _) w = Result.ok (Value.slice (some ⟨_, (σ n).off + (off + l * k), none⟩) _ (cap - l + (σ n).extra)) w
                  rw [Nat.add_assoc, show cap + (σ n).extra - l = cap - l + (σ n).extra by omega]
                  rfl
          | some z =>
            rw [hM] at e1 e2 hv run
            have hv' : some (AV.sl n (cond (Nat.beq m l) off (Nat.add off (Nat.mul l k))) (Nat.sub h l) (Nat.sub m l) false) = some v := by cases op <;> exact hv
            cases hv'
            have e1' : natOpt (cond op (cap + (σ n).extra) cap) (agetO fr h') = some h := by
              cases hH : agetO fr h' with
              | none => exact absurd hH (hmx' (by rw [hM]; simp))
              | some y => rw [hH] at e1; exact e1
            rw [run (cond op (cap + (σ n).extra) cap) m rfl e2 rfl e1' b2 (by omega)]
            simp only [toV, cond_false]
            cases hml : Nat.beq m l with
            | true => rw [if_pos (Nat.eq_of_beq_eq_true hml)]; rfl
            | false =>
              rw [if_neg (Nat.ne_of_beq_eq_false hml)]
              show Result.ok (Value.slice (some ⟨_, (σ n).off + off + l * k, none⟩) _ _) w = Result.ok (Value.slice (some ⟨_, (σ n).off + (off + l * k), none⟩) _ _) w
              rw [Nat.add_assoc]
              rfl
        · have hn : Known rd n := g2
          cases hM : agetO fr m' <;> rw [hM] at hv <;> cases op <;> simp only at hv <;> first
            | (cases hv; exact hn)
            | (cases hl0 : Nat.beq l 0 <;> rw [hl0] at hv <;> simp only [cond_true, cond_false] at hv <;> first
                | (cases hv; exact hn)
                | (cases hlc : Nat.beq l cap <;> rw [hlc] at hv <;> cases hv; exact hn))
    · cases hv
  · cases hv
theorem s_subA {t e k len : Nat} {x : Operand} {y : AO} {lo hi mx : Option Operand} {l' h' m' : Option AO} (ho : o.op = .slice t x lo hi mx) (hu : und E t = some (.array len e)) (hk : sizeT E e = some k) (hx : aoC E nt x = some y)
    (hl : aoptC E nt lo = some l') (hh : aoptC E nt hi = some h') (hm : aoptC E nt mx = some m') (hmx : m' ≠ none → h' ≠ none) (hq : q_subA len k y l' h' m' rd fr = some r) : QS P o a σ rd w r := by
  obtain ⟨v, hv, rfl⟩ := qv_ok hq
  obtain ⟨g1, g2⟩ := ao_ok hR hF hx
  have he : execOp a.eval o = (do pure (Next.value (← Instr.sliceAt t (a.eval x) (lo.map a.eval) (hi.map a.eval) (mx.map a.eval))) : Sem Next) := by unfold execOp; rw [ho]
  have hmx' : agetO fr m' ≠ none → agetO fr h' ≠ none := by
    intro h1 h2
    refine hmx (fun e => h1 (by rw [e]; rfl)) ?_
    cases h' with
    | none => rfl
    | some z => cases h2
  unfold subAE at hv
  split at hv
  · rename_i n off hy
    rw [hy] at g1 g2
    split at hv
    · rename_i l h m e0 e1 e2
      cases hb : (Nat.ble m len && Nat.ble h m && Nat.ble l h) with
      | false => rw [hb] at hv; cases hv
      | true =>
        rw [hb] at hv
        cases hv
        simp only [Bool.and_eq_true, Nat.ble_eq] at hb
        obtain ⟨⟨b1, b2⟩, b3⟩ := hb
        refine ofv he ?_ g2
        rw [g1, aopt_ok hR hF hl, aopt_ok hR hF hh, aopt_ok hR hF hm]
        have hbd := run_sliceBounds (P := P) (w := w) (isSlice := false) (len := len) (cap := len) (σ := σ) (lo := agetO fr l') (hi := agetO fr h') (mx := agetO fr m') e0 (by cases h : agetO fr m' <;> exact e1) e2 hmx' b3 b2 b1
        unfold Instr.sliceAt
        simp only [toV, Sem.run_bind, run_und hE hu, Result.andThen_ok, Instr.sureAddr, hbd, run_size hE hk, Sem.run_pure, addr_add, cond_false]
        cases hml : Nat.beq m l with
        | true => rw [if_pos (Nat.eq_of_beq_eq_true hml)]; rfl
        | false =>
          rw [if_neg (Nat.ne_of_beq_eq_false hml)]
          show Result.ok (Value.slice (some ⟨_, (σ n).off + off + l * k, none⟩) _ _) w = Result.ok (Value.slice (some ⟨_, (σ n).off + (off + l * k), none⟩) _ _) w
          rw [Nat.add_assoc]
          rfl
    · cases hv
  · cases hv
end
end Go.Ab
