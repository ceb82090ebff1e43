/-
  What the evaluator's answer says of a call: a run of a whole function whose arguments are known, in a world whose listed tables are known.
-/
import Derived.Test.YtknmkakbpokpjaaGreatDoorAbFn
import Derived.LaidLaws
import Derived.Lib.LaidTab
import Derived.ChangeArms
namespace Go.Ab

theorem tysE_ok {P : Program} {eqOk gl : List Nat} (h : (eqOk.all fun t => !P.stoodInHeld t && !P.eqGuardType P.depth t && (P.fieldsOf t).all fun f => f.name != "_") = true) : TysOk (tysE P eqOk gl) P := by
  refine ⟨fun t i ht => ?_, fun t ht => ?_⟩
  · have ht' : (T.ofList P.types.toList).get t = some i := ht
    rw [T.get_ofList, Array.getElem?_toList] at ht'
    have hlt := (Array.getElem?_eq_some_iff.1 ht').1
    show P.toTables.info? t = some i
    unfold Tables.info?
    rw [if_pos hlt]
    exact ht'
  · have := List.all_eq_true.1 h t ((memN_iff _ _).1 ht)
    simp only [Bool.and_eq_true, Bool.not_eq_true'] at this
    exact ⟨this.1.1, this.1.2, this.2⟩

theorem fnsE_ok {P : Program} {eqOk gl : List Nat} : FnsOk (tysE P eqOk gl) P (fnsE P eqOk gl) := by
  intro f fn' h
  have h' : (T.ofList (P.funcs.toList.map (fnC (tysE P eqOk gl)))).get f = some (some fn') := h
  rw [T.get_ofList, List.getElem?_map, Option.map_eq_some_iff] at h'
  obtain ⟨fn, h1, h2⟩ := h'
  exact ⟨fn, by rw [← Array.getElem?_toList]; exact h1, h2⟩

/-- A call whose run the evaluator has made. -/
theorem calls_of_callE {P : Program} {eqOk gl : List Nat} (hq : (eqOk.all fun t => !P.stoodInHeld t && !P.eqGuardType P.depth t && (P.fieldsOf t).all fun f => f.name != "_") = true) (hm : P.follows .mixedOrders = true)
    {n f : Nat} {args : List AV} {h : H} {v : AV} {h' : H} (he : callE (fnsE P eqOk gl) n f args h = some (v, h')) {σ : Sg} {w : World} (hR : Rel gl σ h.m.get w) (hF : Fresh h) (hok : okVs (Known h.m.get) args) {A : Array Value} (hA : A.toList = toVs σ args) :
    Calls P f A w fun e w' => ∃ V, e = .returned V ∧ LS gl σ h w v h' V w' := by
  refine ((fn_ok (tysE_ok (gl := gl) hq) hm fnsE_ok n).1 f args h v h' he σ w hR hF hok A hA).2.mono fun e w' hp => ?_
  cases e with
  | returned V => exact ⟨V, rfl, hp⟩
  | panicked ch => exact hp.elim
  | outgrown => exact hp.elim

/-- Nothing of what was there is written. -/
structure Kept (w w' : World) : Prop where
  size : w.heap.size ≤ w'.heap.size
  os : w'.os = w.os
  tape : w'.tape = w.tape
  output : w'.output = w.output
  same : ∀ b, b < w.heap.size → w'.heap[b]? = w.heap[b]?

theorem Kept.keptBut {w w' : World} (h : Kept w w') (may : MemPlace → Prop) : w.keptBut w' may := by
  refine ⟨h.os, h.output, fun i hi => ?_⟩
  rw [h.same i hi]
  split
  · rename_i h1 h2
    rw [h1] at h2
    cases h2
    exact ⟨rfl, rfl, rfl, fun _ _ => rfl⟩
  · rename_i h1 h2
    rw [h1] at h2
    cases h2
    exact .inr ⟨rfl, rfl⟩
  · rename_i h1 h2
    rfl
theorem Kept.refl (w : World) : Kept w w := ⟨Nat.le_refl _, rfl, rfl, rfl, fun _ _ => rfl⟩
theorem Kept.trans {u v w : World} (h : Kept u v) (k : Kept v w) : Kept u w :=
  ⟨Nat.le_trans h.size k.size, k.os.trans h.os, k.tape.trans h.tape, k.output.trans h.output, fun b hb => (k.same b (Nat.lt_of_lt_of_le hb h.size)).trans (h.same b hb)⟩

theorem Kept.of_ext {σ σ' : Sg} {rd rd' : Rd} {w w' : World} (h : Ext σ rd w σ' rd' w') (hro : ∀ n c, rd n = some c → wr c = false) : Kept w w' :=
  ⟨h.size, h.os, h.tape, h.output, fun b hb => h.same b hb fun n c hn hc => by rw [hro n c hn] at hc; cases hc⟩

/-- One table, that stays as it is. -/
noncomputable def tabH (g : Nat) (l : List AV) (n : Nat) : H := ⟨T.set .e g (.cells l true 0), n⟩
theorem tabH_get (g : Nat) (l : List AV) (n m : Nat) : (tabH g l n).m.get m = if m = g then some (.cells l true 0) else none := by
  unfold tabH
  rw [T.get_set]
  split
  · rfl
  · cases m <;> rfl

theorem rel_tab {g : Nat} {l : List AV} {n : Nat} {w : World} {c : Array Value} {e : Nat} {fz : Nat × Nat} (hc : w.heap[g]? = some (.cells c e fz)) (σ : Sg) (hσ : σ g = ⟨g, 0, 0⟩) (hl : ∀ (i : Nat) (v : AV), l[i]? = some v → c[i]? = some (toV σ v)) (hlen : l.length ≤ c.size) (hok : okVs (fun _ => False) l) :
    Rel [g] σ (tabH g l n).m.get w := by
  have hg : (tabH g l n).m.get g = some (.cells l true 0) := by rw [tabH_get, if_pos rfl]
  have hget : ∀ m b, (tabH g l n).m.get m = some b → m = g ∧ b = .cells l true 0 := fun m b h => by
    rw [tabH_get] at h
    split at h
    · rename_i e; cases h; exact ⟨e, rfl⟩
    · cases h
  refine ⟨fun m l' ro k h => ?_, fun m s pos h => ?_, fun m m' b c h1 h2 hw _ _ => ?_, fun m l' ro k h => ?_, fun m hm => ?_⟩
  · obtain ⟨rfl, hb⟩ := hget _ _ h
    cases hb
    rw [hσ]
    exact ⟨c, e, fz, hc, fun i v hi => by rw [Nat.zero_add]; exact hl i v hi, by simpa using hlen, fun h => by cases h⟩
  · have := (hget _ _ h).2; cases this
  · rw [(hget _ _ h1).2] at hw; cases hw
  · have := (hget _ _ h).2
    cases this
    exact okVs.mono (fun _ h => h.elim) _ hok
  · obtain rfl : m = g := by simpa using hm
    rw [hσ]
    exact ⟨rfl, rfl, by rw [Known, hg]; exact Option.some_ne_none _⟩

theorem fresh_tab {g : Nat} {l : List AV} {n : Nat} (h : g < n) : Fresh (tabH g l n) := by
  intro m hm
  have hm' : n ≤ m := hm
  rw [tabH_get, if_neg (by omega)]

/-- The answer is true. -/
def saysTrue : Option (AV × H) → Bool
  | some (.bool b, _) => b
  | _ => false
theorem saysTrue_some {o : Option (AV × H)} (h : saysTrue o = true) : ∃ h', o = some (.bool true, h') := by
  unfold saysTrue at h
  split at h
  · cases h; exact ⟨_, rfl⟩
  · cases h

/-- A call without arguments that answers true, over one table. -/
theorem calls_true {P : Program} {eqOk : List Nat} (hq : (eqOk.all fun t => !P.stoodInHeld t && !P.eqGuardType P.depth t && (P.fieldsOf t).all fun f => f.name != "_") = true) (hm : P.follows .mixedOrders = true)
    {g n f k : Nat} {l : List AV} (hgk : g < k) (he : saysTrue (callE (fnsE P eqOk [g]) n f [] (tabH g l k)) = true)
    {w : World} {c : Array Value} {e : Nat} {fz : Nat × Nat} (hc : w.heap[g]? = some (.cells c e fz)) (hl : ∀ (i : Nat) (v : AV), l[i]? = some v → c[i]? = some (toV (fun m => ⟨m, 0, 0⟩) v)) (hlen : l.length ≤ c.size) (hok : okVs (fun _ => False) l) :
    Calls P f #[] w fun e w' => e = .returned (.bool true) ∧ Kept w w' := by
  obtain ⟨h', hcall⟩ := saysTrue_some he
  refine (calls_of_callE hq hm hcall (rel_tab (n := k) hc _ rfl hl hlen hok) (fresh_tab hgk) trivial (A := #[]) rfl).mono fun e w' hp => ?_
  obtain ⟨V, rfl, σ', rfl, _, _, _, hE, _⟩ := hp
  refine ⟨rfl, Kept.of_ext hE fun m b hb => ?_⟩
  rw [tabH_get] at hb
  split at hb
  · cases hb; rfl
  · cases hb

/-- An array of texts that reads as the table holds the table's texts. -/
theorem cells_of_texts {H : Type} {enc : TypeId × Value → H} {P : Program} {w : World} {base : Nat} {sp : Nat → Bool} {held : Bool} {fuel : Nat} {t e : TypeId} {n : Nat} {cs : List Value} {zs : List (List UInt8)} {p : List MemPlace}
    (ht : P.underlying t = some (.array n e)) (he : P.underlying e = some .string) (hce : P.cellsOf e = 1) (hct : P.cellsOf t = n)
    (h : DataW.trod enc P w base sp held fuel t cs = some (.agg (zs.map fun z => .lit (.string z)), p)) : cs = zs.map fun z => Value.string ⟨z.toArray⟩ := by
  cases fuel with
  | zero => simp [DataW.trod] at h
  | succ fuel =>
    simp only [DataW.trod, ht, hce, hct, Nat.mul_one] at h
    split at h
    · rename_i hl
      obtain ⟨xs, hm, hx⟩ := Option.map_eq_some_iff.1 h
      have hxs : xs.map (·.1) = zs.map fun z => (DataW.lit (.string z) : DataW H) := by
        have := congrArg Prod.fst hx
        simpa using this
      have hxl : xs.length = n := by simpa using Lib.mapM_length hm
      have hzl : zs.length = n := by
        have := congrArg List.length hxs
        simp at this
        omega
      apply List.ext_getElem?
      intro i
      by_cases hi : i < n
      · obtain ⟨b, hb, hf⟩ := Lib.mapM_at hm i i (by simp [hi])
        obtain ⟨z, hc, rfl, _⟩ := DataW.trod_string he hf
        have h1 : cs[i]? = some (.string z) := by
          have := congrArg (·[0]?) hc
          simpa [List.getElem?_take, List.getElem?_drop] using this
        have h2 : (xs.map (·.1))[i]? = some (DataW.lit (.string z.data.toList) : DataW H) := by simp [hb]
        rw [hxs] at h2
        simp only [List.getElem?_map, Option.map_eq_some_iff, DataW.lit.injEq, Lit.string.injEq] at h2
        obtain ⟨z', hz', rfl⟩ := h2
        simp [h1, hz']
      · rw [List.getElem?_eq_none (by omega), List.getElem?_eq_none (by simp; omega)]
    · cases h

/-- What a row's first listed table gives, where it is one of texts. -/
theorem texts_of_head {P : Program} {W : World} {name : String} {zs : List (List UInt8)} {rest : List (String × DataW Unit)} {g : Nat} {t e : TypeId} {n : Nat}
    (hg : P.globalNamed name = some g) (hty : (P.globals[g]?).map (·.type) = some t) (ht : P.underlying t = some (.array n e)) (he : P.underlying e = some .string) (hce : P.cellsOf e = 1) (hct : P.cellsOf t = n)
    (h : laidMet P ((name, .agg (zs.map fun z => .lit (.string z))) :: rest) W) : ∃ el fz, W.heap[g]? = some (.cells (zs.map fun z => Value.string ⟨z.toArray⟩).toArray el fz) := by
  obtain ⟨ps, ⟨g', t', cs, fuel, p, q, hg', ht', hvar, hd, _, _⟩, _⟩ := h
  obtain rfl := Option.some.inj (hg.symm.trans hg')
  obtain rfl := Option.some.inj (hty.symm.trans ht')
  have := cells_of_texts ht he hce hct hd
  simp only [World.var?, hg, Option.bind_some] at hvar
  split at hvar
  · rename_i c el fz hc
    cases hvar
    refine ⟨el, fz, ?_⟩
    rw [hc, ← this]
  · cases hvar
end Go.Ab
