/-
  The evaluator's operations that write, or call, are the model's.
-/
import Derived.Test.YtknmkakbpokpjaaGreatDoorAbQuiet5
import Derived.Laws.CopyRow
namespace Go.Ab

def Fresh (h : H) : Prop := ∀ n, h.next ≤ n → h.m.get n = none

theorem setCell_heap (w : World) (b i : Nat) (v : Value) {c : Array Value} {e : Nat} {fz : Nat × Nat} (h : w.heap[b]? = some (.cells c e fz)) :
    (w.setCell ⟨b, i, none⟩ v).heap[b]? = some (.cells (c.setIfInBounds i v) e fz) ∧ ∀ j, j ≠ b → (w.setCell ⟨b, i, none⟩ v).heap[j]? = w.heap[j]? := by
  refine ⟨?_, fun j hj => ?_⟩
  · simp only [World.setCell, Array.getElem?_modify]
    rw [if_pos trivial, h]
    rfl
  · simp only [World.setCell, Array.getElem?_modify]
    rw [if_neg (fun e => hj e.symm)]

/-- Storing cells one behind the other into a block that may be written. -/
theorem run_storeCells {P : Program} (b off : Nat) (e : Nat) (fz : Nat × Nat) : ∀ (vs : List Value) (i : Nat) (c : List Value) (w : World), w.heap[b]? = some (.cells ⟨c⟩ e fz) → off + i + vs.length ≤ c.length →
    (∀ v ∈ vs, v.oneCell' = true) → (∀ o, o < c.length → ¬(fz.1 ≤ o ∧ o < fz.2)) →
    ∃ w', (storeCells ⟨b, off, none⟩ vs i).run P w = .ok () w' ∧ w'.heap[b]? = some (.cells ⟨c.take (off + i) ++ vs ++ c.drop (off + i + vs.length)⟩ e fz) ∧ (∀ j, j ≠ b → w'.heap[j]? = w.heap[j]?) ∧
      w'.heap.size = w.heap.size ∧ w'.os = w.os ∧ w'.tape = w.tape ∧ w'.output = w.output ∧ w'.drawn = w.drawn := by
  intro vs
  induction vs with
  | nil => intro i c w h _ _ _; exact ⟨w, rfl, by simpa using h, fun _ _ => rfl, rfl, rfl, rfl, rfl, rfl⟩
  | cons v vs ih =>
    intro i c w h hle h1 hf
    simp only [List.length_cons] at hle
    have hcell : w.cell? ⟨b, off + i, none⟩ = some c[off + i] := by
      simp only [World.cell?, h]
      rw [if_neg (by decide), List.getElem?_toArray, List.getElem?_eq_getElem]
    have hfr : w.frozen? ⟨b, off + i, none⟩ = false := by
      simp only [World.frozen?, h]
      have := hf (off + i) (by omega)
      rw [Bool.eq_false_iff]
      intro hh
      simp only [Bool.and_eq_true, decide_eq_true_eq] at hh
      exact this hh
    obtain ⟨hs1, hs2⟩ := setCell_heap w b (off + i) v h
    rw [List.setIfInBounds_toArray] at hs1
    obtain ⟨w', r1, r2, r3, r4, r5⟩ := ih (i + 1) (c.set (off + i) v) (w.setCell ⟨b, off + i, none⟩ v) hs1 (by rw [List.length_set]; omega) (fun u hu => h1 u (List.mem_cons_of_mem _ hu)) (fun o ho => hf o (by rwa [List.length_set] at ho))
    refine ⟨w', ?_, ?_, fun j hj => (r3 j hj).trans (hs2 j hj), r4.trans (by simp), r5⟩
    · simp only [storeCells, Sem.run_bind, addr_add, run_store P w ⟨b, off + i, none⟩ v .plain (h1 v (List.mem_cons_self ..)), hcell, hfr, Bool.false_eq_true, if_false, Result.andThen_ok]
      exact r1
    · rw [r2]
      congr 3
      apply List.ext_getElem?
      intro j
      simp only [List.getElem?_append, List.length_append, List.length_take, List.length_set, List.getElem?_take, List.getElem?_drop, List.getElem?_set, List.length_cons, List.getElem?_cons]
      have hm1 : min (off + (i + 1)) c.length = off + i + 1 := by omega
      have hm2 : min (off + i) c.length = off + i := by omega
      rw [hm1, hm2]
      by_cases c1 : j < off + i
      · rw [if_pos (by omega), if_pos (by omega), if_pos (by omega), if_neg (by omega), if_pos (by omega), if_pos (by omega), if_pos (by omega)]
      · by_cases c2 : j = off + i
        · subst c2
          rw [if_pos (by omega), if_pos (by omega), if_pos (by omega), if_pos rfl, if_pos (by omega), if_pos (by omega), if_neg (by omega), if_pos (by omega)]
        · by_cases c3 : j < off + i + (vs.length + 1)
          · rw [if_pos (by omega), if_neg (by omega), if_pos (by omega), if_neg (by omega), if_neg (by omega)]
            congr 1; first | done | omega
          · rw [if_neg (by omega), if_neg (by omega), if_neg (by omega)]
            congr 1; first | done | omega

theorem putCells_get {h h' : H} {n off : Nat} {vs : List AV} (hp : putCells h n off vs = some h') :
    ∃ l k r, h.m.get n = some (.cells l false k) ∧ ones vs = true ∧ splice off vs l = some r ∧ h' = ⟨h.m.set n (.cells r false k), h.next⟩ := by
  unfold putCells at hp
  split at hp
  · rename_i l k hg
    cases ho : ones vs with
    | false => rw [ho] at hp; cases hp
    | true =>
      rw [ho] at hp
      simp only [cond_true] at hp
      rw [ob_eq] at hp
      cases hs : splice off vs l with
      | none => rw [hs] at hp; cases hp
      | some r =>
        rw [hs] at hp
        cases hp
        exact ⟨l, k, r, hg, rfl, hs, rfl⟩
  · cases hp

theorem fresh_set {h : H} (hf : Fresh h) {n : Nat} {b b' : Blk} (hn : h.m.get n = some b) : Fresh ⟨h.m.set n b', h.next⟩ := by
  intro m hm
  show (h.m.set n b').get m = none
  rw [T.get_set]
  have : m ≠ n := fun e => by
    subst e
    rw [hf m hm] at hn
    cases hn
  rw [if_neg this]
  exact hf m hm

/-- A block is written: what holds then. -/
theorem rel_write {G : List Nat} {σ : Sg} {h : H} {w w' : World} (hR : Rel G σ h.m.get w) {n k : Nat} {l r : List AV} (hn : h.m.get n = some (.cells l false k))
    {off : Nat} {vs : List AV} (hs : splice off vs l = some r) (hv : okVs (Known h.m.get) vs) {c : List Value} {e : Nat} {fz : Nat × Nat}
    (hc : w.heap[(σ n).blk]? = some (.cells ⟨c⟩ e fz))
    (h1 : w'.heap[(σ n).blk]? = some (.cells ⟨c.take ((σ n).off + off) ++ toVs σ vs ++ c.drop ((σ n).off + off + vs.length)⟩ e fz)) (h2 : ∀ j, j ≠ (σ n).blk → w'.heap[j]? = w.heap[j]?)
    (h3 : w'.heap.size = w.heap.size) (h4 : w'.os = w.os) (h5 : w'.tape = w.tape) (h6 : w'.output = w.output) :
    Rel G σ (h.m.set n (.cells r false k)).get w' ∧ Ext σ h.m.get w σ (h.m.set n (.cells r false k)).get w' := by
  have hkn : ∀ m, Known h.m.get m → Known (h.m.set n (.cells r false k)).get m := fun m hm => by
    show (h.m.set n (.cells r false k)).get m ≠ none
    rw [T.get_set]
    split
    · simp
    · exact hm
  obtain ⟨c', e', fz', hc', hcells, hsize, hfz⟩ := hR.cells n l false k hn
  rw [hc] at hc'
  cases hc'
  obtain ⟨g1, g2, g3, g4⟩ := splice_get hs
  have hlen : (σ n).off + off + vs.length ≤ c.length := by
    have : (σ n).off + l.length + (σ n).extra * k ≤ c.length := hsize
    omega
  have hnew : ∀ i, (c.take ((σ n).off + off) ++ toVs σ vs ++ c.drop ((σ n).off + off + vs.length))[i]? =
      if i < (σ n).off + off then c[i]? else if i < (σ n).off + off + vs.length then (toVs σ vs)[i - ((σ n).off + off)]? else c[i]? := by
    intro i
    simp only [List.getElem?_append, List.length_append, List.length_take, toVs_len, List.getElem?_take, List.getElem?_drop]
    rw [show min ((σ n).off + off) c.length = (σ n).off + off by omega]
    by_cases c1 : i < (σ n).off + off
    · rw [if_pos (by omega), if_pos c1, if_pos c1, if_pos c1]
    · by_cases c2 : i < (σ n).off + off + vs.length
      · rw [if_pos c2, if_neg c1, if_neg c1, if_pos c2]
      · rw [if_neg c2, if_neg c1, if_neg c2]
        congr 1; omega
  refine ⟨⟨fun m l' ro k' hm => ?_, fun m s pos hm => ?_, fun m m' b b' hm hm' hw hl hne => ?_, fun m l' ro k' hm => ?_, fun g hg => ?_⟩,
    ⟨fun m hm => ⟨hkn m hm, rfl⟩, fun m b hm hw => ?_, by rw [h3]; exact Nat.le_refl _, h4, h5, h6, fun b hb hf => h2 b fun eb => hf n _ hn rfl eb.symm⟩⟩
  · rw [T.get_set] at hm
    split at hm
    · rename_i em
      subst em
      cases hm
      refine ⟨_, _, _, h1, fun i v hi => ?_, ?_, fun _ o ho => ?_⟩
      · rw [List.getElem?_toArray, hnew]
        by_cases c1 : i < off ∨ off + vs.length ≤ i
        · have e1 := g3 i c1
          rw [e1] at hi
          have := hcells i v hi
          rw [List.getElem?_toArray] at this
          by_cases c2 : (σ m).off + i < (σ m).off + off
          · rw [if_pos c2, this]
          · rw [if_neg c2, if_neg (by omega), this]
        · have hlt : i - off < vs.length := by omega
          have := g4 (i - off) hlt
          rw [show off + (i - off) = i by omega, hi] at this
          rw [if_neg (by omega), if_pos (by omega), toVs_get, show (σ m).off + i - ((σ m).off + off) = i - off by omega, ← this]
          rfl
      · show _ ≤ (List.length _)
        simp only [List.length_append, List.length_take, List.length_drop, toVs_len]
        have : (σ m).off + l.length + (σ m).extra * k ≤ c.length := hsize
        rw [g1]
        omega
      · refine hfz rfl o ?_
        have : o < (List.length (c.take ((σ m).off + off) ++ toVs σ vs ++ c.drop ((σ m).off + off + vs.length))) := ho
        simp only [List.length_append, List.length_take, List.length_drop, toVs_len] at this
        show o < c.length
        omega
    · rename_i em
      obtain ⟨c2, e2, fz2, q1, q2⟩ := hR.cells m l' ro k' hm
      refine ⟨c2, e2, fz2, ?_, q2⟩
      rw [h2 _ ((hR.apart n m _ _ hn hm rfl rfl (fun x => em x.symm)).symm)]
      exact q1
  · rw [T.get_set] at hm
    split at hm
    · cases hm
    · rename_i em
      rw [h2 _ ((hR.apart n m _ _ hn hm rfl rfl (fun x => em x.symm)).symm)]
      exact hR.iter m s pos hm
  · rw [T.get_set] at hm hm'
    split at hm
    · rename_i em
      subst em
      cases hm
      rw [if_neg (fun x => hne x.symm)] at hm'
      exact hR.apart m m' _ _ hn hm' rfl hl hne
    · split at hm'
      · rename_i em em'
        subst em'
        cases hm'
        exact hR.apart m m' _ _ hm hn hw rfl hne
      · exact hR.apart m m' _ _ hm hm' hw hl hne
  · rw [T.get_set] at hm
    split at hm
    · cases hm
      exact okVs.mono hkn _ (okVs_splice (hR.ok n l false k hn) hv hs)
    · exact okVs.mono hkn _ (hR.ok m l' ro k' hm)
  · obtain ⟨q1, q2, q3⟩ := hR.glob g hg
    exact ⟨q1, q2, hkn g q3⟩
  · rw [T.get_set] at hm
    split at hm
    · rename_i em
      subst em
      exact .inr ⟨m, _, hn, rfl, rfl⟩
    · exact .inr ⟨m, b, hm, hw, rfl⟩

/-- Names below the next one stay as unknown as they were. -/
structure Mono (h h' : H) : Prop where
  next : h.next ≤ h'.next
  old : ∀ n, n < h.next → h'.m.get n ≠ none → h.m.get n ≠ none
theorem Mono.refl (h : H) : Mono h h := ⟨Nat.le_refl _, fun _ _ h => h⟩
theorem Mono.trans {h h1 h2 : H} (a : Mono h h1) (b : Mono h1 h2) : Mono h h2 :=
  ⟨Nat.le_trans a.next b.next, fun n hn hk => a.old n hn (b.old n (Nat.lt_of_lt_of_le hn a.next) hk)⟩
theorem Mono.set {h : H} {n : Nat} {b b' : Blk} (hn : h.m.get n = some b) : Mono h ⟨h.m.set n b', h.next⟩ :=
  ⟨Nat.le_refl _, fun m _ hm => by
    rw [T.get_set] at hm
    by_cases e : m = n
    · rw [e, hn]; simp
    · rw [if_neg e] at hm; exact hm⟩
theorem Mono.new (h : H) (b : Blk) : Mono h (new h b) :=
  ⟨Nat.le_succ _, fun m hlt hm => by
    have hm' : (h.m.set h.next b).get m ≠ none := hm
    rw [T.get_set, if_neg (by omega)] at hm'
    exact hm'⟩
/-- What a run that writes gives. -/
def LS (G : List Nat) (σ : Sg) (h : H) (w : World) (v : AV) (h' : H) (V : Value) (w' : World) : Prop :=
  ∃ σ', V = toV σ' v ∧ okV (Known h'.m.get) v ∧ Rel G σ' h'.m.get w' ∧ Fresh h' ∧ Ext σ h.m.get w σ' h'.m.get w' ∧ Mono h h'

theorem put_ok {P : Program} {G : List Nat} {σ : Sg} {h h' : H} {w : World} (hR : Rel G σ h.m.get w) (hF : Fresh h) {n off : Nat} {vs : List AV} (hv : okVs (Known h.m.get) vs) (hp : putCells h n off vs = some h') :
    ∃ w', (storeCells ⟨(σ n).blk, (σ n).off + off, none⟩ (toVs σ vs)).run P w = .ok () w' ∧ Rel G σ h'.m.get w' ∧ Fresh h' ∧ Ext σ h.m.get w σ h'.m.get w' ∧ Mono h h' := by
  obtain ⟨l, k, r, hn, ho, hs, rfl⟩ := putCells_get hp
  obtain ⟨⟨c⟩, e, fz, hc, hcells, hsize, hfz⟩ := hR.cells n l false k hn
  obtain ⟨g1, g2, g3, g4⟩ := splice_get hs
  have hsz : (σ n).off + l.length + (σ n).extra * k ≤ c.length := hsize
  obtain ⟨w', r1, r2, r3, r4, r5, r6, r7, _⟩ := run_storeCells (P := P) (σ n).blk ((σ n).off + off) e fz (toVs σ vs) 0 c w hc (by rw [toVs_len]; omega)
    (fun v hvm => by
      rw [toVs_map] at hvm
      obtain ⟨u, hu, rfl⟩ := List.mem_map.1 hvm
      exact toV_one ((ones_spec vs).1 ho u hu)) (hfz rfl)
  rw [Nat.add_zero, toVs_len] at r2
  obtain ⟨q1, q2⟩ := rel_write hR hn hs hv hc r2 r3 r4 r5 r6 r7
  exact ⟨w', r1, q1, fresh_set hF hn, q2, Mono.set hn⟩
end Go.Ab
