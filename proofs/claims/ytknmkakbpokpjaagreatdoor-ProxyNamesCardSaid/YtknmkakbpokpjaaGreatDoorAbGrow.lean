/-
  append and copy.
-/
import Derived.Test.YtknmkakbpokpjaaGreatDoorAbLoud
import Derived.Laws.Append
namespace Go.Ab

theorem get_upd {α : Type} (t : T α) (n : Nat) (x : α) : (t.set n x).get = upd t.get n (some x) := by
  funext m
  rw [T.get_set]
  rfl

theorem rel_kill {G : List Nat} {σ : Sg} {rd : Rd} {w : World} (hR : Rel G σ rd w) {b : Nat} {x : Blk} (hb : rd b = some x) :
    Rel G σ (upd rd b (some .dead)) w ∧ Ext σ rd w σ (upd rd b (some .dead)) w := by
  have hkn : ∀ m, Known rd m → Known (upd rd b (some .dead)) m := fun m hm => by
    show upd rd b (some .dead) m ≠ none
    by_cases e : m = b
    · subst e; rw [upd_same]; simp
    · rw [upd_ne _ _ _ e]; exact hm
  have old : ∀ m y, upd rd b (some .dead) m = some y → live y = true → rd m = some y ∧ m ≠ b := fun m y hm hl => by
    by_cases e : m = b
    · subst e; rw [upd_same] at hm; cases hm; cases hl
    · rw [upd_ne _ _ _ e] at hm; exact ⟨hm, e⟩
  have lv : ∀ y, wr y = true → live y = true := fun y h => by cases y <;> first | rfl | cases h
  refine ⟨⟨fun n l ro k h => hR.cells n l ro k (old _ _ h rfl).1, fun n s p h => hR.iter n s p (old _ _ h rfl).1, fun n m y z h1 h2 hw hl hne => ?_, fun n l ro k h => okVs.mono hkn l (hR.ok n l ro k (old _ _ h rfl).1),
    fun g hg => ⟨(hR.glob g hg).1, (hR.glob g hg).2.1, hkn g (hR.glob g hg).2.2⟩⟩,
    ⟨fun m hm => ⟨hkn m hm, rfl⟩, fun m y h hw => .inr ⟨m, y, (old _ _ h (lv y hw)).1, hw, rfl⟩, Nat.le_refl _, rfl, rfl, rfl, fun _ _ _ => rfl⟩⟩
  exact hR.apart n m y z (old _ _ h1 (lv y hw)).1 (old _ _ h2 hl).1 hw hl hne

/-- A block goes on under a new name. -/
theorem rel_regrow {G : List Nat} {σ : Sg} {rd : Rd} {w w' : World} (hR : Rel G σ rd w) {b m k : Nat} {l r : List AV} (hb : rd b = some (.cells l false k)) (hm : rd m = none) {L : Loc} (hL : L.blk = (σ b).blk)
    {c : Array Value} {e : Nat} {fz : Nat × Nat} (hc : w'.heap[(σ b).blk]? = some (.cells c e fz)) (hcells : ∀ i v, r[i]? = some v → c[L.off + i]? = some (toV σ v)) (hsize : L.off + r.length + L.extra * k ≤ c.size)
    (hfz : ∀ o, o < c.size → ¬(fz.1 ≤ o ∧ o < fz.2)) (hok : okVs (Known rd) r) (h2 : ∀ j, j ≠ (σ b).blk → w'.heap[j]? = w.heap[j]?)
    (h3 : w'.heap.size = w.heap.size) (h4 : w'.os = w.os) (h5 : w'.tape = w.tape) (h6 : w'.output = w.output) :
    Rel G (upd σ m L) (upd (upd rd b (some .dead)) m (some (.cells r false k))) w' ∧ Ext σ rd w (upd σ m L) (upd (upd rd b (some .dead)) m (some (.cells r false k))) w' := by
  have hbm : b ≠ m := fun e => by rw [e, hm] at hb; cases hb
  have hkn : ∀ n, Known rd n → Known (upd (upd rd b (some .dead)) m (some (.cells r false k))) n ∧ upd σ m L n = σ n := fun n hn => by
    have e1 : n ≠ m := fun e => hn (e ▸ hm)
    refine ⟨?_, upd_ne _ _ _ e1⟩
    show upd (upd rd b (some .dead)) m _ n ≠ none
    rw [upd_ne _ _ _ e1]
    by_cases e : n = b
    · subst e; rw [upd_same]; simp
    · rw [upd_ne _ _ _ e]; exact hn
  have old : ∀ n y, upd (upd rd b (some .dead)) m (some (.cells r false k)) n = some y → live y = true → n ≠ m → rd n = some y ∧ n ≠ b := fun n y hn hl e1 => by
    rw [upd_ne _ _ _ e1] at hn
    by_cases e : n = b
    · subst e; rw [upd_same] at hn; cases hn; cases hl
    · rw [upd_ne _ _ _ e] at hn; exact ⟨hn, e⟩
  have lv : ∀ y, wr y = true → live y = true := fun y h => by cases y <;> first | rfl | cases h
  have hoff : ∀ n y, rd n = some y → live y = true → n ≠ b → (σ n).blk ≠ (σ b).blk := fun n y hn hl e => (hR.apart b n _ _ hb hn rfl hl (fun x => e x.symm)).symm
  refine ⟨⟨fun n l' ro k' hn => ?_, fun n s p hn => ?_, fun n n' y z h1 h1' hw hl hne => ?_, fun n l' ro k' hn => ?_, fun g hg => ?_⟩,
    ⟨hkn, fun n y hn hw => ?_, by rw [h3]; exact Nat.le_refl _, h4, h5, h6, fun j hj hf => h2 j fun ej => hf b _ hb rfl ej.symm⟩⟩
  · by_cases e1 : n = m
    · subst e1
      rw [upd_same] at hn ⊢
      cases hn
      refine ⟨c, e, fz, by rw [hL]; exact hc, fun i v hi => ?_, hsize, fun _ => hfz⟩
      rw [hcells i v hi, toV_congr (fun n hn => (hkn n hn).2) v (okVs_get hok hi)]
    · obtain ⟨g1, g2⟩ := old n _ hn rfl e1
      rw [upd_ne _ _ _ e1]
      obtain ⟨c2, e2, fz2, q1, q2, q3⟩ := hR.cells n l' ro k' g1
      refine ⟨c2, e2, fz2, by rw [h2 _ (hoff n _ g1 rfl g2)]; exact q1, fun i v hi => ?_, q3⟩
      rw [q2 i v hi, toV_congr (fun n hn => (hkn n hn).2) v (okVs_get (hR.ok n l' ro k' g1) hi)]
  · have e1 : n ≠ m := fun e => by subst e; rw [upd_same] at hn; cases hn
    obtain ⟨g1, g2⟩ := old n _ hn rfl e1
    rw [upd_ne _ _ _ e1, h2 _ (hoff n _ g1 rfl g2)]
    exact hR.iter n s p g1
  · by_cases e1 : n = m
    · subst e1
      have e2 : n' ≠ n := fun e => hne e.symm
      obtain ⟨g1, g2⟩ := old n' _ h1' hl e2
      rw [upd_same, upd_ne _ _ _ e2, hL]
      exact (hoff n' _ g1 hl g2).symm
    · obtain ⟨g1, g2⟩ := old n _ h1 (lv y hw) e1
      rw [upd_ne _ _ _ e1]
      by_cases e2 : n' = m
      · subst e2
        rw [upd_same, hL]
        exact hoff n _ g1 (lv y hw) g2
      · obtain ⟨g3, g4⟩ := old n' _ h1' hl e2
        rw [upd_ne _ _ _ e2]
        exact hR.apart n n' y z g1 g3 hw hl hne
  · by_cases e1 : n = m
    · subst e1
      rw [upd_same] at hn
      cases hn
      exact okVs.mono (fun n hn => (hkn n hn).1) _ hok
    · obtain ⟨g1, _⟩ := old n _ hn rfl e1
      exact okVs.mono (fun n hn => (hkn n hn).1) _ (hR.ok n l' ro k' g1)
  · obtain ⟨q1, q2, q3⟩ := hR.glob g hg
    rw [(hkn g q3).2]
    exact ⟨q1, q2, (hkn g q3).1⟩
  · by_cases e1 : n = m
    · subst e1
      rw [upd_same, hL]
      exact .inr ⟨b, _, hb, rfl, rfl⟩
    · obtain ⟨g1, _⟩ := old n _ hn (lv y hw) e1
      rw [upd_ne _ _ _ e1]
      exact .inr ⟨n, y, g1, hw, rfl⟩

section
variable {P : Program} {G : List Nat} {σ : Sg} {rd : Rd} {w : World}
theorem firstCells_ok (hR : Rel G σ rd w) {k n : Nat} {x : AV} {vs : List AV} (h : firstCells rd k n x = some vs) (d : Nat) :
    (Builtin.firstCells k n (toV σ x)).run P { w with drawn := d } = .ok ⟨toVs σ vs⟩ { w with drawn := d } ∧ okVs (Known rd) vs := by
  have hR' : Rel G σ rd { w with drawn := d } := ⟨hR.cells, hR.iter, hR.apart, hR.ok, hR.glob⟩
  unfold firstCells at h
  split at h
  · cases h; exact ⟨rfl, trivial⟩
  · rename_i b off len cap op
    split at h
    · rename_i l hl
      refine ⟨?_, okVs_cut (hR.okl hl) h⟩
      simp only [toV, Builtin.firstCells]
      exact run_cells hR' hl h
    · cases h
  · rename_i s
    rw [ob_eq, takeE_eq] at h
    split at h
    · rename_i hle
      cases h
      refine ⟨?_, okVs_all.2 fun v hv => (by obtain ⟨b, _, rfl⟩ := List.mem_map.1 hv; exact trivial)⟩
      simp only [toV, Builtin.firstCells, Sem.run_pure, bytesCells_eq]
      congr 1
      apply Array.ext'
      simp [ByteArray.data_extract, List.extract_eq_take_drop]
    · cases h
  · cases h
theorem lenS_ok {x : AV} {n : Nat} (h : lenS x = some n) : (Builtin.lenOf (toV σ x)).run P w = .ok n w := by
  unfold lenS at h
  split at h <;> cases h
  · rfl
  · rfl
  · simp only [toV, Builtin.lenOf, Sem.run_pure, size_mk]
end
end Go.Ab
