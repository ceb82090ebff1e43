/-
  append, copy, next: what they leave.
-/
import Derived.Test.YtknmkakbpokpjaaGreatDoorAbAppend
namespace Go.Ab

theorem LS.ext {G : List Nat} {σ σ1 : Sg} {h h1 h' : H} {w w1 w' : World} {v : AV} {V : Value} (e : Ext σ h.m.get w σ1 h1.m.get w1) (m : Mono h h1) (l : LS G σ1 h1 w1 v h' V w') : LS G σ h w v h' V w' := by
  obtain ⟨σ', a, b, c, d, f, g⟩ := l
  exact ⟨σ', a, b, c, d, e.trans f, m.trans g⟩

theorem fresh_new {h : H} (hf : Fresh h) (b : Blk) : Fresh (new h b) := by
  intro m hm
  have hm' : h.next + 1 ≤ m := hm
  show (h.m.set h.next b).get m = none
  rw [T.get_set, if_neg (by omega)]
  exact hf m (by omega)

/-- A new block of cells behind a run. -/
theorem ls_new {G : List Nat} {σ : Sg} {h : H} {w : World} (hR : Rel G σ h.m.get w) (hf : Fresh h) {b : Blk} {o : Obj} {extra d : Nat} (hw : wr b = true) (hb : Holds σ ⟨w.heap.size, 0, extra⟩ b o) (hk : okB (Known h.m.get) b)
    {v : AV} {V : Value} (hV : V = toV (upd σ h.next ⟨w.heap.size, 0, extra⟩) v) (hv : okV (· = h.next) v) : LS G σ h w v (new h b) V (push w d o) := by
  obtain ⟨h1, h2⟩ := rel_new hR (hf h.next (Nat.le_refl _)) d hw hb hk
  have e : (new h b).m.get = upd h.m.get h.next (some b) := get_upd _ _ _
  refine ⟨_, hV, ?_, by rw [e]; exact h1, fresh_new hf b, by rw [e]; exact h2, Mono.new h b⟩
  refine okV.mono (fun n hn => ?_) v hv
  have hn' : n = h.next := hn
  subst hn'
  show (new h b).m.get h.next ≠ none
  rw [e, upd_same]
  simp

theorem size_zero (z : Array Value) (n : Nat) : (Builtin.zeroCells z n).size = n * z.size := by simp [Builtin.zeroCells]

theorem holds_grown {σ : Sg} {b k e : Nat} {l : List AV} {old vs rest : Array Value} {extra : Nat} (h : (old ++ vs).toList = toVs σ l) (hr : rest.size = extra * k) :
    Holds σ ⟨b, 0, extra⟩ (.cells l false k) (.cells (old ++ vs ++ rest) e) := by
  have hsz : (old ++ vs).size = l.length := by rw [← Array.length_toList, h, toVs_len]
  refine ⟨_, _, _, rfl, fun i v hi => ?_, ?_, fun j _ => by omega⟩
  · have hlt : i < l.length := (List.getElem?_eq_some_iff.1 hi).1
    rw [Nat.zero_add, Array.getElem?_append_left (by omega), ← Array.getElem?_toList, h, toVs_get, hi]
    rfl
  · show 0 + l.length + extra * k ≤ _
    rw [Array.size_append, hsz, hr]
    omega

section
variable {E : Tys} {P : Program} (hE : TysOk E P)
include hE
theorem append_ok {G : List Nat} {σ : Sg} {h h' : H} {w : World} (hR : Rel G σ h.m.get w) (hf : Fresh h) {ts : Array Nat} {ty t u e : Nat} {d : TypeDesc} {i : TypeInfo} {z : List AV} (h0 : ts[0]? = some t) (h1 : ts[1]? = some u)
    (ht : und E t = some (.slice e)) (hu : und E u = some d) (hd : isIntD d = false) (hi : E.ty.get e = some i) (hz : zeroT E e = some z) {s x v : AV} (hs : okV (Known h.m.get) s) (ha : appendE i.size i.bytes s x h = some (v, h')) :
    ∃ V w', (Builtin.append_ ts ty #[toV σ s, toV σ x]).run P w = .ok V w' ∧ LS G σ h w v h' V w' := by
  obtain ⟨i', zv, g1, g2, g3, g4, g5, _⟩ := zero_ok hE hz σ (Known h.m.get) w
  rw [hi] at g1
  cases g1
  have hzs : zv.cells.size = i.size := by rw [g4]; simp [toVs_len, g5]
  unfold appendE at ha
  split at ha
  · rename_i n hn
    split at ha
    · rename_i vs hvs
      obtain ⟨f1, f2⟩ := firstCells_ok (P := P) hR hvs w.drawn
      have f1' := (firstCells_ok (P := P) hR hvs (w.drawn + 1)).1
      split at ha
      · -- onto nil
        cases hn0 : Nat.beq n 0 with
        | true =>
          rw [hn0] at ha
          cases ha
          obtain rfl := Nat.eq_of_beq_eq_true hn0
          have := run_room (ty := ty) hE h0 h1 ht hu hd hi (a := none) (sl := 0) (sc := 0) (lenS_ok (σ := σ) (P := P) (w := w) hn) f1 (Nat.le_refl _)
          refine ⟨_, _, this, σ, rfl, trivial, hR, hf, Ext.refl _ _ _, Mono.refl _⟩
        | false =>
          rw [hn0] at ha
          simp only [cond_false] at ha
          cases hb : (Nat.ble (Nat.mul n i.bytes) 70368744177664 && Nat.ble n 4611686018427387904) with
          | false => rw [hb] at ha; cases ha
          | true =>
            rw [hb] at ha
            cases ha
            simp only [Bool.and_eq_true, Nat.ble_eq] at hb
            obtain ⟨b1, b2⟩ := hb
            have hne := Nat.ne_of_beq_eq_false hn0
            have hrun := run_grows (ty := ty) hE h0 h1 ht hu hd hi g2 (a := none) (sl := 0) (sc := 0) (lenS_ok (σ := σ) (P := P) (w := w) hn) f1' (run_firstCells_none _ _ _ _ _) (by omega)
              (by rw [Nat.zero_add]; exact b1) (by rw [Nat.zero_add]; exact b2)
            rw [Nat.zero_add] at hrun
            refine ⟨_, _, hrun, ls_new hR hf (extra := grownCap w n 0 e - n) rfl (holds_grown (by simp) (by rw [size_zero, hzs])) f2 ?_ rfl⟩
            have := grownCap_ge w n 0 e
            simp only [toV, upd_same, cond_true]
            congr 1
            omega
      · rename_i b off len cap op
        have hkb : Known h.m.get b := hs
        cases hroom : Nat.ble (Nat.add len n) cap with
        | true =>
          rw [hroom] at ha
          simp only [cond_true] at ha
          have hle : len + n ≤ cap := by simpa using hroom
          split at ha
          · rename_i h2 hp
            cases ha
            obtain ⟨w', r1, r2, r3, r4, r5⟩ := put_ok (P := P) hR hf f2 hp
            have := run_room (ty := ty) hE h0 h1 ht hu hd hi (a := some ⟨(σ b).blk, (σ b).off + off, none⟩) (sl := len) (sc := cond op (cap + (σ b).extra) cap) (lenS_ok (σ := σ) (P := P) (w := w) hn) f1 (by cases op <;> simp <;> omega)
            have e1 : (σ b).off + (Nat.add off (Nat.mul len i.size)) = (σ b).off + off + len * i.size := by
              show (σ b).off + (off + len * i.size) = _
              omega
            simp only [addr_add] at this
            rw [e1] at r1
            rw [r1] at this
            refine ⟨_, _, this, σ, rfl, (r4.known b hkb).1, r2, r3, r4, r5⟩
          · cases ha
        | false =>
          rw [hroom] at ha
          simp only [cond_false] at ha
          have hgt : ¬ len + n ≤ cap := by
            intro hh
            have : Nat.ble (len + n) cap = true := by simpa using hh
            rw [show Nat.ble (Nat.add len n) cap = Nat.ble (len + n) cap from rfl, this] at hroom
            cases hroom
          cases hb : (Nat.ble (Nat.mul (Nat.add len n) i.bytes) 70368744177664 && Nat.ble (Nat.add len n) 4611686018427387904) with
          | false => rw [hb] at ha; cases ha
          | true =>
            rw [hb] at ha
            simp only [cond_true] at ha
            simp only [Bool.and_eq_true, Nat.ble_eq] at hb
            obtain ⟨b1, b2⟩ := hb
            have b1' : (len + n) * i.bytes ≤ 70368744177664 := b1
            have b2' : len + n ≤ 4611686018427387904 := b2
            split at ha
            · rename_i l ro kb hg
              split at ha
              · rename_i old hold
                have hbl : blkOf h.m.get b = some l := by unfold blkOf; rw [hg]
                have hold' : cut l off (len * i.size) = some old := hold
                -- the run that takes a new block
                have grow : ∀ capC, ¬ len + n ≤ capC → (Builtin.append_ ts ty #[.slice (some ⟨(σ b).blk, (σ b).off + off, none⟩) len capC, toV σ x]).run P w =
                    .ok (.slice (some ⟨w.heap.size, 0, none⟩) (len + n) (grownCap w (len + n) capC e)) (push w (w.drawn + 1) (.cells (⟨toVs σ old⟩ ++ ⟨toVs σ vs⟩ ++ Builtin.zeroCells zv.cells (grownCap w (len + n) capC e - (len + n))) e)) := by
                  intro capC hc
                  refine run_grows (ty := ty) hE h0 h1 ht hu hd hi g2 (lenS_ok (σ := σ) (P := P) (w := w) hn) f1' ?_ hc b1' b2'
                  have := run_cells (P := P) (rel_drew hR (w.drawn + 1)) hbl hold'
                  exact this
                have hokold : okVs (Known h.m.get) (old ++ vs) := okVs_append.2 ⟨okVs_cut (hR.ok b l ro kb hg) hold', f2⟩
                have hlist : ((⟨toVs σ old⟩ : Array Value) ++ ⟨toVs σ vs⟩).toList = toVs σ (old ++ vs) := by rw [toVs_append]; simp
                cases op with
                | false =>
                  cases ha
                  refine ⟨_, _, grow cap hgt, ls_new hR hf (extra := grownCap w (len + n) cap e - (len + n)) rfl (holds_grown hlist (by rw [size_zero, hzs])) hokold ?_ rfl⟩
                  have := grownCap_ge w (len + n) cap e
                  simp only [toV, upd_same, cond_true]
                  show Value.slice _ (len + n) _ = Value.slice _ (len + n) (len + n + _)
                  congr 1
                  omega
                | true =>
                  simp only [cond_true] at ha
                  cases hc : (!ro && Nat.beq i.size kb && hasCut l off (Nat.mul cap i.size) && ones vs && Nat.beq vs.length (Nat.mul n i.size)) with
                  | false => rw [hc] at ha; cases ha
                  | true =>
                    rw [hc] at ha
                    cases ha
                    simp only [Bool.and_eq_true, Bool.not_eq_true'] at hc
                    obtain ⟨⟨⟨⟨c1, c2⟩, c3⟩, c4⟩, c5⟩ := hc
                    subst c1
                    obtain rfl := Nat.eq_of_beq_eq_true c2
                    have hcut : off + cap * i.size ≤ l.length := by
                      unfold hasCut at c3
                      cases hq : cut l off (Nat.mul cap i.size) with
                      | none => rw [hq] at c3; cases c3
                      | some q => exact (cut_get hq).2.1
                    obtain ⟨k1, k2⟩ := rel_kill hR hg
                    have hg2 : (h.m.set b .dead).get = upd h.m.get b (some .dead) := get_upd _ _ _
                    have hfk : Fresh ⟨h.m.set b .dead, h.next⟩ := fresh_set hf hg
                    by_cases hin : len + n ≤ cap + (σ b).extra
                    · -- it goes on in place
                      obtain ⟨⟨c⟩, el, fz, hcell, hcells, hsize, hfz⟩ := hR.cells b l false i.size hg
                      have hsize' : (σ b).off + l.length + (σ b).extra * i.size ≤ c.length := hsize
                      -- every cell of what is appended is one cell: the model stores it
                      have hone : ∀ u ∈ toVs σ vs, u.oneCell' = true := fun u hu => by
                        rw [toVs_map] at hu
                        obtain ⟨y, hy, rfl⟩ := List.mem_map.1 hu
                        exact toV_one ((ones_spec vs).1 c4 y hy)
                      have hlen : vs.length = n * i.size := Nat.eq_of_beq_eq_true c5
                      have hol : old.length = len * i.size := (cut_get hold').1
                      have hmul : (len + n) * i.size ≤ (cap + (σ b).extra) * i.size := Nat.mul_le_mul_right _ hin
                      have hfit : (σ b).off + off + len * i.size + 0 + (toVs σ vs).length ≤ c.length := by
                        rw [toVs_len, hlen]
                        rw [Nat.add_mul] at hmul
                        rw [Nat.add_mul] at hmul
                        omega
                      obtain ⟨w', r1, r2, r3, r4, r5, r6, r7, _⟩ := run_storeCells (P := P) (σ b).blk ((σ b).off + off + len * i.size) el fz (toVs σ vs) 0 c w hcell hfit hone (hfz rfl)
                      have hrun := run_room (ty := ty) hE h0 h1 ht hu hd hi (a := some ⟨(σ b).blk, (σ b).off + off, none⟩) (sl := len) (sc := cap + (σ b).extra) (lenS_ok (σ := σ) (P := P) (w := w) hn) f1 hin
                      simp only [addr_add] at hrun
                      rw [r1] at hrun
                      have e1 : (h.m.set b .dead).set h.next (.cells (old ++ vs) false i.size) = (new ⟨h.m.set b .dead, h.next⟩ (.cells (old ++ vs) false i.size)).m := rfl
                      have hb3 : ∀ j u, (old ++ vs)[j]? = some u → (c.take ((σ b).off + off + len * i.size + 0) ++ toVs σ vs ++ c.drop ((σ b).off + off + len * i.size + 0 + (toVs σ vs).length))[(σ b).off + off + j]? = some (toV σ u) := fun j u hj => by
                        have hjl : j < len * i.size + vs.length := by
                          have := (List.getElem?_eq_some_iff.1 hj).1
                          rw [List.length_append, hol] at this
                          exact this
                        have ht1 : (c.take ((σ b).off + off + len * i.size + 0)).length = (σ b).off + off + len * i.size := by
                          rw [List.length_take]; omega
                        by_cases hjo : j < len * i.size
                        · rw [List.getElem?_append_left (by rw [hol]; exact hjo), (cut_get hold').2.2 j hjo] at hj
                          rw [List.getElem?_append_left (by rw [List.length_append, ht1]; omega), List.getElem?_append_left (by rw [ht1]; omega), List.getElem?_take, if_pos (by omega)]
                          have := hcells (off + j) u hj
                          rw [List.getElem?_toArray] at this
                          rw [Nat.add_assoc]
                          exact this
                        · rw [List.getElem?_append_right (by rw [hol]; omega), hol] at hj
                          rw [List.getElem?_append_left (by rw [List.length_append, ht1, toVs_len]; omega), List.getElem?_append_right (by rw [ht1]; omega), ht1, toVs_get,
                            show (σ b).off + off + j - ((σ b).off + off + len * i.size) = j - len * i.size by omega, hj]
                          rfl
                      have hnl : (c.take ((σ b).off + off + len * i.size + 0) ++ toVs σ vs ++ c.drop ((σ b).off + off + len * i.size + 0 + (toVs σ vs).length)).length = c.length := by
                        simp only [List.length_append, List.length_take, List.length_drop]
                        omega
                      obtain ⟨q1, q2⟩ := rel_regrow (m := h.next) (r := old ++ vs) hR hg (hf h.next (Nat.le_refl _)) (L := ⟨(σ b).blk, (σ b).off + off, cap + (σ b).extra - (len + n)⟩) rfl r2
                        (fun j u hj => by rw [List.getElem?_toArray]; exact hb3 j u hj)
                        (by
                          show (σ b).off + off + (old ++ vs).length + (cap + (σ b).extra - (len + n)) * i.size ≤ List.length _
                          rw [hnl, List.length_append, hol, hlen, ← Nat.add_mul, Nat.sub_mul]
                          rw [Nat.add_mul] at hmul ⊢
                          rw [Nat.add_mul] at hmul
                          rw [Nat.add_mul]
                          omega)
                        (fun o ho => hfz rfl o (by
                          have ho' : o < List.length _ := ho
                          rw [hnl] at ho'
                          exact ho')) hokold r3 r4 r5 r6 r7
                      have hget : (new ⟨h.m.set b .dead, h.next⟩ (.cells (old ++ vs) false i.size)).m.get = upd (upd h.m.get b (some .dead)) h.next (some (.cells (old ++ vs) false i.size)) := by
                        show ((h.m.set b .dead).set h.next _).get = _
                        rw [get_upd, get_upd]
                      refine ⟨_, _, hrun, _, ?_, ?_, by rw [hget]; exact q1, fresh_new hfk _, by rw [hget]; exact q2, (Mono.set hg).trans (Mono.new ⟨h.m.set b .dead, h.next⟩ _)⟩
                      · simp only [toV, upd_same, cond_true, Nat.add_zero]
                        show Value.slice _ (len + n) _ = Value.slice _ (len + n) (len + n + _)
                        congr 1
                        omega
                      · show (new ⟨h.m.set b .dead, h.next⟩ (.cells (old ++ vs) false i.size)).m.get h.next ≠ none
                        rw [hget, upd_same]
                        simp
                    · refine ⟨_, _, grow (cap + (σ b).extra) hin, ?_⟩
                      have hR2 : Rel G σ (H.m ⟨h.m.set b .dead, h.next⟩).get w := by
                        show Rel G σ (h.m.set b .dead).get w
                        rw [hg2]; exact k1
                      refine LS.ext (h1 := ⟨h.m.set b .dead, h.next⟩) (by show Ext σ h.m.get w σ (h.m.set b .dead).get w; rw [hg2]; exact k2) (Mono.set hg)
                        (ls_new hR2 hfk (extra := grownCap w (len + n) (cap + (σ b).extra) e - (len + n)) rfl (holds_grown hlist (by rw [size_zero, hzs])) ?_ ?_ rfl)
                      · refine okVs.mono (fun m hm => ?_) _ hokold
                        have := (k2.known m hm).1
                        show (h.m.set b .dead).get m ≠ none
                        rw [hg2]; exact this
                      · have := grownCap_ge w (len + n) (cap + (σ b).extra) e
                        simp only [toV, upd_same, cond_true]
                        show Value.slice _ (len + n) _ = Value.slice _ (len + n) (len + n + _)
                        congr 1
                        omega
              · cases ha
            · cases ha
      · cases ha
    · cases ha
  · cases ha
end
end Go.Ab
