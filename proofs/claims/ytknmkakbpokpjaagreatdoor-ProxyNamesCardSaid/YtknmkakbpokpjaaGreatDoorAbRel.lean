/-
  How the evaluator's heap of named blocks stands to the model's memory.
-/
import Derived.Test.YtknmkakbpokpjaaGreatDoorAbLists
import Derived.Laws.Sem
namespace Go.Ab

/-- Where a name's block lies: its number, where its cells begin, how many elements more there is room for behind what is known. -/
structure Loc where
  blk : Nat
  off : Nat
  extra : Nat
abbrev Sg := Nat → Loc

mutual
def toV (σ : Sg) : AV → Value
  | .bool b => .bool b
  | .int k n => .int k n
  | .str s => .string ⟨s.toArray⟩
  | .nilp => .pointer none
  | .ptr n off => .pointer (some ⟨(σ n).blk, (σ n).off + off, none⟩)
  | .nils => .slice none 0 0
  | .sl n off len cap op => .slice (some ⟨(σ n).blk, (σ n).off + off, none⟩) len (cond op (cap + (σ n).extra) cap)
  | .agg l => .agg ⟨toVs σ l⟩
  | .tup l => .tuple ⟨toVs σ l⟩
  | .fn f a c => .func (.func f) ⟨toVs σ a⟩ ⟨toVs σ c⟩
  | .nilfn => .nilFunc
  | .iface t v => .iface t (toV σ v)
  | .nilif => .nilIface
def toVs (σ : Sg) : List AV → List Value
  | [] => []
  | v :: l => toV σ v :: toVs σ l
end
theorem toVs_map (σ : Sg) (l : List AV) : toVs σ l = l.map (toV σ) := by
  induction l with
  | nil => rfl
  | cons v l ih => simp only [toVs, List.map_cons, ih]

mutual
/-- All names in a value are known. -/
def okV (D : Nat → Prop) : AV → Prop
  | .ptr n _ => D n
  | .sl n _ _ _ _ => D n
  | .agg l => okVs D l
  | .tup l => okVs D l
  | .fn _ a c => okVs D a ∧ okVs D c
  | .iface _ v => okV D v
  | _ => True
def okVs (D : Nat → Prop) : List AV → Prop
  | [] => True
  | v :: l => okV D v ∧ okVs D l
end
theorem okVs_all {D : Nat → Prop} {l : List AV} : okVs D l ↔ ∀ v ∈ l, okV D v := by
  induction l with
  | nil => simp [okVs]
  | cons v l ih => simp [okVs, ih]

mutual
theorem okV.mono {D D' : Nat → Prop} (h : ∀ n, D n → D' n) : ∀ v : AV, okV D v → okV D' v
  | .ptr n _, hv => h n hv
  | .sl n _ _ _ _, hv => h n hv
  | .agg l, hv => okVs.mono h l hv
  | .tup l, hv => okVs.mono h l hv
  | .fn _ a c, hv => ⟨okVs.mono h a hv.1, okVs.mono h c hv.2⟩
  | .iface _ v, hv => okV.mono h v hv
  | .bool _, _ => trivial
  | .int _ _, _ => trivial
  | .str _, _ => trivial
  | .nilp, _ => trivial
  | .nils, _ => trivial
  | .nilfn, _ => trivial
  | .nilif, _ => trivial
theorem okVs.mono {D D' : Nat → Prop} (h : ∀ n, D n → D' n) : ∀ l : List AV, okVs D l → okVs D' l
  | [], _ => trivial
  | v :: l, hv => ⟨okV.mono h v hv.1, okVs.mono h l hv.2⟩
end
mutual
theorem toV_congr {σ σ' : Sg} {D : Nat → Prop} (h : ∀ n, D n → σ' n = σ n) : ∀ v : AV, okV D v → toV σ' v = toV σ v
  | .ptr n _, hv => by simp only [toV, h n hv]
  | .sl n _ _ _ _, hv => by simp only [toV, h n hv]
  | .agg l, hv => by simp only [toV]; rw [toVs_congr h l hv]
  | .tup l, hv => by simp only [toV]; rw [toVs_congr h l hv]
  | .fn _ a c, hv => by simp only [toV]; rw [toVs_congr h a hv.1, toVs_congr h c hv.2]
  | .iface _ v, hv => by simp only [toV]; rw [toV_congr h v hv]
  | .bool _, _ => rfl
  | .int _ _, _ => rfl
  | .str _, _ => rfl
  | .nilp, _ => rfl
  | .nils, _ => rfl
  | .nilfn, _ => rfl
  | .nilif, _ => rfl
theorem toVs_congr {σ σ' : Sg} {D : Nat → Prop} (h : ∀ n, D n → σ' n = σ n) : ∀ l : List AV, okVs D l → toVs σ' l = toVs σ l
  | [], _ => rfl
  | v :: l, hv => by simp only [toVs]; rw [toV_congr h v hv.1, toVs_congr h l hv.2]
end

mutual
theorem ofVal_ok (σ : Sg) (D : Nat → Prop) : ∀ (v : Value) (x : AV), ofVal v = some x → toV σ x = v ∧ okV D x
  | .bool b, x, h => by cases h; exact ⟨rfl, trivial⟩
  | .int k n, x, h => by cases h; exact ⟨rfl, trivial⟩
  | .float .., _, h => by cases h
  | .complex .., _, h => by cases h
  | .string s, x, h => by cases h; exact ⟨by simp [toV], trivial⟩
  | .pointer none, x, h => by cases h; exact ⟨rfl, trivial⟩
  | .pointer (some _), _, h => by cases h
  | .slice none 0 0, x, h => by cases h; exact ⟨rfl, trivial⟩
  | .slice none 0 (_ + 1), _, h => by cases h
  | .slice none (_ + 1) _, _, h => by cases h
  | .slice (some _) _ _, _, h => by cases h
  | .map _, _, h => by cases h
  | .chan _, _, h => by cases h
  | .func .., _, h => by cases h
  | .nilFunc, x, h => by cases h; exact ⟨rfl, trivial⟩
  | .iface .., _, h => by cases h
  | .nilIface, x, h => by cases h; exact ⟨rfl, trivial⟩
  | .agg ⟨cs⟩, x, h => by
    simp only [ofVal] at h
    split at h
    · rename_i l hl
      cases h
      obtain ⟨h1, h2⟩ := ofVals_ok σ D cs l hl
      exact ⟨by simp only [toV, h1], h2⟩
    · cases h
  | .tuple ⟨cs⟩, x, h => by
    simp only [ofVal] at h
    split at h
    · rename_i l hl
      cases h
      obtain ⟨h1, h2⟩ := ofVals_ok σ D cs l hl
      exact ⟨by simp only [toV, h1], h2⟩
    · cases h
theorem ofVals_ok (σ : Sg) (D : Nat → Prop) : ∀ (l : List Value) (x : List AV), ofVals l = some x → toVs σ x = l ∧ okVs D x
  | [], x, h => by cases h; exact ⟨rfl, trivial⟩
  | v :: l, x, h => by
    simp only [ofVals] at h
    split at h
    · rename_i y hy
      split at h
      · rename_i r hr
        cases h
        obtain ⟨h1, h2⟩ := ofVal_ok σ D v y hy
        obtain ⟨h3, h4⟩ := ofVals_ok σ D l r hr
        exact ⟨by simp only [toVs, h1, h3], h2, h4⟩
      · cases h
    · cases h
end

theorem toV_cells (σ : Sg) (v : AV) : (toV σ v).cells = ⟨toVs σ (cellsA v)⟩ := by cases v <;> rfl
theorem okV_cells {D : Nat → Prop} {v : AV} (h : okV D v) : okVs D (cellsA v) := by
  cases v <;> first | exact h | exact ⟨h, trivial⟩
theorem toV_one {σ : Sg} {v : AV} (h : one v = true) : (toV σ v).oneCell' = true := by cases v <;> first | rfl | cases h

abbrev Known (rd : Rd) (n : Nat) : Prop := rd n ≠ none
def wr : Blk → Bool
  | .cells _ ro _ => !ro
  | .iter _ _ => true
  | .dead => false
def live : Blk → Bool
  | .dead => false
  | _ => true

/-- The model's memory holds what the named blocks hold. G: the names that are package-level variables. -/
structure Rel (G : List Nat) (σ : Sg) (rd : Rd) (w : World) : Prop where
  cells : ∀ n l ro k, rd n = some (.cells l ro k) → ∃ c e fz, w.heap[(σ n).blk]? = some (.cells c e fz) ∧ (∀ i v, l[i]? = some v → c[(σ n).off + i]? = some (toV σ v)) ∧
    (σ n).off + l.length + (σ n).extra * k ≤ c.size ∧ (ro = false → ∀ o, o < c.size → ¬(fz.1 ≤ o ∧ o < fz.2))
  iter : ∀ n s pos, rd n = some (.iter s pos) → w.heap[(σ n).blk]? = some (.stringIter ⟨s.toArray⟩ pos) ∧ (σ n).off = 0
  apart : ∀ n m b c, rd n = some b → rd m = some c → wr b = true → live c = true → n ≠ m → (σ n).blk ≠ (σ m).blk
  ok : ∀ n l ro k, rd n = some (.cells l ro k) → okVs (Known rd) l
  glob : ∀ g ∈ G, (σ g).blk = g ∧ (σ g).off = 0 ∧ Known rd g

/-- From one state on to another: names stay; what is written now was free or new; what was not free to be written is as it was. -/
structure Ext (σ : Sg) (rd : Rd) (w : World) (σ' : Sg) (rd' : Rd) (w' : World) : Prop where
  known : ∀ n, Known rd n → Known rd' n ∧ σ' n = σ n
  own : ∀ n b, rd' n = some b → wr b = true → w.heap.size ≤ (σ' n).blk ∨ ∃ m c, rd m = some c ∧ wr c = true ∧ (σ m).blk = (σ' n).blk
  size : w.heap.size ≤ w'.heap.size
  os : w'.os = w.os
  tape : w'.tape = w.tape
  output : w'.output = w.output
  same : ∀ b, b < w.heap.size → (∀ n c, rd n = some c → wr c = true → (σ n).blk ≠ b) → w'.heap[b]? = w.heap[b]?

theorem Ext.refl (σ : Sg) (rd : Rd) (w : World) : Ext σ rd w σ rd w :=
  ⟨fun _ h => ⟨h, rfl⟩, fun n b h hw => .inr ⟨n, b, h, hw, rfl⟩, Nat.le_refl _, rfl, rfl, rfl, fun _ _ _ => rfl⟩
theorem Ext.trans {σ σ' σ'' : Sg} {rd rd' rd'' : Rd} {w w' w'' : World} (h : Ext σ rd w σ' rd' w') (k : Ext σ' rd' w' σ'' rd'' w'') : Ext σ rd w σ'' rd'' w'' := by
  refine ⟨fun n hn => ?_, fun n b hb hw => ?_, Nat.le_trans h.size k.size, k.os.trans h.os, k.tape.trans h.tape, k.output.trans h.output, fun b hb hf => ?_⟩
  · obtain ⟨h1, h2⟩ := h.known n hn
    obtain ⟨k1, k2⟩ := k.known n h1
    exact ⟨k1, k2.trans h2⟩
  · rcases k.own n b hb hw with h1 | ⟨m, c, hm, hc, he⟩
    · exact .inl (Nat.le_trans h.size h1)
    · rcases h.own m c hm hc with h2 | ⟨m', c', hm', hc', he'⟩
      · exact .inl (he ▸ h2)
      · exact .inr ⟨m', c', hm', hc', he'.trans he⟩
  · rw [k.same b (Nat.lt_of_lt_of_le hb h.size) (fun n c hn hc he => ?_), h.same b hb hf]
    rcases h.own n c hn hc with h1 | ⟨m, c', hm, hc', he'⟩
    · omega
    · exact hf m c' hm hc' (he'.trans he)

theorem Rel.lt {G : List Nat} {σ : Sg} {rd : Rd} {w : World} (h : Rel G σ rd w) {n : Nat} {b : Blk} (hn : rd n = some b) (hl : live b = true) : (σ n).blk < w.heap.size := by
  cases b with
  | cells l ro k =>
    obtain ⟨c, e, fz, hc, _⟩ := h.cells n l ro k hn
    exact (Array.getElem?_eq_some_iff.1 hc).1
  | iter s pos => exact (Array.getElem?_eq_some_iff.1 (h.iter n s pos hn).1).1
  | dead => cases hl

def upd {α : Type} (f : Nat → α) (n : Nat) (x : α) : Nat → α := fun m => if m = n then x else f m
theorem upd_same {α : Type} (f : Nat → α) (n : Nat) (x : α) : upd f n x n = x := by simp [upd]
theorem upd_ne {α : Type} (f : Nat → α) (n : Nat) (x : α) {m : Nat} (h : m ≠ n) : upd f n x m = f m := by simp [upd, h]

/-- What a new block holds. -/
def Holds (σ : Sg) (L : Loc) : Blk → Obj → Prop
  | .cells l _ k, o => ∃ c e fz, o = .cells c e fz ∧ (∀ i v, l[i]? = some v → c[L.off + i]? = some (toV σ v)) ∧ L.off + l.length + L.extra * k ≤ c.size ∧ ∀ j, j < c.size → ¬(fz.1 ≤ j ∧ j < fz.2)
  | .iter s pos, o => o = .stringIter ⟨s.toArray⟩ pos ∧ L.off = 0
  | .dead, _ => False
def okB (D : Nat → Prop) : Blk → Prop
  | .cells l _ _ => okVs D l
  | _ => True

/-- The worlds that differ by a new block, and by how much has been drawn. -/
def push (w : World) (d : Nat) (o : Obj) : World := { w with heap := w.heap.push o, drawn := d }
theorem push_old (w : World) (d : Nat) (o : Obj) {b : Nat} (h : b < w.heap.size) : (push w d o).heap[b]? = w.heap[b]? := by
  show (w.heap.push o)[b]? = _
  rw [Array.getElem?_push, if_neg (by omega)]
theorem push_new (w : World) (d : Nat) (o : Obj) : (push w d o).heap[w.heap.size]? = some o := by
  show (w.heap.push o)[w.heap.size]? = _
  rw [Array.getElem?_push, if_pos rfl]

theorem rel_new {G : List Nat} {σ : Sg} {rd : Rd} {w : World} (h : Rel G σ rd w) {nm : Nat} (hn : rd nm = none) {b : Blk} {o : Obj} {extra : Nat} (d : Nat)
    (hl : wr b = true) (hb : Holds σ ⟨w.heap.size, 0, extra⟩ b o) (hk : okB (Known rd) b) :
    Rel G (upd σ nm ⟨w.heap.size, 0, extra⟩) (upd rd nm (some b)) (push w d o) ∧
    Ext σ rd w (upd σ nm ⟨w.heap.size, 0, extra⟩) (upd rd nm (some b)) (push w d o) := by
  have hkn : ∀ m, Known rd m → m ≠ nm := fun m hm e => hm (e ▸ hn)
  have hag : ∀ m, Known rd m → upd σ nm ⟨w.heap.size, 0, extra⟩ m = σ m := fun m hm => upd_ne _ _ _ (hkn m hm)
  have hmono : ∀ m, Known rd m → Known (upd rd nm (some b)) m := fun m hm => by
    show upd rd nm (some b) m ≠ none
    rw [upd_ne _ _ _ (hkn m hm)]; exact hm
  refine ⟨⟨fun n l ro k hr => ?_, fun n s pos hr => ?_, fun n m b1 c1 hr1 hr2 hw hlv hne => ?_, fun n l ro k hr => ?_, fun g hg => ?_⟩,
    ⟨fun n hkn' => ⟨hmono n hkn', hag n hkn'⟩, fun n b' hr hw => ?_, ?_, rfl, rfl, rfl, fun b' hb' _ => push_old w d o hb'⟩⟩
  · by_cases e : n = nm
    · subst e
      rw [upd_same] at hr ⊢
      cases hr
      obtain ⟨c, el, fz, rfl, h1, h2, h3⟩ := hb
      refine ⟨c, el, fz, push_new w d _, fun i v hi => ?_, h2, fun _ => h3⟩
      rw [h1 i v hi, toV_congr hag v (okVs_all.1 hk v (List.mem_of_getElem? hi))]
    · rw [upd_ne _ _ _ e] at hr ⊢
      obtain ⟨c, el, fz, h1, h2, h3⟩ := h.cells n l ro k hr
      refine ⟨c, el, fz, ?_, fun i v hi => ?_, h3⟩
      · rw [push_old w d o (h.lt hr rfl)]; exact h1
      · rw [h2 i v hi, toV_congr hag v (okVs_all.1 (h.ok n l ro k hr) v (List.mem_of_getElem? hi))]
  · by_cases e : n = nm
    · subst e
      rw [upd_same] at hr ⊢
      cases hr
      obtain ⟨rfl, _⟩ := hb
      exact ⟨push_new w d _, rfl⟩
    · rw [upd_ne _ _ _ e] at hr ⊢
      rw [push_old w d o (h.lt hr rfl)]
      exact h.iter n s pos hr
  · by_cases e1 : n = nm
    · subst e1
      rw [upd_ne _ _ _ hne.symm] at hr2
      rw [upd_same, upd_ne _ _ _ hne.symm]
      have := h.lt hr2 hlv
      show w.heap.size ≠ _
      omega
    · rw [upd_ne _ _ _ e1] at hr1 ⊢
      have hlv1 : live b1 = true := by cases b1 <;> first | rfl | cases hw
      by_cases e2 : m = nm
      · subst e2
        rw [upd_same]
        have := h.lt hr1 hlv1
        show _ ≠ w.heap.size
        omega
      · rw [upd_ne _ _ _ e2] at hr2 ⊢
        exact h.apart n m b1 c1 hr1 hr2 hw hlv hne
  · by_cases e : n = nm
    · subst e
      rw [upd_same] at hr
      cases hr
      exact okVs.mono hmono l hk
    · rw [upd_ne _ _ _ e] at hr
      exact okVs.mono hmono l (h.ok n l ro k hr)
  · obtain ⟨h1, h2, h3⟩ := h.glob g hg
    rw [hag g h3]
    exact ⟨h1, h2, hmono g h3⟩
  · by_cases e : n = nm
    · subst e; rw [upd_same]; exact .inl (Nat.le_refl _)
    · rw [upd_ne _ _ _ e] at hr ⊢
      exact .inr ⟨n, b', hr, hw, rfl⟩
  · show w.heap.size ≤ (w.heap.push o).size
    simp
end Go.Ab
