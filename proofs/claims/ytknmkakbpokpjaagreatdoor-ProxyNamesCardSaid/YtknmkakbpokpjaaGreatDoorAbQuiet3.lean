/-
  Every quiet operation of the evaluator is the model's.
-/
import Derived.Test.YtknmkakbpokpjaaGreatDoorAbQuiet2
namespace Go.Ab

theorem ofv {P : Program} {o : Oper} {a : Act} {σ : Sg} {rd : Rd} {w : World} {v : AV} {s : Sem Value} (he : execOp a.eval o = (do pure (Next.value (← s)) : Sem Next))
    (h : s.run P w = .ok (toV σ v) w) (hk : okV (Known rd) v) : QS P o a σ rd w (.val v) := ⟨by rw [he]; exact run_v h, hk⟩

theorem s_new {P : Program} {σ : Sg} {rd : Rd} {w : World} {a : Act} {o : Oper} {t : Nat} {l : List AV} {v : Value} {f : Nat → AV} (hf : ∀ n, f n = .ptr n 0) (hc : v.cells = ⟨toVs σ l⟩) (hk : okVs (Known rd) l)
    (he : (execOp a.eval o).run P w = .ok (.value (.pointer (some ⟨w.heap.size, 0, none⟩))) { w with heap := w.heap.push (.cells v.cells t) }) : QS P o a σ rd w (.made (.cells l false 0) f) := by
  refine ⟨.cells v.cells t, 0, w.drawn, _, he, rfl, holds_cells hc, hk, fun nm => ⟨?_, ?_⟩⟩
  · rw [hf]; simp [toV, upd_same]
  · rw [hf]; rfl
theorem s_mkc {E : Tys} {P : Program} (hE : TysOk E P) {σ : Sg} {rd : Rd} {w : World} {fr : T AV} {a : Act} {o : Oper} {r : QR} {t : Nat} {z : List AV} (ho : o.op = .alloc t) (hz : zeroT E t = some z) (hq : q_mkc z rd fr = some r) : QS P o a σ rd w r := by
  cases hq
  obtain ⟨i, v, h1, h2, h3, h4, h5, h6⟩ := zero_ok hE hz σ (Known rd) w
  refine s_new (t := t) (v := v) (fun _ => rfl) h4 h6 ?_
  unfold execOp
  simp only [ho, Instr.alloc, Sem.run_bind, h3, Result.andThen_ok, newVar, newRow, run_newObj, Sem.run_pure]
section
variable {E : Tys} {P : Program} {nt : Nat} {σ : Sg} {rd : Rd} {w : World} (hR : Rel E.gl σ rd w) {fr : T AV} {a : Act} (hF : FR σ (Known rd) fr a.tmps nt)
  {o : Oper} {r : QR}
include hR hF
theorem s_func {f : Nat} {p c : Array Operand} {x y : List AO} (ho : o.op = .makeFunc (.func f) p c) (hp : aosC E nt p.toList = some x) (hc : aosC E nt c.toList = some y) (hq : q_func f x y rd fr = some r) : QS P o a σ rd w r := by
  cases hq
  obtain ⟨h1, h2⟩ := aos_ok hR hF hp
  obtain ⟨h3, h4⟩ := aos_ok hR hF hc
  refine ofv (s := Instr.makeFunc (.func f) (p.map a.eval) (c.map a.eval)) (by unfold execOp; rw [ho]) ?_ ⟨h2, h4⟩
  unfold Instr.makeFunc
  simp only [Sem.run_pure, toV]
  congr 2
  · apply Array.ext'; rw [Array.toList_map, h1]
  · apply Array.ext'; rw [Array.toList_map, h3]
theorem s_box {t : Nat} {x : Operand} {y : AO} (ho : o.op = .box t x) (hx : aoC E nt x = some y) (hq : q_box y rd fr = some r) : QS P o a σ rd w r := by
  cases hq
  obtain ⟨h1, h2⟩ := ao_ok hR hF hx
  refine s_new (t := t) (v := a.eval x) (fun _ => rfl) (by rw [h1, toV_cells]) (okV_cells h2) ?_
  unfold execOp
  simp only [ho, Instr.box, Sem.run_bind, newVar, newRow, run_newObj, Result.andThen_ok, Sem.run_pure]
theorem s_mov {x : Operand} {y : AO} (he : execOp a.eval o = (pure (.value (a.eval x)) : Sem Next)) (h : aoC E nt x = some y) (hq : q_mov y rd fr = some r) : QS P o a σ rd w r := by
  cases hq
  obtain ⟨h1, h2⟩ := ao_ok hR hF h
  exact ⟨by rw [he, h1]; rfl, h2⟩
theorem s_pick {c x y : Operand} {c' x' y' : AO} (ho : o.op = .pick c x y) (h0 : aoC E nt c = some c') (h1 : aoC E nt x = some x') (h2 : aoC E nt y = some y') (hq : q_pick c' x' y' rd fr = some r) : QS P o a σ rd w r := by
  unfold q_pick at hq
  split at hq
  · rename_i b hb
    cases hq
    obtain ⟨g0, _⟩ := ao_ok hR hF h0
    obtain ⟨g1, k1⟩ := ao_ok hR hF h1
    obtain ⟨g2, k2⟩ := ao_ok hR hF h2
    rw [hb] at g0
    have he : execOp a.eval o = (do pure (.value (if ← asBool (a.eval c) then a.eval x else a.eval y)) : Sem Next) := by unfold execOp; rw [ho]
    refine ⟨?_, by cases b <;> assumption⟩
    rw [he, g0, g1, g2]
    cases b <;> rfl
  · cases hq
theorem s_nilCheck {x : Operand} {y : AO} (ho : o.op = .nilCheck x) (hx : aoC E nt x = some y) (hq : q_nilCheck y rd fr = some r) : QS P o a σ rd w r := by
  unfold q_nilCheck at hq
  obtain ⟨h1, h2⟩ := ao_ok hR hF hx
  split at hq
  · rename_i n off hn
    cases hq
    rw [hn] at h1 h2
    exact ⟨by unfold execOp; simp only [ho, h1, toV]; rfl, h2⟩
  · rename_i f p c hn
    cases hq
    rw [hn] at h1 h2
    exact ⟨by unfold execOp; simp only [ho, h1, toV]; rfl, h2⟩
  · cases hq
theorem s_bin {op : BinOp} {t yt : Nat} {x y : Operand} {x' y' : AO} (ho : o.op = .binOp op t x y yt) (hx : aoC E nt x = some x') (hy : aoC E nt y = some y') (hq : q_bin op x' y' rd fr = some r) : QS P o a σ rd w r := by
  obtain ⟨v, hv, rfl⟩ := qv_ok hq
  obtain ⟨g1, g2⟩ := bin_ok (P := P) (t := t) (xo := x) (yo := y) hv σ w
  refine ofv (s := do eqGuard op t x y (a.eval x) (a.eval y); Go.binOp op t (a.eval x) (a.eval y)) (by unfold execOp; rw [ho]) ?_ (g2 _)
  rw [(ao_ok hR hF hx).1, (ao_ok hR hF hy).1]
  exact g1
theorem s_un {op : UnOp} {t : Nat} {x : Operand} {y : AO} (ho : o.op = .unOp op t x) (hx : aoC E nt x = some y) (hq : q_un op y rd fr = some r) : QS P o a σ rd w r := by
  obtain ⟨v, hv, rfl⟩ := qv_ok hq
  obtain ⟨g1, g2⟩ := un_ok (P := P) hv σ w
  refine ofv (s := Op.unary op (a.eval x)) (by unfold execOp; rw [ho]) ?_ (g2 _)
  rw [(ao_ok hR hF hx).1]
  exact g1
end
section
variable {E : Tys} {P : Program} (hE : TysOk E P) {nt : Nat} {σ : Sg} {rd : Rd} {w : World} (hR : Rel E.gl σ rd w) {fr : T AV} {a : Act} (hF : FR σ (Known rd) fr a.tmps nt)
  {o : Oper} {r : QR}
include hE hR hF
theorem s_build_struct {t : Nat} {ps : Array (Nat × Operand)} {z : List AV} {fs : Array Field} {pl : List (Nat × Nat)} {l : List (Nat × Nat × AO)} (ho : o.op = .build t ps) (hz : zeroT E t = some z)
    (hu : und E t = some (.struct fs)) (hp : placesC E fs.toList = some pl) (hl : partsC E nt (fun i => pl[i]?) ps.toList = some l) (hq : q_build z l rd fr = some r) : QS P o a σ rd w r := by
  unfold q_build at hq
  split at hq
  · rename_i c hc
    cases hq
    obtain ⟨i, v, h1, h2, h3, h4, h5, h6⟩ := zero_ok hE hz σ (Known rd) w
    obtain ⟨g1, g2⟩ := parts_ok hR hF hl
    obtain ⟨f1, f2, _⟩ := fill_ok σ fr (fun i => pl[i]?) a ps.toList l z c g2 h6 hc g1
    refine ofv (s := Instr.build t (ps.map fun (i, x) => (i, a.eval x))) (by unfold execOp; rw [ho]) ?_ f2
    unfold Instr.build
    have hm : (fs.mapM fun f => (do pure (f.offset, ← sizeOf f.type) : Sem (Nat × Nat))).run P w = .ok pl.toArray w := by
      rw [Array.mapM_eq_mapM_toList, Sem.run_map, places_ok hE w fs.toList pl hp]
      rfl
    have hl2 : (ps.map fun (i, x) => (i, a.eval x)).toList = ps.toList.map fun p => (p.1, a.eval p.2) := by rw [Array.toList_map]
    have hpl : (fun i : Nat => pl.toArray[i]?) = fun i : Nat => pl[i]? := by funext i; simp
    simp only [Sem.run_bind, h3, Result.andThen_ok, run_und hE hu, hm, hl2, hpl, h4, f1, Sem.run_pure, toV]
  · cases hq
theorem s_build_array {t n e k : Nat} {ps : Array (Nat × Operand)} {z : List AV} {l : List (Nat × Nat × AO)} (ho : o.op = .build t ps) (hz : zeroT E t = some z)
    (hu : und E t = some (.array n e)) (hk : sizeT E e = some k) (hl : partsC E nt (fun i => some (i * k, k)) ps.toList = some l) (hq : q_build z l rd fr = some r) : QS P o a σ rd w r := by
  unfold q_build at hq
  split at hq
  · rename_i c hc
    cases hq
    obtain ⟨i, v, h1, h2, h3, h4, h5, h6⟩ := zero_ok hE hz σ (Known rd) w
    obtain ⟨g1, g2⟩ := parts_ok hR hF hl
    obtain ⟨f1, f2, _⟩ := fill_ok σ fr (fun i => some (i * k, k)) a ps.toList l z c g2 h6 hc g1
    refine ofv (s := Instr.build t (ps.map fun (i, x) => (i, a.eval x))) (by unfold execOp; rw [ho]) ?_ f2
    unfold Instr.build
    have hl2 : (ps.map fun (i, x) => (i, a.eval x)).toList = ps.toList.map fun p => (p.1, a.eval p.2) := by rw [Array.toList_map]
    simp only [Sem.run_bind, h3, Result.andThen_ok, run_und hE hu, run_size hE hk, hl2, h4, f1, Sem.run_pure, toV]
  · cases hq
theorem s_buildSl {t len e k : Nat} {ps : Array (Nat × Operand)} {z : List AV} {l : List (Nat × Nat × AO)} (ho : o.op = .buildSlice t len ps) (hu : und E t = some (.slice e)) (hz : zeroT E e = some z) (hk : sizeT E e = some k)
    (hle : len * k ≤ 16777216) (hl : partsC E nt (fun i => some (i * k, k)) ps.toList = some l) (hq : q_buildSl z len l rd fr = some r) : QS P o a σ rd w r := by
  unfold q_buildSl at hq
  split at hq
  · rename_i c hc
    cases hq
    obtain ⟨i, v, h1, h2, h3, h4, h5, h6⟩ := zero_ok hE hz σ (Known rd) w
    have hik : i.size = k := by
      unfold sizeT at hk; rw [h1] at hk; cases hk; rfl
    obtain ⟨g1, g2⟩ := parts_ok hR hF hl
    obtain ⟨f1, f2, f3⟩ := fill_ok σ fr (fun i => some (i * k, k)) a ps.toList l _ c g2 (okVs_reps h6 len) hc g1
    refine ⟨.cells ⟨toVs σ c⟩ e, 0, w.drawn, .slice (some ⟨w.heap.size, 0, none⟩) len len, ?_, rfl, holds_cells rfl, f2, fun nm => ⟨by simp [toV, upd_same], rfl⟩⟩
    have he : execOp a.eval o = (do pure (Next.value (← Instr.buildSlice t len (ps.map fun (i, x) => (i, a.eval x)))) : Sem Next) := by unfold execOp; rw [ho]
    rw [he]
    unfold Instr.buildSlice
    have hl2 : (ps.map fun (i, x) => (i, a.eval x)).toList = ps.toList.map fun p => (p.1, a.eval p.2) := by rw [Array.toList_map]
    have hz0 : (if len * k = 0 then pure #[] else do pure (← zeroValue e).cells : Sem (Array Value)).run P w = .ok (if len * k = 0 then #[] else v.cells) w := by
      split
      · rfl
      · simp only [Sem.run_bind, h3, Result.andThen_ok, Sem.run_pure]
    have hrow : ∀ zz : Array Value, zz = (if len * k = 0 then #[] else v.cells) → (Array.range (len * k)).map (fun i => zz[i % zz.size]!) = ⟨toVs σ (reps z len)⟩ := by
      intro zz hzz
      by_cases h0 : len * k = 0
      · rw [h0]
        have : (reps z len).length = 0 := by rw [len_reps, h5, hik, h0]
        rw [List.length_eq_zero_iff.1 this]
        simp [toVs]
      · rw [if_neg h0, h4] at hzz
        rw [toVs_reps]
        exact getD_zip_reps k len (by rw [toVs_len, h5, hik]) zz hzz
    have hgt : ¬ (len * k > 2 ^ 24) := by omega
    simp only [Sem.run_bind, run_und hE hu, Result.andThen_ok, run_size hE hk, Sem.run_ite, if_neg hgt, Sem.run_pure, hl2]
    split
    · rename_i hzero
      have := hrow #[] (by rw [if_pos hzero])
      simp only [Sem.run_pure, Result.andThen_ok, this, f1, Sem.run_bind, newRow, run_newObj]
      rfl
    · rename_i hzero
      have := hrow v.cells (by rw [if_neg hzero])
      simp only [Sem.run_bind, h3, Result.andThen_ok, Sem.run_pure, this, f1, newRow, run_newObj]
      rfl
  · cases hq
theorem s_load {t : Nat} {x : Operand} {k : Option Nat} {y : AO} (ho : o.op = .load t x) (hf : formT E t = some k) (hx : aoC E nt x = some y) (hq : q_load k y rd fr = some r) : QS P o a σ rd w r := by
  unfold q_load at hq
  split at hq
  · rename_i n off hn
    split at hq
    · rename_i l hl
      obtain ⟨v, hv, rfl⟩ := qv_ok hq
      obtain ⟨h1, _⟩ := ao_ok hR hF hx
      rw [hn] at h1
      obtain ⟨g1, g2⟩ := load_ok hE hf hR hl hv
      refine ofv (s := Instr.loadAt t (a.eval x)) (by unfold execOp; rw [ho]) ?_ g2
      rw [h1]
      simp only [Instr.loadAt, Instr.sureAddr, toV, Sem.run_bind, Sem.run_pure, Result.andThen_ok, g1]
    · cases hq
  · cases hq
theorem s_eq {s : Bool} {t yt : Nat} {x y : Operand} {x' y' : AO} {d : EqD} (ho : o.op = .binOp (cond s .eql .neq) t x y yt) (hd : eqC E 100 t = some d) (hx : aoC E nt x = some x') (hy : aoC E nt y = some y')
    (hni : ∀ k, und E t ≠ some (.int k)) (hns : und E t ≠ some .string) (hq : q_eq s d (isConst x || isConst y) x' y' rd fr = some r) : QS P o a σ rd w r := by
  obtain ⟨v, hv, rfl⟩ := qv_ok hq
  obtain ⟨g1, g2⟩ := eqOp_ok hE hd hv σ w hni hns
  refine ofv (s := do eqGuard (cond s .eql .neq) t x y (a.eval x) (a.eval y); Go.binOp (cond s .eql .neq) t (a.eval x) (a.eval y)) (by unfold execOp; rw [ho]) ?_ (g2 _)
  rw [(ao_ok hR hF hx).1, (ao_ok hR hF hy).1]
  exact g1
theorem s_cvInt {s d : Nat} {k : IntKind} {ds : TypeDesc} {x : Operand} {y : AO} (ho : o.op = .convert s d x) (hx : aoC E nt x = some y) (hs : und E s = some ds) (hd : und E d = some (.int k)) (hq : q_cvInt k y rd fr = some r) : QS P o a σ rd w r := by
  unfold q_cvInt at hq
  split at hq
  · rename_i k' n hn
    cases hq
    obtain ⟨h1, _⟩ := ao_ok hR hF hx
    rw [hn] at h1
    refine ofv (s := Go.convert s d (a.eval x)) (by unfold execOp; rw [ho]) ?_ trivial
    unfold Go.convert
    simp only [h1, toV, Sem.run_bind, run_und hE hs, run_und hE hd, Result.andThen_ok, wrapK_eq]
    rfl
  · cases hq
theorem s_cvRune {s d : Nat} {k : IntKind} {x : Operand} {y : AO} (ho : o.op = .convert s d x) (hx : aoC E nt x = some y) (hs : und E s = some (.int k)) (hd : und E d = some .string) (hq : q_cvRune y rd fr = some r) : QS P o a σ rd w r := by
  unfold q_cvRune at hq
  split at hq
  · rename_i k' n hn
    cases hq
    obtain ⟨h1, _⟩ := ao_ok hR hF hx
    rw [hn] at h1
    refine ofv (s := Go.convert s d (a.eval x)) (by unfold execOp; rw [ho]) ?_ trivial
    unfold Go.convert
    simp only [h1, toV, Sem.run_bind, run_und hE hs, run_und hE hd, Result.andThen_ok, Conv.intToString, Sem.run_pure, Array.toArray_toList]
  · cases hq
theorem s_cvStr {s d : Nat} {x : Operand} {y : AO} (ho : o.op = .convert s d x) (hx : aoC E nt x = some y) (hs : und E s = some .string) (hd : und E d = some .string) (hq : q_cvStr y rd fr = some r) : QS P o a σ rd w r := by
  unfold q_cvStr at hq
  split at hq
  · rename_i n hn
    cases hq
    obtain ⟨h1, _⟩ := ao_ok hR hF hx
    rw [hn] at h1
    refine ofv (s := Go.convert s d (a.eval x)) (by unfold execOp; rw [ho]) ?_ trivial
    unfold Go.convert
    simp only [h1, toV, Sem.run_bind, run_und hE hs, run_und hE hd, Result.andThen_ok, Sem.run_pure]
  · cases hq
theorem s_iface {t : Nat} {x : Operand} {y : AO} {d : TypeDesc} (ho : o.op = .makeInterface t x) (hu : und E t = some d) (hd : ∀ ms, d ≠ .interface ms) (hx : aoC E nt x = some y) (hq : q_iface t y rd fr = some r) : QS P o a σ rd w r := by
  cases hq
  obtain ⟨h1, h2⟩ := ao_ok hR hF hx
  refine ofv (s := Instr.makeInterface t (a.eval x)) (by unfold execOp; rw [ho]) ?_ h2
  unfold Instr.makeInterface
  simp only [Sem.run_bind, run_und hE hu, Result.andThen_ok, h1, toV]
  cases d <;> first | rfl | exact absurd rfl (hd _)
theorem s_subS {t : Nat} {x : Operand} {y : AO} {lo hi : Option Operand} {l' h' : Option AO} (ho : o.op = .slice t x lo hi none) (hu : und E t = some .string) (hx : aoC E nt x = some y) (hl : aoptC E nt lo = some l') (hh : aoptC E nt hi = some h')
    (hq : q_subS y l' h' rd fr = some r) : QS P o a σ rd w r := by
  obtain ⟨v, hv, rfl⟩ := qv_ok hq
  unfold subSE at hv
  split at hv
  · rename_i s hs
    split at hv
    · rename_i l h h0 h1
      cases hb : Nat.ble l h with
      | false => rw [hb] at hv; cases hv
      | true =>
        rw [hb] at hv
        simp only [cond_true] at hv
        rw [ob_eq] at hv
        cases hc : cut s l (Nat.sub h l) with
        | none => rw [hc] at hv; cases hv
        | some q =>
          rw [hc] at hv
          cases hv
          obtain ⟨g1, _⟩ := ao_ok hR hF hx
          rw [hs] at g1
          have hlh : l ≤ h := by simpa using hb
          obtain ⟨c1, c2, c3⟩ := cut_get hc
          have hs' : Nat.sub h l = h - l := rfl
          have hsz : h ≤ s.length := by rw [hs'] at c2; omega
          refine ofv (s := Instr.sliceAt t (a.eval x) (lo.map a.eval) (hi.map a.eval) none) (by unfold execOp; rw [ho]; rfl) ?_ trivial
          rw [g1, aopt_ok hR hF hl, aopt_ok hR hF hh]
          have hb2 := run_sliceBounds (P := P) (w := w) (isSlice := false) (len := s.length) (cap := s.length) (σ := σ) (lo := agetO fr l') (hi := agetO fr h') (mx := none) h0 h1 (by rfl) (fun e => absurd rfl e) hlh hsz (Nat.le_refl _)
          simp only [Option.map_none] at hb2
          unfold Instr.sliceAt Instr.slice
          have hsize : (ByteArray.mk s.toArray).size = s.length := by show s.toArray.size = _; simp
          simp only [toV, Sem.run_bind, run_und hE hu, Result.andThen_ok, Option.isSome_none, Bool.false_eq_true, if_false, hsize, hb2, Sem.run_pure]
          congr 2
          apply ByteArray.ext
          apply Array.ext'
          rw [ByteArray.data_extract, Array.toList_extract, List.extract_eq_take_drop]
          rw [cut_eq] at hc
          split at hc
          · cases hc; rfl
          · rename_i hne; exact absurd c2 hne
    · cases hv
  · cases hv
end
end Go.Ab
