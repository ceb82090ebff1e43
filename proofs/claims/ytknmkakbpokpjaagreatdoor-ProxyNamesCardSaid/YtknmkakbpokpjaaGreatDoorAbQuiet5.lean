/-
  The last quiet operations; and all of them in one.
-/
import Derived.Test.YtknmkakbpokpjaaGreatDoorAbQuiet4
namespace Go.Ab

theorem modify_push {α : Type} (a : Array α) (x : α) (f : α → α) : (a.push x).modify a.size f = a.push (f x) := by
  apply Array.ext_getElem?
  intro i
  rw [Array.getElem?_modify, Array.getElem?_push, Array.getElem?_push]
  by_cases h : a.size = i
  · subst h; simp
  · rw [if_neg h, if_neg (fun e => h e.symm), if_neg (fun e => h e.symm)]
theorem bytesWorld_push (w : World) (e : TypeId) (s : ByteArray) :
    Lib.bytesWorld w e s = push w (w.drawn + 1) (.cells (Lib.bytesCells w e s) e ((Lib.bytesCells w e s).size, (Lib.bytesCells w e s).size + 1)) := by
  unfold Lib.bytesWorld World.freeze World.alloc World.drew push
  rw [if_neg (by decide)]
  simp only [modify_push]
  simp

section
variable {E : Tys} {P : Program} (hE : TysOk E P) {nt : Nat} {σ : Sg} {rd : Rd} {w : World} (hR : Rel E.gl σ rd w) {fr : T AV} {a : Act} (hF : FR σ (Known rd) fr a.tmps nt)
  {o : Oper} {r : QR}
include hE hR hF
theorem s_cvBytes {s d e : Nat} {x : Operand} {y : AO} (ho : o.op = .convert s d x) (hx : aoC E nt x = some y) (hs : und E s = some .string) (hd : und E d = some (.slice e)) (hu : und E e = some (.int .u8)) (hq : q_cvBytes y rd fr = some r) : QS P o a σ rd w r := by
  unfold q_cvBytes at hq
  split at hq
  · rename_i l hl
    cases hb : Nat.ble l.length 70368744177664 with
    | false => rw [hb] at hq; cases hq
    | true =>
      rw [hb] at hq
      cases hq
      obtain ⟨h1, _⟩ := ao_ok hR hF hx
      rw [hl] at h1
      have hrun := Lib.run_convert_string_bytes (P := P) w s d e ⟨l.toArray⟩ (und_ok hE hs) (und_ok hE hd) (und_ok hE hu)
      rw [bytesWorld_push, size_mk] at hrun
      have hge := grownCap_ge w l.length 0 e
      refine ⟨_, grownCap w l.length 0 e - l.length, w.drawn + 1, _, by unfold execOp; simp only [ho, h1]; exact run_v hrun, rfl, ?_, okVs_all.2 fun v hv => (by
        obtain ⟨b, _, rfl⟩ := List.mem_map.1 hv
        exact trivial), fun nm => ⟨?_, rfl⟩⟩
      · have hsz : (Lib.bytesCells w e ⟨l.toArray⟩).size = l.length + (grownCap w l.length 0 e - l.length) := by
          simp [Lib.bytesCells, size_mk]
        refine ⟨_, _, _, rfl, fun i v hi => ?_, ?_, fun j hj => ?_⟩
        · unfold bytesCells at hi
          rw [List.getElem?_map] at hi
          cases hli : l[i]? with
          | none => rw [hli] at hi; cases hi
          | some b =>
            rw [hli] at hi
            cases hi
            have hlt : i < l.length := (List.getElem?_eq_some_iff.1 hli).1
            rw [Nat.zero_add, Lib.bytesCells, Array.getElem?_append_left (by simp; exact hlt)]
            simp [hli, toV]
        · rw [hsz]
          simp [bytesCells]
        · simp only
          omega
      · simp only [toV, upd_same, cond_true, Nat.add_zero]
        congr 1
        omega
  · cases hq
theorem s_cvText {s d e : Nat} {x : Operand} {y : AO} (ho : o.op = .convert s d x) (hx : aoC E nt x = some y) (hs : und E s = some (.slice e)) (hd : und E d = some .string) (hu : und E e = some (.int .u8)) (hq : q_cvText y rd fr = some r) : QS P o a σ rd w r := by
  obtain ⟨h1, _⟩ := ao_ok hR hF hx
  unfold q_cvText at hq
  split at hq
  · rename_i hn
    cases hq
    rw [hn] at h1
    refine ofv (s := Go.convert s d (a.eval x)) (by unfold execOp; rw [ho]) ?_ trivial
    rw [h1]
    simp only [toV]
    rw [run_convert_bytes_string w s d e none 0 0 (und_ok hE hs) (und_ok hE hu) (und_ok hE hd)]
    rfl
  · rename_i n off len cap op hn
    rw [hn] at h1
    split at hq
    · rename_i l hl
      split at hq
      · rename_i cs hcs
        split at hq
        · rename_i t ht
          cases hq
          refine ofv (s := Go.convert s d (a.eval x)) (by unfold execOp; rw [ho]) ?_ trivial
          rw [h1]
          simp only [toV]
          rw [run_convert_bytes_string w s d e _ _ _ (und_ok hE hs) (und_ok hE hu) (und_ok hE hd)]
          obtain ⟨ns, g1, g2⟩ := cellBytes_ok σ cs t ht
          have hc := run_cells (P := P) hR hl hcs
          rw [g1] at hc
          rw [run_bytesToString w _ len _ ns hc, g2]
          congr 2
          have : ∀ (ns : List Int) (r : ByteArray), ns.foldl (fun r n => r.push (UInt8.ofNat n.toNat)) r = ⟨r.data ++ (ns.map fun n => UInt8.ofNat n.toNat).toArray⟩ := by
            intro ns
            induction ns with
            | nil => intro r; simp
            | cons n ns ih =>
              intro r
              rw [List.foldl_cons, ih]
              apply ByteArray.ext
              simp [ByteArray.push]
          rw [this]
          apply ByteArray.ext
          simp
        · cases hq
      · cases hq
    · cases hq
  · cases hq
theorem s_mkSl {t e : Nat} {i : TypeInfo} {z : List AV} {l c : Operand} {l' c' : AO} (ho : o.op = .makeSlice t l c) (hu : und E t = some (.slice e)) (hz : zeroT E e = some z) (hi : E.ty.get e = some i) (hl : aoC E nt l = some l') (hc : aoC E nt c = some c')
    (hq : q_mkSl z i.bytes l' c' rd fr = some r) : QS P o a σ rd w r := by
  unfold q_mkSl at hq
  split at hq
  · rename_i k1 n1 k2 n2 hn1 hn2
    cases hb : (Nat.ble n1 n2 && Nat.ble n2 4611686018427387904 && Nat.ble (Nat.mul i.bytes n2) 70368744177664) with
    | false => rw [hb] at hq; cases hq
    | true =>
      rw [hb] at hq
      cases hq
      simp only [Bool.and_eq_true, Nat.ble_eq] at hb
      obtain ⟨⟨b1, b2⟩, b3⟩ := hb
      obtain ⟨h1, _⟩ := ao_ok hR hF hl
      obtain ⟨h2, _⟩ := ao_ok hR hF hc
      rw [hn1] at h1
      rw [hn2] at h2
      obtain ⟨i', v, g1, g2, g3, g4, g5, g6⟩ := zero_ok hE hz σ (Known rd) w
      rw [hi] at g1
      cases g1
      have b3' : (i.bytes : Int) * (n2 : Int) ≤ 281474976710656 := by
        have : i.bytes * n2 ≤ 70368744177664 := b3
        have h : ((i.bytes * n2 : Nat) : Int) ≤ 281474976710656 := by omega
        rwa [Int.natCast_mul] at h
      have hrun := run_make (P := P) w t e i v (und_ok hE hu) (hE.ty e i hi) g2 k1 k2 n1 n2 (by omega) (by omega) b3' (by omega)
      refine ⟨.cells (madeCells v.cells (n2 * i.size)) e, 0, w.drawn, .slice (some ⟨w.heap.size, 0, none⟩) n1 n2, ?_, rfl, ?_, okVs_reps g6 _, fun nm => ⟨by simp [toV, upd_same], rfl⟩⟩
      · unfold execOp
        simp only [ho, h1, h2]
        refine run_v ?_
        simp only [Int.toNat_natCast] at hrun
        exact hrun
      · refine holds_cells ?_
        rw [toVs_reps, g4]
        exact getD_zip_reps i.size n2 (by rw [toVs_len, g5]) _ rfl
  · cases hq

theorem quiet_ok {ao : AOp} (hc : opC E nt o = some ao) (hq : quiet ao rd fr = some r) : QS P o a σ rd w r := by
  unfold opC at hc
  split at hc
  case h_1 x ho =>
    split at hc
    · rename_i v hv; cases hc
      exact s_mov hR hF (x := x) (by unfold execOp; rw [ho]) hv hq
    · cases hc
  case h_2 x ho =>
    split at hc
    · rename_i v hv; cases hc
      exact s_mov hR hF (x := x) (by unfold execOp; rw [ho]) hv hq
    · cases hc
  case h_3 c x y ho =>
    split at hc
    · rename_i h0 h1 h2; cases hc
      exact s_pick hR hF ho h0 h1 h2 hq
    · cases hc
  case h_4 t ho =>
    split at hc
    · rename_i z hz; cases hc
      exact s_mkc hE (fr := fr) ho hz hq
    · cases hc
  case h_5 t x ho =>
    split at hc
    · rename_i v hv; cases hc
      exact s_box hR hF ho hv hq
    · cases hc
  case h_6 t ps ho =>
    split at hc
    · rename_i z fs hz hu
      split at hc
      · rename_i pl hpl
        split at hc
        · rename_i l hl; cases hc
          exact s_build_struct hE hR hF ho hz hu hpl hl hq
        · cases hc
      · cases hc
    · rename_i z n e hz hu
      split at hc
      · rename_i k hk
        split at hc
        · rename_i l hl; cases hc
          exact s_build_array hE hR hF ho hz hu hk hl hq
        · cases hc
      · cases hc
    · cases hc
  case h_7 t len ps ho =>
    split at hc
    · rename_i e hu
      split at hc
      · rename_i z k hz hk
        cases hb : Nat.ble (len * k) 16777216 with
        | false => rw [hb] at hc; cases hc
        | true =>
          rw [hb] at hc
          simp only [cond_true] at hc
          split at hc
          · rename_i l hl; cases hc
            exact s_buildSl hE hR hF ho hu hz hk (by simpa using hb) hl hq
          · cases hc
      · cases hc
    · cases hc
  case h_8 t x ho =>
    split at hc
    · rename_i k v hk hv; cases hc
      exact s_load hE hR hF ho hk hv hq
    · cases hc
  case h_9 x ho =>
    split at hc
    · rename_i v hv; cases hc
      exact s_nilCheck hR hF ho hv hq
    · cases hc
  case h_10 op t x y yt ho =>
    split at hc
    · rename_i x' y' hx hy
      split at hc
      · rename_i k hu; cases hc
        exact s_bin hR hF ho hx hy hq
      · rename_i hu; cases hc
        exact s_bin hR hF ho hx hy hq
      · rename_i d hni hns hu
        have hni' : ∀ k, und E t ≠ some (.int k) := fun k e => by rw [hu] at e; cases e; exact hni k rfl
        have hns' : und E t ≠ some .string := fun e => by rw [hu] at e; cases e; exact hns rfl
        split at hc
        · split at hc
          · rename_i q hd; cases hc
            exact s_eq hE hR hF (s := true) ho hd hx hy hni' hns' hq
          · cases hc
        · split at hc
          · rename_i q hd; cases hc
            exact s_eq hE hR hF (s := false) ho hd hx hy hni' hns' hq
          · cases hc
        · cases hc
      · cases hc
    · cases hc
  case h_11 op t x ho =>
    split at hc
    · rename_i v hv; cases hc
      exact s_un hR hF ho hv hq
    · cases hc
  case h_12 s d x ho =>
    split at hc
    · rename_i v k1 k hv hs hd; cases hc
      exact s_cvInt hE hR hF ho hv hs hd hq
    · rename_i v k1 hv hs hd; cases hc
      exact s_cvRune hE hR hF ho hv hs hd hq
    · rename_i v hv hs hd; cases hc
      exact s_cvStr hE hR hF ho hv hs hd hq
    · rename_i v e hv hs hd
      split at hc
      · rename_i hu; cases hc
        exact s_cvBytes hE hR hF ho hv hs hd hu hq
      · cases hc
    · rename_i v e hv hs hd
      split at hc
      · rename_i hu; cases hc
        exact s_cvText hE hR hF ho hv hs hd hu hq
      · cases hc
    · cases hc
  case h_13 t x ho =>
    split at hc
    · cases hc
    · rename_i d v hni hu hv; cases hc
      exact s_iface hE hR hF ho hu (fun ms e => hni ms (by rw [← e])) hv hq
    · cases hc
  case h_14 f p c ho =>
    split at hc
    · rename_i x y hp hcc; cases hc
      exact s_func hR hF ho hp hcc hq
    · cases hc
  case h_15 t l c ho =>
    split at hc
    · rename_i e hu
      split at hc
      · rename_i z i x y hz hi hl hcc; cases hc
        exact s_mkSl hE hR hF ho hu hz hi hl hcc hq
      · cases hc
    · cases hc
  case h_16 t x lo hi mx ho =>
    split at hc
    · rename_i v l h m hv hl hh hm
      cases hb : (m.isSome && !h.isSome) with
      | true => rw [hb] at hc; cases hc
      | false =>
        rw [hb] at hc
        simp only [cond_false] at hc
        have hmx : m ≠ none → h ≠ none := by
          intro h1 h2
          subst h2
          cases m with
          | none => exact h1 rfl
          | some z => cases hb
        split at hc
        · rename_i hu
          split at hc
          · cases hc
            have : mx = none := by
              cases mx with
              | none => rfl
              | some z => simp only [aoptC] at hm; split at hm <;> cases hm
            subst this
            exact s_subS hE hR hF ho hu hv hl hh hq
          · cases hc
        · rename_i e hu
          split at hc
          · rename_i k hk; cases hc
            exact s_sub hE hR hF ho hu hk hv hl hh hm hmx hq
          · cases hc
        · rename_i n e hu
          split at hc
          · rename_i k hk; cases hc
            exact s_subA hE hR hF ho hu hk hv hl hh hm hmx hq
          · cases hc
        · cases hc
    · cases hc
  case h_17 s x f ho =>
    split at hc
    · rename_i fs v hu hv
      split at hc
      · rename_i fd hfd
        split at hc
        · rename_i k hk; cases hc
          exact s_fAddr hE hR hF ho hu hfd hk hv hq
        · cases hc
      · cases hc
    · cases hc
  case h_18 s x f ho =>
    split at hc
    · rename_i fs v hu hv
      split at hc
      · rename_i fd hfd
        split at hc
        · rename_i k hk; cases hc
          exact s_fld hE hR hF ho hu hfd hk hv hq
        · cases hc
      · cases hc
    · cases hc
  case h_19 t x i ho =>
    split at hc
    · rename_i x' i' hx hi
      split at hc
      · rename_i e hu
        split at hc
        · rename_i k hk; cases hc
          exact s_iAddr hE hR hF ho hu hk hx hi hq
        · cases hc
      · rename_i n e hu
        split at hc
        · rename_i k hk; cases hc
          exact s_iAddrA hE hR hF ho hu hk hx hi hq
        · cases hc
      · cases hc
    · cases hc
  case h_20 t x i ho =>
    split at hc
    · rename_i x' i' hx hi
      split at hc
      · rename_i hu; cases hc
        exact s_idxS hE hR hF ho hu hx hi hq
      · rename_i n e hu
        split at hc
        · rename_i k g hk hg; cases hc
          exact s_idxA hE hR hF ho hu hk hg hx hi hq
        · cases hc
      · cases hc
    · cases hc
  case h_21 t x ho =>
    split at hc
    · rename_i v hu hv; cases hc
      exact s_rng hE hR hF ho hu hv hq
    · cases hc
  case h_22 x i ho =>
    split at hc
    · rename_i v hv; cases hc
      exact s_ext hR hF ho hv hq
    · cases hc
  case h_23 t x y ho =>
    split at hc
    · cases hc; cases hq
    · cases hc
  case h_24 x ho =>
    split at hc
    · cases hc; cases hq
    · cases hc
  case h_25 c ho =>
    split at hc
    · split at hc
      · cases hc; cases hq
      · cases hc
    · cases hc
  case h_26 c ho =>
    split at hc
    · split at hc
      · cases hc; cases hq
      · cases hc
    · rename_i hcal
      split at hc
      · rename_i t x ht hl
        split at hc
        · rename_i hu; cases hc
          exact s_len hE hR hF ho hcal ht hu (.inl ⟨rfl, rfl⟩) hl hq
        · rename_i e hu; cases hc
          exact s_len hE hR hF ho hcal ht hu (.inr ⟨rfl, e, rfl⟩) hl hq
        · rename_i n e hu
          cases hc
          cases hq
          obtain ⟨cs, he⟩ := run_call_builtin (P := P) hR hF ho hcal hl
          refine ⟨?_, trivial⟩
          rw [he]
          have hg : agets fr [x] = [aget fr x] := rfl
          rw [hg]
          simp only [builtin, toVs]
          refine run_v ?_
          unfold Builtin.len_
          simp [ht, run_und hE hu, toV, goInt, aget]
        · cases hc
      · cases hc
    · rename_i hcal
      split at hc
      · rename_i l hl; cases hc
        exact s_minmax hR hF (mx := true) ho hcal hl hq
      · cases hc
    · rename_i hcal
      split at hc
      · rename_i l hl; cases hc
        exact s_minmax hR hF (mx := false) ho hcal hl hq
      · cases hc
    · split at hc
      · split at hc
        · split at hc
          · cases hc; cases hq
          · cases hc
        · cases hc
      · cases hc
    · split at hc
      · split at hc
        · split at hc
          · cases hc; cases hq
          · cases hc
        · cases hc
      · cases hc
    · cases hc
  case h_27 => cases hc
end
end Go.Ab
