/- Operations on memory: append, copy, texts and bytes, clear of slices. -/
import Derived.Test.YtoekfbfgilbgoaaGreatDoorG18
namespace Go.Gh
set_option linter.unusedVariables false

section
variable {CR : Nat → Code → GC → Prop} {P : Program} {X : Cx} {N : Nat} {E : Env} {t : T GV} {a : Act} {w0 w : World} {h : T GO} {nx : Nat}
variable (hT : Tb P X.tb) (ht : TR E N t a.tmps) (hg : GL E X.ng) (hW : WR CR E w0 h nx w)

theorem szInfo {P : Program} {tb : T TypeInfo} (hT : Tb P tb) {e : TypeId} {z : Nat} (hz : szOf tb e = some z) {i : TypeInfo} (hi : P.info? e = some i) : i.size = z := by
  obtain ⟨j, hj, rfl⟩ := Option.map_eq_some_iff.1 hz
  have := hT _ _ hj
  rw [hi] at this; cases this; rfl

include hT ht hg hW in
theorem m_append {st xt ty : TypeId} {sx xx : Operand} {m : Mf} {s : MS} (hc : cAppend X P st xt sx xx = some m) (hm : mf t h nx m = some s) :
    ∃ E' v' w', (Builtin.append_ #[st, xt] ty #[a.eval sx, a.eval xx]).run P w = .ok v' w' ∧ E.le E' ∧ R E' s.v v' ∧ WR CR E' w0 s.h s.nx w' := by
  unfold cAppend at hc
  split at hc
  · rename_i e oa ob h1 h2 h3 h4
    split at hc
    · rename_i hz hu hzero
      split at hc
      · rename_i hby
        cases hc
        obtain ⟨n, xs, cs, hm, hsrc, hr⟩ := srcS_ok (P := P) (w := w) (ev_ok ht hg h4) (show mApps h nx (ev t oa) (ev t ob) = some s from hm)
        obtain ⟨i, hi, hb⟩ := Option.map_eq_some_iff.1 hby
        obtain ⟨i', hi', hz'⟩ := Option.bind_eq_some_iff.1 hzero
        rw [hi] at hi'; cases hi'
        have hs1 := szInfo hT hz (hT _ _ hi)
        exact app1_ok hW (und_ok hT h1) (und_ok hT h2) (fun k => by simp) (hT _ _ hi) hz' (by rw [hs1]; rfl) (by omega) (ev_ok ht hg h3) (by rw [hs1]; exact hsrc) hr (by rw [hs1]; exact hm)
      · cases hc
    · cases hc
  · rename_i e e2 oa ob h1 h2 h3 h4
    split at hc
    · rename_i z by_ zs hz hby hzs
      split at hc
      · rename_i hcond
        cases hc
        obtain ⟨n, xs, cs, hm, hsrc, hr, _⟩ := srcOf_ok (P := P) hW (ev_ok ht hg h4) (show mApp h nx z (ev t oa) (ev t ob) = some s from hm)
        obtain ⟨i, hi, hb⟩ := Option.map_eq_some_iff.1 hby
        obtain ⟨it, zv, q1, q2, q3, q4⟩ := zeroCells_ok hT hzs E
        have := hT _ _ hi
        rw [q1] at this; cases this
        have hs1 := szInfo hT hz q1
        exact app1_ok hW (und_ok hT h1) (und_ok hT h2) (fun k => by simp) q1 q2 (by rw [← Array.length_toList, q3.length, hcond.2, hs1]) (by rw [hb]; exact hcond.1) (ev_ok ht hg h3) (by rw [hs1]; exact hsrc) hr (by rw [hs1]; exact hm)
      · cases hc
    · cases hc
  · cases hc

/-- what copy does, when the source's cells are known -/
theorem copy1_ok (hW : WR CR E w0 h nx w) {dt st ty e : TypeId} {sz : Nat} (hdt : P.underlying dt = some (.slice e)) (hsz : ∀ w, (sizeOf e).run P w = .ok sz w)
    {g : GV} {V Y : Value} (hg : R E g V) {n : Nat} {xs : List GV} {cs : List Value} (hsrc : Src P w sz Y n cs) (hxs : RL E xs cs) {s : MS} (hs : mCopy1 h nx sz g n xs = some s) :
    ∃ v' w', (Builtin.copy_ #[dt, st] ty #[V, Y]).run P w = .ok v' w' ∧ R E s.v v' ∧ WR CR E w0 s.h s.nx w' := by
  obtain ⟨s1, s2, s3⟩ := hsrc
  have base : ∀ {b : Option Addr} {l c k : Nat} {w' : World}, V = .slice b l c → k = Nat.min n l → (match b with | some ad => storeCells ad (cs.take (k * sz)) | none => pure ()).run P w = .ok () w' →
      (Builtin.copy_ #[dt, st] ty #[V, Y]).run P w = .ok (goInt k) w' := by
    intro b l c k w' hV hk hst
    subst hV; subst hk
    have := s3 (Nat.min n l) w (Nat.min_le_left _ _) rfl
    unfold Builtin.copy_
    simp only [List.getElem?_toArray, List.getElem?_cons_zero, List.getElem?_cons_succ, Sem.run_bind, run_underlying hdt, Result.andThen_ok, s2, hsz, this]
    cases b with
    | none => simp only [Sem.run_pure] at hst ⊢; cases hst; simp
    | some ad => simp only at hst ⊢; simp [hst]
  rcases onSl_some hs with ⟨rfl, hs2⟩ | ⟨b, o, len, cap, ex, zz, rfl, hs2⟩
  · simp only [R] at hg; subst hg
    cases hs2
    exact ⟨_, w, base (k := 0) rfl (by simp) (by rfl), R.mkInt _ _ _, hW⟩
  · obtain ⟨hz, hs3⟩ := okIf_some hs2
    have hz := beq_t hz; subst hz
    simp only [R] at hg
    obtain ⟨cb, co, ad, c, hm, rfl, hlc, hcc, hex, had, hroom⟩ := hg
    rw [nmin_eq] at hs3
    cases h0 : Nat.beq (Nat.min n len) 0 with
    | true =>
      rw [h0] at hs3; cases hs3
      have := beq_t h0
      exact ⟨_, w, base (k := 0) rfl this.symm (by simp [storeCells]), R.mkInt _ _ _, hW⟩
    | false =>
      rw [h0] at hs3
      have h0 := beq_f h0
      obtain ⟨h', hp, hs3⟩ := orec_some hs3
      cases hs3
      have hmin : Nat.min n len ≤ len := Nat.min_le_right _ _
      have had : ad = ⟨cb, co + o, none⟩ := had.resolve_left (by omega)
      subst had
      obtain ⟨w', hrun, hW'⟩ := put_ok (P := P) hW hp hm (hxs.take (Nat.min n len * zz))
      exact ⟨_, w', base (k := Nat.min n len) rfl rfl hrun, R.mkInt _ _ _, hW'⟩

include hT ht hg hW in
theorem m_s2b {o : Oper} {sr ds : TypeId} {x : Operand} {e : TypeId} {ox : Od} {s : MS} (ho : o.op = .convert sr ds x) (h1 : und X.tb sr = some .string) (h2 : und X.tb ds = some (.slice e)) (h3 : und X.tb e = some (.int .u8)) (hx : cod X.ng x = some ox)
    (hm : mS2b h nx (ev t ox) = some s) : MOk CR P E w0 o a w s := by
  obtain ⟨l, el, hm⟩ := onStr_some hm
  cases hm
  have hr := ev_ok ht hg hx
  rw [el] at hr
  obtain ⟨hr, hl⟩ := R.str hr
  have hrun := run_bytes_of_string (P := P) w sr ds e (bs l) (und_ok hT h1) (und_ok hT h2) (und_ok hT h3)
  have hgc : l.length ≤ grownCap w (bs l).size 0 e := by
    unfold grownCap
    simp only [Question.cut, bs_size]
    exact Nat.le_add_right _ _
  generalize grownCap w (bs l).size 0 e = gc at hrun hgc
  have hcells : RL E (l.map fun c => .int .u8 (Int.ofNat c)) ((bytesRow (bs l) gc).toList.take (l.map fun c => GV.int .u8 (Int.ofNat c)).length) := by
    refine RL.of_get ?_ fun i p q hp hq => ?_
    · simp only [List.length_take, Array.length_toList, List.length_map]
      have : l.length ≤ (bytesRow (bs l) gc).size := by
        unfold bytesRow
        rw [Array.size_append, Array.size_map]
        have : (bs l).data.size = l.length := bs_size l
        omega
      omega
    · rw [List.getElem?_map] at hp
      cases hc : l[i]? with
      | none => rw [hc] at hp; cases hp
      | some c =>
        rw [hc] at hp; cases hp
        have hi : i < l.length := by
          rcases Nat.lt_or_ge i l.length with hi | hi
          · exact hi
          · rw [List.getElem?_eq_none hi] at hc; cases hc
        have hib : i < (bs l).data.size := by simpa [bs] using hi
        rw [List.getElem?_take_of_lt (by simpa using hi), Array.getElem?_toList, bytesRow_at (bs l) _ i hib] at hq
        cases hq
        have : (bs l).data[i] = UInt8.ofNat l[i] := by simp only [bs, List.getElem_toArray, List.getElem_map]
        rw [this, UInt8.toNat_ofNat_of_lt' (hl _ (List.getElem_mem hi))]
        rw [List.getElem?_eq_getElem hi] at hc; cases hc
        exact R.mkInt _ _ _
  obtain ⟨E', f1, f2, f3, f4⟩ := newList_ok hW.drew (Nat.le_refl nx) (c := bytesRow (bs l) gc) (el := e) (fz := ((bytesRow (bs l) gc).size, (bytesRow (bs l) gc).size + 1)) (fun i hi _ => hi) hcells
  refine ⟨E', .slice (some ⟨w.heap.size, 0, none⟩) (bs l).size gc, _, .value _, ?_, .inl rfl, f1, ?_, f4⟩
  · simp only [execOp, ho, hr, Sem.run_bind, hrun, Result.andThen_ok, Sem.run_pure]
  · simp only [R]
    refine ⟨w.heap.size, 0, ⟨w.heap.size, 0, none⟩, gc, f2, by rw [bs_size], Nat.le_refl _, hgc, (fun h => by cases h), .inr rfl, .inr ?_⟩
    rw [show w.heap.size = w.drew.heap.size from rfl, f3]
    have : (bytesRow (bs l) gc).size = (bs l).size + (gc - (bs l).size) := by
      unfold bytesRow
      rw [Array.size_append, Array.size_map, Array.size_replicate]; rfl
    rw [this, bs_size]; omega

theorem R.mkStr {E : Env} {s : List Nat} (h : ∀ y ∈ s, y < 256) : R E (.str s) (.string (bs s)) := by simp only [R]; exact ⟨trivial, h⟩
theorem bytesOfV_ok {E : Env} : ∀ {xs : List GV} {cs : List Value} {s : List Nat}, bytesOfV xs = some s → RL E xs cs → ∃ ns : List Int, cs = ns.map (Value.int .u8) ∧ s = ns.map (fun n => n.toNat % 256) ∧ s.length = xs.length ∧ ∀ n ∈ ns, 0 ≤ n
  | [], cs, s, hs, hr => by
    cases hs
    simp only [RL] at hr; subst hr
    exact ⟨[], rfl, rfl, rfl, by simp⟩
  | x :: xs, cs, s, hs, hr => by
    simp only [RL] at hr
    obtain ⟨v, r, rfl, hv, hr⟩ := hr
    obtain ⟨c, hc, hs⟩ := orec_some (show Option.rec none (fun c => Option.rec none (fun r => some (c :: r)) (bytesOfV xs)) (byteOfV x) = some s from hs)
    obtain ⟨r', hr', hs⟩ := orec_some hs
    cases hs
    obtain ⟨ns, rfl, rfl, h3, h4⟩ := bytesOfV_ok hr' hr
    obtain ⟨k, n, rfl, hc⟩ := onInt_some hc
    obtain ⟨hk, hc⟩ := okIf_some hc
    have hk := kq_eq hk; subst hk
    have := R.int hv; subst this
    cases n with
    | ofNat m =>
      cases hc
      exact ⟨Int.ofNat m :: ns, rfl, rfl, by simpa using h3, fun n hn => by rcases List.mem_cons.1 hn with rfl | hn; exact Int.natCast_nonneg m; exact h4 n hn⟩
    | negSucc m => cases hc

theorem fold_bytes : ∀ (ns : List Int) (r : ByteArray), ns.foldl (fun r n => r.push (UInt8.ofNat n.toNat)) r = ⟨r.data ++ (ns.map fun n => UInt8.ofNat n.toNat).toArray⟩
  | [], r => by simp
  | n :: ns, r => by
    simp only [List.foldl_cons, List.map_cons]
    rw [fold_bytes ns]
    simp [ByteArray.push]

include hT ht hg hW in
theorem m_b2s {o : Oper} {sr ds : TypeId} {x : Operand} {e : TypeId} {ox : Od} {s : MS} (ho : o.op = .convert sr ds x) (h1 : und X.tb sr = some (.slice e)) (h2 : und X.tb ds = some .string) (h3 : und X.tb e = some (.int .u8)) (hx : cod X.ng x = some ox)
    (hm : mB2s h nx (ev t ox) = some s) : MOk CR P E w0 o a w s := by
  obtain ⟨n, xs, cs, hm, ⟨q1, q2, q3⟩, hr, hV⟩ := srcOf_ok (P := P) hW (ev_ok ht hg hx) hm
  obtain ⟨l, hl, hm⟩ := orec_some hm
  cases hm
  obtain ⟨ns, rfl, rfl, hlen, hpos⟩ := bytesOfV_ok hl hr
  have key : ∃ b, (Conv.bytesToString (a.eval x)).run P w = .ok (.string b) w ∧ b = bs (ns.map fun n => n.toNat % 256) := by
    have fin : (ns.foldl (fun r n => r.push (UInt8.ofNat n.toNat)) ByteArray.empty) = bs (ns.map fun n => n.toNat % 256) := by
      rw [fold_bytes]
      have he0 : ByteArray.empty.data = #[] := rfl
      rw [he0]
      unfold bs
      congr 1
      simp only [List.map_map, Array.empty_append]
      congr 1
      refine List.map_congr_left fun n hn => ?_
      show UInt8.ofNat n.toNat = UInt8.ofNat (n.toNat % 256)
      apply UInt8.toNat_inj.1
      simp [UInt8.toNat_ofNat']
    rcases hV with ⟨c, hV⟩ | ⟨q, c, hV⟩
    · have hs0 := q2 w
      rw [hV] at hs0
      simp [Builtin.lenOf] at hs0
      subst hs0
      have : ns = [] := List.eq_nil_of_length_eq_zero (by simpa using q1)
      subst this
      exact ⟨.empty, by rw [hV]; simp [Conv.bytesToString], by rw [← fin]; rfl⟩
    · have h3' := q3 n w (Nat.le_refl _) rfl
      rw [hV] at h3'
      have hlc : (loadCells q n).run P w = .ok (ns.map (Value.int .u8)).toArray w := by
        have : (ns.map (Value.int .u8)).take (n * 1) = ns.map (Value.int .u8) := by rw [← q1, List.take_length]
        rw [this] at h3'
        simpa [Builtin.firstCells] using h3'
      exact ⟨_, by rw [hV]; exact run_bytesToString w q n c ns hlc, fin⟩
  obtain ⟨b, hb, rfl⟩ := key
  refine ⟨E, _, w, .value _, ?_, .inl rfl, Env.le_refl E, R.mkStr fun y hy => ?_, hW⟩
  · have hV' : ∃ p l c, a.eval x = .slice p l c := by
      rcases hV with ⟨c, hV⟩ | ⟨q, c, hV⟩
      · exact ⟨_, _, _, hV⟩
      · exact ⟨_, _, _, hV⟩
    obtain ⟨p, l', c', hV'⟩ := hV'
    rw [hV'] at hb
    have := run_convert_bytes_string (P := P) w sr ds e p l' c' (und_ok hT h1) (und_ok hT h3) (und_ok hT h2)
    simp only [execOp, ho, hV', Sem.run_bind, this, hb, Result.andThen_ok, Sem.run_pure]
  · obtain ⟨n', _, rfl⟩ := List.mem_map.1 hy
    exact Nat.mod_lt _ (by decide)

include hT ht hg hW in
theorem m_convert {o : Oper} {sr ds : TypeId} {x : Operand} {m : Mf} {s : MS} (ho : o.op = .convert sr ds x) (hc : cMf X P (.convert sr ds x) = some m) (hm : mf t h nx m = some s) : MOk CR P E w0 o a w s := by
  simp only [cMf] at hc
  split at hc
  · rename_i e ox h1 h2 h3
    split at hc
    · rename_i h4; cases hc; exact m_s2b hT ht hg hW ho h1 h2 h4 h3 hm
    · cases hc
  · rename_i e ox h1 h2 h3
    split at hc
    · rename_i h4; cases hc; exact m_b2s hT ht hg hW ho h1 h2 h4 h3 hm
    · cases hc
  · cases hc

include hT in
theorem sclr_ok (hW : WR CR E w0 h nx w) {ty rt e : TypeId} {ox : Od} {zs : List GV} {z : Nat} {s : MS} {g : GV} {V : Value} (hu : P.underlying ty = some (.slice e)) (hz : szOf X.tb e = some z) (hzs : zeroCellsOf X.tb e = some zs) (hzl : zs.length = z)
    (hr : R E g V) (hm : mSclr h nx zs g = some s) : ∃ v' w', (Builtin.clear_ #[ty] rt #[V]).run P w = .ok v' w' ∧ R E s.v v' ∧ WR CR E w0 s.h s.nx w' := by
  have tup : R E (.tup []) (.tuple #[]) := by simp only [R]; exact ⟨_, rfl, by simp [RL]⟩
  rcases onSl_some hm with ⟨rfl, hs2⟩ | ⟨b, o, len, cap, ex, zz, rfl, hs2⟩
  · simp only [R] at hr; subst hr
    cases hs2
    exact ⟨.tuple #[], w, by simp [Builtin.clear_, run_underlying hu], tup, hW⟩
  · simp only [R] at hr
    obtain ⟨cb, co, ad, c, hm', rfl, hlc, hcc, hex, had, hroom⟩ := hr
    cases h0 : Nat.beq len 0 with
    | true =>
      rw [h0] at hs2; cases hs2
      have := beq_t h0; subst this
      exact ⟨.tuple #[], w, by simp [Builtin.clear_, run_underlying hu], tup, hW⟩
    | false =>
      rw [h0] at hs2
      have h0 := beq_f h0
      obtain ⟨hzz, hs3⟩ := okIf_some hs2
      have hzz := beq_t hzz
      obtain ⟨h', hp, hs3⟩ := orec_some hs3
      cases hs3
      have had : ad = ⟨cb, co + o, none⟩ := had.resolve_left (by omega)
      subst had
      obtain ⟨it, zv, q1, q2, q3, q4⟩ := zeroCells_ok hT hzs E
      have hc := reps_cells q3 len
      have he : (Builtin.zeroCells zv.cells len) = ((Array.range (len * zs.length)).map fun i => zv.cells[i % zv.cells.size]!) := by
        unfold Builtin.zeroCells
        rw [show zv.cells.size = zs.length by rw [← Array.length_toList]; exact q3.length]
      rw [← he] at hc
      obtain ⟨w', hrun, hW'⟩ := put_ok (P := P) hW hp hm' hc
      refine ⟨.tuple #[], w', ?_, tup, hW'⟩
      obtain ⟨k, rfl⟩ : ∃ k, len = k + 1 := ⟨len - 1, by omega⟩
      simp [Builtin.clear_, run_underlying hu, q4 w, hrun]
end
end Go.Gh
