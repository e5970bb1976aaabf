/- Operations on memory: new blocks, loads, stores, slices made. -/
import Derived.Test.YtoekfbfgilbgoaaGreatDoorG14
import Derived.Laws.MakeOwn
namespace Go.Gh
set_option linter.unusedVariables false

/-- What an operation on memory must show. -/
def MOk (CR : Nat → Code → GC → Prop) (P : Program) (E : Env) (w0 : World) (o : Oper) (a : Act) (w : World) (s : MS) : Prop :=
  ∃ E' v' w' nxt, (execOp a.eval o).run P w = .ok nxt w' ∧ (nxt = .value v' ∨ nxt = .skip ∧ v' = undef) ∧ E.le E' ∧ R E' s.v v' ∧ WR CR E' w0 s.h s.nx w'

section
variable {CR : Nat → Code → GC → Prop} {P : Program} {X : Cx} {N : Nat} {E : Env} {t : T GV} {a : Act} {w0 w : World} {h : T GO} {nx : Nat}
variable (hT : Tb P X.tb) (ht : TR E N t a.tmps) (hg : GL E X.ng) (hW : WR CR E w0 h nx w)

theorem zeroCells_ok {tb : T TypeInfo} (hT : Tb P tb) {ty : TypeId} {zs : List GV} (hz : zeroCellsOf tb ty = some zs) (E : Env) :
    ∃ it z, P.info? ty = some it ∧ it.zero = some z ∧ RL E zs z.cells.toList ∧ ∀ w, (zeroValue ty).run P w = .ok z w := by
  unfold zeroCellsOf at hz
  obtain ⟨z', hz', hz2⟩ := Option.bind_eq_some_iff.1 hz
  obtain ⟨it, hit, hz3⟩ := Option.bind_eq_some_iff.1 hz'
  exact ⟨it, z', hT _ _ hit, hz3, csl_ok E hz2, fun w => by simp [zeroValue, typeInfo, hT _ _ hit, hz3]⟩
theorem noFz {c : Array Value} : ∀ i, ((0, 0) : Nat × Nat).1 ≤ i → i < ((0, 0) : Nat × Nat).2 → c.size ≤ i := fun i _ h => absurd h (Nat.not_lt_zero i)
theorem R.mkPtr {E : Env} {b o cb co : Nat} (h : E.m b = some (cb, co)) : R E (.ptr b o) (.pointer (some ⟨cb, co + o, none⟩)) := by simp only [R]; exact ⟨cb, co, h, rfl⟩
theorem sameZ_all {d : GV} {r : List GV} (h : r.all (sameZ d) = true) : r = List.replicate r.length d := by
  rw [List.eq_replicate_iff]
  exact ⟨rfl, fun b hb => (sameZ_eq (List.all_eq_true.1 h b hb)).symm⟩

include hT hW in
theorem m_alloc {o : Oper} {ty : TypeId} {m : Mf} {s : MS} (ho : o.op = .alloc ty) (hc : cMf X P (.alloc ty) = some m) (hm : mf t h nx m = some s) : MOk CR P E w0 o a w s := by
  obtain ⟨zs, hz, rfl⟩ := Option.map_eq_some_iff.1 (show (zeroCellsOf X.tb ty).map cAlloc = some m from hc)
  obtain ⟨it, z, h1, h2, h3, h4⟩ := zeroCells_ok hT hz E
  have hrun : (execOp a.eval o).run P w = .ok (.value (.pointer (some ⟨w.heap.size, 0, none⟩))) (w.alloc (.cells z.cells ty)) := by
    simp [execOp, ho, Instr.alloc, h4 w, newVar, newRow]
  have hlen := h3.length
  unfold cAlloc at hm
  split at hm
  · rename_i d r
    split at hm
    · rename_i hu
      have hr := sameZ_all hu.2
      cases hm
      obtain ⟨E', g1, g2, g3, g4⟩ := new_ok hW (Nat.le_refl nx) (t := .nil) (n := r.length + 1) (d := d) (c := z.cells) (el := ty) (fz := (0, 0)) (by simpa using (Nat.le_of_eq hlen.symm)) noFz (fun i hi => by
        have hd : (d :: r)[i]? = some d := by
          rw [hr]
          cases i with
          | zero => rfl
          | succ i => rw [List.getElem?_cons_succ, List.getElem?_replicate]; simp only [ite_eq_left_iff]; intro h'; omega
        obtain ⟨y, hy, hr⟩ := h3.get hd
        exact ⟨y, by simpa using hy, by simpa [T.get_nil] using hr⟩)
      exact ⟨E', _, _, _, hrun, .inl rfl, g1, by simpa using R.mkPtr (o := 0) g2, g4⟩
    · cases hm
      obtain ⟨E', g1, g2, g3, g4⟩ := newList_ok hW (Nat.le_refl nx) (c := z.cells) (el := ty) (fz := (0, 0)) noFz (l := d :: r) (by rw [← hlen, List.take_length]; exact h3)
      exact ⟨E', _, _, _, hrun, .inl rfl, g1, by simpa using R.mkPtr (o := 0) g2, g4⟩
  · cases hm
    obtain ⟨E', g1, g2, g3, g4⟩ := newList_ok hW (Nat.le_refl nx) (c := z.cells) (el := ty) (fz := (0, 0)) noFz (l := []) (by simp only [RL]; simp)
    exact ⟨E', _, _, _, hrun, .inl rfl, g1, by simpa using R.mkPtr (o := 0) g2, g4⟩

include ht hg hW in
theorem m_box {o : Oper} {ty : TypeId} {x : Operand} {m : Mf} {s : MS} (ho : o.op = .box ty x) (hc : cMf X P (.box ty x) = some m) (hm : mf t h nx m = some s) : MOk CR P E w0 o a w s := by
  obtain ⟨ox, hx, rfl⟩ := Option.map_eq_some_iff.1 (show (cod X.ng x).map .box = some m from hc)
  obtain ⟨l, hl, hm⟩ := orec_some (show mBox h nx (ev t ox) = some s from hm)
  cases hm
  have hr := cellsOf_ok hl (ev_ok ht hg hx)
  have hlen := hr.length
  obtain ⟨E', g1, g2, g3, g4⟩ := newList_ok hW (Nat.le_refl nx) (c := (a.eval x).cells) (el := ty) (fz := (0, 0)) noFz (by rw [← hlen, List.take_length]; exact hr)
  exact ⟨E', .pointer (some ⟨w.heap.size, 0, none⟩), w.alloc (.cells (a.eval x).cells ty), _, by simp [execOp, ho, Instr.box, newVar, newRow], .inl rfl, g1, by simpa using R.mkPtr (o := 0) g2, g4⟩

include hT ht hg hW in
theorem m_load {o : Oper} {ty : TypeId} {x : Operand} {m : Mf} {s : MS} (ho : o.op = .load ty x) (hc : cMf X P (.load ty x) = some m) (hm : mf t h nx m = some s) : MOk CR P E w0 o a w s := by
  simp only [cMf] at hc
  split at hc
  · rename_i d n ox hu hn hx
    cases hc
    have hr := ev_ok ht hg hx
    have hagg := run_isAgg hT hu w
    cases hd : aggD d with
    | true =>
      rw [hd] at hm hagg
      obtain ⟨b, oo, e, hm⟩ := onPtr_some (show mLdn h nx n (ev t ox) = some s from hm)
      obtain ⟨tr, lo, k, dd, ro, hb, hm⟩ := onCells_some hm
      obtain ⟨hle, hm⟩ := okIf_some hm
      cases hm
      have hle : oo + n ≤ k := ble_t hle
      rw [e] at hr; simp only [R] at hr
      obtain ⟨cb, co, hmm, hv⟩ := hr
      obtain ⟨c, el, fz, q1, q2, q3, q4, q5, q6⟩ := row_ok hW hb hmm
      refine ⟨E, .agg ((c.toList.drop (co + oo)).take n).toArray, w, _, ?_, .inl rfl, Env.le_refl E, by simp only [R]; exact ⟨_, rfl, by simpa using q6 oo n hle⟩, hW⟩
      simp [execOp, ho, Instr.loadAt, hv, Instr.sureAddr, loadVar, hagg, run_sizeOf' hT hn w, run_loadCells_of (P := P) q1 (o := co + oo) (n := n) (by omega)]
    | false =>
      rw [hd] at hm hagg
      obtain ⟨b, oo, e, hm⟩ := onPtr_some (show mLd1 h nx (ev t ox) = some s from hm)
      obtain ⟨tr, lo, k, dd, ro, hb, hm⟩ := onCells_some hm
      obtain ⟨hle, hm⟩ := okIf_some hm
      cases hm
      have hle : oo < k := ble_t hle
      rw [e] at hr; simp only [R] at hr
      obtain ⟨cb, co, hmm, hv⟩ := hr
      have hob := hW.obj b _ hb
      simp only [OR] at hob
      obtain ⟨cb', co', c, el, fz, q1, q2, q3, q3', q4, q5, q6⟩ := hob
      rw [hmm] at q1; cases q1
      obtain ⟨y, hy, hry⟩ := q6 oo hle
      refine ⟨E, y, w, _, ?_, .inl rfl, Env.le_refl E, by rw [cellAt_eq]; exact hry, hW⟩
      simp [execOp, ho, Instr.loadAt, hv, Instr.sureAddr, loadVar, hagg, run_load, cell_of q2, hy]
  · cases hc

include hT ht hg hW in
theorem m_store {o : Oper} {ty : TypeId} {x y : Operand} {m : Mf} {s : MS} (ho : o.op = .store ty x y) (hc : cMf X P (.store ty x y) = some m) (hm : mf t h nx m = some s) : MOk CR P E w0 o a w s := by
  simp only [cMf] at hc
  split at hc
  · rename_i d n ox oy hu hn hx hy
    have hr := ev_ok ht hg hx
    have hr2 := ev_ok ht hg hy
    have hsz := run_sizeOf' hT hn w
    have fin : ∀ {b oo : Nat} {l : List GV} {h' : T GO}, ev t ox = .ptr b oo → putAt h b oo l = some h' → s = ⟨.bad, h', nx⟩ → RL E l (a.eval y).cells.toList → (a.eval y).cells.size = n → MOk CR P E w0 o a w s := by
      intro b oo l h' e hp hs hl hcs
      rw [e] at hr; simp only [R] at hr
      obtain ⟨cb, co, hmm, hv⟩ := hr
      obtain ⟨w', hrun, hW'⟩ := put_ok (P := P) hW hp hmm hl
      subst hs
      refine ⟨E, undef, w', .skip, ?_, .inr ⟨rfl, rfl⟩, Env.le_refl E, by simp only [R], hW'⟩
      simp [execOp, ho, Instr.storeAt, hv, Instr.sureAddr, storeVar, hsz, hcs, hrun]
    by_cases hd : aggD d = true
    · rw [if_pos hd] at hc; cases hc
      obtain ⟨b, oo, e, hm⟩ := onPtr_some (show mStn h nx n (ev t ox) (ev t oy) = some s from hm)
      obtain ⟨l, e2, hm⟩ := onAgg_some hm
      obtain ⟨hl, hm⟩ := okIf_some hm
      obtain ⟨h', hp, hm⟩ := orec_some hm
      cases hm
      rw [e2] at hr2
      obtain ⟨cs, e3, hcs⟩ := R.agg hr2
      have := hcs.length
      exact fin e hp rfl (by rw [e3]; exact hcs) (by rw [e3]; show cs.size = n; rw [← Array.length_toList, this]; exact beq_t hl)
    · rw [if_neg hd] at hc
      by_cases h1 : n = 1
      · rw [if_pos h1] at hc; cases hc
        obtain ⟨b, oo, e, hm⟩ := onPtr_some (show mSt1 h nx (ev t ox) (ev t oy) = some s from hm)
        obtain ⟨h', hp, hm⟩ := orec_some hm
        cases hm
        have hcell : isCell (ev t oy) = true := by
          obtain ⟨_, _, _, _, _, _, hp⟩ := onCells_some hp
          obtain ⟨hp, _⟩ := okIf_some hp
          exact (band_t (show band (isCell (ev t oy)) true = true from (band_t (band_t hp).2).2)).1
        have h1c := isCell_one hcell hr2
        have hce : (a.eval y).cells = #[a.eval y] := by
          generalize a.eval y = q at h1c
          cases q <;> first | rfl | cases h1c
        exact fin e hp rfl (by rw [hce]; exact RL.one hr2) (by rw [hce, h1]; rfl)
      · rw [if_neg h1] at hc; cases hc
  · cases hc

theorem reps_length (zs : List GV) : ∀ n, (reps zs n).length = n * zs.length
  | 0 => by show ([] : List GV).length = _; simp
  | n + 1 => by
    show (zs ++ reps zs n).length = _
    rw [List.length_append, reps_length zs n, Nat.add_mul]; omega
theorem reps_get (zs : List GV) : ∀ (n i : Nat), i < n * zs.length → (reps zs n)[i]? = zs[i % zs.length]?
  | 0, i, h => by omega
  | n + 1, i, h => by
    show (zs ++ reps zs n)[i]? = _
    by_cases h1 : i < zs.length
    · rw [List.getElem?_append_left h1, Nat.mod_eq_of_lt h1]
    · rw [List.getElem?_append_right (by omega), reps_get zs n _ (by rw [Nat.add_mul] at h; omega)]
      congr 1
      conv => rhs; rw [show i = (i - zs.length) + zs.length by omega]
      rw [Nat.add_mod_right]
/-- zeros laid n times, as the machine lays them -/
theorem reps_cells {E : Env} {zs : List GV} {z : Array Value} (hz : RL E zs z.toList) (n : Nat) : RL E (reps zs n) ((Array.range (n * zs.length)).map fun i => z[i % z.size]!).toList := by
  have hl : z.size = zs.length := by rw [← Array.length_toList]; exact hz.length
  refine RL.of_get (by rw [reps_length]; simp) fun i x y hx hy => ?_
  have hi : i < n * zs.length := by
    rcases Nat.lt_or_ge i (n * zs.length) with hi | hi
    · exact hi
    · rw [List.getElem?_eq_none (by rw [reps_length]; omega)] at hx; cases hx
  have hpos : 0 < zs.length := by
    rcases Nat.eq_zero_or_pos zs.length with h0 | h0
    · rw [h0, Nat.mul_zero] at hi; omega
    · exact h0
  rw [reps_get zs n i hi] at hx
  obtain ⟨q, hq, hr⟩ := hz.get hx
  have hm : i % z.size < z.size := Nat.mod_lt _ (by omega)
  rw [Array.getElem?_toList] at hq hy
  have : y = z[i % z.size]! := by
    simp only [Array.getElem?_map, Array.getElem?_range, hi, if_true, Option.map_some, Option.some.injEq] at hy
    exact hy.symm
  rw [this, getElem!_pos z _ hm]
  rw [← hl, Array.getElem?_eq_getElem hm] at hq
  cases hq
  exact hr

include hT ht hg hW in
theorem m_buildSlice {o : Oper} {ty : TypeId} {len : Nat} {parts : Array (Nat × Operand)} {m : Mf} {s : MS} (ho : o.op = .buildSlice ty len parts) (hc : cMf X P (.buildSlice ty len parts) = some m) (hm : mf t h nx m = some s) : MOk CR P E w0 o a w s := by
  simp only [cMf] at hc
  split at hc
  · rename_i e hu
    split at hc
    · rename_i z zs hz hzs
      split at hc
      · rename_i hcond
        obtain ⟨qs, hq, rfl⟩ := Option.map_eq_some_iff.1 hc
        obtain ⟨l, hl, hm⟩ := orec_some (show mBsl t h nx z len (reps zs len) qs = some s from hm)
        cases hm
        obtain ⟨it, zv, h1, h2, h3, h4⟩ := zeroCells_ok hT hzs E
        obtain ⟨g1, g2⟩ := bldEv_get ht hg hq
        have hzl : zv.cells.size = zs.length := by rw [← Array.length_toList]; exact h3.length
        have hcells := reps_cells h3 len
        rw [hcond.2] at hcells
        obtain ⟨cells, hf, hr⟩ := gfill_ok (fun i => some (i * z, z)) _ _ _ _ _ g1 g2 hcells hl
        have hlen := hr.length
        have hzero : (if len * z = 0 then pure #[] else (do pure (← zeroValue e).cells) : Sem (Array Value)).run P w = .ok (if len * z = 0 then #[] else zv.cells) w := by
          split
          · rfl
          · simp [h4 w]
        have harr : ((Array.range (len * z)).map fun i => (if len * z = 0 then #[] else zv.cells)[i % (if len * z = 0 then (#[] : Array Value) else zv.cells).size]!) = (Array.range (len * z)).map fun i => zv.cells[i % zv.cells.size]! := by
          by_cases h0 : len * z = 0
          · simp [h0]
          · simp [h0]
        obtain ⟨E', f1, f2, f3, f4⟩ := newList_ok hW (Nat.le_refl nx) (c := cells) (el := e) (fz := (0, 0)) noFz (l := l) (by rw [← hlen, List.take_length]; exact hr)
        have e2 : (parts.map fun (x : Nat × Operand) => match x with | (i, y) => (i, a.eval y)).toList = parts.toList.map fun x => (x.1, a.eval x.2) := by simp
        refine ⟨E', .slice (some ⟨w.heap.size, 0, none⟩) len len, w.alloc (.cells cells e), _, ?_, .inl rfl, f1, ?_, f4⟩
        · simp only [execOp, ho, Instr.buildSlice, Sem.run_bind, run_und hT hu, Result.andThen_ok, run_sizeOf' hT hz]
          rw [if_neg (by omega)]
          split
          · rename_i h0
            have q : ((Array.range (len * z)).map fun x => (#[] : Array Value)[x % (#[] : Array Value).size]!) = (Array.range (len * z)).map fun i => zv.cells[i % zv.cells.size]! := by simp [h0]
            simp only [Sem.run_pure, Sem.run_bind, Result.andThen_ok]
            rw [q, e2, hf]
            simp [newRow]
          · simp only [Sem.run_pure, Sem.run_bind, Result.andThen_ok, h4 w]
            rw [e2, hf]
            simp [newRow]
        · simp only [R]
          refine ⟨w.heap.size, 0, _, len, f2, rfl, Nat.le_refl _, Nat.le_refl _, fun _ => rfl, .inr (by simp), ?_⟩
          right
          rw [f3]
          have : cells.size = len * z := by
            rw [← Array.length_toList, hlen]
            have hgl : ∀ (gp : List (Nat × Nat × GV)) (c out : List GV), gfill gp c = some out → out.length = c.length := by
              intro gp
              induction gp with
              | nil => intro c out h; cases h; rfl
              | cons x gp ih =>
                intro c out h
                change Option.rec none (fun q => okIf (band (Nat.beq q.length x.2.1) (Nat.ble (Nat.add x.1 q.length) c.length)) (gfill gp (gsplice c x.1 q))) (cellsOf x.2.2) = some out at h
                obtain ⟨q, _, h⟩ := orec_some h
                obtain ⟨hb, h⟩ := okIf_some h
                rw [ih _ _ h]
                exact gsplice_length _ _ _ (ble_t (band_t hb).2)
            rw [hgl _ _ _ hl, reps_length, hcond.2]
          omega
      · cases hc
    · cases hc
  · cases hc
end
end Go.Gh
