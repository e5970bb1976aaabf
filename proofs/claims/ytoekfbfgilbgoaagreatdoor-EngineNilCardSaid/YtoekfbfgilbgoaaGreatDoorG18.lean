/- Operations on memory: slices made and taken, append, copy, bytes and texts. -/
import Derived.Test.YtoekfbfgilbgoaaGreatDoorG17
namespace Go.Gh
set_option linter.unusedVariables false

section
variable {CR : Nat → Code → GC → Prop} {P : Program} {X : Cx} {N : Nat} {E : Env} {t : T GV} {a : Act} {w0 w : World} {h : T GO} {nx : Nat}
variable (hT : Tb P X.tb) (ht : TR E N t a.tmps) (hg : GL E X.ng) (hW : WR CR E w0 h nx w)

include hT ht hg hW in
theorem m_makeSlice {o : Oper} {ty : TypeId} {l c : Operand} {m : Mf} {s : MS} (ho : o.op = .makeSlice ty l c) (hc : cMf X P (.makeSlice ty l c) = some m) (hm : mf t h nx m = some s) : MOk CR P E w0 o a w s := by
  simp only [cMf] at hc
  split at hc
  · rename_i e ol oc hu hl hcc
    split at hc
    · rename_i z by_ zs hz hb hzs
      split at hc
      · rename_i hcond
        cases hc
        obtain ⟨hzl, hz0⟩ := hcond
        obtain ⟨n, hn, hm⟩ := orec_some (show mMksl h nx z by_ zs (ev t ol) (ev t oc) = some s from hm)
        obtain ⟨k, hk, hm⟩ := orec_some hm
        obtain ⟨hbb, hm⟩ := okIf_some hm
        obtain ⟨hb1, hb2⟩ := band_t hbb
        obtain ⟨hb3, hb2⟩ := band_t hb2
        have hb1 : n ≤ k := ble_t hb1
        have hb3 : k ≤ 1099511627776 := ble_t hb3
        have hb2 : by_ * k ≤ 1099511627776 := ble_t hb2
        obtain ⟨kl, e1⟩ := natOf_val hn (ev_ok ht hg hl)
        obtain ⟨kc, e2⟩ := natOf_val hk (ev_ok ht hg hcc)
        obtain ⟨it, zv, h1, h2, h3, h4⟩ := zeroCells_ok hT hzs E
        obtain ⟨it', hit', hby⟩ := Option.map_eq_some_iff.1 hb
        have := hT _ _ hit'
        rw [h1] at this; cases this
        have hsz : it.size = z := by
          have := run_sizeOf' hT hz w
          simp [sizeOf, typeInfo, h1] at this
          exact this
        have hzc : zv.cells.size = z := by rw [← Array.length_toList, h3.length, hzl]
        have hrun : (execOp a.eval o).run P w = .ok (.value (.slice (some ⟨w.heap.size, 0, none⟩) n k)) (w.alloc (.cells (madeCells zv.cells (k * z)) e)) := by
          have := run_make (P := P) w ty e it zv (und_ok hT hu) h1 h2 kl kc n k (by omega) (by omega) (by
              have : ((it.bytes * k : Nat) : Int) ≤ 1099511627776 := by rw [hby]; omega
              rw [Int.natCast_mul] at this; omega) (by omega)
          simp only [execOp, ho, e1, e2, Sem.run_bind, this, Result.andThen_ok, Sem.run_pure, Int.toNat_natCast, hsz]
        have hcl : (madeCells zv.cells (k * z)).size = k * z := size_madeCells _ _
        have hcells : RL E (reps zs k) (madeCells zv.cells (k * z)).toList := by
          have := reps_cells h3 k
          rw [hzl] at this
          exact this
        have fin : ∀ {E' : Env}, E.le E' → E'.m nx = some (w.heap.size, 0) → E'.sz w.heap.size = k * z → R E' (.sl nx 0 n k true z) (.slice (some ⟨w.heap.size, 0, none⟩) n k) := fun {E'} f1 f2 f3 => by
          simp only [R]
          exact ⟨w.heap.size, 0, _, k, f2, rfl, hb1, Nat.le_refl _, fun _ => rfl, .inr (by simp), .inr (by rw [f3]; omega)⟩
        cases h1z : Nat.beq z 1 with
        | true =>
          rw [h1z] at hm; cases hm
          have := beq_t h1z; subst this
          obtain ⟨d, hd⟩ : ∃ d, zs = [d] := by
            match zs, hzl with
            | [d], _ => exact ⟨d, rfl⟩
          subst hd
          obtain ⟨E', f1, f2, f3, f4⟩ := new_ok hW (Nat.le_refl nx) (t := .nil) (n := k) (d := d) (c := madeCells zv.cells (k * 1)) (el := e) (fz := (0, 0)) (by rw [hcl]; omega) noFz (fun i hi => by
            have hx : (reps [d] k)[i]? = some d := by
              rw [reps_get [d] k i (by simpa using hi)]
              simp [Nat.mod_one]
            obtain ⟨y, hy, hr⟩ := hcells.get hx
            exact ⟨y, by simpa using hy, by simpa [T.get_nil] using hr⟩)
          exact ⟨E', _, _, _, hrun, .inl rfl, f1, fin f1 f2 (by rw [f3, hcl]), f4⟩
        | false =>
          rw [h1z] at hm; cases hm
          obtain ⟨E', f1, f2, f3, f4⟩ := newList_ok hW (Nat.le_refl nx) (c := madeCells zv.cells (k * z)) (el := e) (fz := (0, 0)) noFz (l := reps zs k) (by rw [← hcells.length, List.take_length]; exact hcells)
          exact ⟨E', _, _, _, hrun, .inl rfl, f1, fin f1 f2 (by rw [f3, hcl]), f4⟩
      · cases hc
    · cases hc
  · cases hc

include hT ht hg hW in
theorem m_slice {o : Oper} {ty : TypeId} {x : Operand} {lo hi mx : Option Operand} {m : Mf} {s : MS} (ho : o.op = .slice ty x lo hi mx) (hc : cMf X P (.slice ty x lo hi mx) = some m) (hm : mf t h nx m = some s) : MOk CR P E w0 o a w s := by
  simp only [cMf] at hc
  split at hc
  · rename_i n e ox l1 l2 l3 hu hx hl1 hl2 hl3
    split at hc
    · cases hc
    · rename_i hmh
      obtain ⟨z, hz, rfl⟩ := Option.map_eq_some_iff.1 hc
      obtain ⟨b, oo, ep, hm⟩ := onPtr_some (show mSlarr t h nx n z (ev t ox) l1 l2 l3 = some s from hm)
      obtain ⟨tr, lo', k, dd, ro, hb, hm⟩ := onCells_some hm
      obtain ⟨hle, hm⟩ := okIf_some hm
      have hle : oo + n * z ≤ k := ble_t hle
      obtain ⟨l, hl, hm⟩ := orec_some hm
      obtain ⟨hh, hhh, hm⟩ := orec_some hm
      obtain ⟨mm, hmm, hm⟩ := orec_some hm
      obtain ⟨hbb, hm⟩ := okIf_some hm
      cases hm
      obtain ⟨hb1, hb2⟩ := band_t hbb
      obtain ⟨hb2, hb3⟩ := band_t hb2
      have hb1 : l ≤ hh := ble_t hb1
      have hb2 : hh ≤ mm := ble_t hb2
      have hb3 : mm ≤ n := ble_t hb3
      have hr := ev_ok ht hg hx
      rw [ep] at hr; simp only [R] at hr
      obtain ⟨cb, co, hmm', hv⟩ := hr
      obtain ⟨cc, el, fz, q1, q2, q3, q4, q5, q6⟩ := row_ok hW hb hmm'
      have hrun : (Instr.sliceBounds false n n (lo.map a.eval) (hi.map a.eval) (mx.map a.eval)).run P w = .ok (l, hh, mm) w := by
        refine run_bounds ?_ ?_ ?_
        · rcases bnd_ok (a := a) (E := E) ht hg hl3 hmm with ⟨rfl, rfl, rfl⟩ | ⟨k', y, rfl, _, hy⟩
          · exact .inl ⟨rfl, rfl⟩
          · exact .inr ⟨k', by simp [hy], hb3⟩
        · rcases bnd_ok (a := a) (E := E) ht hg hl2 hhh with ⟨rfl, rfl, rfl⟩ | ⟨k', y, rfl, _, hy⟩
          · refine .inl ⟨rfl, ?_, rfl⟩
            cases mx with
            | none => rfl
            | some y =>
              exfalso
              obtain ⟨z', hz', rfl⟩ := Option.map_eq_some_iff.1 (show (cod X.ng y).map some = some l3 from hl3)
              exact hmh rfl
          · exact .inr ⟨k', by simp [hy], hb2⟩
        · rcases bnd_ok (a := a) (E := E) ht hg hl1 hl with ⟨rfl, rfl, rfl⟩ | ⟨k', y, rfl, _, hy⟩
          · exact .inl ⟨rfl, rfl⟩
          · exact .inr ⟨k', by simp [hy], hb1⟩
      refine ⟨E, .slice (some (if mm = l then ⟨cb, co + oo, none⟩ else (⟨cb, co + oo, none⟩ : Addr).add (l * z))) (hh - l) (mm - l), w, _, ?_, .inl rfl, Env.le_refl E, ?_, hW⟩
      · simp [execOp, ho, Instr.sliceAt, run_underlying (und_ok hT hu), hv, Instr.sureAddr, hrun, run_sizeOf' hT hz w]
      · simp only [R]
        refine ⟨cb, co, _, mm - l, hmm', rfl, by show hh - l ≤ mm - l; omega, Nat.le_refl _, fun _ => rfl, ?_, .inr ?_⟩
        · by_cases e' : mm = l
          · left; omega
          · right; rw [if_neg e', addr_add]; show _ = Addr.mk cb (co + (oo + l * z)) none; rw [Nat.add_assoc]
        · show co + (oo + l * z) + (mm - l) * z ≤ _
          have e2 : l * z + (mm - l) * z = mm * z := by rw [← Nat.add_mul]; congr 1; omega
          have e3 : mm * z ≤ n * z := Nat.mul_le_mul_right _ hb3
          omega
  · cases hc
end
end Go.Gh
