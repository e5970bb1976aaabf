/- The run is sound: a region that draws its order, some of whose blocks are made in any order. -/
import Derived.Test.YtpdaickealgnhaaGreatDoorHL
namespace Go.Gh
set_option linter.unusedVariables false

theorem readM_mono {m : Mf} (hm : readM (.m m) = true) {t : T GV} {h h' : T GO} {nx nx' : Nat} {s : MS} (hh : ∀ g o, h.get g = some o → h'.get g = some o) (hx : mf t h nx m = some s) : mf t h' nx' m = some ⟨s.v, h', nx'⟩ := by
  have he : effOf (.m m) = false := by simpa [readM] using hm
  cases m <;> first | (cases he; done) | skip
  case ld1 x =>
    obtain ⟨b, o, e1, hx⟩ := onPtr_some (show mLd1 h nx (ev t x) = some s from hx)
    obtain ⟨_, _, _, _, _, e2, hx⟩ := onCells_some hx
    obtain ⟨e3, hx⟩ := okIf_some hx
    cases hx
    show mLd1 h' nx' (ev t x) = _
    unfold mLd1
    simp only [e1, onPtr, hh _ _ e2, onCells, e3, okIf]
  case ldn n x =>
    obtain ⟨b, o, e1, hx⟩ := onPtr_some (show mLdn h nx n (ev t x) = some s from hx)
    obtain ⟨_, _, _, _, _, e2, hx⟩ := onCells_some hx
    obtain ⟨e3, hx⟩ := okIf_some hx
    cases hx
    show mLdn h' nx' n (ev t x) = _
    unfold mLdn
    simp only [e1, onPtr, hh _ _ e2, onCells, e3, okIf]
  case slarr n z x lo hi mx =>
    obtain ⟨b, o, e1, hx⟩ := onPtr_some (show mSlarr t h nx n z (ev t x) lo hi mx = some s from hx)
    obtain ⟨_, _, _, _, _, e2, hx⟩ := onCells_some hx
    obtain ⟨e3, hx⟩ := okIf_some hx
    obtain ⟨_, e4, hx⟩ := orec_some hx
    obtain ⟨_, e5, hx⟩ := orec_some hx
    obtain ⟨_, e6, hx⟩ := orec_some hx
    obtain ⟨e7, hx⟩ := okIf_some hx
    cases hx
    show mSlarr t h' nx' n z (ev t x) lo hi mx = _
    unfold mSlarr
    simp only [e1, onPtr, hh _ _ e2, onCells, e3, okIf, e4, e5, e6, e7]
  case mlen x =>
    rcases onMap_some (show mMlen h nx (ev t x) = some s from hx) with ⟨e1, hx⟩ | ⟨r, e1, hx⟩
    · cases hx
      show mMlen h' nx' (ev t x) = _
      unfold mMlen
      simp only [e1, onMap]
    · obtain ⟨_, _, e2, hx⟩ := onMapO_some hx
      cases hx
      show mMlen h' nx' (ev t x) = _
      unfold mMlen
      simp only [e1, onMap, hh _ _ e2, onMapO]
  case look k ok z m key =>
    obtain ⟨e0, hx⟩ := okIf_some (show mLook h nx k ok z (ev t m) (ev t key) = some s from hx)
    show mLook h' nx' k ok z (ev t m) (ev t key) = _
    unfold mLook
    rcases onMap_some hx with ⟨e1, hx⟩ | ⟨r, e1, hx⟩
    · cases hx
      simp only [e0, okIf, e1, onMap]
    · obtain ⟨_, _, e2, hx⟩ := onMapO_some hx
      obtain ⟨f, e3, hx⟩ := orec_some hx
      cases f <;> (cases hx; simp only [e0, okIf, e1, onMap, hh _ _ e2, onMapO, e3])

/-- an operation that makes a block looks at no other -/
theorem alM_any {m : Mf} (hm : isAlM (.m m) = true) {t : T GV} {h : T GO} {k : Nat} {s : MS} (hx : mf t h k m = some s) : ∃ obj, s.h = h.set k obj ∧ s.nx = Nat.succ k ∧ ∀ h', mf t h' k m = some ⟨s.v, h'.set k obj, Nat.succ k⟩ := by
  cases m <;> first | (cases hm; done) | skip
  case alloc zs => cases hx; exact ⟨_, rfl, rfl, fun _ => rfl⟩
  case allocr n d => cases hx; exact ⟨_, rfl, rfl, fun _ => rfl⟩
  case mksl sz bytes zs l c =>
    obtain ⟨n, e1, hx⟩ := orec_some (show mMksl h k sz bytes zs (ev t l) (ev t c) = some s from hx)
    obtain ⟨c', e2, hx⟩ := orec_some hx
    obtain ⟨e3, hx⟩ := okIf_some hx
    cases e4 : Nat.beq sz 1 with
    | true =>
      rw [e4] at hx; cases hx
      refine ⟨_, rfl, rfl, fun h' => ?_⟩
      show mMksl h' k sz bytes zs (ev t l) (ev t c) = _
      unfold mMksl
      simp only [e1, e2, e3, okIf, e4]
      rfl
    | false =>
      rw [e4] at hx; cases hx
      refine ⟨_, rfl, rfl, fun h' => ?_⟩
      show mMksl h' k sz bytes zs (ev t l) (ev t c) = _
      unfold mMksl
      simp only [e1, e2, e3, okIf, e4]
      rfl
theorem vsAt_mem {vs : List (Nat × Nat × GV)} {j : Nat} {v : GV} : vsAt vs j = some v → ∃ b, (j, b, v) ∈ vs := by
  induction vs with
  | nil => intro h; cases h
  | cons x vs ih =>
    intro h
    change (Bool.rec (vsAt vs j) (some x.2.2) (Nat.beq x.1 j) : Option GV) = some v at h
    cases hb : Nat.beq x.1 j with
    | true => rw [hb] at h; cases h; exact ⟨x.2.1, by rw [← beq_t hb]; simp⟩
    | false => rw [hb] at h; obtain ⟨b, hb⟩ := ih h; exact ⟨b, List.mem_cons_of_mem _ hb⟩
theorem vsAt_none {vs : List (Nat × Nat × GV)} {j : Nat} : vsAt vs j = none → ∀ b v, (j, b, v) ∉ vs := by
  induction vs with
  | nil => intro _ b v h; cases h
  | cons x vs ih =>
    intro h b v hm
    change (Bool.rec (vsAt vs j) (some x.2.2) (Nat.beq x.1 j) : Option GV) = none at h
    cases hb : Nat.beq x.1 j with
    | true => rw [hb] at h; cases h
    | false =>
      rw [hb] at h
      rcases List.mem_cons.1 hm with rfl | hm
      · simp at hb
      · exact ih h b v hm
theorem cstAt_get {vs : List (Nat × Nat × GV)} : ∀ {l : List GD} {k j : Nat}, (cstAt vs l k)[j]? = (l[j]?).map fun g => cst1 vs g (k + j)
  | [], k, j => by simp [cstAt]
  | g :: l, k, j => by
    show (cst1 vs g k :: cstAt vs l (Nat.succ k))[j]? = _
    cases j with
    | zero => rfl
    | succ j =>
      rw [List.getElem?_cons_succ, List.getElem?_cons_succ, cstAt_get, show Nat.succ k + j = k + (j + 1) by omega]
theorem cstAt_length {vs : List (Nat × Nat × GV)} : ∀ {l : List GD} {k : Nat}, (cstAt vs l k).length = l.length
  | [], k => rfl
  | g :: l, k => by show (cstAt vs l (Nat.succ k)).length + 1 = _; rw [cstAt_length]; rfl
theorem cst1_cases {vs : List (Nat × Nat × GV)} {g : GD} {j : Nat} : (cst1 vs g j).an = g.an ∧ (cst1 vs g j).eff = g.eff ∧ (cst1 vs g j).sl = g.sl ∧ (cst1 vs g j).cs = g.cs ∧ (cst1 vs g j).o.dst = g.o.dst ∧ (cst1 vs g j).o.guard = g.o.guard ∧
    ((∃ b v, (j, b, v) ∈ vs ∧ vsAt vs j = some v ∧ (cst1 vs g j).o.op = .p (.cst v)) ∨ (vsAt vs j = none ∧ cst1 vs g j = g)) := by
  obtain ⟨⟨dst, op, gd⟩, sl, an, eff, cs⟩ := g
  cases hv : vsAt vs j with
  | none =>
    have e : cst1 vs ⟨⟨dst, op, gd⟩, sl, an, eff, cs⟩ j = ⟨⟨dst, op, gd⟩, sl, an, eff, cs⟩ := by unfold cst1; rw [hv]
    rw [e]
    exact ⟨rfl, rfl, rfl, rfl, rfl, rfl, .inr ⟨rfl, rfl⟩⟩
  | some v =>
    have e : cst1 vs ⟨⟨dst, op, gd⟩, sl, an, eff, cs⟩ j = ⟨⟨dst, .p (.cst v), gd⟩, sl, an, eff, cs⟩ := by unfold cst1; rw [hv]
    rw [e]
    obtain ⟨b, hb⟩ := vsAt_mem hv
    exact ⟨rfl, rfl, rfl, rfl, rfl, rfl, .inl ⟨b, v, hb, rfl, rfl⟩⟩
theorem memL_iff {j : Nat} : ∀ {l : List Nat}, memL j l = true ↔ j ∈ l
  | [] => by constructor <;> intro h <;> cases h
  | x :: l => by
    show (Bool.rec (memL j l) true (Nat.beq x j) : Bool) = true ↔ _
    cases hb : Nat.beq x j with
    | true => have := beq_t hb; subst this; simp
    | false => have := beq_f hb; simp [memL_iff (l := l), Ne.symm this]
theorem delB_get {vs : List (Nat × Nat × GV)} {an : List Nat} {h : T GO} {g : Nat} {o : GO} (hg : (delB vs an h).get g = some o) : h.get g = some o ∧ ∀ j b v, (j, b, v) ∈ vs → j ∉ an → g ≠ b := by
  induction vs with
  | nil => exact ⟨hg, fun j b v hm => by cases hm⟩
  | cons x vs ih =>
    change (Bool.rec (T.del (delB vs an h) x.2.1) (delB vs an h) (memL x.1 an) : T GO).get g = some o at hg
    cases hm : memL x.1 an with
    | true =>
      rw [hm] at hg
      obtain ⟨h1, h2⟩ := ih hg
      refine ⟨h1, fun j b v hj hn => ?_⟩
      rcases List.mem_cons.1 hj with rfl | hj
      · exact absurd (memL_iff.1 hm) hn
      · exact h2 j b v hj hn
    | false =>
      rw [hm, T.get_del] at hg
      by_cases e : g = x.2.1
      · rw [if_pos e] at hg; cases hg
      · rw [if_neg e] at hg
        obtain ⟨h1, h2⟩ := ih hg
        refine ⟨h1, fun j b v hj hn => ?_⟩
        rcases List.mem_cons.1 hj with rfl | hj
        · exact e
        · exact h2 j b v hj hn
theorem dchkA_all {vs : List (Nat × Nat × GV)} {hs : List (T GO × Nat)} : ∀ {rc : List (GD × T GV × GV)}, dchkA vs hs rc = true → ∀ {j : Nat} {x : GD × T GV × GV}, rc[j]? = some x → dchkA1 vs x.1.an x.1.o x.2.1 x.2.2 hs x.1.cs = true
  | [], _, j, x, hj => by simp at hj
  | y :: rc, hd, j, x, hj => by
    obtain ⟨h1, h2⟩ := band_t (show band (dchkA1 vs y.1.an y.1.o y.2.1 y.2.2 hs y.1.cs) (dchkA vs hs rc) = true from hd)
    cases j with
    | zero => cases hj; exact h1
    | succ j => exact dchkA_all h2 (j := j) (by simpa using hj)
theorem dchkA1_all {vs : List (Nat × Nat × GV)} {an : List Nat} {hs : List (T GO × Nat)} {o : GOper} {t : T GV} {v : GV} : ∀ {cs : List Nat}, dchkA1 vs an o t v hs cs = true → ∀ c ∈ cs, ∃ x, hs[c]? = some x ∧ xread t (delB vs an x.1) x.2 o = some v
  | [], _, c, hc => by simp at hc
  | y :: cs, hd, c, hc => by
    obtain ⟨h1, h2⟩ := band_t (show band (Option.rec false (fun x => Option.rec false (fun v' => gsame v' v) (xread t (delB vs an x.1) x.2 o)) (hs[y]?)) (dchkA1 vs an o t v hs cs) = true from hd)
    rcases List.mem_cons.1 hc with rfl | hc
    · cases hx : hs[c]? with
      | none => rw [hx] at h1; cases h1
      | some x =>
        rw [hx] at h1
        change (Option.rec false (fun v' => gsame v' v) (xread t (delB vs an x.1) x.2 o) : Bool) = true at h1
        cases hr : xread t (delB vs an x.1) x.2 o with
        | none => rw [hr] at h1; cases h1
        | some v' => rw [hr] at h1; exact ⟨x, rfl, by rw [hr, gsame_eq h1]⟩
    · exact dchkA1_all h2 c hc

/-- the blocks that are made ahead -/
theorem xals_ok {l : List GD} : ∀ {al : List Nat} {h : T GO} {nx : Nat} {h' : T GO} {nx' : Nat} {vs : List (Nat × Nat × GV)}, xals l al h nx = some ⟨h', nx', vs⟩ → (∀ j ∈ al, ∀ g, l[j]? = some g → isAlM g.o.op = true) →
    nx ≤ nx' ∧ (∀ g, g < nx → h'.get g = h.get g) ∧ (∀ g, nx' ≤ g → h'.get g = h.get g) ∧ (∀ g, nx ≤ g → g < nx' → ∃ j v, (j, g, v) ∈ vs) ∧
    (∀ j b v, (j, b, v) ∈ vs → j ∈ al ∧ nx ≤ b ∧ b < nx' ∧ ∃ g m obj, l[j]? = some g ∧ g.o.op = .m m ∧ h'.get b = some obj ∧ ∀ hh, mf .nil hh b m = some ⟨v, hh.set b obj, Nat.succ b⟩) ∧
    (∀ j b v j' v', (j, b, v) ∈ vs → (j', b, v') ∈ vs → j = j') ∧ (∀ j ∈ al, ∃ b v, (j, b, v) ∈ vs) ∧ (al.Nodup → ∀ j b v b' v', (j, b, v) ∈ vs → (j, b', v') ∈ vs → b = b')
  | [], h, nx, h', nx', vs, hx, _ => by
    cases hx
    exact ⟨Nat.le_refl _, fun _ _ => rfl, fun _ _ => rfl, fun g h1 h2 => by omega, (fun j b v hm => by cases hm), (fun j b v j' v' hm => by cases hm), (fun j hj => by cases hj), (fun _ j b v b' v' hm => by cases hm)⟩
  | j :: al, h, nx, h', nx', vs, hx, hal => by
    obtain ⟨g, hg, hx⟩ := orec_some (show Option.rec none (fun g => GOp.casesOn g.o.op (fun _ => none) (fun m => Option.rec none (fun s => MS.casesOn s fun v h' nx' => Option.rec none (fun r => AR.casesOn r fun h'' nx'' vs => some ⟨h'', nx'', (j, nx, v) :: vs⟩) (xals l al h' nx')) (mf .nil h nx m))
      (fun _ _ => none) (fun _ _ => none) (fun _ => none) (fun _ _ => none) none (fun _ => none) none) (l[j]?) = some (⟨h', nx', vs⟩ : AR) from hx)
    have hmm := hal j (by simp) g hg
    obtain ⟨⟨dst, op, gd⟩, sl, an, eff, cs⟩ := g
    change isAlM op = true at hmm
    cases op <;> first | (cases hmm; done) | skip
    rename_i m
    obtain ⟨s, hs, hx⟩ := orec_some (show Option.rec none (fun s => MS.casesOn s fun v h' nx' => Option.rec none (fun r => AR.casesOn r fun h'' nx'' vs => some ⟨h'', nx'', (j, nx, v) :: vs⟩) (xals l al h' nx')) (mf .nil h nx m) = some (⟨h', nx', vs⟩ : AR) from hx)
    obtain ⟨obj, e1, e2, e3⟩ := alM_any hmm hs
    obtain ⟨v, h1, nx1⟩ := s
    obtain ⟨r, hr, hx⟩ := orec_some (show Option.rec none (fun r => AR.casesOn r fun h'' nx'' vs => some ⟨h'', nx'', (j, nx, v) :: vs⟩) (xals l al h1 nx1) = some (⟨h', nx', vs⟩ : AR) from hx)
    obtain ⟨h2, nx2, vs2⟩ := r
    cases hx
    simp only at e1 e2 e3
    subst e1; subst e2
    obtain ⟨i1, i2, i3, i4, i5, i6, i7, i8⟩ := xals_ok hr (fun j hj => hal j (List.mem_cons_of_mem _ hj))
    refine ⟨by omega, fun g hgl => ?_, fun g hgl => ?_, fun g g1 g2 => ?_, fun j' b v' hm => ?_, fun j1 b v1 j2 v2 hm1 hm2 => ?_, fun j' hj' => ?_, fun hnd j1 b v1 b2 v2 hm1 hm2 => ?_⟩
    · rw [i2 g (by omega), T.get_set, if_neg (by omega)]
    · rw [i3 g hgl, T.get_set, if_neg (by omega)]
    · by_cases e : g = nx
      · subst e; exact ⟨j, v, by simp⟩
      · obtain ⟨j', v', hm⟩ := i4 g (by omega) g2
        exact ⟨j', v', List.mem_cons_of_mem _ hm⟩
    · rcases List.mem_cons.1 hm with e | hm
      · cases e
        refine ⟨by simp, Nat.le_refl _, by omega, _, m, obj, hg, rfl, ?_, e3⟩
        rw [i2 nx (by omega), T.get_set, if_pos rfl]
      · obtain ⟨k1, k2, k3, k4⟩ := i5 j' b v' hm
        exact ⟨List.mem_cons_of_mem _ k1, by omega, k3, k4⟩
    · rcases List.mem_cons.1 hm1 with e1 | hm1 <;> rcases List.mem_cons.1 hm2 with e2 | hm2
      · cases e1; cases e2; rfl
      · cases e1; have := (i5 _ _ _ hm2).2.1; omega
      · cases e2; have := (i5 _ _ _ hm1).2.1; omega
      · exact i6 j1 b v1 j2 v2 hm1 hm2
    · rcases List.mem_cons.1 hj' with rfl | hj'
      · exact ⟨nx, v, by simp⟩
      · obtain ⟨b, v', hm⟩ := i7 j' hj'
        exact ⟨b, v', List.mem_cons_of_mem _ hm⟩
    · obtain ⟨n1, n2⟩ := List.nodup_cons.1 hnd
      rcases List.mem_cons.1 hm1 with e1 | hm1 <;> rcases List.mem_cons.1 hm2 with e2 | hm2
      · cases e1; cases e2; rfl
      · cases e1; exact absurd (i5 _ _ _ hm2).1 n1
      · cases e2; exact absurd (i5 _ _ _ hm1).1 n1
      · exact i8 n2 j1 b v1 b2 v2 hm1 hm2
end Go.Gh

/- The run is sound: a region that draws its order, some of whose blocks are made in any order: joined. -/
namespace Go.Gh
set_option linter.unusedVariables false

section
variable {CR : Nat → Code → GC → Prop} {P : Program} {X : Cx} {N : Nat} {E : Env} {t : T GV} {a : Act} {w0 w : World} {h : T GO} {nx : Nat}
variable (hT : Tb P X.tb) (ht : TR E N t a.tmps) (hg : GL E X.ng) (hW : WR CR E w0 h nx w)
include hT ht hg hW in
theorem m_load0 {o : Oper} {ty : TypeId} {x : Operand} {m : Mf} {s : MS} (ho : o.op = .load ty x) (hc : cMf X P (.load ty x) = some m) (hm : mf t h nx m = some s) : (∃ v, (execOp a.eval o).run P w = .ok (.value v) w ∧ R E s.v v) ∧ s.h = h := by
  simp only [cMf] at hc
  split at hc
  · rename_i d n ox hu hn hx
    cases hc
    have hr := ev_ok ht hg hx
    have hagg := run_isAgg hT hu w
    cases hd : aggD d with
    | true =>
      rw [hd] at hm hagg
      obtain ⟨b, oo, e, hm⟩ := onPtr_some (show mLdn h nx n (ev t ox) = some s from hm)
      obtain ⟨tr, lo, k, dd, ro, hb, hm⟩ := onCells_some hm
      obtain ⟨hle, hm⟩ := okIf_some hm
      cases hm
      have hle : oo + n ≤ k := ble_t hle
      rw [e] at hr; simp only [R] at hr
      obtain ⟨cb, co, hmm, hv⟩ := hr
      obtain ⟨c, el, fz, q1, q2, q3, q4, q5, q6⟩ := row_ok hW hb hmm
      refine ⟨⟨.agg ((c.toList.drop (co + oo)).take n).toArray, ?_, by simp only [R]; exact ⟨_, rfl, by simpa using q6 oo n hle⟩⟩, rfl⟩
      simp [execOp, ho, Instr.loadAt, hv, Instr.sureAddr, loadVar, hagg, run_sizeOf' hT hn w, run_loadCells_of (P := P) q1 (o := co + oo) (n := n) (by omega)]
    | false =>
      rw [hd] at hm hagg
      obtain ⟨b, oo, e, hm⟩ := onPtr_some (show mLd1 h nx (ev t ox) = some s from hm)
      obtain ⟨tr, lo, k, dd, ro, hb, hm⟩ := onCells_some hm
      obtain ⟨hle, hm⟩ := okIf_some hm
      cases hm
      have hle : oo < k := ble_t hle
      rw [e] at hr; simp only [R] at hr
      obtain ⟨cb, co, hmm, hv⟩ := hr
      have hob := hW.obj b _ hb
      simp only [OR] at hob
      obtain ⟨cb', co', c, el, fz, q1, q2, q3, q3', q4, q5, q6⟩ := hob
      rw [hmm] at q1; cases q1
      obtain ⟨y, hy, hry⟩ := q6 oo hle
      refine ⟨⟨y, ?_, by rw [cellAt_eq]; exact hry⟩, rfl⟩
      simp [execOp, ho, Instr.loadAt, hv, Instr.sureAddr, loadVar, hagg, run_load, cell_of q2, hy]
  · cases hc
end
section
variable {P : Program} {X : Cx} {fs : T GFn} {w0 : World} {self : Option Nat → GC → GS → GR}

structure JA (X : Cx) (P : Program) (w0 : World) (E0 : Env) (N : Nat) (ds : List Dq) (l : List GD) (vs : List (Nat × Nat × GV)) (t : T GV) (Hf : Nat → T GO × Nat) (V : Nat → GV) (listed : Array Bool) (a : Act) (w : World) : Prop where
  size : listed.size = l.length
  cl : ∀ (i : Nat) (g : GD), l[i]? = some g → Li listed i → ∀ x ∈ g.an, Li listed x
  cut : ∃ (c : Nat) (E : Env) (hc : T GO), c ≤ l.length ∧ (c = 0 ∨ ∃ g, l[c - 1]? = some g ∧ g.eff = true) ∧ (∀ (i : Nat) (g : GD), l[i]? = some g → g.eff = true → (Li listed i ↔ i < c)) ∧ E0.le E ∧ WR (CRX X P) E w0 hc (Hf c).2 w ∧ Slots E N l t V (Li listed) a.tmps ∧
    (∀ g o, hc.get g = some o ↔ (Hf c).1.get g = some o ∧ ∀ j b v, (j, b, v) ∈ vs → ¬ Li listed j → g ≠ b) ∧ (∀ j b v, (j, b, v) ∈ vs → ¬ Li listed j → E.m b = none)
  ds : DR E0 ds a.defers

/-- the step of an operation that makes a block under its number -/
theorem al_step (hT : Tb P X.tb) {N n j : Nat} {F : Fence} (hF : Wd F) {ops : Array Oper} {o : Oper} (ho : ops[j]? = some o) {g : GOper} (hgo : g = cOper { X with nt := N } P ops o) (hgd : g.guard = none) {m : Mf} (hm : g.op = .m m) (hal : isAlM (.m m) = true)
    {hc : T GO} {nx b : Nat} {v : GV} {obj : GO} (hmf : mf .nil hc b m = some ⟨v, hc.set b obj, Nat.succ b⟩) {a : Act} {w : World} {E : Env} (hsz : N ≤ a.tmps.size) (hg : GL E X.ng) (hW : WR (CRX X P) E w0 hc nx w) (hb : E.m b = none) (hb2 : b < nx) {K : Act → World → Prop} {Q : Exit → Act → World → Prop}
    (hk : ∀ v' E' w', E.le E' → R E' v v' → WR (CRX X P) E' w0 (hc.set b obj) nx w' → (∀ g, g ≠ b → E'.m g = E.m g) → K (a.put o.dst v') w') : wpOpIn F n P ops Q j K a w := by
  have ht : TR E N .nil a.tmps := ⟨hsz, fun n v h => by rw [T.get_nil] at h; cases h⟩
  unfold wpOpIn
  simp only [ho]
  have hw : Region.wanted o (yielded ops a.tmps) = true := gwant_ok ht (by rw [← hgo, hgd]; rfl)
  rw [hw, if_pos rfl]
  refine ⟨fun f _ => hF.fn f, ?_⟩
  have hop : cOp { X with nt := N } P o.op = .m m := by
    rw [hgo] at hm
    unfold cOper at hm
    simp only at hm
    split at hm
    · split at hm
      · exact hm
      · cases hm
    · exact hm
  have hcm : cMf { X with nt := N } P o.op = some m := by
    unfold cOp at hop
    split at hop
    · split at hop <;> cases hop
    · unfold cOp1 at hop
      split at hop
      · cases hop
      · split at hop
        · rename_i m' hm'; cases hop; exact hm'
        · split at hop <;> first | (cases hop; done) | (split at hop <;> cases hop)
  have key : MOkK (CRX X P) P E w0 o a w ⟨v, hc.set b obj, Nat.succ b⟩ b nx ∧ ∀ c, o.op ≠ .defer c := by
    cases hoo : o.op <;> rw [hoo] at hcm
    case alloc ty => exact ⟨m_alloc_k hT hW hb (Nat.le_refl nx) hb2 hoo hcm hmf, fun c e => by cases e⟩
    case makeSlice ty l c => exact ⟨m_makeSlice_k hT ht hg hW hb (Nat.le_refl nx) hb2 hoo hcm hmf, fun c e => by cases e⟩
    all_goals
      exfalso
      revert hcm
      clear hop hw
      intro hcm
      cases m <;> first | (cases hal; done) | skip
      all_goals
        simp only [cMf] at hcm
        repeat' (first | contradiction | (cases hcm; done) | (unfold cAppend at hcm) | (obtain ⟨_, _, hcm⟩ := Option.map_eq_some_iff.1 hcm; cases hcm; done) | (split at hcm))
  obtain ⟨⟨E', v', w', nxt, h1, h2, h3, h4, h5, h6⟩, hnd⟩ := key
  rw [Oper.semAt_eq _ _ _ hnd, h1]
  rcases h2 with rfl | ⟨rfl, rfl⟩
  · exact hk v' E' w' h3 h4 h5 h6
  · exact hk undef E' w' h3 h4 h5 h6

/-- a step that leaves the memory: the same memory behind it -/
theorem keep_step (hT : Tb P X.tb) {N n j : Nat} {F : Fence} (hF : Wd F) {ops : Array Oper} {o : Oper} (ho : ops[j]? = some o) {g : GD} (hgo : g.o = cOper { X with nt := N } P ops o) (he : effOf g.o.op = false) (hld : readM g.o.op = true → isLd g.o.op = true) {t : T GV} {h : T GO} {nx : Nat} {s : MS} (hx : dstep self fs g t h nx = some s)
    {a : Act} {w : World} {E : Env} (ht : TR E N t a.tmps) (hg : GL E X.ng) (hW : WR (CRX X P) E w0 h nx w) {K : Act → World → Prop} {Q : Exit → Act → World → Prop}
    (hk : ∀ v, R E s.v v → K (a.put o.dst v) w) : wpOpIn F n P ops Q j K a w := by
  rw [dstep_eq, hgo] at hx
  obtain ⟨b, hb, hx⟩ := orec_some hx
  unfold wpOpIn
  simp only [ho]
  rw [gwant_ok ht hb]
  cases b with
  | false =>
    cases hx
    rw [if_neg (by decide)]
    exact ⟨fun f _ => hF.fn f, hk undef undef_ok⟩
  | true =>
    rw [if_pos rfl]
    refine ⟨fun f _ => hF.fn f, ?_⟩
    have hx : xop self fs t h nx (cOper { X with nt := N } P ops o).op = some s := hx
    rw [hgo] at he hld
    have hcop : (cOper { X with nt := N } P ops o).op = cOp { X with nt := N } P o.op := by
      unfold cOper at hx ⊢
      simp only at hx ⊢
      split at hx
      · split at hx
        · rename_i h1 h2; rw [if_pos h2]
        · cases hx
      · rfl
    rw [hcop] at he hld hx
    rcases effOf_f he with ⟨p, hp⟩ | ⟨m, hm, hr⟩
    · rw [hp] at hx
      obtain ⟨v, hv, hx⟩ := orec_some (show Option.rec none (fun v => some ⟨v, h, nx⟩) (pf t p) = some s from hx)
      cases hx
      have hpf : cPf P X.tb X.ng o.op = some p ∧ ∀ c, o.op ≠ .defer c := by
        unfold cOp at hp
        split at hp
        · split at hp <;> cases hp
        · unfold cOp1 at hp
          split at hp
          · rename_i p' hp'; cases hp; exact ⟨hp', fun c e => by rw [e] at hp'; rw [cPf_defer] at hp'; cases hp'⟩
          · split at hp
            · cases hp
            · split at hp <;> first | (cases hp; done) | (split at hp <;> cases hp)
      obtain ⟨x, h1, h2⟩ := pf_ok hT ht hg hpf.1 hv w
      rw [Oper.semAt_eq _ _ _ hpf.2, h1]
      exact hk x h2
    · rw [hm] at hx
      have hx : mf t h nx m = some s := hx
      rw [hm] at hld hr
      have hl := hld hr
      have hcm : cMf { X with nt := N } P o.op = some m := by
        unfold cOp at hm
        split at hm
        · split at hm <;> first | (cases hm; done) | skip
        · unfold cOp1 at hm
          split at hm
          · cases hm
          · split at hm
            · rename_i m' hm'; cases hm; exact hm'
            · split at hm <;> first | (cases hm; done) | (split at hm <;> cases hm)
      have key : (∃ v, (execOp a.eval o).run P w = .ok (.value v) w ∧ R E s.v v) ∧ ∀ c, o.op ≠ .defer c := by
        cases hoo : o.op <;> rw [hoo] at hcm
        case load ty x => exact ⟨(m_load0 (X := { X with nt := N }) hT ht hg hW hoo hcm hx).1, fun c e => by cases e⟩
        all_goals
          exfalso
          revert hcm
          clear hx hld hr he hm hcop
          intro hcm
          cases m <;> first | (cases hl; done) | skip
          all_goals
            simp only [cMf] at hcm
            repeat' (first | contradiction | (cases hcm; done) | (unfold cAppend at hcm) | (obtain ⟨_, _, hcm⟩ := Option.map_eq_some_iff.1 hcm; cases hcm; done) | (obtain ⟨_, _, hcm⟩ := Option.map_eq_some_iff.1 hcm; unfold cAlloc at hcm) | (split at hcm))
      obtain ⟨⟨v, h1, h2⟩, hnd⟩ := key
      rw [Oper.semAt_eq _ _ _ hnd, h1]
      exact hk v h2
end
end Go.Gh

/- The run is sound: a region that draws its order, some of whose blocks are made in any order: every order. -/
namespace Go.Gh
set_option linter.unusedVariables false

section
variable {P : Program} {X : Cx} {fs : T GFn} {w0 : World} {self : Option Nat → GC → GS → GR}

theorem read_at {g : GD} {m : Mf} (hm : g.o.op = .m m) (hr : readM g.o.op = true) {t : T GV} {h h' : T GO} {nx nx' : Nat} {v : GV} (hh : ∀ g o, h.get g = some o → h'.get g = some o) (hx : xread t h nx g.o = some v) : dstep self fs g t h' nx' = some ⟨v, h', nx'⟩ := by
  rw [xread_eq] at hx
  rw [dstep_eq]
  obtain ⟨b, hb, hx⟩ := orec_some hx
  rw [hb]
  cases b with
  | false => cases hx; rfl
  | true =>
    rw [hm] at hx hr ⊢
    obtain ⟨s, hs, hx⟩ := orec_some (show Option.rec none (fun s => some s.v) (mf t h nx m) = some v from hx)
    cases hx
    exact readM_mono hr hh hs
theorem alsOf_mem {gs : List GD} {j : Nat} : j ∈ alsOf gs ↔ ∃ g, gs[j]? = some g ∧ isAlG g = true := by
  unfold alsOf
  simp only [List.mem_map, List.mem_filter]
  constructor
  · rintro ⟨⟨g, k⟩, ⟨h1, h2⟩, rfl⟩
    exact ⟨g, List.mem_zipIdx_iff_getElem?.1 h1, h2⟩
  · rintro ⟨g, h1, h2⟩
    exact ⟨(g, j), ⟨List.mem_zipIdx_iff_getElem?.2 h1, h2⟩, rfl⟩
theorem alsOf_nodup (gs : List GD) : (alsOf gs).Nodup := by
  unfold alsOf
  refine List.Nodup.sublist (List.filter_sublist.map _) ?_
  rw [List.zipIdx_map_snd]
  exact List.nodup_range'
theorem cDrawA_at {ops : Array Oper} {j : Nat} {g : GD} (hj : (cDrawA X P ops)[j]? = some g) : ∃ o, ops[j]? = some o ∧ g.o = cOper X P ops o ∧
    ((j ∈ alsOf (cDraw X P ops) ∧ g.o.guard = none ∧ g.sl = [] ∧ isAlM g.o.op = true ∧ g.eff = false) ∨ (j ∉ alsOf (cDraw X P ops) ∧ g.eff = effOf g.o.op)) := by
  unfold cDrawA at hj
  simp only [List.getElem?_map, List.getElem?_zipIdx, Option.map_map, Option.map_eq_some_iff] at hj
  obtain ⟨g0, h0, rfl⟩ := hj
  obtain ⟨o, h1, h2, h3⟩ := cDraw_at h0
  refine ⟨o, h1, h2, ?_⟩
  by_cases hm : j ∈ alsOf (cDraw X P ops)
  · obtain ⟨g', e1, e2⟩ := alsOf_mem.1 hm
    rw [h0] at e1; cases e1
    unfold isAlG at e2
    simp only [Bool.and_eq_true, Option.isNone_iff_eq_none, List.isEmpty_iff] at e2
    refine .inl ⟨hm, e2.1.1, e2.1.2, e2.2, ?_⟩
    simp [hm]
  · refine .inr ⟨hm, ?_⟩
    simp [hm, h3]
theorem cDrawA_length {ops : Array Oper} : (cDrawA X P ops).length = ops.size := by simp [cDrawA, cDraw_length]

theorem xdregA_ok (H : FOk P X w0 fs) (hs : SelfOk P X w0 self) {N n id : Nat} {F : Fence} (hF : Wd F) {ops : Array Oper} {ds : List Dq} {t : T GV} {h : T GO} {nx : Nat} {r : GR} {a : Act} {w : World} {E : Env}
    (hd : drawOk (ops.toList.map depsOf) (cDrawA { X with nt := N } P ops) = true) (hal : alOk (cDrawA { X with nt := N } P ops) (alsOf (cDraw { X with nt := N } P ops)) = true)
    (hx : xdregA self fs ds (alsOf (cDraw { X with nt := N } P ops)) (cDrawA { X with nt := N } P ops) t h nx = r) (hne : Good r) (ht : TR E N t a.tmps) (hds : DR E ds a.defers) (hg : GL E X.ng) (hW : WR (CRX X P) E w0 h nx w) :
    (Code.region id ops true).wpIn F n P (Post X P N w0 E r) a w := by
  have hfacts0 : ∀ (j : Nat) (g : GD), (cDrawA { X with nt := N } P ops)[j]? = some g → ∃ o, ops[j]? = some o ∧ g.o = cOper { X with nt := N } P ops o ∧ ((j ∈ alsOf (cDraw { X with nt := N } P ops) ∧ g.o.guard = none ∧ g.sl = [] ∧ isAlM g.o.op = true ∧ g.eff = false) ∨ (j ∉ alsOf (cDraw { X with nt := N } P ops) ∧ g.eff = effOf g.o.op)) := fun j g hj => cDrawA_at hj
  have hlen0 : (cDrawA { X with nt := N } P ops).length = ops.size := cDrawA_length
  have hnd : (alsOf (cDraw { X with nt := N } P ops)).Nodup := alsOf_nodup _
  revert hfacts0 hlen0 hd hal hx hnd
  generalize cDrawA { X with nt := N } P ops = l0
  generalize alsOf (cDraw { X with nt := N } P ops) = al
  intro hd hal hx hfacts0 hlen0 hnd
  revert hnd; intro hnd
  unfold alOk at hal
  rw [Bool.and_eq_true, Bool.and_eq_true] at hal
  obtain ⟨⟨hal1, hal2⟩, hal3⟩ := hal
  unfold xdregA at hx
  cases hxa : xals l0 al h nx with
  | none => rw [hxa] at hx; subst hx; exact hne.elim
  | some ar =>
  rw [hxa] at hx
  obtain ⟨h1, nx1, vs⟩ := ar
  obtain ⟨va1, va2, va3, va4, va5, va6, va7, va8⟩ := xals_ok hxa (fun j hj g hg => by
    obtain ⟨o, _, _, hc⟩ := hfacts0 j g hg
    rcases hc with ⟨_, _, _, hc, _⟩ | ⟨hn, _⟩
    · exact hc
    · exact absurd hj hn)
  -- the list that is run
  have hl : ∀ (j : Nat) (g : GD), (cstAt vs l0 0)[j]? = some g → ∃ g0, l0[j]? = some g0 ∧ g = cst1 vs g0 j := fun j g hj => by
    rw [cstAt_get, Nat.zero_add] at hj
    obtain ⟨g0, h0, rfl⟩ := Option.map_eq_some_iff.1 hj
    exact ⟨g0, h0, rfl⟩
  have hl' : ∀ (j : Nat) (g0 : GD), l0[j]? = some g0 → (cstAt vs l0 0)[j]? = some (cst1 vs g0 j) := fun j g0 hj => by rw [cstAt_get, hj, Nat.zero_add]; rfl
  have hcase : ∀ (j : Nat) (g : GD), (cstAt vs l0 0)[j]? = some g → ∃ o, ops[j]? = some o ∧ g.eff = effOf g.o.op ∧ ((∃ b v m obj, (j, b, v) ∈ vs ∧ vsAt vs j = some v ∧ g.o.op = .p (.cst v) ∧ g.o.guard = none ∧ g.o.dst = (cOper { X with nt := N } P ops o).dst ∧ g.sl = [] ∧ (cOper { X with nt := N } P ops o).op = .m m ∧ (cOper { X with nt := N } P ops o).guard = none ∧ isAlM (.m m) = true ∧ h1.get b = some obj ∧
        nx ≤ b ∧ b < nx1 ∧ ∀ hh, mf .nil hh b m = some ⟨v, hh.set b obj, Nat.succ b⟩) ∨ ((∀ b v, (j, b, v) ∉ vs) ∧ g.o = cOper { X with nt := N } P ops o)) := by
    intro j g hj
    obtain ⟨g0, h0, rfl⟩ := hl j g hj
    obtain ⟨o, ho, hgo, hc⟩ := hfacts0 j g0 h0
    obtain ⟨c1, c2, c3, c4, c5, c6, c7⟩ := cst1_cases (vs := vs) (g := g0) (j := j)
    refine ⟨o, ho, ?_⟩
    rcases c7 with ⟨b, v, hm, hv, hop⟩ | ⟨hv, he⟩
    · obtain ⟨k1, k2, k3, g', m, obj, k4, k5, k6, k7⟩ := va5 j b v hm
      rw [h0] at k4; cases k4
      rcases hc with ⟨_, a1, a2, a3, a4⟩ | ⟨hn, _⟩
      · refine ⟨by rw [c2, hop, a4]; rfl, .inl ⟨b, v, m, obj, hm, hv, hop, by rw [c6, a1], by rw [c5, hgo], by rw [c3, a2], by rw [← hgo, k5], by rw [← hgo, a1], by rw [← k5]; exact a3, k6, k2, k3, k7⟩⟩
      · exact absurd k1 hn
    · rw [he]
      rcases hc with ⟨hm, _⟩ | ⟨hn, a1⟩
      · obtain ⟨b, v, hm'⟩ := va7 j hm
        exact absurd hm' (vsAt_none hv b v)
      · exact ⟨a1, .inr ⟨vsAt_none hv, hgo⟩⟩
  have hlen : (cstAt vs l0 0).length = ops.size := by rw [cstAt_length, hlen0]
  have heffs : (cstAt vs l0 0).map (·.eff) = l0.map (·.eff) := List.ext_getElem? fun i => by
    rw [List.getElem?_map, List.getElem?_map, cstAt_get, Option.map_map]
    congr 1
    funext g
    exact cst1_cases.2.1
  have hans : (cstAt vs l0 0).map (·.an) = l0.map (·.an) := List.ext_getElem? fun i => by
    rw [List.getElem?_map, List.getElem?_map, cstAt_get, Option.map_map]
    congr 1
    funext g
    exact cst1_cases.1
  have hdw : ∀ (j : Nat) (y : GD), (cstAt vs l0 0)[j]? = some y → (∀ d ∈ ((ops.toList.map depsOf)[j]?).getD [], d < j) ∧ (∀ x ∈ y.an, x ∈ ((ops.toList.map depsOf)[j]?).getD [] ∨ ∃ d ∈ ((ops.toList.map depsOf)[j]?).getD [], ∃ gd, (cstAt vs l0 0)[d]? = some gd ∧ x ∈ gd.an) ∧
      (∀ i x, i < j → (cstAt vs l0 0)[i]? = some x → i ∈ y.an ∨ (clash x y = false ∧ ¬ (x.eff = true ∧ y.eff = true))) := by
    intro j y hj
    obtain ⟨y0, h0, rfl⟩ := hl j y hj
    obtain ⟨d1, d2, d3, _⟩ := drawOk_at hd h0
    obtain ⟨c1, c2, c3, c4, c5, c6, _⟩ := cst1_cases (vs := vs) (g := y0) (j := j)
    refine ⟨d1, fun x hx' => ?_, fun i x hi hx' => ?_⟩
    · rw [c1] at hx'
      rcases d2 x hx' with h | ⟨d, hdd, gd, hgd, hxd⟩
      · exact .inl h
      · exact .inr ⟨d, hdd, _, hl' d gd hgd, by rw [cst1_cases.1]; exact hxd⟩
    · obtain ⟨x0, hx0, rfl⟩ := hl i x hx'
      obtain ⟨e1, e2, e3, e4, e5, e6, _⟩ := cst1_cases (vs := vs) (g := x0) (j := i)
      rcases d3 i x0 hi hx0 with h | ⟨h, h'⟩
      · exact .inl (by rw [c1]; exact h)
      · refine .inr ⟨?_, by rw [c2, e2]; exact h'⟩
        unfold clash at h ⊢
        rw [c3, c5, e3, e5]; exact h
  have halall : ∀ (j : Nat) (y : GD), (cstAt vs l0 0)[j]? = some y → y.eff = true → ∀ i b v, (i, b, v) ∈ vs → i ∈ y.an := by
    intro j y hj hy i b v hm
    obtain ⟨y0, h0, rfl⟩ := hl j y hj
    have := List.all_eq_true.1 hal1 y0 (List.mem_of_getElem? h0)
    rw [cst1_cases.2.1] at hy
    rw [hy] at this
    rw [cst1_cases.1]
    have h3 : ∀ x ∈ al, x ∈ y0.an := by simpa using this
    exact h3 i (va5 i b v hm).1
  have hrd : ∀ (j : Nat) (y : GD), (cstAt vs l0 0)[j]? = some y → readM y.o.op = true → isLd y.o.op = true ∧ ∀ c, c ≤ (cstAt vs l0 0).length → mayCut ((cstAt vs l0 0).map (·.eff)) ((cstAt vs l0 0).map (·.an)) j c = true → c ∈ y.cs := by
    intro j y hj hr
    obtain ⟨y0, h0, rfl⟩ := hl j y hj
    obtain ⟨c1, c2, c3, c4, c5, c6, c7⟩ := cst1_cases (vs := vs) (g := y0) (j := j)
    rcases c7 with ⟨b, v, hm, hv, hop⟩ | ⟨hv, he⟩
    · rw [hop] at hr; cases hr
    · rw [he] at hr ⊢
      refine ⟨?_, fun c hc hmc => ?_⟩
      · have := List.all_eq_true.1 hal2 y0 (List.mem_of_getElem? h0)
        rw [hr] at this; simpa using this
      · have := List.all_eq_true.1 hal3 (y0, j) (List.mem_zipIdx_iff_getElem?.2 h0)
        simp only at this
        rw [hr] at this
        have h3 : ∀ x, x < l0.length + 1 → x ∈ y0.cs ∨ mayCut (l0.map (·.eff)) (l0.map (·.an)) j x = false := by simpa using this
        rw [heffs, hans] at hmc
        rcases h3 c (by rw [cstAt_length] at hc; omega) with h | h
        · exact h
        · rw [h] at hmc; cases hmc
  change (Option.rec .fail (fun r => DRes.casesOn r fun tf hf nf hs rc => Bool.rec .fail (.norm ⟨tf, ds, hf, nf⟩) (dchkA vs hs rc)) (xd self fs (cstAt vs l0 0) t h1 nx1) : GR) = r at hx
  revert hl hl' hcase hlen heffs hans hdw halall hrd hx
  generalize cstAt vs l0 0 = l
  intro hl hl' hcase hlen heffs hans hdw halall hrd hx
  cases hxd : xd self fs l t h1 nx1 with
  | none => rw [hxd] at hx; subst hx; exact hne.elim
  | some rr =>
    rw [hxd] at hx
    obtain ⟨Tm, Hf, V, tr⟩ := xd_trace l hxd
    obtain ⟨tf, hf, nf, hh, rc⟩ := rr
    change (Bool.rec .fail (.norm ⟨tf, ds, hf, nf⟩) (dchkA vs hh rc) : GR) = r at hx
    cases hck : dchkA vs hh rc with
    | false => rw [hck] at hx; subst hx; exact hne.elim
    | true =>
      rw [hck] at hx
      have hte : tf = Tm l.length := tr.te
      have hhe : (hf, nf) = Hf l.length := tr.he
      have he1 : hf = (Hf l.length).1 := by rw [← hhe]
      have he2 : nf = (Hf l.length).2 := by rw [← hhe]
      have heff : ∀ (j : Nat) (g : GD), l[j]? = some g → g.eff = effOf g.o.op := fun j g hj => by obtain ⟨_, _, h, _⟩ := hcase j g hj; exact h
      have hdeps : ∀ (j : Nat) (o : Oper), ops[j]? = some o → ((ops.toList.map depsOf)[j]?).getD [] = depsOf o := fun j o ho => by
        rw [List.getElem?_map, Array.getElem?_toList, ho]; rfl
      have hdst : ∀ (j : Nat) (g : GD) (o : Oper), l[j]? = some g → ops[j]? = some o → g.o.dst = Gh.sl N o.dst := fun j g o hj ho => by
        obtain ⟨o', ho', _, hc⟩ := hcase j g hj
        rw [ho] at ho'; cases ho'
        rcases hc with ⟨_, _, _, _, _, _, _, _, e, _⟩ | ⟨_, e⟩
        · rw [e]; exact cOper_dst
        · rw [e]; exact cOper_dst
      -- every order
      have key : ∀ (fuel : Nat) (U : List Nat) (listed : Array Bool) (a : Act) (w : World), JA X P w0 E N ds l vs t Hf V listed a w → U.length ≤ fuel → (∀ i, i < l.length → ¬ Li listed i → i ∈ U) →
          wpAnyIn F n P .any ops (Post X P N w0 E r) fuel listed a w := by
        intro fuel
        -- the end
        have fin : ∀ (listed : Array Bool) (a : Act) (w : World), JA X P w0 E N ds l vs t Hf V listed a w → (∀ i, i < l.length → Li listed i) → Post X P N w0 E r .normal a w := by
          intro listed a w hj hall
          obtain ⟨c, E1, hc0, hc, _, hcut, hE, hW1, hS, hcg, _⟩ := hj.cut
          subst hx
          refine ⟨E1, hE, ⟨?_, hj.ds.mono hE, ?_⟩⟩
          · show TR E1 N tf a.tmps
            rw [hte]
            refine ⟨hS.1, fun d v hv => hS.get tr (Nat.le_refl _) (fun i g hi _ => ?_) hv⟩
            have hlt := (List.getElem?_eq_some_iff.1 hi).1
            exact ⟨fun _ => hlt, fun _ => hall i hlt⟩
          · show WR (CRX X P) E1 w0 hf nf w
            have hcon := tr.const heff c (l.length - c) (by omega) (fun i g h1 h2 h3 => by
              cases hee : g.eff with
              | false => rfl
              | true =>
                have := (hcut i g h3 hee).1 (hall i (by have := (List.getElem?_eq_some_iff.1 h3).1; exact this))
                omega)
            rw [show c + (l.length - c) = l.length by omega] at hcon
            rw [he1, he2, hcon]
            refine hW1.sub (fun g o hgo => (hcg g o).2 ⟨hgo, fun j b v hm hn => ?_⟩) (Nat.le_refl _)
            exfalso
            obtain ⟨_, _, _, g', _, _, k4, _⟩ := va5 j b v hm
            exact hn (hall j (by have := (List.getElem?_eq_some_iff.1 k4).1; rw [hlen, ← hlen0]; exact this))
        have allOf : ∀ (listed : Array Bool), listed.size = l.length → Region.ready .any ops listed = [] → ∀ i, i < l.length → Li listed i := by
          intro listed hsz hr i
          induction i using Nat.strongRecOn with
          | _ i ih =>
            intro hi
            cases hLi : listed.getD i false with
            | true => exact hLi
            | false =>
              exfalso
              have hgi : l[i]? = some l[i] := List.getElem?_eq_getElem hi
              obtain ⟨o, ho, _, _⟩ := hcase i _ hgi
              obtain ⟨d1, _⟩ := hdw i _ hgi
              rw [hdeps i o ho] at d1
              have : i ∈ Region.ready .any ops listed := by
                rw [ready_dep ho]
                refine ⟨?_, fun d hdd => ih d (d1 d hdd) (by have := d1 d hdd; omega)⟩
                have hlt : i < listed.size := by omega
                simp [hlt] at hLi ⊢
                exact hLi
              rw [hr] at this; cases this
        induction fuel with
        | zero =>
          intro U listed a w hj hU hUm
          have hall : ∀ i, i < l.length → Li listed i := fun i hi => by
            by_cases hL : Li listed i
            · exact hL
            · have := hUm i hi hL
              have hU0 : U = [] := List.eq_nil_of_length_eq_zero (by omega)
              rw [hU0] at this; cases this
          refine ⟨?_, fin listed a w hj hall⟩
          cases hr : Region.ready .any ops listed with
          | nil => rfl
          | cons j rest =>
            exfalso
            have hm : j ∈ Region.ready .any ops listed := by rw [hr]; simp
            obtain ⟨h1, o, ho, _⟩ := mem_ready.1 hm
            have hlt : j < l.length := by rw [hlen]; exact (Array.getElem?_eq_some_iff.1 ho).1
            have h2 := hall j hlt
            unfold Li at h2
            have hls : j < listed.size := by rw [hj.size]; exact hlt
            simp [hls] at h1 h2
            rw [h1] at h2; cases h2
        | succ fuel ih =>
          intro U listed a w hj hU hUm
          refine ⟨fun hr => fin listed a w hj (allOf listed hj.size hr), fun j hm => ?_⟩
          obtain ⟨h1', o, ho, _⟩ := mem_ready.1 hm
          obtain ⟨_, hdl⟩ := (ready_dep ho).1 hm
          have hlt : j < l.length := by rw [hlen]; exact (Array.getElem?_eq_some_iff.1 ho).1
          have hls : j < listed.size := by rw [hj.size]; exact hlt
          have hnL : ¬ Li listed j := by
            unfold Li
            simp [hls] at h1' ⊢
            exact h1'
          have hgj : l[j]? = some l[j] := List.getElem?_eq_getElem hlt
          generalize l[j] = g at hgj
          obtain ⟨o', ho', hge, hkind⟩ := hcase j g hgj
          rw [ho] at ho'; cases ho'
          obtain ⟨d1, d2, d3⟩ := hdw j g hgj
          rw [hdeps j o ho] at d1 d2
          -- what is ahead of it is done
          have hanc : ∀ x ∈ g.an, Li listed x := fun x hx => by
            rcases d2 x hx with h | ⟨d, hdd, gd, hgd, hxd'⟩
            · exact hdl x h
            · exact hj.cl d gd hgd (hdl d hdd) x hxd'
          obtain ⟨c, E1, hc0, hc, hcan, hcut, hE, hW1, hS, hcg, hEn⟩ := hj.cut
          -- what is behind it is not
          have hbehind : ∀ (i : Nat) (gi : GD), l[i]? = some gi → j ∈ gi.an → ¬ Li listed i := fun i gi hi hmem hL => hnL (hj.cl i gi hi hL j hmem)
          -- its slots
          have hslots : TR E1 N (rs (Tm j) g.sl) a.tmps := by
            refine ⟨hS.1, fun d v hv => ?_⟩
            rw [get_rs] at hv
            by_cases hdm : d ∈ g.sl
            · rw [if_pos hdm] at hv
              refine hS.get tr (Nat.le_of_lt hlt) (fun i gi hi hdi => ?_) hv
              constructor
              · intro hL
                rcases Nat.lt_trichotomy i j with h | h | h
                · exact h
                · subst h; exact absurd hL hnL
                · exfalso
                  obtain ⟨_, _, d3'⟩ := hdw i gi hi
                  rcases d3' j g h hgj with hm' | ⟨hcl, _⟩
                  · exact hbehind i gi hi hm' hL
                  · exact clash_r hcl hdi hdm
              · intro hlt'
                rcases d3 i gi hlt' hi with hm' | ⟨hcl, _⟩
                · exact hanc i hm'
                · exact absurd hdm (clash_l hcl hdi).1
            · rw [if_neg hdm] at hv; cases hv
          obtain ⟨st1, st2⟩ := tr.st j g hgj
          -- one more is done
          have more : ∀ (E2 : Env) (w2 : World) (v : Value) (c' : Nat) (hc' : T GO), c' ≤ l.length → (c' = 0 ∨ ∃ g, l[c' - 1]? = some g ∧ g.eff = true) → (∀ (i : Nat) (gi : GD), l[i]? = some gi → gi.eff = true → ((Li listed i ∨ i = j) ↔ i < c')) →
              E1.le E2 → R E2 (V j) v → WR (CRX X P) E2 w0 hc' (Hf c').2 w2 → (∀ g o, hc'.get g = some o ↔ (Hf c').1.get g = some o ∧ ∀ k b v, (k, b, v) ∈ vs → ¬ (Li listed k ∨ k = j) → g ≠ b) → (∀ k b v, (k, b, v) ∈ vs → ¬ (Li listed k ∨ k = j) → E2.m b = none) →
              wpAnyIn F n P .any ops (Post X P N w0 E r) fuel (listed.setIfInBounds j true) (a.put o.dst v) w2 := by
            intro E2 w2 v c' hc' hcl' hcan' hcut' hE2 hr2 hW2 hcg' hEn'
            refine ih (U.erase j) _ _ _ ⟨by simpa using hj.size, ?_, ⟨c', E2, hc', hcl', hcan', ?_, Env.le_trans hE hE2, hW2, ?_, fun g o => ?_, fun k b v hm hn => ?_⟩, ?_⟩ ?_ ?_
            · intro i gi hi hL x hx'
              rw [Li_set hls] at hL ⊢
              rcases hL with hL | rfl
              · exact .inl (hj.cl i gi hi hL x hx')
              · rw [hgj] at hi; cases hi; exact .inl (hanc x hx')
            · intro i gi hi hie
              rw [Li_set hls]; exact hcut' i gi hi hie
            · refine (hS.mono hE2).put hgj (hdst j g o hgj ho) (Li_set hls) (fun i gi hi hL d hd1 hd2 => ?_) hr2
              rcases Nat.lt_or_ge j i with h | h
              · exfalso
                obtain ⟨_, _, d3'⟩ := hdw i gi hi
                rcases d3' j g h hgj with hm' | ⟨hcl, _⟩
                · exact hbehind i gi hi hm' hL
                · exact (clash_l hcl hd1).2 hd2
              · exact h
            · rw [hcg' g o]
              exact ⟨fun ⟨e1, e2⟩ => ⟨e1, fun k b v hm hn => e2 k b v hm (fun hL => hn ((Li_set hls k).2 hL))⟩, fun ⟨e1, e2⟩ => ⟨e1, fun k b v hm hn => e2 k b v hm (fun hL => hn ((Li_set hls k).1 hL))⟩⟩
            · exact hEn' k b v hm (fun hL => hn ((Li_set hls k).2 hL))
            · rw [put_defers]; exact hj.ds
            · have hjU := hUm j hlt hnL
              rw [List.length_erase_of_mem hjU]
              omega
            · intro i hi hL
              rw [Li_set hls] at hL
              have h2 := hUm i hi (fun h => hL (.inl h))
              exact (List.mem_erase_of_ne (fun e => hL (.inr e))).2 h2
          have hcut0 : g.eff = false → ∀ (i : Nat) (gi : GD), l[i]? = some gi → gi.eff = true → ((Li listed i ∨ i = j) ↔ i < c) := fun hee i gi hi hie => by
            rw [← hcut i gi hi hie]
            refine ⟨fun h => h.resolve_right fun e => ?_, .inl⟩
            subst e; rw [hgj] at hi; cases hi; rw [hee] at hie; cases hie
          rcases hkind with ⟨b, v, m, obj, hvm, hva, hop, hgd, _, hsl, hrop, hrgd, hisal, hobj, hb1, hb2, hmf⟩ | ⟨hnv, hgo⟩
          · -- a block is made
            have hee : g.eff = false := by rw [hge, hop]; rfl
            have hV : V j = v := by
              rw [dstep_eq, hgd] at st1
              have st1 : (some ⟨v, (Hf j).1, (Hf j).2⟩ : Option MS) = some ⟨V j, (Hf (j + 1)).1, (Hf (j + 1)).2⟩ := by
                rw [← st1, hop]; rfl
              simp only [Option.some.injEq, MS.mk.injEq] at st1
              exact st1.1.symm
            -- nothing has been done in memory yet
            have hc00 : c = 0 := by
              rcases hcan with h0 | ⟨gc, hgc, hgce⟩
              · exact h0
              · exfalso
                have hcpos : 0 < c ∨ c = 0 := by omega
                rcases hcpos with hcpos | hcz
                · have hLc := (hcut (c - 1) gc hgc hgce).2 (by omega)
                  exact hnL (hj.cl _ gc hgc hLc j (halall _ gc hgc hgce j b v hvm))
                · subst hcz
                  have hLc := (hcut 0 gc (by simpa using hgc) hgce)
                  -- the first operation acts, and needs the block
                  obtain ⟨e1, _⟩ := hdw 0 gc (by simpa using hgc)
                  have hj0 := halall 0 gc (by simpa using hgc) hgce j b v hvm
                  obtain ⟨_, e2, _⟩ := hdw 0 gc (by simpa using hgc)
                  rcases e2 j hj0 with h | ⟨d, hd', _⟩
                  · have := e1 j h; omega
                  · have := e1 d hd'; omega
            subst hc00
            have hH0 : (Hf 0).1 = h1 ∧ (Hf 0).2 = nx1 := by rw [tr.h0]; exact ⟨rfl, rfl⟩
            refine al_step H.tb hF ho rfl hrgd hrop hisal (hmf hc0) hS.1 (hg.mono hE) hW1 (hEn j b v hvm hnL) (by rw [hH0.2]; exact hb2) fun v' E2 w2 hE2 hr2 hW2 hEm => ?_
            refine more E2 w2 v' 0 (hc0.set b obj) (Nat.zero_le _) (.inl rfl) (hcut0 hee) hE2 (by rw [hV]; exact hr2) hW2 (fun g' o' => ?_) (fun k b' v'' hm hn => ?_)
            · rw [T.get_set]
              by_cases e : g' = b
              · subst e
                rw [if_pos rfl, hH0.1, hobj]
                constructor
                · intro he
                  refine ⟨he, fun k b' v'' hm hn => ?_⟩
                  intro e; subst e
                  exact hn (.inr (va6 _ _ _ _ _ hm hvm))
                · exact fun he => he.1
              · rw [if_neg e, hcg g' o']
                constructor
                · rintro ⟨e1, e2⟩
                  exact ⟨e1, fun k b' v'' hm hn => e2 k b' v'' hm (fun hL => hn (.inl hL))⟩
                · rintro ⟨e1, e2⟩
                  refine ⟨e1, fun k b' v'' hm hn => ?_⟩
                  by_cases ek : k = j
                  · subst ek
                    intro e'; subst e'
                    exact e (va8 hnd _ _ _ _ _ hm hvm)
                  · exact e2 k b' v'' hm (fun hL => hL.elim hn ek)
            · rw [hEm b' (fun e => by subst e; exact hn (.inr (va6 _ _ _ _ _ hm hvm)))]
              exact hEn k b' v'' hm (fun hL => hn (.inl hL))
          · by_cases hee : g.eff = true
            · -- it acts: all blocks are there
              have hall : ∀ k b v, (k, b, v) ∈ vs → Li listed k := fun k b v hm => hanc k (halall j g hgj hee k b v hm)
              have hcj : c ≤ j := by
                rcases Nat.lt_or_ge j c with h | h
                · exfalso
                  rcases hcan with h0 | ⟨gc, hgc, hgce⟩
                  · omega
                  · have hLc := (hcut (c - 1) gc hgc hgce).2 (by omega)
                    by_cases e : c - 1 = j
                    · rw [e] at hLc; exact hnL hLc
                    · obtain ⟨_, _, d3'⟩ := hdw _ gc hgc
                      rcases d3' j g (by omega) hgj with hm' | ⟨_, hnee⟩
                      · exact hbehind _ gc hgc hm' hLc
                      · exact hnee ⟨hee, hgce⟩
                · exact h
              have hcon := tr.const heff c (j - c) (by omega) (fun i gi h1 h2 h3 => by
                cases hie : gi.eff with
                | false => rfl
                | true =>
                  exfalso
                  rcases d3 i gi (by omega) h3 with hm' | ⟨_, hnee⟩
                  · have := (hcut i gi h3 hie).1 (hanc i hm'); omega
                  · exact hnee ⟨hie, hee⟩)
              rw [show c + (j - c) = j by omega] at hcon
              have hW2 : WR (CRX X P) E1 w0 (Hf j).1 (Hf j).2 w := by
                rw [hcon]
                exact hW1.sub (fun g o hgo => (hcg g o).2 ⟨hgo, fun k b v hm hn => absurd (hall k b v hm) hn⟩) (Nat.le_refl _)
              refine dstep_ok H hs hF ho hgo st1 hslots (hg.mono hE) hW2 fun v E2 w2 hE2 hr2 hW2 => ?_
              refine more E2 w2 v (j + 1) _ (by omega) (.inr ⟨g, by simpa using hgj, hee⟩) (fun i gi hi hie => ?_) hE2 hr2 hW2 (fun g' o' => ⟨fun he => ⟨he, fun k b v hm hn => absurd (.inl (hall k b v hm)) hn⟩, fun he => he.1⟩) (fun k b v hm hn => absurd (.inl (hall k b v hm)) hn)
              constructor
              · rintro (hL | rfl)
                · rcases Nat.lt_or_ge j i with h | h
                  · exfalso
                    obtain ⟨_, _, d3'⟩ := hdw i gi hi
                    rcases d3' j g h hgj with hm' | ⟨_, hnee⟩
                    · exact hbehind i gi hi hm' hL
                    · exact hnee ⟨hee, hie⟩
                  · omega
                · omega
              · intro hlt'
                by_cases e : i = j
                · exact .inr e
                · refine .inl ?_
                  rcases d3 i gi (by omega) hi with hm' | ⟨_, hnee⟩
                  · exact hanc i hm'
                  · exact absurd ⟨hie, hee⟩ hnee
            · -- it leaves the memory
              have hee : g.eff = false := by simpa using hee
              have heo : effOf g.o.op = false := by rw [← hge]; exact hee
              have hst : dstep self fs g (rs (Tm j) g.sl) hc0 (Hf c).2 = some ⟨V j, hc0, (Hf c).2⟩ := by
                rcases effOf_f heo with ⟨p, hp⟩ | ⟨m, hm', hrm⟩
                · exact dstep_p hp st1
                · obtain ⟨_, hcs⟩ := hrd j g hgj hrm
                  have hmay : mayCut (l.map (·.eff)) (l.map (·.an)) j c = true := by
                    unfold mayCut
                    simp only [Bool.and_eq_true, Bool.or_eq_true, Bool.not_eq_true', beq_iff_eq]
                    refine ⟨⟨?_, ?_⟩, ?_⟩
                    · rcases hcan with h0 | ⟨gc, hgc, hgce⟩
                      · exact .inl h0
                      · exact .inr (by rw [List.getElem?_map, hgc]; simpa using hgce)
                    · rw [List.any_eq_false]
                      intro i hi hbad
                      rw [List.mem_range] at hi
                      rw [List.getElem?_map, List.getElem?_map] at hbad
                      cases hgi : l[i]? with
                      | none => rw [hgi] at hbad; simp at hbad
                      | some gi =>
                        rw [hgi] at hbad
                        simp only [Option.map_some, Option.getD_some, Bool.and_eq_true, List.contains_iff_mem] at hbad
                        exact hbehind i gi hgi hbad.2 ((hcut i gi hgi hbad.1).2 hi)
                    · rw [List.any_eq_false]
                      intro i hi hbad
                      rw [List.getElem?_map, hgj] at hi
                      rw [List.getElem?_map] at hbad
                      cases hgi : l[i]? with
                      | none => rw [hgi] at hbad; simp at hbad
                      | some gi =>
                        rw [hgi] at hbad
                        simp only [Option.map_some, Option.getD_some, Bool.and_eq_true, decide_eq_true_eq] at hbad
                        have := (hcut i gi hgi hbad.1).1 (hanc i (by simpa using hi))
                        omega
                  obtain ⟨x, hx1, hx2⟩ := dchkA1_all (dchkA_all hck (tr.rc j g hgj)) c (hcs c hc hmay)
                  have hx1' : hh[c]? = some (Hf c) := tr.hs c hc
                  rw [hx1'] at hx1; cases hx1
                  refine read_at hm' hrm (fun g' o' hgo => ?_) hx2
                  obtain ⟨e1, e2⟩ := delB_get hgo
                  exact (hcg g' o').2 ⟨e1, fun k b v hm hn => e2 k b v hm (fun hk => hn (hanc k hk))⟩
              refine keep_step H.tb hF ho hgo heo (fun hr => (hrd j g hgj hr).1) hst hslots (hg.mono hE) hW1 fun v hv => ?_
              refine more E1 w v c hc0 hc hcan (hcut0 hee) (Env.le_refl E1) hv hW1 (fun g' o' => ?_) (fun k b v hm hn => hEn k b v hm (fun hL => hn (.inl hL)))
              rw [hcg g' o']
              constructor
              · rintro ⟨e1, e2⟩
                exact ⟨e1, fun k b v hm hn => e2 k b v hm (fun hL => hn (.inl hL))⟩
              · rintro ⟨e1, e2⟩
                refine ⟨e1, fun k b v hkm hn => e2 k b v hkm (fun hL => hL.elim hn fun ek => ?_)⟩
                subst ek
                exact hnv b v hkm
      refine wpIn_region_any H.mx ?_
      refine key ops.size (List.range l.length) _ a _ ⟨by simp [hlen], fun i g hi hL => ?_, ⟨0, E, h, Nat.zero_le _, .inl rfl, fun i g hi _ => ?_, Env.le_refl E, ?_, ?_, fun g o => ?_, fun k b v hm _ => ?_⟩, hds⟩ (by simp [hlen]) (fun i hi _ => List.mem_range.2 hi)
      · have : ¬ Li (Array.replicate ops.size false) i := by unfold Li; simp [Array.getElem?_replicate]; split <;> simp
        exact absurd hL this
      · have : ¬ Li (Array.replicate ops.size false) i := by unfold Li; simp [Array.getElem?_replicate]; split <;> simp
        exact ⟨fun hL => absurd hL this, fun h => by omega⟩
      · rw [tr.h0]; exact (hW.more va1).same rfl rfl rfl rfl
      · refine ⟨ht.1, fun d => .inr ⟨fun i g hi hL => ?_, fun v hv => ht.2 d v hv⟩⟩
        have : ¬ Li (Array.replicate ops.size false) i := by unfold Li; simp [Array.getElem?_replicate]; split <;> simp
        exact absurd hL this
      · rw [tr.h0]
        constructor
        · intro hgo
          have hlt := hW.live hgo
          refine ⟨by rw [va2 g hlt]; exact hgo, fun k b v hm _ e => ?_⟩
          have := (va5 k b v hm).2.1
          omega
        · rintro ⟨hgo, hn⟩
          have hnli : ∀ k, ¬ Li (Array.replicate ops.size false) k := fun k => by unfold Li; simp [Array.getElem?_replicate]; split <;> simp
          rcases Nat.lt_or_ge g nx with hlt | hge
          · rw [va2 g hlt] at hgo; exact hgo
          · rcases Nat.lt_or_ge g nx1 with hlt | hge'
            · obtain ⟨k, v, hm⟩ := va4 g hge hlt
              exact absurd rfl (hn k g v hm (hnli k))
            · rw [va3 g hge'] at hgo; exact hgo
      · cases hm' : E.m b with
        | none => rfl
        | some y => have := hW.lt b y hm'; have := (va5 k b v hm).2.1; omega
end
end Go.Gh
