/- The run is sound: a region that draws its order. -/
import Derived.Test.YtpdaickealgnhaaGreatDoorHK
namespace Go.Gh
set_option linter.unusedVariables false

section
variable {P : Program} {X : Cx} {fs : T GFn} {w0 : World} {self : Option Nat → GC → GS → GR}

theorem dstep_eq (g : GD) (t : T GV) (h : T GO) (nx : Nat) : dstep self fs g t h nx = Option.rec none (fun wanted => Bool.rec (some ⟨.tup [], h, nx⟩) (xop self fs t h nx g.o.op) wanted) (gwant t g.o.guard) := rfl

structure Tr (sf : Option Nat → GC → GS → GR) (fs : T GFn) (l : List GD) (t : T GV) (h : T GO) (nx : Nat) (Tm : Nat → T GV) (Hf : Nat → T GO × Nat) (V : Nat → GV) (r : DRes) : Prop where
  t0 : Tm 0 = t
  h0 : Hf 0 = (h, nx)
  st : ∀ (j : Nat) (g : GD), l[j]? = some g → dstep sf fs g (rs (Tm j) g.sl) (Hf j).1 (Hf j).2 = some ⟨V j, (Hf (j + 1)).1, (Hf (j + 1)).2⟩ ∧ Tm (j + 1) = tput (Tm j) g.o.dst (V j)
  te : r.t = Tm l.length
  he : (r.h, r.nx) = Hf l.length
  hs : ∀ c, c ≤ l.length → r.hs[c]? = some (Hf c)
  rc : ∀ (j : Nat) (g : GD), l[j]? = some g → r.rc[j]? = some (g, rs (Tm j) g.sl, V j)

theorem xd_trace : ∀ (l : List GD) {t : T GV} {h : T GO} {nx : Nat} {r : DRes}, xd self fs l t h nx = some r → ∃ Tm Hf V, Tr self fs l t h nx Tm Hf V r
  | [], t, h, nx, r, hx => by
    cases hx
    exact ⟨fun _ => t, fun _ => (h, nx), fun _ => .bad, rfl, rfl, fun j g hj => by simp at hj, rfl, rfl, fun c hc => by
      have : c = 0 := by simpa using hc
      subst this; rfl, fun j g hj => by simp at hj⟩
  | g :: l, t, h, nx, r, hx => by
    obtain ⟨s, hs, hx⟩ := orec_some (show Option.rec none (fun s => MS.casesOn s fun v h' nx' => Option.rec none (fun r => DRes.casesOn r fun tf hf nf hs rc =>
      some ⟨tf, hf, nf, (h, nx) :: hs, (g, rs t g.sl, v) :: rc⟩) (xd self fs l (tput t g.o.dst v) h' nx')) (dstep self fs g (rs t g.sl) h nx) = some r from hx)
    obtain ⟨v, h', nx'⟩ := s
    obtain ⟨r', hr', hx⟩ := orec_some hx
    obtain ⟨tf, hf, nf, hs', rc⟩ := r'
    cases hx
    obtain ⟨Tm, Hf, V, a1, a2, a3, a4, a5, a6, a7⟩ := xd_trace l hr'
    refine ⟨fun j => Nat.casesOn j t Tm, fun j => Nat.casesOn j (h, nx) Hf, fun j => Nat.casesOn j v V, rfl, rfl, ?_, a4, a5, ?_, ?_⟩
    · intro j g' hj
      cases j with
      | zero => cases hj; refine ⟨?_, a1⟩; show dstep self fs g (rs t g.sl) h nx = some ⟨v, (Hf 0).1, (Hf 0).2⟩; rw [a2]; exact hs
      | succ j => exact a3 j g' (by simpa using hj)
    · intro c hc
      cases c with
      | zero => rfl
      | succ c => exact a6 c (by simpa using hc)
    · intro j g' hj
      cases j with
      | zero => cases hj; rfl
      | succ j => exact a7 j g' (by simpa using hj)

theorem effOf_f {op : GOp} (h : effOf op = false) : (∃ p, op = .p p) ∨ ∃ m, op = .m m ∧ readM op = true := by
  cases op with
  | p p => exact .inl ⟨p, rfl⟩
  | m m => exact .inr ⟨m, rfl, by simp [readM, h]⟩
  | _ => cases h
theorem readM_keeps {m : Mf} (hm : readM (.m m) = true) {t : T GV} {h : T GO} {nx : Nat} {s : MS} (hx : mf t h nx m = some s) : s.h = h ∧ s.nx = nx := by
  have he : effOf (.m m) = false := by simpa [readM] using hm
  cases m <;> first | (cases he; done) | skip
  case ld1 x =>
    obtain ⟨b, o, _, hx⟩ := onPtr_some (show mLd1 h nx (ev t x) = some s from hx)
    obtain ⟨_, _, _, _, _, _, hx⟩ := onCells_some hx
    obtain ⟨_, hx⟩ := okIf_some hx
    cases hx; exact ⟨rfl, rfl⟩
  case ldn n x =>
    obtain ⟨b, o, _, hx⟩ := onPtr_some (show mLdn h nx n (ev t x) = some s from hx)
    obtain ⟨_, _, _, _, _, _, hx⟩ := onCells_some hx
    obtain ⟨_, hx⟩ := okIf_some hx
    cases hx; exact ⟨rfl, rfl⟩
  case slarr n z x lo hi mx =>
    obtain ⟨b, o, _, hx⟩ := onPtr_some (show mSlarr t h nx n z (ev t x) lo hi mx = some s from hx)
    obtain ⟨_, _, _, _, _, _, hx⟩ := onCells_some hx
    obtain ⟨_, hx⟩ := okIf_some hx
    obtain ⟨_, _, hx⟩ := orec_some hx
    obtain ⟨_, _, hx⟩ := orec_some hx
    obtain ⟨_, _, hx⟩ := orec_some hx
    obtain ⟨_, hx⟩ := okIf_some hx
    cases hx; exact ⟨rfl, rfl⟩
  case mlen x =>
    rcases onMap_some (show mMlen h nx (ev t x) = some s from hx) with ⟨_, hx⟩ | ⟨r, _, hx⟩
    · cases hx; exact ⟨rfl, rfl⟩
    · obtain ⟨_, _, _, hx⟩ := onMapO_some hx
      cases hx; exact ⟨rfl, rfl⟩
  case look k ok z m key =>
    obtain ⟨_, hx⟩ := okIf_some (show mLook h nx k ok z (ev t m) (ev t key) = some s from hx)
    rcases onMap_some hx with ⟨_, hx⟩ | ⟨r, _, hx⟩
    · cases hx; exact ⟨rfl, rfl⟩
    · obtain ⟨_, _, _, hx⟩ := onMapO_some hx
      obtain ⟨f, _, hx⟩ := orec_some hx
      cases f <;> (cases hx; exact ⟨rfl, rfl⟩)

/-- an operation that does not act leaves the memory -/
theorem dstep_keeps {g : GD} (he : effOf g.o.op = false) {t : T GV} {h : T GO} {nx : Nat} {s : MS} (hx : dstep self fs g t h nx = some s) : s.h = h ∧ s.nx = nx := by
  rw [dstep_eq] at hx
  obtain ⟨b, _, hx⟩ := orec_some hx
  cases b with
  | false => cases hx; exact ⟨rfl, rfl⟩
  | true =>
    rcases effOf_f he with ⟨p, hp⟩ | ⟨m, hm, hr⟩
    · rw [hp] at hx
      obtain ⟨v, _, hx⟩ := orec_some (show Option.rec none (fun v => some ⟨v, h, nx⟩) (pf t p) = some s from hx)
      cases hx; exact ⟨rfl, rfl⟩
    · rw [hm] at hx hr
      exact readM_keeps hr (show mf t h nx m = some s from hx)
/-- a pure operation -/
theorem dstep_p {g : GD} {p : Pf} (hp : g.o.op = .p p) {t : T GV} {h h' : T GO} {nx nx' : Nat} {s : MS} (hx : dstep self fs g t h nx = some s) : dstep self fs g t h' nx' = some ⟨s.v, h', nx'⟩ := by
  rw [dstep_eq] at hx ⊢
  obtain ⟨b, hb, hx⟩ := orec_some hx
  rw [hb]
  cases b with
  | false => cases hx; rfl
  | true =>
    rw [hp] at hx ⊢
    obtain ⟨v, hv, hx⟩ := orec_some (show Option.rec none (fun v => some ⟨v, h, nx⟩) (pf t p) = some s from hx)
    cases hx
    show (Option.rec none (fun v => some ⟨v, h', nx'⟩) (pf t p) : Option MS) = _
    rw [hv]
theorem xread_eq (o : GOper) (t : T GV) (h : T GO) (nx : Nat) : xread t h nx o = Option.rec none (fun wanted => Bool.rec (some (.tup [])) (GOp.casesOn o.op (fun p => pf t p) (fun m => Option.rec none (fun s => some s.v) (mf t h nx m)) (fun _ _ => none) (fun _ _ => none) (fun _ => none) (fun _ _ => none) none (fun _ => none) none) wanted) (gwant t o.guard) := rfl
theorem dstep_read {g : GD} {m : Mf} (hm : g.o.op = .m m) (hr : readM g.o.op = true) {t : T GV} {h : T GO} {nx : Nat} {v : GV} (hx : xread t h nx g.o = some v) : dstep self fs g t h nx = some ⟨v, h, nx⟩ := by
  rw [xread_eq] at hx
  rw [dstep_eq]
  obtain ⟨b, hb, hx⟩ := orec_some hx
  rw [hb]
  cases b with
  | false => cases hx; rfl
  | true =>
    rw [hm] at hx hr ⊢
    obtain ⟨s, hs, hx⟩ := orec_some (show Option.rec none (fun s => some s.v) (mf t h nx m) = some v from hx)
    cases hx
    obtain ⟨h1, h2⟩ := readM_keeps hr hs
    show mf t h nx m = _
    rw [hs, ← h1, ← h2]

theorem dchk_all {hs : List (T GO × Nat)} : ∀ {rc : List (GD × T GV × GV)}, dchk hs rc = true → ∀ {j : Nat} {x : GD × T GV × GV}, rc[j]? = some x → dchk1 x.1.o x.2.1 x.2.2 hs x.1.cs = true
  | [], _, j, x, hj => by simp at hj
  | y :: rc, hd, j, x, hj => by
    obtain ⟨h1, h2⟩ := band_t (show band (dchk1 y.1.o y.2.1 y.2.2 hs y.1.cs) (dchk hs rc) = true from hd)
    cases j with
    | zero => cases hj; exact h1
    | succ j => exact dchk_all h2 (j := j) (by simpa using hj)
theorem dchk1_all {o : GOper} {t : T GV} {v : GV} {hs : List (T GO × Nat)} : ∀ {cs : List Nat}, dchk1 o t v hs cs = true → ∀ c ∈ cs, ∃ x, hs[c]? = some x ∧ xread t x.1 x.2 o = some v
  | [], _, c, hc => by simp at hc
  | y :: cs, hd, c, hc => by
    obtain ⟨h1, h2⟩ := band_t (show band (Option.rec false (fun x => Option.rec false (fun v' => gsame v' v) (xread t x.1 x.2 o)) (hs[y]?)) (dchk1 o t v hs cs) = true from hd)
    rcases List.mem_cons.1 hc with rfl | hc
    · cases hx : hs[c]? with
      | none => rw [hx] at h1; cases h1
      | some x =>
        rw [hx] at h1
        change (Option.rec false (fun v' => gsame v' v) (xread t x.1 x.2 o) : Bool) = true at h1
        cases hr : xread t x.1 x.2 o with
        | none => rw [hr] at h1; cases h1
        | some v' => rw [hr] at h1; exact ⟨x, rfl, by rw [hr, gsame_eq h1]⟩
    · exact dchk1_all h2 c hc

theorem get_rs (t : T GV) : ∀ (l : List Nat) (n : Nat), (rs t l).get n = if n ∈ l then t.get n else none
  | [], n => by simp [rs, T.get_nil]
  | x :: l, n => by
    have ih := get_rs t l n
    show (Option.rec (rs t l) (fun v => T.set (rs t l) x v) (t.get x) : T GV).get n = _
    cases hx : t.get x with
    | none =>
      show (rs t l).get n = _
      rw [ih]
      by_cases e : n = x
      · subst e; simp [hx]
      · simp [e]
    | some v =>
      show (T.set (rs t l) x v).get n = _
      rw [T.get_set]
      by_cases e : n = x
      · subst e; simp [hx]
      · rw [if_neg e, ih]; simp [e]

/-- one operation of the region, at its turn -/
theorem dstep_ok (H : FOk P X w0 fs) (hs : SelfOk P X w0 self) {N n j : Nat} {F : Fence} (hF : Wd F) {ops : Array Oper} {o : Oper} (ho : ops[j]? = some o) {g : GD} (hgo : g.o = cOper { X with nt := N } P ops o) {t : T GV} {h : T GO} {nx : Nat} {s : MS} (hx : dstep self fs g t h nx = some s)
    {a : Act} {w : World} {E : Env} (ht : TR E N t a.tmps) (hg : GL E X.ng) (hW : WR (CRX X P) E w0 h nx w) {K : Act → World → Prop} {Q : Exit → Act → World → Prop}
    (hk : ∀ v E' w', E.le E' → R E' s.v v → WR (CRX X P) E' w0 s.h s.nx w' → K (a.put o.dst v) w') : wpOpIn F n P ops Q j K a w := by
  rw [dstep_eq, hgo] at hx
  obtain ⟨b, hb, hx⟩ := orec_some hx
  unfold wpOpIn
  simp only [ho]
  rw [gwant_ok ht hb]
  cases b with
  | false =>
    cases hx
    rw [if_neg (by decide)]
    exact ⟨fun f _ => hF.fn f, hk undef E w (Env.le_refl E) undef_ok hW⟩
  | true =>
    rw [if_pos rfl]
    exact xop_ok H hs (dst_op hx) hF ht hg hW hk
end
end Go.Gh

/- The run is sound: a region that draws its order, all orders. -/
namespace Go.Gh
set_option linter.unusedVariables false

section
variable {P : Program} {X : Cx} {fs : T GFn} {w0 : World} {self : Option Nat → GC → GS → GR}

theorem cDraw_at {ops : Array Oper} {j : Nat} {g : GD} (hj : (cDraw X P ops)[j]? = some g) : ∃ o, ops[j]? = some o ∧ g.o = cOper X P ops o ∧ g.eff = effOf g.o.op := by
  unfold cDraw at hj
  simp only [List.getElem?_map, List.getElem?_zipIdx, Option.map_map, Array.getElem?_toList, Option.map_eq_some_iff] at hj
  obtain ⟨o, ho, rfl⟩ := hj
  exact ⟨o, ho, rfl, rfl⟩
theorem cDraw_length {ops : Array Oper} : (cDraw X P ops).length = ops.size := by simp [cDraw]

theorem drawOk_at {ds : List (List Nat)} {gs : List GD} (hd : drawOk ds gs = true) {j : Nat} {y : GD} (hj : gs[j]? = some y) :
    (∀ d ∈ (ds[j]?).getD [], d < j) ∧ (∀ x ∈ y.an, x ∈ (ds[j]?).getD [] ∨ ∃ d ∈ (ds[j]?).getD [], ∃ gd, gs[d]? = some gd ∧ x ∈ gd.an) ∧
    (∀ i x, i < j → gs[i]? = some x → i ∈ y.an ∨ (clash x y = false ∧ ¬ (x.eff = true ∧ y.eff = true))) ∧
    (readM y.o.op = true → ∀ c, c ≤ gs.length → mayCut (gs.map (·.eff)) (gs.map (·.an)) j c = true → c ∈ y.cs ∨ ownCut (gs.map (·.eff)) j c = true) := by
  have h := List.all_eq_true.1 hd (y, j) (List.mem_zipIdx_iff_getElem?.2 hj)
  unfold drawOk1 at h
  simp only [Bool.and_eq_true] at h
  obtain ⟨⟨⟨h1, h2⟩, h3⟩, h4⟩ := h
  refine ⟨fun d hd => by simpa using List.all_eq_true.1 h1 d hd, fun x hx => ?_, fun i x hi hx => ?_, fun hr c hc hm => ?_⟩
  · have := List.all_eq_true.1 h2 x hx
    rw [Bool.or_eq_true] at this
    rcases this with h | h
    · exact .inl (by simpa using h)
    · obtain ⟨d, hd, hx'⟩ := List.any_eq_true.1 h
      refine .inr ⟨d, hd, ?_⟩
      cases hg : gs[d]? with
      | none => rw [hg] at hx'; simp at hx'
      | some gd => rw [hg] at hx'; exact ⟨gd, rfl, by simpa using hx'⟩
  · have := List.all_eq_true.1 h3 (x, i) (List.mem_zipIdx_iff_getElem?.2 (by rw [List.getElem?_take_of_lt hi]; exact hx))
    simp only [Bool.or_eq_true, Bool.and_eq_true, Bool.not_eq_true'] at this
    rcases this with h | ⟨h, h'⟩
    · exact .inl (by simpa using h)
    · exact .inr ⟨h, fun ⟨e1, e2⟩ => by rw [e1, e2] at h'; cases h'⟩
  · rw [Bool.or_eq_true] at h4
    rcases h4 with h | h
    · rw [hr] at h; cases h
    · have := List.all_eq_true.1 h c (List.mem_range.2 (by omega))
      rw [hm] at this
      simpa using this

theorem clash_l {x y : GD} (h : clash x y = false) {d : Nat} (hd : x.o.dst = some d) : d ∉ y.sl ∧ y.o.dst ≠ some d := by
  unfold clash at h
  rw [Bool.or_eq_false_iff] at h
  obtain ⟨h1, _⟩ := h
  rw [hd] at h1
  simp only [Bool.or_eq_false_iff] at h1
  refine ⟨by simpa using h1.1, fun e => ?_⟩
  rw [e] at h1
  simp at h1
theorem clash_r {x y : GD} (h : clash x y = false) {d : Nat} (hd : y.o.dst = some d) : d ∉ x.sl := by
  unfold clash at h
  rw [Bool.or_eq_false_iff] at h
  obtain ⟨_, h1⟩ := h
  rw [hd] at h1
  simpa using h1

section state
variable {l : List GD} {t : T GV} {h : T GO} {nx : Nat} {Tm : Nat → T GV} {Hf : Nat → T GO × Nat} {V : Nat → GV} {r : DRes}

theorem Tr.const (ht : Tr self fs l t h nx Tm Hf V r) (he : ∀ (j : Nat) (g : GD), l[j]? = some g → g.eff = effOf g.o.op) (c : Nat) : ∀ k, c + k ≤ l.length → (∀ (i : Nat) (g : GD), c ≤ i → i < c + k → l[i]? = some g → g.eff = false) → Hf (c + k) = Hf c
  | 0, _, _ => rfl
  | k + 1, hk, hn => by
    have ih := Tr.const ht he c k (by omega) (fun i g h1 h2 h3 => hn i g h1 (by omega) h3)
    have hlt : c + k < l.length := by omega
    have hg : l[c + k]? = some l[c + k] := List.getElem?_eq_getElem hlt
    obtain ⟨h1, _⟩ := ht.st _ _ hg
    have hf := hn (c + k) _ (by omega) (by omega) hg
    rw [he _ _ hg] at hf
    obtain ⟨e1, e2⟩ := dstep_keeps hf h1
    rw [← ih]
    show Hf (c + k + 1) = _
    exact Prod.ext e1 e2

theorem Tr.char (ht : Tr self fs l t h nx Tm Hf V r) (d : Nat) : ∀ j, j ≤ l.length →
    (∃ i g, i < j ∧ l[i]? = some g ∧ g.o.dst = some d ∧ (∀ i' g', i' < j → l[i']? = some g' → g'.o.dst = some d → i' ≤ i) ∧ (Tm j).get d = some (V i)) ∨
    ((∀ i g, i < j → l[i]? = some g → g.o.dst ≠ some d) ∧ (Tm j).get d = t.get d)
  | 0, _ => .inr ⟨fun i g hi => by omega, by rw [ht.t0]⟩
  | j + 1, hj => by
    have hlt : j < l.length := by omega
    have hg : l[j]? = some l[j] := List.getElem?_eq_getElem hlt
    obtain ⟨_, h2⟩ := ht.st _ _ hg
    rw [h2]
    have ih := Tr.char ht d j (by omega)
    by_cases hd : (l[j]).o.dst = some d
    · refine .inl ⟨j, _, by omega, hg, hd, fun i' g' hi' _ _ => by omega, ?_⟩
      rw [hd]
      show (T.set (Tm j) d (V j)).get d = _
      rw [T.get_set, if_pos rfl]
    · have hsame : (tput (Tm j) (l[j]).o.dst (V j)).get d = (Tm j).get d := by
        cases hdd : (l[j]).o.dst with
        | none => rfl
        | some x =>
          show (T.set (Tm j) x (V j)).get d = _
          rw [T.get_set, if_neg (fun e => hd (by rw [hdd, e]))]
      rw [hsame]
      rcases ih with ⟨i, g, h1, h2, h3, h4, h5⟩ | ⟨h1, h2⟩
      · refine .inl ⟨i, g, by omega, h2, h3, fun i' g' hi' hg' hd' => ?_, h5⟩
        by_cases e : i' = j
        · subst e; rw [hg] at hg'; cases hg'; exact absurd hd' hd
        · exact h4 i' g' (by omega) hg' hd'
      · refine .inr ⟨fun i g hi hg' hd' => ?_, h2⟩
        by_cases e : i = j
        · subst e; rw [hg] at hg'; cases hg'; exact hd hd'
        · exact h1 i g (by omega) hg' hd'

/-- the slots, when the operations L are done -/
def Slots (E : Env) (N : Nat) (l : List GD) (t : T GV) (V : Nat → GV) (L : Nat → Prop) (tm : Array Value) : Prop :=
  N ≤ tm.size ∧ ∀ d, (∃ i g, l[i]? = some g ∧ L i ∧ g.o.dst = some d ∧ (∀ i' g', l[i']? = some g' → L i' → g'.o.dst = some d → i' ≤ i) ∧ d < N ∧ ∃ x, tm[d]? = some x ∧ R E (V i) x) ∨
    ((∀ i g, l[i]? = some g → L i → g.o.dst ≠ some d) ∧ ∀ v, t.get d = some v → d < N ∧ ∃ x, tm[d]? = some x ∧ R E v x)
theorem Slots.mono {E E' : Env} (hE : E.le E') {N : Nat} {L : Nat → Prop} {tm : Array Value} (hs : Slots E N l t V L tm) : Slots E' N l t V L tm := by
  refine ⟨hs.1, fun d => ?_⟩
  rcases hs.2 d with ⟨i, g, h1, h2, h3, h4, h5, x, h6, h7⟩ | ⟨h1, h2⟩
  · exact .inl ⟨i, g, h1, h2, h3, h4, h5, x, h6, R.mono hE _ _ h7⟩
  · refine .inr ⟨h1, fun v hv => ?_⟩
    obtain ⟨h5, x, h6, h7⟩ := h2 v hv
    exact ⟨h5, x, h6, R.mono hE _ _ h7⟩
theorem Slots.get (ht : Tr self fs l t h nx Tm Hf V r) {E : Env} {N : Nat} {L : Nat → Prop} {tm : Array Value} (hs : Slots E N l t V L tm) {j d : Nat} (hj : j ≤ l.length) (hL : ∀ i g, l[i]? = some g → g.o.dst = some d → (L i ↔ i < j)) {v : GV} (hv : (Tm j).get d = some v) :
    d < N ∧ ∃ x, tm[d]? = some x ∧ R E v x := by
  rcases ht.char d j hj with ⟨i, g, h1, h2, h3, h4, h5⟩ | ⟨h1, h2⟩ <;> rcases hs.2 d with ⟨i0, g0, k1, k2, k3, k4, k5, x, k6, k7⟩ | ⟨k1, k2⟩
  · have e1 := k4 i g h2 ((hL i g h2 h3).2 h1) h3
    have e2 := h4 i0 g0 ((hL i0 g0 k1 k3).1 k2) k1 k3
    have : i = i0 := by omega
    subst this
    rw [h5] at hv; cases hv
    exact ⟨k5, x, k6, k7⟩
  · exact absurd h3 (k1 i g h2 ((hL i g h2 h3).2 h1))
  · exact absurd k3 (h1 i0 g0 ((hL i0 g0 k1 k3).1 k2) k1)
  · exact k2 v (by rw [← h2]; exact hv)
theorem put_other {a : Act} {dst : Option Nat} {d : Nat} {v : Value} (h : dst ≠ some d) : (a.put dst v).tmps[d]? = a.tmps[d]? := by
  cases dst with
  | none => rfl
  | some x =>
    show (a.tmps.setIfInBounds x v)[d]? = _
    rw [Array.getElem?_setIfInBounds_ne (fun e => h (by rw [e]))]
theorem Slots.put {E : Env} {N : Nat} {L L' : Nat → Prop} {a : Act} (hs : Slots E N l t V L a.tmps) {j : Nat} {g : GD} {dst : Option Nat} (hg : l[j]? = some g) (hd : g.o.dst = Gh.sl N dst) (hL' : ∀ i, L' i ↔ L i ∨ i = j)
    (hlast : ∀ i g', l[i]? = some g' → L i → (∀ d, g.o.dst = some d → g'.o.dst = some d → i ≤ j)) {v : Value} (hr : R E (V j) v) : Slots E N l t V L' (a.put dst v).tmps := by
  have hsz : (a.put dst v).tmps.size = a.tmps.size := by cases dst <;> simp [Act.put]
  refine ⟨by rw [hsz]; exact hs.1, fun d => ?_⟩
  by_cases hgd : g.o.dst = some d
  · have hdst : dst = some d ∧ d < N := by
      rw [hd] at hgd
      unfold Gh.sl at hgd
      cases dst with
      | none => cases hgd
      | some x =>
        simp only at hgd
        split at hgd
        · rename_i hlt; cases hgd; exact ⟨rfl, hlt⟩
        · cases hgd
    refine .inl ⟨j, g, hg, (hL' j).2 (.inr rfl), hgd, fun i' g' h1 h2 h3 => ?_, hdst.2, v, ?_, hr⟩
    · rcases (hL' i').1 h2 with h2 | rfl
      · exact hlast i' g' h1 h2 d hgd h3
      · exact Nat.le_refl _
    · rw [hdst.1]
      show (a.tmps.setIfInBounds d v)[d]? = some v
      have := hs.1
      rw [Array.getElem?_setIfInBounds_self_of_lt (by omega)]
  · have hkeep : d < N → (a.put dst v).tmps[d]? = a.tmps[d]? := fun hlt => put_other (fun e => hgd (by rw [hd, e]; unfold Gh.sl; simp only; rw [if_pos hlt]))
    rcases hs.2 d with ⟨i, gi, h1, h2, h3, h4, h5, x, h6, h7⟩ | ⟨h1, h2⟩
    · refine .inl ⟨i, gi, h1, (hL' i).2 (.inl h2), h3, fun i' g' e1 e2 e3 => ?_, h5, x, by rw [hkeep h5]; exact h6, h7⟩
      rcases (hL' i').1 e2 with e2 | rfl
      · exact h4 i' g' e1 e2 e3
      · rw [hg] at e1; cases e1; exact absurd e3 hgd
    · refine .inr ⟨fun i gi e1 e2 e3 => ?_, fun u hu => ?_⟩
      · rcases (hL' i).1 e2 with e2 | rfl
        · exact h1 i gi e1 e2 e3
        · rw [hg] at e1; cases e1; exact hgd e3
      · obtain ⟨h5, x, h6, h7⟩ := h2 u hu
        exact ⟨h5, x, by rw [hkeep h5]; exact h6, h7⟩
end state
end
end Go.Gh

/- The run is sound: a region that draws its order, joined. -/
namespace Go.Gh
set_option linter.unusedVariables false

section
variable {P : Program} {X : Cx} {fs : T GFn} {w0 : World} {self : Option Nat → GC → GS → GR}

def Li (listed : Array Bool) (i : Nat) : Prop := listed.getD i false = true
theorem Li_set {listed : Array Bool} {j : Nat} (hj : j < listed.size) (i : Nat) : Li (listed.setIfInBounds j true) i ↔ Li listed i ∨ i = j := by
  unfold Li
  by_cases e : i = j
  · subst e; simp [hj]
  · rw [getD_set_ne false (fun h => e h.symm)]; simp [e]

structure JJ (X : Cx) (P : Program) (w0 : World) (E0 : Env) (N : Nat) (ds : List Dq) (l : List GD) (t : T GV) (Hf : Nat → T GO × Nat) (V : Nat → GV) (listed : Array Bool) (a : Act) (w : World) : Prop where
  size : listed.size = l.length
  cl : ∀ (i : Nat) (g : GD), l[i]? = some g → Li listed i → ∀ x ∈ g.an, Li listed x
  cut : ∃ (c : Nat) (E : Env), c ≤ l.length ∧ (c = 0 ∨ ∃ g, l[c - 1]? = some g ∧ g.eff = true) ∧ (∀ (i : Nat) (g : GD), l[i]? = some g → g.eff = true → (Li listed i ↔ i < c)) ∧ E0.le E ∧ WR (CRX X P) E w0 (Hf c).1 (Hf c).2 w ∧ Slots E N l t V (Li listed) a.tmps
  ds : DR E0 ds a.defers

theorem ready_dep {ops : Array Oper} {listed : Array Bool} {j : Nat} {o : Oper} (ho : ops[j]? = some o) : j ∈ Region.ready .any ops listed ↔ listed.getD j true = false ∧ ∀ d ∈ depsOf o, Li listed d := by
  rw [mem_ready]
  constructor
  · rintro ⟨h1, o', ho', h2⟩
    rw [ho] at ho'; cases ho'
    refine ⟨h1, fun d hd => ?_⟩
    unfold depsOf at hd
    obtain ⟨e, he, hed⟩ := List.mem_filterMap.1 hd
    split at hed
    · rename_i hb; cases hed; exact h2 e (by simpa using he) hb
    · cases hed
  · rintro ⟨h1, h2⟩
    refine ⟨h1, o, ho, fun e he hb => h2 e.on ?_⟩
    unfold depsOf
    exact List.mem_filterMap.2 ⟨e, by simpa using he, by rw [if_pos hb]⟩

theorem xdreg_ok (H : FOk P X w0 fs) (hs : SelfOk P X w0 self) {N n id : Nat} {F : Fence} (hF : Wd F) {ops : Array Oper} {ds : List Dq} {t : T GV} {h : T GO} {nx : Nat} {r : GR} {a : Act} {w : World} {E : Env}
    (hd : drawOk (ops.toList.map depsOf) (cDraw { X with nt := N } P ops) = true) (hx : xdreg self fs ds (cDraw { X with nt := N } P ops) t h nx = r) (hne : Good r) (ht : TR E N t a.tmps) (hds : DR E ds a.defers) (hg : GL E X.ng) (hW : WR (CRX X P) E w0 h nx w) :
    (Code.region id ops true).wpIn F n P (Post X P N w0 E r) a w := by
  have hfacts : ∀ (j : Nat) (g : GD), (cDraw { X with nt := N } P ops)[j]? = some g → ∃ o, ops[j]? = some o ∧ g.o = cOper { X with nt := N } P ops o ∧ g.eff = effOf g.o.op := fun j g hj => cDraw_at hj
  have hlen : (cDraw { X with nt := N } P ops).length = ops.size := cDraw_length
  revert hfacts hlen hd hx
  generalize cDraw { X with nt := N } P ops = l
  intro hd hx hfacts hlen
  -- the run
  unfold xdreg at hx
  cases hxd : xd self fs l t h nx with
  | none => rw [hxd] at hx; subst hx; exact hne.elim
  | some rr =>
    rw [hxd] at hx
    obtain ⟨Tm, Hf, V, tr⟩ := xd_trace l hxd
    obtain ⟨tf, hf, nf, hh, rc⟩ := rr
    change (Bool.rec .fail (.norm ⟨tf, ds, hf, nf⟩) (dchk hh rc) : GR) = r at hx
    cases hck : dchk hh rc with
    | false => rw [hck] at hx; subst hx; exact hne.elim
    | true =>
      rw [hck] at hx
      have hte : tf = Tm l.length := tr.te
      have hhe : (hf, nf) = Hf l.length := tr.he
      have he1 : hf = (Hf l.length).1 := by rw [← hhe]
      have he2 : nf = (Hf l.length).2 := by rw [← hhe]
      have heff : ∀ (j : Nat) (g : GD), l[j]? = some g → g.eff = effOf g.o.op := fun j g hj => by obtain ⟨_, _, _, h⟩ := hfacts j g hj; exact h
      have hdeps : ∀ (j : Nat) (o : Oper), ops[j]? = some o → ((ops.toList.map depsOf)[j]?).getD [] = depsOf o := fun j o ho => by
        rw [List.getElem?_map, Array.getElem?_toList, ho]; rfl
      -- every order
      have key : ∀ (fuel : Nat) (U : List Nat) (listed : Array Bool) (a : Act) (w : World), JJ X P w0 E N ds l t Hf V listed a w → U.length ≤ fuel → (∀ i, i < l.length → ¬ Li listed i → i ∈ U) →
          wpAnyIn F n P .any ops (Post X P N w0 E r) fuel listed a w := by
        intro fuel
        -- the end
        have fin : ∀ (listed : Array Bool) (a : Act) (w : World), JJ X P w0 E N ds l t Hf V listed a w → (∀ i, i < l.length → Li listed i) → Post X P N w0 E r .normal a w := by
          intro listed a w hj hall
          obtain ⟨c, E1, hc, _, hcut, hE, hW1, hS⟩ := hj.cut
          subst hx
          refine ⟨E1, hE, ⟨?_, hj.ds.mono hE, ?_⟩⟩
          · show TR E1 N tf a.tmps
            rw [hte]
            refine ⟨hS.1, fun d v hv => hS.get tr (Nat.le_refl _) (fun i g hi _ => ?_) hv⟩
            have hlt := (List.getElem?_eq_some_iff.1 hi).1
            exact ⟨fun _ => hlt, fun _ => hall i hlt⟩
          · show WR (CRX X P) E1 w0 hf nf w
            have hcon := tr.const heff c (l.length - c) (by omega) (fun i g h1 h2 h3 => by
              cases hee : g.eff with
              | false => rfl
              | true =>
                have := (hcut i g h3 hee).1 (hall i (by have := (List.getElem?_eq_some_iff.1 h3).1; exact this))
                omega)
            rw [show c + (l.length - c) = l.length by omega] at hcon
            rw [he1, he2, hcon]; exact hW1
        have allOf : ∀ (listed : Array Bool), listed.size = l.length → Region.ready .any ops listed = [] → ∀ i, i < l.length → Li listed i := by
          intro listed hsz hr i
          induction i using Nat.strongRecOn with
          | _ i ih =>
            intro hi
            cases hLi : listed.getD i false with
            | true => exact hLi
            | false =>
              exfalso
              have hgi : l[i]? = some l[i] := List.getElem?_eq_getElem hi
              obtain ⟨o, ho, _, _⟩ := hfacts i _ hgi
              obtain ⟨d1, _⟩ := drawOk_at hd hgi
              rw [hdeps i o ho] at d1
              have : i ∈ Region.ready .any ops listed := by
                rw [ready_dep ho]
                refine ⟨?_, fun d hdd => ih d (d1 d hdd) (by have := d1 d hdd; omega)⟩
                have hlt : i < listed.size := by omega
                simp [hlt] at hLi ⊢
                exact hLi
              rw [hr] at this; cases this
        induction fuel with
        | zero =>
          intro U listed a w hj hU hUm
          have hall : ∀ i, i < l.length → Li listed i := fun i hi => by
            by_cases hL : Li listed i
            · exact hL
            · have := hUm i hi hL
              have hU0 : U = [] := List.eq_nil_of_length_eq_zero (by omega)
              rw [hU0] at this; cases this
          refine ⟨?_, fin listed a w hj hall⟩
          cases hr : Region.ready .any ops listed with
          | nil => rfl
          | cons j rest =>
            exfalso
            have hm : j ∈ Region.ready .any ops listed := by rw [hr]; simp
            obtain ⟨h1, o, ho, _⟩ := mem_ready.1 hm
            have hlt : j < l.length := by rw [hlen]; exact (Array.getElem?_eq_some_iff.1 ho).1
            have h2 := hall j hlt
            unfold Li at h2
            have hls : j < listed.size := by rw [hj.size]; exact hlt
            simp [hls] at h1 h2
            rw [h1] at h2; cases h2
        | succ fuel ih =>
          intro U listed a w hj hU hUm
          refine ⟨fun hr => fin listed a w hj (allOf listed hj.size hr), fun j hm => ?_⟩
          obtain ⟨h1, o, ho, _⟩ := mem_ready.1 hm
          obtain ⟨_, hdl⟩ := (ready_dep ho).1 hm
          have hlt : j < l.length := by rw [hlen]; exact (Array.getElem?_eq_some_iff.1 ho).1
          have hls : j < listed.size := by rw [hj.size]; exact hlt
          have hnL : ¬ Li listed j := by
            unfold Li
            simp [hls] at h1 ⊢
            exact h1
          have hgj : l[j]? = some l[j] := List.getElem?_eq_getElem hlt
          generalize l[j] = g at hgj
          obtain ⟨o', ho', hgo, hge⟩ := hfacts j g hgj
          rw [ho] at ho'; cases ho'
          obtain ⟨d1, d2, d3, d4⟩ := drawOk_at hd hgj
          rw [hdeps j o ho] at d1 d2
          -- what is ahead of it is done
          have hanc : ∀ x ∈ g.an, Li listed x := fun x hx => by
            rcases d2 x hx with h | ⟨d, hdd, gd, hgd, hxd'⟩
            · exact hdl x h
            · exact hj.cl d gd hgd (hdl d hdd) x hxd'
          obtain ⟨c, E1, hc, hcan, hcut, hE, hW1, hS⟩ := hj.cut
          -- what is behind it is not
          have hbehind : ∀ (i : Nat) (gi : GD), l[i]? = some gi → j ∈ gi.an → ¬ Li listed i := fun i gi hi hmem hL => hnL (hj.cl i gi hi hL j hmem)
          -- its slots
          have hslots : TR E1 N (rs (Tm j) g.sl) a.tmps := by
            refine ⟨hS.1, fun d v hv => ?_⟩
            rw [get_rs] at hv
            by_cases hdm : d ∈ g.sl
            · rw [if_pos hdm] at hv
              refine hS.get tr (Nat.le_of_lt hlt) (fun i gi hi hdi => ?_) hv
              constructor
              · intro hL
                rcases Nat.lt_trichotomy i j with h | h | h
                · exact h
                · subst h; exact absurd hL hnL
                · exfalso
                  obtain ⟨_, _, d3', _⟩ := drawOk_at hd hi
                  rcases d3' j g h hgj with hm' | ⟨hcl, _⟩
                  · exact hbehind i gi hi hm' hL
                  · exact clash_r hcl hdi hdm
              · intro hlt'
                rcases d3 i gi hlt' hi with hm' | ⟨hcl, _⟩
                · exact hanc i hm'
                · exact absurd hdm (clash_l hcl hdi).1
            · rw [if_neg hdm] at hv; cases hv
          obtain ⟨st1, st2⟩ := tr.st j g hgj
          -- the step, and the new cut
          have step : ∃ s c', dstep self fs g (rs (Tm j) g.sl) (Hf c).1 (Hf c).2 = some s ∧ s.v = V j ∧ s.h = (Hf c').1 ∧ s.nx = (Hf c').2 ∧ c' ≤ l.length ∧ (c' = 0 ∨ ∃ g, l[c' - 1]? = some g ∧ g.eff = true) ∧
              (∀ (i : Nat) (gi : GD), l[i]? = some gi → gi.eff = true → ((Li listed i ∨ i = j) ↔ i < c')) := by
            cases hee : g.eff with
            | true =>
              have hcj : c ≤ j := by
                rcases Nat.lt_or_ge j c with h | h
                · exfalso
                  rcases hcan with h0 | ⟨gc, hgc, hgce⟩
                  · omega
                  · have hLc := (hcut (c - 1) gc hgc hgce).2 (by omega)
                    by_cases e : c - 1 = j
                    · rw [e] at hLc; exact hnL hLc
                    · obtain ⟨_, _, d3', _⟩ := drawOk_at hd hgc
                      rcases d3' j g (by omega) hgj with hm' | ⟨_, hnee⟩
                      · exact hbehind _ gc hgc hm' hLc
                      · exact hnee ⟨hee, hgce⟩
                · exact h
              have hcon := tr.const heff c (j - c) (by omega) (fun i gi h1 h2 h3 => by
                cases hie : gi.eff with
                | false => rfl
                | true =>
                  exfalso
                  rcases d3 i gi (by omega) h3 with hm' | ⟨_, hnee⟩
                  · have := (hcut i gi h3 hie).1 (hanc i hm'); omega
                  · exact hnee ⟨hie, hee⟩)
              rw [show c + (j - c) = j by omega] at hcon
              refine ⟨_, j + 1, by rw [← hcon]; exact st1, rfl, rfl, rfl, by omega, .inr ⟨g, by simpa using hgj, hee⟩, fun i gi hi hie => ?_⟩
              constructor
              · rintro (hL | rfl)
                · rcases Nat.lt_or_ge j i with h | h
                  · exfalso
                    obtain ⟨_, _, d3', _⟩ := drawOk_at hd hi
                    rcases d3' j g h hgj with hm' | ⟨_, hnee⟩
                    · exact hbehind i gi hi hm' hL
                    · exact hnee ⟨hee, hie⟩
                  · omega
                · omega
              · intro hlt'
                by_cases e : i = j
                · exact .inr e
                · refine .inl ?_
                  rcases d3 i gi (by omega) hi with hm' | ⟨_, hnee⟩
                  · exact hanc i hm'
                  · exact absurd ⟨hie, hee⟩ hnee
            | false =>
              have hcut' : ∀ (i : Nat) (gi : GD), l[i]? = some gi → gi.eff = true → ((Li listed i ∨ i = j) ↔ i < c) := fun i gi hi hie => by
                rw [← hcut i gi hi hie]
                refine ⟨fun h => h.resolve_right fun e => ?_, .inl⟩
                subst e; rw [hgj] at hi; cases hi; rw [hee] at hie; cases hie
              rw [hge] at hee
              rcases effOf_f hee with ⟨p, hp⟩ | ⟨m, hm', hrd⟩
              · exact ⟨_, c, dstep_p hp st1, rfl, rfl, rfl, hc, hcan, hcut'⟩
              · have hmay : mayCut (l.map (·.eff)) (l.map (·.an)) j c = true := by
                  unfold mayCut
                  simp only [Bool.and_eq_true, Bool.or_eq_true, Bool.not_eq_true', beq_iff_eq]
                  refine ⟨⟨?_, ?_⟩, ?_⟩
                  · rcases hcan with h0 | ⟨gc, hgc, hgce⟩
                    · exact .inl h0
                    · exact .inr (by rw [List.getElem?_map, hgc]; simpa using hgce)
                  · rw [List.any_eq_false]
                    intro i hi hbad
                    rw [List.mem_range] at hi
                    rw [List.getElem?_map, List.getElem?_map] at hbad
                    cases hgi : l[i]? with
                    | none => rw [hgi] at hbad; simp at hbad
                    | some gi =>
                      rw [hgi] at hbad
                      simp only [Option.map_some, Option.getD_some, Bool.and_eq_true, List.contains_iff_mem] at hbad
                      exact hbehind i gi hgi hbad.2 ((hcut i gi hgi hbad.1).2 hi)
                  · rw [List.any_eq_false]
                    intro i hi hbad
                    rw [List.getElem?_map, hgj] at hi
                    rw [List.getElem?_map] at hbad
                    cases hgi : l[i]? with
                    | none => rw [hgi] at hbad; simp at hbad
                    | some gi =>
                      rw [hgi] at hbad
                      simp only [Option.map_some, Option.getD_some, Bool.and_eq_true, decide_eq_true_eq] at hbad
                      have := (hcut i gi hgi hbad.1).1 (hanc i (by simpa using hi))
                      omega
                rcases d4 hrd c hc hmay with hcc | hown
                rotate_left
                · unfold ownCut at hown
                  simp only [Bool.and_eq_true, decide_eq_true_eq] at hown
                  obtain ⟨hcj, hall⟩ := hown
                  have hcon := tr.const heff c (j - c) (by omega) (fun i gi h1 h2 h3 => by
                    have := List.all_eq_true.1 hall i (List.mem_range.2 (by omega))
                    rw [List.getElem?_map, h3] at this
                    simp only [Option.map_some, Option.getD_some, Bool.or_eq_true, decide_eq_true_eq, Bool.not_eq_true'] at this
                    rcases this with h | h
                    · omega
                    · exact h)
                  rw [show c + (j - c) = j by omega] at hcon
                  have st1' := st1
                  rw [hcon] at st1'
                  obtain ⟨e1, e2⟩ := dstep_keeps hee st1'
                  exact ⟨_, c, st1', rfl, e1, e2, hc, hcan, hcut'⟩
                obtain ⟨x, hx1, hx2⟩ := dchk1_all (dchk_all hck (tr.rc j g hgj)) c hcc
                have hx1' : hh[c]? = some (Hf c) := tr.hs c hc
                rw [hx1'] at hx1; cases hx1
                exact ⟨_, c, dstep_read hm' hrd hx2, rfl, rfl, rfl, hc, hcan, hcut'⟩
          obtain ⟨s, c', hst, hsv, hsh, hsn, hc', hcan', hcut'⟩ := step
          refine dstep_ok H hs hF ho hgo hst hslots (hg.mono hE) hW1 fun v E2 w2 hE2 hr2 hW2 => ?_
          refine ih (U.erase j) _ _ _ ⟨by simpa using hj.size, ?_, ⟨c', E2, hc', hcan', ?_, Env.le_trans hE hE2, by rw [← hsh, ← hsn]; exact hW2, ?_⟩, ?_⟩ ?_ ?_
          · intro i gi hi hL x hx'
            rw [Li_set hls] at hL ⊢
            rcases hL with hL | rfl
            · exact .inl (hj.cl i gi hi hL x hx')
            · rw [hgj] at hi; cases hi; exact .inl (hanc x hx')
          · intro i gi hi hie
            rw [Li_set hls]; exact hcut' i gi hi hie
          · refine (hS.mono hE2).put hgj (by rw [hgo]; exact cOper_dst) (Li_set hls) (fun i gi hi hL d hd1 hd2 => ?_) (by rw [← hsv]; exact hr2)
            rcases Nat.lt_or_ge j i with h | h
            · exfalso
              obtain ⟨_, _, d3', _⟩ := drawOk_at hd hi
              rcases d3' j g h hgj with hm' | ⟨hcl, _⟩
              · exact hbehind i gi hi hm' hL
              · exact (clash_l hcl hd1).2 hd2
            · exact h
          · rw [put_defers]; exact hj.ds
          · have hjU := hUm j hlt hnL
            rw [List.length_erase_of_mem hjU]
            omega
          · intro i hi hL
            rw [Li_set hls] at hL
            have h2 := hUm i hi (fun h => hL (.inl h))
            exact (List.mem_erase_of_ne (fun e => hL (.inr e))).2 h2
      refine wpIn_region_any H.mx ?_
      refine key ops.size (List.range l.length) _ a _ ⟨by simp [hlen], fun i g hi hL => ?_, ⟨0, E, Nat.zero_le _, .inl rfl, fun i g hi _ => ?_, Env.le_refl E, ?_, ?_⟩, hds⟩ (by simp [hlen]) (fun i hi _ => List.mem_range.2 hi)
      · have : ¬ Li (Array.replicate ops.size false) i := by unfold Li; simp [Array.getElem?_replicate]; split <;> simp
        exact absurd hL this
      · have : ¬ Li (Array.replicate ops.size false) i := by unfold Li; simp [Array.getElem?_replicate]; split <;> simp
        exact ⟨fun hL => absurd hL this, fun h => by omega⟩
      · rw [tr.h0]; exact hW.same rfl rfl rfl rfl
      · refine ⟨ht.1, fun d => .inr ⟨fun i g hi hL => ?_, fun v hv => ht.2 d v hv⟩⟩
        have : ¬ Li (Array.replicate ops.size false) i := by unfold Li; simp [Array.getElem?_replicate]; split <;> simp
        exact absurd hL this
end
end Go.Gh
