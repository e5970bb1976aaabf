/- The run is sound: a region that draws its order. -/
import Derived.Test.YtoekfbfgilbgoaaGreatDoorG27
namespace Go.Gh
set_option linter.unusedVariables false

section
variable {P : Program} {X : Cx} {fs : T GFn} {w0 : World} {self : Option Nat → GC → GS → GR}

theorem dstep_eq (g : GD) (t : T GV) (h : T GO) (nx : Nat) : dstep self fs g t h nx = Option.rec none (fun wanted => Bool.rec (some ⟨.tup [], h, nx⟩) (xop self fs t h nx g.o.op) wanted) (gwant t g.o.guard) := rfl

structure Tr (sf : Option Nat → GC → GS → GR) (fs : T GFn) (l : List GD) (t : T GV) (h : T GO) (nx : Nat) (Tm : Nat → T GV) (Hf : Nat → T GO × Nat) (V : Nat → GV) (r : DRes) : Prop where
  t0 : Tm 0 = t
  h0 : Hf 0 = (h, nx)
  st : ∀ (j : Nat) (g : GD), l[j]? = some g → dstep sf fs g (rs (Tm j) g.sl) (Hf j).1 (Hf j).2 = some ⟨V j, (Hf (j + 1)).1, (Hf (j + 1)).2⟩ ∧ Tm (j + 1) = tput (Tm j) g.o.dst (V j)
  te : r.t = Tm l.length
  he : (r.h, r.nx) = Hf l.length
  hs : ∀ c, c ≤ l.length → r.hs[c]? = some (Hf c)
  rc : ∀ (j : Nat) (g : GD), l[j]? = some g → r.rc[j]? = some (g, rs (Tm j) g.sl, V j)

theorem xd_trace : ∀ (l : List GD) {t : T GV} {h : T GO} {nx : Nat} {r : DRes}, xd self fs l t h nx = some r → ∃ Tm Hf V, Tr self fs l t h nx Tm Hf V r
  | [], t, h, nx, r, hx => by
    cases hx
    exact ⟨fun _ => t, fun _ => (h, nx), fun _ => .bad, rfl, rfl, fun j g hj => by simp at hj, rfl, rfl, fun c hc => by
      have : c = 0 := by simpa using hc
      subst this; rfl, fun j g hj => by simp at hj⟩
  | g :: l, t, h, nx, r, hx => by
    obtain ⟨s, hs, hx⟩ := orec_some (show Option.rec none (fun s => MS.casesOn s fun v h' nx' => Option.rec none (fun r => DRes.casesOn r fun tf hf nf hs rc =>
      some ⟨tf, hf, nf, (h, nx) :: hs, (g, rs t g.sl, v) :: rc⟩) (xd self fs l (tput t g.o.dst v) h' nx')) (dstep self fs g (rs t g.sl) h nx) = some r from hx)
    obtain ⟨v, h', nx'⟩ := s
    obtain ⟨r', hr', hx⟩ := orec_some hx
    obtain ⟨tf, hf, nf, hs', rc⟩ := r'
    cases hx
    obtain ⟨Tm, Hf, V, a1, a2, a3, a4, a5, a6, a7⟩ := xd_trace l hr'
    refine ⟨fun j => Nat.casesOn j t Tm, fun j => Nat.casesOn j (h, nx) Hf, fun j => Nat.casesOn j v V, rfl, rfl, ?_, a4, a5, ?_, ?_⟩
    · intro j g' hj
      cases j with
      | zero => cases hj; refine ⟨?_, a1⟩; show dstep self fs g (rs t g.sl) h nx = some ⟨v, (Hf 0).1, (Hf 0).2⟩; rw [a2]; exact hs
      | succ j => exact a3 j g' (by simpa using hj)
    · intro c hc
      cases c with
      | zero => rfl
      | succ c => exact a6 c (by simpa using hc)
    · intro j g' hj
      cases j with
      | zero => cases hj; rfl
      | succ j => exact a7 j g' (by simpa using hj)

theorem effOf_f {op : GOp} (h : effOf op = false) : (∃ p, op = .p p) ∨ ∃ m, op = .m m ∧ readM op = true := by
  cases op with
  | p p => exact .inl ⟨p, rfl⟩
  | m m => exact .inr ⟨m, rfl, by simp [readM, h]⟩
  | _ => cases h
theorem readM_keeps {m : Mf} (hm : readM (.m m) = true) {t : T GV} {h : T GO} {nx : Nat} {s : MS} (hx : mf t h nx m = some s) : s.h = h ∧ s.nx = nx := by
  have he : effOf (.m m) = false := by simpa [readM] using hm
  cases m <;> first | (cases he; done) | skip
  case ld1 x =>
    obtain ⟨b, o, _, hx⟩ := onPtr_some (show mLd1 h nx (ev t x) = some s from hx)
    obtain ⟨_, _, _, _, _, _, hx⟩ := onCells_some hx
    obtain ⟨_, hx⟩ := okIf_some hx
    cases hx; exact ⟨rfl, rfl⟩
  case ldn n x =>
    obtain ⟨b, o, _, hx⟩ := onPtr_some (show mLdn h nx n (ev t x) = some s from hx)
    obtain ⟨_, _, _, _, _, _, hx⟩ := onCells_some hx
    obtain ⟨_, hx⟩ := okIf_some hx
    cases hx; exact ⟨rfl, rfl⟩
  case slarr n z x lo hi mx =>
    obtain ⟨b, o, _, hx⟩ := onPtr_some (show mSlarr t h nx n z (ev t x) lo hi mx = some s from hx)
    obtain ⟨_, _, _, _, _, _, hx⟩ := onCells_some hx
    obtain ⟨_, hx⟩ := okIf_some hx
    obtain ⟨_, _, hx⟩ := orec_some hx
    obtain ⟨_, _, hx⟩ := orec_some hx
    obtain ⟨_, _, hx⟩ := orec_some hx
    obtain ⟨_, hx⟩ := okIf_some hx
    cases hx; exact ⟨rfl, rfl⟩
  case mlen x =>
    rcases onMap_some (show mMlen h nx (ev t x) = some s from hx) with ⟨_, hx⟩ | ⟨r, _, hx⟩
    · cases hx; exact ⟨rfl, rfl⟩
    · obtain ⟨_, _, _, hx⟩ := onMapO_some hx
      cases hx; exact ⟨rfl, rfl⟩
  case look k ok z m key =>
    obtain ⟨_, hx⟩ := okIf_some (show mLook h nx k ok z (ev t m) (ev t key) = some s from hx)
    rcases onMap_some hx with ⟨_, hx⟩ | ⟨r, _, hx⟩
    · cases hx; exact ⟨rfl, rfl⟩
    · obtain ⟨_, _, _, hx⟩ := onMapO_some hx
      obtain ⟨f, _, hx⟩ := orec_some hx
      cases f <;> (cases hx; exact ⟨rfl, rfl⟩)

/-- an operation that does not act leaves the memory -/
theorem dstep_keeps {g : GD} (he : effOf g.o.op = false) {t : T GV} {h : T GO} {nx : Nat} {s : MS} (hx : dstep self fs g t h nx = some s) : s.h = h ∧ s.nx = nx := by
  rw [dstep_eq] at hx
  obtain ⟨b, _, hx⟩ := orec_some hx
  cases b with
  | false => cases hx; exact ⟨rfl, rfl⟩
  | true =>
    rcases effOf_f he with ⟨p, hp⟩ | ⟨m, hm, hr⟩
    · rw [hp] at hx
      obtain ⟨v, _, hx⟩ := orec_some (show Option.rec none (fun v => some ⟨v, h, nx⟩) (pf t p) = some s from hx)
      cases hx; exact ⟨rfl, rfl⟩
    · rw [hm] at hx hr
      exact readM_keeps hr (show mf t h nx m = some s from hx)
/-- a pure operation -/
theorem dstep_p {g : GD} {p : Pf} (hp : g.o.op = .p p) {t : T GV} {h h' : T GO} {nx nx' : Nat} {s : MS} (hx : dstep self fs g t h nx = some s) : dstep self fs g t h' nx' = some ⟨s.v, h', nx'⟩ := by
  rw [dstep_eq] at hx ⊢
  obtain ⟨b, hb, hx⟩ := orec_some hx
  rw [hb]
  cases b with
  | false => cases hx; rfl
  | true =>
    rw [hp] at hx ⊢
    obtain ⟨v, hv, hx⟩ := orec_some (show Option.rec none (fun v => some ⟨v, h, nx⟩) (pf t p) = some s from hx)
    cases hx
    show (Option.rec none (fun v => some ⟨v, h', nx'⟩) (pf t p) : Option MS) = _
    rw [hv]
theorem xread_eq (o : GOper) (t : T GV) (h : T GO) (nx : Nat) : xread t h nx o = Option.rec none (fun wanted => Bool.rec (some (.tup [])) (GOp.casesOn o.op (fun p => pf t p) (fun m => Option.rec none (fun s => some s.v) (mf t h nx m)) (fun _ _ => none) (fun _ _ => none) (fun _ => none) (fun _ _ => none) none (fun _ => none) none) wanted) (gwant t o.guard) := rfl
theorem dstep_read {g : GD} {m : Mf} (hm : g.o.op = .m m) (hr : readM g.o.op = true) {t : T GV} {h : T GO} {nx : Nat} {v : GV} (hx : xread t h nx g.o = some v) : dstep self fs g t h nx = some ⟨v, h, nx⟩ := by
  rw [xread_eq] at hx
  rw [dstep_eq]
  obtain ⟨b, hb, hx⟩ := orec_some hx
  rw [hb]
  cases b with
  | false => cases hx; rfl
  | true =>
    rw [hm] at hx hr ⊢
    obtain ⟨s, hs, hx⟩ := orec_some (show Option.rec none (fun s => some s.v) (mf t h nx m) = some v from hx)
    cases hx
    obtain ⟨h1, h2⟩ := readM_keeps hr hs
    show mf t h nx m = _
    rw [hs, ← h1, ← h2]

theorem dchk_all {hs : List (T GO × Nat)} : ∀ {rc : List (GD × T GV × GV)}, dchk hs rc = true → ∀ {j : Nat} {x : GD × T GV × GV}, rc[j]? = some x → dchk1 x.1.o x.2.1 x.2.2 hs x.1.cs = true
  | [], _, j, x, hj => by simp at hj
  | y :: rc, hd, j, x, hj => by
    obtain ⟨h1, h2⟩ := band_t (show band (dchk1 y.1.o y.2.1 y.2.2 hs y.1.cs) (dchk hs rc) = true from hd)
    cases j with
    | zero => cases hj; exact h1
    | succ j => exact dchk_all h2 (j := j) (by simpa using hj)
theorem dchk1_all {o : GOper} {t : T GV} {v : GV} {hs : List (T GO × Nat)} : ∀ {cs : List Nat}, dchk1 o t v hs cs = true → ∀ c ∈ cs, ∃ x, hs[c]? = some x ∧ xread t x.1 x.2 o = some v
  | [], _, c, hc => by simp at hc
  | y :: cs, hd, c, hc => by
    obtain ⟨h1, h2⟩ := band_t (show band (Option.rec false (fun x => Option.rec false (fun v' => gsame v' v) (xread t x.1 x.2 o)) (hs[y]?)) (dchk1 o t v hs cs) = true from hd)
    rcases List.mem_cons.1 hc with rfl | hc
    · cases hx : hs[c]? with
      | none => rw [hx] at h1; cases h1
      | some x =>
        rw [hx] at h1
        change (Option.rec false (fun v' => gsame v' v) (xread t x.1 x.2 o) : Bool) = true at h1
        cases hr : xread t x.1 x.2 o with
        | none => rw [hr] at h1; cases h1
        | some v' => rw [hr] at h1; exact ⟨x, rfl, by rw [hr, gsame_eq h1]⟩
    · exact dchk1_all h2 c hc

theorem get_rs (t : T GV) : ∀ (l : List Nat) (n : Nat), (rs t l).get n = if n ∈ l then t.get n else none
  | [], n => by simp [rs, T.get_nil]
  | x :: l, n => by
    have ih := get_rs t l n
    show (Option.rec (rs t l) (fun v => T.set (rs t l) x v) (t.get x) : T GV).get n = _
    cases hx : t.get x with
    | none =>
      show (rs t l).get n = _
      rw [ih]
      by_cases e : n = x
      · subst e; simp [hx]
      · simp [e]
    | some v =>
      show (T.set (rs t l) x v).get n = _
      rw [T.get_set]
      by_cases e : n = x
      · subst e; simp [hx]
      · rw [if_neg e, ih]; simp [e]

/-- one operation of the region, at its turn -/
theorem dstep_ok (H : FOk P X fs) (hs : SelfOk P X w0 self) {N n j : Nat} {F : Fence} (hF : Wd F) {ops : Array Oper} {o : Oper} (ho : ops[j]? = some o) {g : GD} (hgo : g.o = cOper { X with nt := N } P ops o) {t : T GV} {h : T GO} {nx : Nat} {s : MS} (hx : dstep self fs g t h nx = some s)
    {a : Act} {w : World} {E : Env} (ht : TR E N t a.tmps) (hg : GL E X.ng) (hW : WR (CRX X P) E w0 h nx w) {K : Act → World → Prop} {Q : Exit → Act → World → Prop}
    (hk : ∀ v E' w', E.le E' → R E' s.v v → WR (CRX X P) E' w0 s.h s.nx w' → K (a.put o.dst v) w') : wpOpIn F n P ops Q j K a w := by
  rw [dstep_eq, hgo] at hx
  obtain ⟨b, hb, hx⟩ := orec_some hx
  unfold wpOpIn
  simp only [ho]
  rw [gwant_ok ht hb]
  cases b with
  | false =>
    cases hx
    rw [if_neg (by decide)]
    exact ⟨fun f _ => hF.fn f, hk undef E w (Env.le_refl E) undef_ok hW⟩
  | true =>
    rw [if_pos rfl]
    exact xop_ok H hs (dst_op hx) hF ht hg hW hk
end
end Go.Gh
