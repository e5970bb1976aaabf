/- The run is sound: calls, rounds, operations. -/
import Derived.Test.YtpdaickealgnhaaGreatDoorHJ
namespace Go.Gh
set_option linter.unusedVariables false

section
variable {P : Program} {X : Cx} {fs : T GFn} {w0 : World} {self : Option Nat → GC → GS → GR}

def SelfOk (P : Program) (X : Cx) (w0 : World) (self : Option Nat → GC → GS → GR) : Prop :=
  ∀ (n : Nat) (rd : Option Nat) (N : Nat) (c : Code) (s : GS) (F : Fence) (a : Act) (w : World) (E : Env),
    Good (self rd (cCode { X with nt := N } P c) s) → Wd F → RdOk E rd F.round → GL E X.ng → Rel X P N w0 s a w E →
    c.wpIn F n P (Post X P N w0 E (self rd (cCode { X with nt := N } P c) s)) a w

theorem xjoin_ok {x y s : MS} (h : xjoin x y = some s) : (∀ (E : Env) (v : Value), (R E x.v v → R E s.v v) ∧ (R E y.v v → R E s.v v)) ∧ (∀ g o, s.h.get g = some o → x.h.get g = some o ∧ y.h.get g = some o) ∧ x.nx ≤ s.nx ∧ y.nx ≤ s.nx := by
  obtain ⟨v, h1, n1⟩ := x
  obtain ⟨v', h2, n2⟩ := y
  obtain ⟨u, hv, h⟩ := orec_some (show Option.rec none (fun u => some ⟨u, meet h1 h2, Bool.rec n1 n2 (Nat.ble n1 n2)⟩) (vjoin v v') = some s from h)
  cases h
  refine ⟨vjoin_ok hv, fun g o hg => meet_get _ _ _ _ hg, ?_, ?_⟩
  · show n1 ≤ Bool.rec n1 n2 (Nat.ble n1 n2)
    cases hb : Nat.ble n1 n2 with
    | true => exact ble_t hb
    | false => exact Nat.le_refl _
  · show n2 ≤ Bool.rec n1 n2 (Nat.ble n1 n2)
    cases hb : Nat.ble n1 n2 with
    | true => exact Nat.le_refl _
    | false => have := ble_f hb; exact Nat.le_of_lt this
theorem xfin_alt {res : List GRes} {a b : GR} {s : MS} (h : xfin self fs res (.alt a b) = some s) : ∃ x y, xfin self fs res a = some x ∧ xfin self fs res b = some y ∧ xjoin x y = some s := by
  obtain ⟨x, hx, h⟩ := orec_some (show Option.rec none (fun x => Option.rec none (fun y => xjoin x y) (xfin self fs res b)) (xfin self fs res a) = some s from h)
  obtain ⟨y, hy, h⟩ := orec_some h
  exact ⟨x, y, hx, hy, h⟩
theorem xfin_ne {res : List GRes} {r : GR} {s : MS} (h : xfin self fs res r = some s) : Good r := by
  induction r generalizing s with
  | fail => cases h
  | alt a b iha ihb => obtain ⟨x, y, h1, h2, _⟩ := xfin_alt h; exact ⟨iha h1, ihb h2⟩
  | _ => trivial
theorem xfin_post {N : Nat} {E : Env} {res : List GRes} {r : GR} {s : MS} (h : xfin self fs res r = some s) {e : Exit} {a : Act} {w : World} (hp : Post X P N w0 E r e a w) :
    ∃ s1 sx, xout self fs res s1 = some sx ∧ (e = .normal ∨ e = .ret) ∧ (∃ E', E.le E' ∧ Rel X P N w0 s1 a w E') ∧ (∀ (E : Env) (v : Value), R E sx.v v → R E s.v v) ∧ (∀ g o, s.h.get g = some o → sx.h.get g = some o) ∧ sx.nx ≤ s.nx := by
  induction r generalizing s with
  | norm s1 => cases e <;> first | exact hp.elim | exact ⟨s1, s, h, .inl rfl, hp, fun _ _ h => h, fun _ _ h => h, Nat.le_refl _⟩
  | ret s1 => cases e <;> first | exact hp.elim | exact ⟨s1, s, h, .inr rfl, hp, fun _ _ h => h, fun _ _ h => h, Nat.le_refl _⟩
  | exit id s1 => cases h
  | goto l s1 => cases h
  | fail => cases h
  | alt p q ihp ihq =>
    obtain ⟨x, y, h1, h2, h3⟩ := xfin_alt h
    obtain ⟨j1, j3, j4, j5⟩ := xjoin_ok h3
    rcases hp with hp | hp
    · obtain ⟨s1, sx, k1, k2, k3, k4, k5, k6⟩ := ihp h1 hp
      exact ⟨s1, sx, k1, k2, k3, fun E v hv => (j1 E v).1 (k4 E v hv), fun g o hg => k5 g o (j3 g o hg).1, Nat.le_trans k6 j4⟩
    · obtain ⟨s1, sx, k1, k2, k3, k4, k5, k6⟩ := ihq h2 hp
      exact ⟨s1, sx, k1, k2, k3, fun E v hv => (j1 E v).2 (k4 E v hv), fun g o hg => k5 g o (j3 g o hg).2, Nat.le_trans k6 j5⟩

theorem enter_ok (H : FOk P X w0 fs) {f : Nat} {g : GFn} (hgf : fs.get f = some g) (ar : Array Value) (w : World) : (callFunc f ar).run P w = .ok (.enter f ar) w := by
  obtain ⟨fn, c, hf, hname, hb, hgo⟩ := H.fn f _ hgf
  have hp : (program).run P w = .ok P w := rfl
  simp only [callFunc, Sem.run_bind, hp, Result.andThen_ok, hf, hname, hb, Option.isNone_some, Bool.false_eq_true, if_false]; rfl
theorem start_rel {N : Nat} {args : List GV} {vals : List Value} {h : T GO} {nx : Nat} {E : Env} {w : World} (hle : args.length ≤ N) (ha : RL E args vals) (hW : WR (CRX X P) E w0 h nx w) :
    Rel X P N w0 ⟨T.lay args 0 .nil, [], h, nx⟩ { tmps := vals.toArray ++ Array.replicate (N - vals.toArray.size) undef, defers := [] } w E := by
  have hlen := ha.length
  refine ⟨⟨by simp; omega, fun i v hi => ?_⟩, by simp only [DR], hW⟩
  have hi : (T.lay args 0 .nil).get i = some v := hi
  rw [T.get_lay] at hi
  by_cases hlt : 0 ≤ i ∧ i < 0 + args.length
  · rw [if_pos hlt] at hi
    obtain ⟨x, hx', hr⟩ := ha.get (i := i) (by simpa using hi)
    exact ⟨by omega, x, by rw [Array.getElem?_append_left (by simp; omega)]; simpa using hx', hr⟩
  · rw [if_neg hlt, T.get_nil] at hi; cases hi

/-- a function called at the end of another -/
theorem xcallD_ok (H : FOk P X w0 fs) (hs : SelfOk P X w0 self) {f : Nat} {args : List GV} {h : T GO} {nx : Nat} {s : MS} {E : Env} {w : World} (hx : xcallD self fs f args h nx = some s) {vals : List Value} (ha : RL E args vals) (hg : GL E X.ng) (hW : WR (CRX X P) E w0 h nx w) :
    (∀ n, CallsDIn Fence.wide n P f vals.toArray .returning w fun e u w' => (∃ v, e = .returned v) ∧ u = .returning ∧ ∃ E', E.le E' ∧ WR (CRX X P) E' w0 s.h s.nx w') ∧ ∀ (ar : Array Value) (w : World), (callFunc f ar).run P w = .ok (.enter f ar) w := by
  obtain ⟨g, hgf, hx1⟩ := orec_some hx
  refine ⟨fun n => ?_, enter_ok H hgf⟩
  obtain ⟨fn, c, hf, hname, hb, hgo⟩ := H.fn f _ hgf
  cases g with
  | sm σ => cases hx1
  | quiet =>
    cases hx1
    exact (hgo n vals.toArray w).mono fun e u w' ⟨h1, h2, h3⟩ => ⟨h1, h2, E, Env.le_refl E, h3 ▸ hW⟩
  | code body res nt =>
    cases res with
    | cons r res => cases hx1
    | nil =>
      obtain ⟨hle, hx2⟩ := okIf_some (show okIf (Nat.ble args.length nt) (xfinD (self none body ⟨T.lay args 0 .nil, [], h, nx⟩)) = some s from hx1)
      obtain ⟨hbody, hnt, hres⟩ := hgo
      subst hnt; subst hbody
      have hne : Good (self none (cCode { X with nt := fn.ntmps } P c) ⟨T.lay args 0 .nil, [], h, nx⟩) := by
        revert hx2
        cases self none (cCode { X with nt := fn.ntmps } P c) ⟨T.lay args 0 .nil, [], h, nx⟩ <;> intro hx2 <;> first | trivial | cases hx2
      have hw := hs n none fn.ntmps c _ Fence.wide _ w E hne (.inl rfl) trivial hg (start_rel (ble_t hle) ha hW)
      have hc := callsDIn_of_wp (u := .returning) (R := fun e w' => (∃ v, e = .returned v) ∧ ∃ E', E.le E' ∧ WR (CRX X P) E' w0 s.h s.nx w') hf hb trivial (wpIn_mono hw fun e a' w' hp => by
        have fin : ∀ s1 : GS, (GS.casesOn s1 fun _ ds h nx => List.casesOn ds (some ⟨.tup [], h, nx⟩) (fun _ _ => none) : Option MS) = some s → (∃ E', E.le E' ∧ Rel X P fn.ntmps w0 s1 a' w' E') →
            a'.defers = [] ∧ ∃ v, (results fn a'.tmps).run P w' = .ok v w' ∧ (∃ v', Ending.returned v = .returned v') ∧ ∃ E', E.le E' ∧ WR (CRX X P) E' w0 s.h s.nx w' := by
          rintro ⟨t1, ds1, h1, nx1⟩ hx ⟨E', hE, ht, hd, hW'⟩
          cases ds1 with
          | cons d ds => cases hx
          | nil =>
            cases hx
            obtain ⟨v, hv, _⟩ := results_ok (vs := []) H.tb ht hW' hres (show xress t1 h1 [] = some [] from rfl)
            exact ⟨hd, v, hv, ⟨v, rfl⟩, E', hE, hW'⟩
        revert hx2 hp
        generalize self none (cCode { X with nt := fn.ntmps } P c) ⟨T.lay args 0 .nil, [], h, nx⟩ = r
        intro hx2 hp
        cases r <;> cases e <;> first | exact hp.elim | (cases hx2; done) | exact fin _ hx2 hp)
      exact hc.mono fun e u w' ⟨h1, h2, h3⟩ => ⟨h2, h1, h3⟩

theorem leave_ok (H : FOk P X w0 fs) (hs : SelfOk P X w0 self) {n : Nat} {fn : Func} {tm : Array Value} {Q : Ending → World → Prop} : ∀ (ds : List Dq) (dl : List Deferred) {E : Env} {h : T GO} {nx : Nat} {s : MS} {w : World}, xleave self fs ds h nx = some s → DR E ds dl → GL E X.ng → WR (CRX X P) E w0 h nx w →
    (∀ E' w', E.le E' → WR (CRX X P) E' w0 s.h s.nx w' → LeavesIn Fence.wide n P fn tm Q [] .returning w') → LeavesInM Fence.wide n P fn tm Q dl .returning w
  | [], dl, E, h, nx, s, w, hx, hd, hg, hW, hk => by
    simp only [DR] at hd; subst hd
    cases hx
    exact hk E w (Env.le_refl E) hW
  | .col g :: ds, dl, E, h, nx, s, w, hx, hd, hg, hW, hk => by
    obtain ⟨cb, l', rfl, hm, hd⟩ := hd
    obtain ⟨hgd, hx⟩ := onDefs_some (show onDefs none (h.get g) (xleave self fs ds (T.del h g) nx) = some s from hx)
    have hob := hW.obj g _ hgd
    simp only [OR] at hob
    obtain ⟨cb', q1, q2, q3⟩ := hob
    rw [hm] at q1; cases q1
    refine ⟨by simp, .inl ⟨cb, _, rfl, run_takeDeferred q2, ?_⟩⟩
    refine leave_ok H hs ds l' hx hd hg ?_ hk
    refine (hW.kill g).blind q2 (fun _ _ _ h => by cases h) q3 fun g' o c' hg' hm' => ?_
    rw [T.get_del] at hg'
    by_cases e : g' = g
    · rw [if_pos e] at hg'; cases hg'
    · rw [if_neg e] at hg'
      exact e (hW.inj g' g o _ _ _ _ hg' hgd hm' hm)
  | .fn f as :: ds, dl, E, h, nx, s, w, hx, hd, hg, hW, hk => by
    obtain ⟨cap, dargs, l', rfl, hr, hd⟩ := hd
    obtain ⟨s1, hx1, hx2⟩ := orec_some (show Option.rec none (fun s => MS.casesOn s fun _ h nx => xleave self fs ds h nx) (xcallD self fs f as h nx) = some s from hx)
    obtain ⟨v1, h1, nx1⟩ := s1
    have hx2 : xleave self fs ds h1 nx1 = some s := hx2
    obtain ⟨c1, c2⟩ := xcallD_ok H hs hx1 hr hg hW
    have e : (dargs.toList ++ cap.toList).toArray = dargs ++ cap := by simp [← Array.toList_inj]
    rw [e] at c1
    refine ⟨by simp, .inr ⟨(fun hd => by cases hd), .func f, cap, f, dargs ++ cap, rfl, by simp only [invoke]; exact c2 _ _, fun _ _ => trivial, ?_⟩⟩
    refine (c1 (n - 1)).mono fun e' u w' ⟨⟨v, he⟩, hu, E', hE, hW'⟩ => ?_
    subst he; subst hu
    exact leave_ok H hs ds l' hx2 (hd.mono hE) (hg.mono hE) hW' (fun E2 w2 hE2 hW2 => hk E2 w2 (Env.le_trans hE hE2) hW2)

theorem xcall_ok (H : FOk P X w0 fs) (hs : SelfOk P X w0 self) {f : Nat} {args : List GV} {h : T GO} {nx : Nat} {s : MS} {E : Env} {w : World} (hx : xcall self fs f args h nx = some s) {vals : List Value} (ha : RL E args vals) (hg : GL E X.ng) (hW : WR (CRX X P) E w0 h nx w) :
    (∀ n, CallsIn Fence.wide n P f vals.toArray w (CPost X P w0 E s)) ∧ ∀ (ar : Array Value) (w : World), (callFunc f ar).run P w = .ok (.enter f ar) w := by
  obtain ⟨g, hgf, hx1⟩ := orec_some hx
  obtain ⟨fn, c, hf, hname, hb, hgo⟩ := H.fn f _ hgf
  cases g with
  | sm σ => exact ⟨hgo args vals h nx s E w hx1 ha hg hW, enter_ok H hgf⟩
  | quiet => cases hx1
  | code body res nt =>
  obtain ⟨hle, hx2⟩ := okIf_some (show okIf (Nat.ble args.length nt) (xfin self fs res (self none body ⟨T.lay args 0 .nil, [], h, nx⟩)) = some s from hx1)
  clear hx hx1
  obtain ⟨hbody, hnt, hres⟩ := hgo
  subst hnt; subst hbody
  refine ⟨fun n => ?_, enter_ok H hgf⟩
  refine callsIn_of_wp_marks hf hb trivial ?_
  have hw := hs n none fn.ntmps c _ Fence.wide _ w E (xfin_ne hx2) (.inl rfl) trivial hg (start_rel (ble_t hle) ha hW)
  refine wpIn_mono hw fun e a' w' hp => ?_
  obtain ⟨s1, sx, k1, k2, k3, k4, k5, k6⟩ := xfin_post hx2 hp
  have fin : LeavesInM Fence.wide n P fn a'.tmps (CPost X P w0 E s) a'.defers .returning w' := by
    obtain ⟨t1, ds1, h1, nx1⟩ := s1
    obtain ⟨E', hE, ht, hd, hW'⟩ := k3
    obtain ⟨s2, hl, hx⟩ := orec_some (show Option.rec none (fun s' => MS.casesOn s' fun _ h' nx' => Option.rec none (fun vs => some ⟨xresv vs, h', nx'⟩) (xress t1 h' res)) (xleave self fs ds1 h1 nx1) = some sx from k1)
    obtain ⟨v2, h2, nx2⟩ := s2
    obtain ⟨vs, hvs, hx⟩ := orec_some (show Option.rec none (fun vs => some ⟨xresv vs, h2, nx2⟩) (xress t1 h2 res) = some sx from hx)
    cases hx
    refine leave_ok H hs ds1 _ hl hd (hg.mono hE) hW' fun E2 w'' hE2 hW'' => ?_
    obtain ⟨v, hv, hr⟩ := results_ok H.tb (ht.mono hE2) hW'' hres hvs
    exact ⟨v, hv, v, E2, rfl, Env.le_trans hE hE2, k4 _ _ hr, hW''.sub k5 k6⟩
  rcases k2 with rfl | rfl
  · exact fin
  · exact fin

/-! ### rounds -/
theorem onLoop_some {β : Type} {o : Option GO} {f : LoopState → Option GC → T GV → List Nat → GC → GC → Option β} {r : β} (h : onLoop none o f = some r) : ∃ st pe t ps as bd, o = some (.loop st pe t ps as bd) ∧ f st pe t ps as bd = some r := by
  cases o with
  | none => cases h
  | some o => cases o <;> first | exact ⟨_, _, _, _, _, _, rfl, h⟩ | cases h
theorem isReady_t {s : LoopState} (h : isReady s = true) : s = .ready := by cases s <;> first | rfl | cases h

theorem loopObj {CR : Nat → Code → GC → Prop} {E : Env} {h : T GO} {nx : Nat} {w : World} (hW : WR CR E w0 h nx w) {l : Nat} {st : LoopState} {pe : Option GC} {t : T GV} {ps : List Nat} {ga gb : GC} (hl : h.get l = some (.loop st pe t ps ga gb)) {cb : Nat} (hm : E.m l = some (cb, 0)) :
    ∃ r N, w.heap[cb]? = some (.loop r) ∧ w0.heap.size ≤ cb ∧ r.state = st ∧ r.params = ps.toArray ∧ TR E N t r.tmps ∧ (∀ p ∈ ps, p < N) ∧ CR N r.assign ga ∧ CR N r.body gb ∧ PE CR pe r.pending := by
  have := hW.obj l _ hl
  simp only [OR] at this
  obtain ⟨cb', r, h1, h2, h3, h4, h5, N, h6, h7, h8, h9, h10⟩ := this
  rw [hm] at h1; cases h1
  exact ⟨r, N, h2, h3, h4, h5, h6, h7, h8, h9, h10⟩

theorem setps_ok {E : Env} {N : Nat} : ∀ (ps : List Nat) (vs : List GV) (xs : List Value) {t : T GV} {tm : Array Value}, TR E N t tm → RL E vs xs → (∀ p ∈ ps, p < N) → vs.length = ps.length →
    TR E N (setps ps vs t) ((ps.zip xs).foldl (fun tmps (x : Nat × Value) => tmps.setIfInBounds x.1 x.2) tm)
  | [], vs, xs, t, tm, ht, hr, hp, hl => by simpa [setps] using ht
  | p :: ps, vs, xs, t, tm, ht, hr, hp, hl => by
    cases vs with
    | nil => simp at hl
    | cons v vs =>
      simp only [RL] at hr
      obtain ⟨x, r, rfl, h1, h2⟩ := hr
      exact setps_ok ps vs r (ht.set (hp p (by simp)) h1) h2 (fun q hq => hp q (List.mem_cons_of_mem _ hq)) (by simpa using hl)


def JE (X : Cx) (P : Program) (jump : Option GC) (cj : Option Code) : Prop := match jump, cj with
  | none, none => True
  | some g, some c => ∀ N, CRX X P N c g
  | _, _ => False
/-- the round's end -/
theorem xend_ok {E : Env} {l cb : Nat} (hm : E.m l = some (cb, 0)) {jump : Option GC} {cj : Option Code} (hj : JE X P jump cj)
    {s1 : GS} {s : MS} (hx : xend l jump s1 = some s) {w : World} (hW : WR (CRX X P) E w0 s1.h s1.nx w) :
    ∃ v w', (Instr.endRound cb cj).run P w = .ok v w' ∧ R E s.v v ∧ WR (CRX X P) E w0 s.h s.nx w' := by
  obtain ⟨t1, ds1, h1, nx1⟩ := s1
  obtain ⟨st, pe, t, ps, as, bd, hl, hx⟩ := onLoop_some (show onLoop none (h1.get l) (fun _ _ t ps as bd => some ⟨.bool (Option.rec true (fun _ => false) jump), h1.set l (.loop (Option.rec .ready (fun _ => .done) jump) jump t ps as bd), nx1⟩) = some s from hx)
  cases hx
  obtain ⟨r, N, q1, q2, q3, q4, q5, q6, q7, q8, q9⟩ := loopObj hW hl hm
  refine ⟨_, _, run_endRound cj q1, ?_, ?_⟩
  · cases jump <;> cases cj <;> first | exact hj.elim | simp only [R]; rfl
  · refine updObj_ok hW hl hm q1 (fun _ _ _ h => by cases h) q2 ?_
    simp only [OR]
    refine ⟨cb, _, hm, World.putObj_heap_same (heap_lt q1), q2, ?_, q4, N, q5, q6, q7, q8, ?_⟩
    · cases jump <;> cases cj <;> first | exact hj.elim | rfl
    · cases jump <;> cases cj <;> first | exact hj.elim | trivial | exact hj

theorem xround_ok (H : FOk P X w0 fs) (hs : SelfOk P X w0 self) {l : Nat} {args : List GV} {h : T GO} {nx : Nat} {s : MS} {E : Env} {w : World} (hx : xround self l args h nx = some s) {vals : List Value} (ha : RL E args vals) (hg : GL E X.ng) (hW : WR (CRX X P) E w0 h nx w) {cb : Nat} (hm : E.m l = some (cb, 0)) :
    ∃ f tm ca cbd, (∀ ar : Array Value, ar = vals.toArray → (Instr.yield cb ar).run P w = .ok (.round cb f tm ca cbd) w) ∧ ∀ n, RoundIn Fence.wide n P cb f tm ca cbd w (CPost X P w0 E s) := by
  obtain ⟨st, pe, t, ps, as, bd, hl, hx1⟩ := onLoop_some hx
  obtain ⟨hcond, hx2⟩ := okIf_some hx1
  clear hx hx1
  obtain ⟨hst, hlen⟩ := band_t hcond
  have hst := isReady_t hst; subst hst
  have hlen : args.length = ps.length := beq_t hlen
  obtain ⟨r, N, q1, q2, q3, q4, q5, q6, q7, q8, q9⟩ := loopObj hW hl hm
  have hvl := ha.length
  refine ⟨r.fn, (r.params.zip vals.toArray).foldl (fun tmps (x : Nat × Value) => tmps.setIfInBounds x.1 x.2) r.tmps, r.assign, r.body, fun ar har => by subst har; exact run_yield q1 (by rw [q4]; simp; omega), fun n => ?_⟩
  refine roundIn_of_wpIn trivial ?_
  have htr : TR E N (setps ps args t) ((r.params.zip vals.toArray).foldl (fun tmps (x : Nat × Value) => tmps.setIfInBounds x.1 x.2) r.tmps) := by
    have := setps_ok ps args vals q5 ha q6 hlen
    rw [q4]
    have e : (ps.toArray.zip vals.toArray) = (ps.zip vals).toArray := by simp
    rw [e]
    simpa using this
  have hq7 : as = cCode { X with nt := N } P r.assign := q7
  subst hq7
  have hne : Good (self (some l) (cCode { X with nt := N } P r.assign) ⟨setps ps args t, [], h, nx⟩) := by
    revert hx2
    cases self (some l) (cCode { X with nt := N } P r.assign) ⟨setps ps args t, [], h, nx⟩ <;> intro hx2 <;> first | trivial | cases hx2
  have hw := hs n (some l) N r.assign _ (Fence.wide.inRound cb) { tmps := _, defers := [] } w E hne (.inr ⟨cb, rfl⟩) (show E.m l = some (cb, 0) from hm) hg ⟨htr, by simp only [DR], hW⟩
  refine wpIn_mono hw fun e a1 w1 hp => ?_
  revert hx2 hp
  generalize self (some l) (cCode { X with nt := N } P r.assign) _ = r1
  intro hx hp
  cases r1 <;> cases e <;> first | exact hp.elim | (cases hx; done) | skip
  rename_i s1
  obtain ⟨t1, ds1, h1, nx1⟩ := s1
  obtain ⟨E1, hE1, ht1, hd1, hW1⟩ := hp
  obtain ⟨st1, pe1, t', ps', as', bd', hl1, hx3⟩ := onLoop_some (show onLoop none (h1.get l) _ = some s from hx)
  obtain ⟨hst1, hx4⟩ := okIf_some hx3
  clear hx hx3
  have hst1 := isReady_t hst1; subst hst1
  have hm1 := hE1.1 _ _ hm
  obtain ⟨r2, N2, p1, p2, p3, p4, p5, p6, p7, p8, p9⟩ := loopObj hW1 hl1 hm1
  refine ⟨_, run_beginRound p1 p3, ?_⟩
  have hW2 : WR (CRX X P) E1 w0 (h1.set l (.loop .busy pe1 t' ps' as' bd')) nx1 (w1.putObj cb (.loop { r2 with state := .busy })) := by
    refine updObj_ok hW1 hl1 hm1 p1 (fun _ _ _ h => by cases h) p2 ?_
    simp only [OR]
    exact ⟨cb, _, hm1, World.putObj_heap_same (heap_lt p1), p2, rfl, p4, N2, p5, p6, p7, p8, p9⟩
  have hq8 : bd = cCode { X with nt := N } P r.body := q8
  subst hq8
  have hne : Good (self (some l) (cCode { X with nt := N } P r.body) ⟨t1, ds1, h1.set l (.loop .busy pe1 t' ps' as' bd'), nx1⟩) := by
    revert hx4
    cases self (some l) (cCode { X with nt := N } P r.body) ⟨t1, ds1, h1.set l (.loop .busy pe1 t' ps' as' bd'), nx1⟩ <;> intro hx4 <;> first | trivial | cases hx4
  have hw := hs n (some l) N r.body _ (Fence.wide.inRound cb) a1 _ E1 hne (.inr ⟨cb, rfl⟩) (show E1.m l = some (cb, 0) from hm1) (hg.mono hE1) ⟨ht1, hd1, hW2⟩
  refine wpIn_mono hw fun e a2 w2 hp => ?_
  revert hx4 hp
  generalize self (some l) (cCode { X with nt := N } P r.body) _ = r3
  intro hx hp
  have fin : ∀ {jump : Option GC} {cj : Option Code} {s2 : GS}, xend l jump s2 = some s → JE X P jump cj → (∃ E', E1.le E' ∧ Rel X P N w0 s2 a2 w2 E') →
      ∃ v w', (Instr.endRound cb cj).run P w2 = .ok v w' ∧ CPost X P w0 E s (.returned v) w' := by
    rintro jump cj s2 hx hj ⟨E2, hE2, ht2, hd2, hW2⟩
    obtain ⟨v, w', h1, h2, h3⟩ := xend_ok (hE2.1 _ _ hm1) hj hx hW2
    exact ⟨v, w', h1, v, E2, rfl, Env.le_trans hE1 hE2, h2, h3⟩
  cases r3 <;> cases e <;> first | exact hp.elim | (cases hx; done) | skip
  · exact fin hx trivial hp
  · obtain ⟨rfl, hp⟩ := hp; exact fin hx (fun N => rfl) hp
  · obtain ⟨rfl, hp⟩ := hp; exact fin hx (fun N => rfl) hp
  · exact fin hx (fun N => rfl) hp
end
end Go.Gh

/- The run is sound: operations, regions, loops over functions. -/
namespace Go.Gh
set_option linter.unusedVariables false

section
variable {P : Program} {X : Cx} {fs : T GFn} {w0 : World} {self : Option Nat → GC → GS → GR}

theorem cPf_defer {tb : T TypeInfo} {ng : Nat} {c : Call} : cPf P tb ng (.defer c) = none := rfl
theorem cMf_defer {c : Call} : cMf X P (.defer c) = none := rfl
theorem onFunc_some {β : Type} {f : Fn} {k : Nat → Option β} {r : β} (h : onFunc none f k = some r) : ∃ n, f = .func n ∧ k n = some r := by cases f <;> first | exact ⟨_, rfl, h⟩ | cases h

/-- an operation, wanted -/
theorem xop_ok (H : FOk P X w0 fs) (hs : SelfOk P X w0 self) {o : Oper} {N : Nat} {t : T GV} {h : T GO} {nx : Nat} {s : MS} (hx : xop self fs t h nx (cOp { X with nt := N } P o.op) = some s) {F : Fence} (hF : Wd F) {a : Act} {w : World} {E : Env} {M : Nat}
    (ht : TR E M t a.tmps) (hg : GL E X.ng) (hW : WR (CRX X P) E w0 h nx w) {n : Nat} {next : Act → World → Prop} {Q : Exit → Act → World → Prop}
    (hk : ∀ v E' w', E.le E' → R E' s.v v → WR (CRX X P) E' w0 s.h s.nx w' → next (a.put o.dst v) w') : o.wpIn F n P a w next Q := by
  refine ⟨fun f _ => hF.fn f, ?_⟩
  have sem : (∀ c, o.op ≠ .defer c) → o.semAt F.round a.eval = execOp a.eval o := fun hd => Oper.semAt_eq _ _ _ hd
  have call : ∀ {f : Nat} {args : List GV} {vals : List Value}, (∀ c, o.op ≠ .defer c) → xcall self fs f args h nx = some s → RL E args vals → (execOp a.eval o).run P w = (callFunc f vals.toArray).run P w → o.uponIn F n P a next Q ((o.semAt F.round a.eval).run P w) := by
    intro f args vals hd hc ha he
    obtain ⟨h1, h2⟩ := xcall_ok H hs hc ha hg hW
    rw [sem hd, he, h2, Oper.uponIn_enter]
    refine ⟨(fun hd => by rw [hF.depth] at hd; cases hd), hF.calls ((h1 (n - 1)).mono fun e w' he => ?_)⟩
    obtain ⟨v, E', rfl, e1, e2, e3⟩ := he
    exact hk v E' w' e1 e2 e3
  unfold cOp at hx
  split at hx
  · rename_i x ho
    cases hcx : cod X.ng x with
    | none => simp only [hcx] at hx; cases hx
    | some ox =>
      simp only [hcx] at hx
      have hmm : cMf X P o.op = some (.nxtm ox) := by rw [ho]; simp only [cMf, hcx, Option.map_some]; rfl
      obtain ⟨E', v', w', nxt, h1, h2, h3, h4, h5⟩ := mf_ok H.tb ht hg hW H.ex hmm (show mf t h nx (.nxtm ox) = some s from hx)
      rw [sem (fun c e => by rw [ho] at e; cases e), h1]
      rcases h2 with rfl | ⟨rfl, rfl⟩
      · exact hk v' E' w' h3 h4 h5
      · exact hk undef E' w' h3 h4 h5
  rename_i hnn
  unfold cOp1 at hx
  split at hx
  · rename_i p hp
    have hd : ∀ c, o.op ≠ .defer c := fun c e => by rw [e] at hp; rw [cPf_defer] at hp; cases hp
    obtain ⟨v, hv, hx⟩ := orec_some (show Option.rec none (fun v => some ⟨v, h, nx⟩) (pf t p) = some s from hx)
    cases hx
    obtain ⟨x, h1, h2⟩ := pf_ok H.tb ht hg hp hv w
    rw [sem hd, h1, Oper.uponIn_value]
    exact hk x E w (Env.le_refl E) h2 hW
  · split at hx
    · rename_i m hm
      have hd : ∀ c, o.op ≠ .defer c := fun c e => by rw [e] at hm; cases hm
      have hmm : cMf X P o.op = some m := hm
      obtain ⟨E', v', w', nxt, h1, h2, h3, h4, h5⟩ := mf_ok H.tb ht hg hW H.ex hmm (show mf t h nx m = some s from hx)
      rw [sem hd, h1]
      rcases h2 with rfl | ⟨rfl, rfl⟩
      · exact hk v' E' w' h3 h4 h5
      · exact hk undef E' w' h3 h4 h5
    · split at hx
      · rename_i f args ats ho
        split at hx
        · rename_i l hex hl
          have ha := evs_ok ht hg hl
          exact call (fun c e => by rw [ho] at e; cases e) (show xcall self fs f (evs t l) h nx = some s from hx) ha (by
            simp only [execOp, ho, resolve, Sem.run_bind, Sem.run_pure, Result.andThen_ok, Act.eval, Deferred.ofValue, invoke]
            congr 2
            simp [← Array.toList_inj])
        · cases hx
      · rename_i x args ats hnf ho
        split at hx
        · rename_i ox l hox hl
          have ha := evs_ok ht hg hl
          have hr := ev_ok ht hg hox
          rcases onFn_some (show onFn none (ev t ox) (fun f a c => onFunc none f fun f => xcall self fs f (a ++ (evs t l ++ c)) h nx) (fun y => xround self y (evs t l) h nx) = some s from hx) with ⟨f, fa, fc, e, hx⟩ | ⟨y, e, hx⟩
          · rw [e] at hr; simp only [R] at hr
            obtain ⟨va, vc, hv, h1, h2⟩ := hr
            obtain ⟨g, rfl, hx⟩ := onFunc_some hx
            refine call (vals := va.toList ++ (args.toList.map a.eval ++ vc.toList)) (fun c e => by rw [ho] at e; cases e) hx (h1.append (ha.append h2)) ?_
            simp only [execOp, ho, resolve, Sem.run_bind, Sem.run_pure, Result.andThen_ok, hv, Deferred.ofValue, invoke]
            congr 2
            simp [← Array.toList_inj]
          · rw [e] at hr; simp only [R] at hr
            obtain ⟨cb, hm, hv⟩ := hr
            obtain ⟨f, tm, ca, cbd, h1, h2⟩ := xround_ok H hs hx ha hg hW hm
            have he : (execOp a.eval o).run P w = .ok (.round cb f tm ca cbd) w := by
              simp only [execOp, ho, resolve, Sem.run_bind, Sem.run_pure, Result.andThen_ok, hv, Deferred.ofValue, invoke]
              refine h1 _ ?_
              simp [← Array.toList_inj]
            rw [sem (fun c e => by rw [ho] at e; cases e), he, Oper.uponIn_round]
            refine ⟨(fun hd => by rw [hF.depth] at hd; cases hd), hF.round ((h2 (n - 1)).mono fun e w' he => ?_)⟩
            obtain ⟨v, E', rfl, e1, e2, e3⟩ := he
            exact hk v E' w' e1 e2 e3
        · cases hx
      · split at hx <;> cases hx
      · cases hx
      · split at hx <;> cases hx
      · cases hx

/-! ### slots -/
theorem gwant_ok {t : T GV} {tm : Array Value} {E : Env} {N : Nat} (ht : TR E N t tm) {ops : Array Oper} {o : Oper} {b : Bool} (h : gwant t ((cOper { X with nt := N } P ops o).guard) = some b) : Region.wanted o (yielded ops tm) = b := by
  unfold Region.wanted
  cases hg : o.guard with
  | none =>
    simp only [cOper, hg] at h
    cases h; rfl
  | some p =>
    obtain ⟨j, want⟩ := p
    simp only [cOper, hg] at h
    change onBool (onTup none (tget t ((((ops[j]?).bind (·.dst)).getD N))) (fun l => List.casesOn l (some false) (fun _ _ => none))) (tget t ((((ops[j]?).bind (·.dst)).getD N))) (fun b => some (Bool.rec (bnot want) want b)) = some b at h
    cases hd : (ops[j]?).bind (·.dst) with
    | none =>
      rw [hd] at h
      have : tget t N = .bad := by
        unfold tget
        cases hn : t.get N with
        | none => rfl
        | some v => exact absurd (ht.2 N v hn).1 (Nat.lt_irrefl _)
      simp only [Option.getD_none, this] at h
      cases h
    | some d =>
      rw [hd] at h
      simp only [Option.getD_some] at h
      unfold tget at h
      cases htd : t.get d with
      | none => rw [htd] at h; cases h
      | some v =>
        rw [htd] at h
        obtain ⟨_, x, hx, hr⟩ := ht.2 d v htd
        have hy : yielded ops tm j = match x with | .bool b => some b | _ => none := by
          unfold yielded
          rw [hd]
          simp only [Option.bind_some, hx]
          cases x <;> rfl
        simp only [hy]
        change onBool (onTup none v (fun l => List.casesOn l (some false) (fun _ _ => none))) v (fun b => some (Bool.rec (bnot want) want b)) = some b at h
        cases v <;> first | (cases h; done) | skip
        case bool b0 =>
          cases h
          simp only [R] at hr; subst hr
          cases b0 <;> cases want <;> rfl
        case tup l =>
          change (List.casesOn l (some false) (fun _ _ => none) : Option Bool) = some b at h
          cases l with
          | cons _ _ => cases h
          | nil =>
            cases h
            simp only [R] at hr
            obtain ⟨y, rfl, hy⟩ := hr
            rfl

/-- the slot that an operation writes, if the function has it -/
def sl (N : Nat) (d : Option Nat) : Option Nat := match d with | some d => if d < N then some d else none | none => none
theorem cOper_dst {ops : Array Oper} {o : Oper} {N : Nat} : (cOper { X with nt := N } P ops o).dst = sl N o.dst := by unfold cOper sl; cases o.dst <;> rfl
theorem tput_ok {E : Env} {N : Nat} {t : T GV} {a : Act} {d : Option Nat} {g : GV} {v : Value} (ht : TR E N t a.tmps) (hr : R E g v) : TR E N (tput t (sl N d) g) (a.put d v).tmps := by
  cases d with
  | none => exact ht
  | some d =>
    unfold sl
    simp only
    by_cases hd : d < N
    · rw [if_pos hd]; exact ht.set hd hr
    · rw [if_neg hd]
      refine ⟨by simpa [Act.put] using ht.1, fun n u hn => ?_⟩
      obtain ⟨h1, x, h2, h3⟩ := ht.2 n u hn
      exact ⟨h1, x, by show (a.tmps.setIfInBounds d v)[n]? = _; rw [Array.getElem?_setIfInBounds_ne (by omega)]; exact h2, h3⟩
theorem put_defers (a : Act) (d : Option Nat) (v : Value) : (a.put d v).defers = a.defers := by cases d <;> rfl
theorem undef_ok {E : Env} : R E (.tup []) undef := R.unit

theorem dst_op {ops : Array Oper} {o : Oper} {N : Nat} {t : T GV} {h : T GO} {nx : Nat} {s : MS} (hx : xop self fs t h nx (cOper { X with nt := N } P ops o).op = some s) : xop self fs t h nx (cOp { X with nt := N } P o.op) = some s := by
  unfold cOper at hx
  simp only at hx
  cases hd : o.dst with
  | none => rw [hd] at hx; exact hx
  | some d =>
    rw [hd] at hx
    simp only at hx
    split at hx
    · exact hx
    · cases hx

theorem altAll_post {N : Nat} {E : Env} {k : MS → GR} {e : Exit} {a : Act} {w : World} {x : MS} : ∀ {l : List MS}, x ∈ l → Post X P N w0 E (k x) e a w → Post X P N w0 E (altAll k l) e a w
  | [], h, _ => by cases h
  | [y], h, hp => by
    have : x = y := by simpa using h
    subst this; exact hp
  | y :: z :: l, h, hp => by
    show Post X P N w0 E (k y) e a w ∨ Post X P N w0 E (altAll k (z :: l)) e a w
    rcases List.mem_cons.1 h with rfl | h
    · exact .inl hp
    · exact .inr (altAll_post h hp)
theorem altAll_good {k : MS → GR} {x : MS} : ∀ {l : List MS}, Good (altAll k l) → x ∈ l → Good (k x)
  | [], h, hm => by cases hm
  | [y], h, hm => by
    have : x = y := by simpa using hm
    subst this; exact h
  | y :: z :: l, h, hm => by
    obtain ⟨h1, h2⟩ := (show Good (k y) ∧ Good (altAll k (z :: l)) from h)
    rcases List.mem_cons.1 hm with rfl | hm
    · exact h1
    · exact altAll_good h2 hm
theorem nxtOf_some {op : GOp} {x : Od} (h : nxtOf op = some x) : op = .nx x := by
  unfold nxtOf at h
  split at h
  · cases h; rfl
  · cases h
theorem cOp1_nx {op : Op} {ox : Od} (h : cOp1 X P op = .nx ox) : False := by
  unfold cOp1 at h
  split at h
  · cases h
  · split at h
    · cases h
    · repeat' (split at h)
      all_goals cases h
/-- which operation a step over a map is read off -/
theorem cOp_nxt {op : Op} {ox : Od} (h : cOp X P op = .nx ox) : ∃ x, op = .next x false ∧ cod X.ng x = some ox := by
  unfold cOp at h
  split at h
  · rename_i x
    cases hc : cod X.ng x with
    | none => rw [hc] at h; cases h
    | some o => rw [hc] at h; cases h; exact ⟨x, rfl, hc⟩
  · exact (cOp1_nx h).elim

theorem onMiter_l {o : Option GO} {f : Option Nat → Nat → List Nat → Nat → List MS} (h : onMiter [] o f ≠ []) : ∃ m a l b, o = some (.miter m a l b) ∧ f m a l b ≠ [] := by
  cases o with
  | none => exact absurd rfl h
  | some o => cases o <;> first | exact absurd rfl h | exact ⟨_, _, _, _, rfl, h⟩
theorem onMapO_l {o : Option GO} {f : List (GV × GV × Nat) → Nat → List MS} (h : onMapO [] o f ≠ []) : ∃ es cl, o = some (.map es cl) ∧ f es cl ≠ [] := by
  cases o with
  | none => exact absurd rfl h
  | some o => cases o <;> first | exact absurd rfl h | exact ⟨_, _, rfl, h⟩

/-- a step over a map, whichever entry comes up -/
theorem m_next_all {CR : Nat → Code → GC → Prop} {N : Nat} {t : T GV} {h : T GO} {nx : Nat} {a : Act} {w : World} {E : Env} (ht : TR E N t a.tmps) (hg : GL E X.ng) (hW : WR CR E w0 h nx w) {o : Oper} {x : Operand} {ox : Od} (ho : o.op = .next x false) (hx : cod X.ng x = some ox)
    (hne : mNxtAll h nx (ev t ox) ≠ []) : ∃ s, s ∈ mNxtAll h nx (ev t ox) ∧ ∃ v w', (execOp a.eval o).run P w = .ok (.value v) w' ∧ R E s.v v ∧ WR CR E w0 s.h s.nx w' := by
  have hr := ev_ok ht hg hx
  unfold mNxtAll at hne ⊢
  cases he : ev t ox <;> rw [he] at hne hr <;> first | exact absurd rfl hne | skip
  rename_i i oo
  simp only [onPtr] at hne ⊢
  cases hz : Nat.beq oo 0 with
  | false => rw [hz] at hne; exact absurd rfl hne
  | true =>
    rw [hz] at hne
    have ho0 := beq_t hz; subst ho0
    simp only at hne ⊢
    obtain ⟨mp, since, seen, last, hi, hne2⟩ := onMiter_l hne
    simp only [hi, onMiter]
    cases mp with
    | none => exact absurd rfl hne2
    | some r =>
      obtain ⟨es, cl, hrr, hne3⟩ := onMapO_l hne2
      simp only [hrr, onMapO]
      change (Bool.rec [] ((leftOf seen es).map fun e => (⟨.tup [.bool true, e.1, e.2.1], h.set i (.miter (some r) since (seen ++ [e.2.2]) cl), nx⟩ : MS))
        (band (bnot (band (bnot seen.isEmpty) (band (bnot es.isEmpty) (noneBelow last es)))) ((leftOf seen es).all fun e => Nat.ble (Nat.succ e.2.2) since)) : List MS) ≠ [] at hne3
      show ∃ s, s ∈ (Bool.rec [] ((leftOf seen es).map fun e => (⟨.tup [.bool true, e.1, e.2.1], h.set i (.miter (some r) since (seen ++ [e.2.2]) cl), nx⟩ : MS))
        (band (bnot (band (bnot seen.isEmpty) (band (bnot es.isEmpty) (noneBelow last es)))) ((leftOf seen es).all fun e => Nat.ble (Nat.succ e.2.2) since)) : List MS) ∧ _
      cases hb : band (bnot (band (bnot seen.isEmpty) (band (bnot es.isEmpty) (noneBelow last es)))) ((leftOf seen es).all fun e => Nat.ble (Nat.succ e.2.2) since) with
      | false => rw [hb] at hne3; exact absurd rfl hne3
      | true =>
        rw [hb] at hne3
        change (leftOf seen es).map _ ≠ [] at hne3
        obtain ⟨hbad, hall⟩ := band_t hb
        simp only [R] at hr
        obtain ⟨cb, co, hmi, hv⟩ := hr
        have hob := hW.obj i _ hi
        simp only [OR] at hob
        obtain ⟨cb', cm, q1, q2, q3, q4⟩ := hob
        rw [hmi] at q1; cases q1
        have hget := run_getObj_of (P := P) q2 (fun _ _ _ h => by cases h)
        cases cm with
        | none => exact q4.elim
        | some cr =>
          obtain ⟨ces, g1, g2, g3⟩ := mapObj hW hrr q4
          have hgood : (!seen.toArray.isEmpty && !ces.isEmpty && ces.all (fun e => decide (e.born ≥ last))) = false := by
            have e1 : noneBelow last es = ces.all (fun e => decide (e.born ≥ last)) := by rw [noneBelow_ok last g2, Array.all_toList]
            have e2 : es.isEmpty = ces.isEmpty := by
              have := g2.length
              rw [Array.length_toList] at this
              cases es with
              | nil => simp at this; simp [this]
              | cons x es =>
                simp only [List.length_cons] at this
                have : ces.isEmpty = false := by rw [Array.isEmpty_eq_false_iff]; intro h0; rw [h0] at this; simp at this
                rw [this]; rfl
            have hbad : bnot (band (bnot seen.isEmpty) (band (bnot es.isEmpty) (noneBelow last es))) = true := hbad
            rw [e1, e2] at hbad
            have e3 : seen.toArray.isEmpty = seen.isEmpty := by simp
            rw [e3]
            revert hbad
            cases seen.isEmpty <;> cases ces.isEmpty <;> cases ces.all (fun e => decide (e.born ≥ last)) <;> intro hb <;> first | rfl | cases hb
          have hleft := leftOf_ok seen g2
          have hfil : (ces.filter fun e => !seen.toArray.contains e.born).toList = ces.toList.filter fun e => !seen.contains e.born := by
            rw [Array.toList_filter]; simp
          rw [← hfil] at hleft
          generalize hlf : (ces.filter fun e => !seen.toArray.contains e.born) = left at hleft
          have hlen : left.size = (leftOf seen es).length := by rw [← Array.length_toList]; exact hleft.length
          have hpos : 0 < left.size := by
            rw [hlen]
            cases hl : leftOf seen es with
            | nil => rw [hl] at hne3; exact absurd rfl hne3
            | cons _ _ => simp
          have hborn : ∀ e ∈ left.toList, e.born < since := by
            intro e hem
            obtain ⟨j, hj⟩ := List.getElem?_of_mem hem
            have hjl : j < (leftOf seen es).length := by rw [← hlen, ← Array.length_toList]; exact (List.getElem?_eq_some_iff.1 hj).1
            obtain ⟨e', he', _, _, hb'⟩ := hleft.get (List.getElem?_eq_getElem hjl)
            rw [hj] at he'; cases he'
            have := List.all_eq_true.1 hall _ (List.getElem_mem hjl)
            have : _ < since := ble_t this
            rw [hb']; exact this
          have hold : left.filter (fun e => decide (e.born < since)) = left := by
            apply Array.filter_eq_self.2
            intro e he
            simpa using hborn e (Array.mem_toList_iff.2 he)
          have hnew : left.filter (fun e => decide (e.born ≥ since)) = #[] := by
            apply Array.filter_eq_empty_iff.2
            intro e he
            have := hborn e (Array.mem_toList_iff.2 he)
            simp; omega
          have hne0 : left.isEmpty = false := by rw [Array.isEmpty_eq_false_iff]; intro h0; rw [h0] at hpos; simp at hpos
          have hcand : (if left.isEmpty = true then #[none] else #[]) ++ (left ++ (#[] : Array MapEntry)).map some = left.map some := by rw [hne0]; simp
          -- the choice
          obtain ⟨c, w1, hc, hw1, hch⟩ : ∃ c w1, c < left.size ∧ (w1.heap = w.heap ∧ w1.tape = w.tape ∧ w1.os = w.os ∧ w1.output = w.output) ∧ (choose (.mapNext (left.map some).size)).run P w = .ok c w1 := by
            rw [run_choose_drew]
            by_cases hf : (Question.mapNext (left.map some).size).forced = true
            · exact ⟨0, w, hpos, ⟨rfl, rfl, rfl, rfl⟩, by rw [if_pos hf]⟩
            · refine ⟨_, w.drew, ?_, ⟨rfl, rfl, rfl, rfl⟩, by rw [if_neg hf]⟩
              simp only [Question.cut, Array.size_map]
              exact Nat.mod_lt _ hpos
          obtain ⟨hw1a, hw1b, hw1c, hw1d⟩ := hw1
          have hcl : c < (leftOf seen es).length := by rw [← hlen]; exact hc
          have hgc : (leftOf seen es)[c]? = some (leftOf seen es)[c] := List.getElem?_eq_getElem hcl
          obtain ⟨e, he', h1, h2, h3⟩ := hleft.get hgc
          have hlc : left[c]? = some e := by rw [← Array.getElem?_toList]; exact he'
          refine ⟨⟨.tup [.bool true, (leftOf seen es)[c].1, (leftOf seen es)[c].2.1], h.set i (.miter (some r) since (seen ++ [(leftOf seen es)[c].2.2]) cl), nx⟩, List.mem_map.2 ⟨_, List.getElem_mem hcl, rfl⟩,
            .tuple #[.bool true, e.key, e.val], w1.putObj cb (.mapIter (some cr) since (seen.toArray.push e.born) cl), ?_, R.triple (R.tbool _) h1 h2, ?_⟩
          · have hq2 : w1.heap[cb]? = some (.mapIter (some cr) since seen.toArray last) := by rw [hw1a]; exact q2
            simp only [execOp, ho, hv, Instr.next, Sem.run_bind, Nat.add_zero, hget, Result.andThen_ok, run_getMap g1, hgood, Bool.false_eq_true, if_false, hlf, hold, hnew, hcand, hch]
            simp only [Array.getElem?_map, hlc, Option.map_some, Sem.run_bind, run_setObj_of hq2 (fun _ _ _ h => by cases h), Result.andThen_ok, Sem.run_pure]
          · have hW1 : WR CR E w0 h nx w1 := hW.same hw1a hw1b hw1c hw1d
            have hq2 : w1.heap[cb]? = some (.mapIter (some cr) since seen.toArray last) := by rw [hw1a]; exact q2
            refine updObj_ok hW1 hi hmi hq2 (fun _ _ _ h => by cases h) q3 ?_
            simp only [OR]
            refine ⟨cb, some cr, hmi, ?_, q3, q4⟩
            rw [World.putObj_heap_same (heap_lt hq2), h3]; simp

theorem cOper_nxt {ops : Array Oper} {o : Oper} {N : Nat} {ox : Od} (h : nxtOf (cOper { X with nt := N } P ops o).op = some ox) : ∃ x, o.op = .next x false ∧ cod X.ng x = some ox := by
  have h := nxtOf_some h
  unfold cOper at h
  simp only at h
  cases hd : o.dst with
  | none => rw [hd] at h; exact cOp_nxt (X := { X with nt := N }) h
  | some d =>
    rw [hd] at h
    simp only at h
    split at h
    · exact cOp_nxt (X := { X with nt := N }) h
    · cases h

/-- a bool that is not known is one of the two -/
theorem refine_ok {E : Env} {N : Nat} {t : T GV} {tm : Array Value} (ht : TR E N t tm) {n : Nat} (h : tget t n = .un .b) : ∃ b, TR E N (T.set t n (.bool b)) tm ∧ tm.getD n undef = .bool b := by
  have hr := tget_ok ht n
  rw [h] at hr
  simp only [R] at hr
  obtain ⟨b, hb⟩ := hr
  refine ⟨b, ⟨ht.1, fun m v hm => ?_⟩, hb⟩
  rw [T.get_set] at hm
  by_cases e : m = n
  · subst e
    rw [if_pos rfl] at hm; cases hm
    unfold tget at h
    cases hg : t.get m with
    | none => rw [hg] at h; cases h
    | some u =>
      obtain ⟨h1, x, h2, _⟩ := ht.2 m u hg
      refine ⟨h1, x, h2, ?_⟩
      rw [Array.getD_eq_getD_getElem?, h2] at hb
      simp only [R]; exact hb
  · rw [if_neg e] at hm; exact ht.2 m v hm
theorem splitU_cases {E : Env} {N : Nat} {t : T GV} {n : Nat} {k : T GV → GR} (hg : Good (splitU t n k)) : tget t n = .un .b ∧ Good (k (T.set t n (.bool true))) ∧ Good (k (T.set t n (.bool false))) ∧ splitU t n k = .alt (k (T.set t n (.bool true))) (k (T.set t n (.bool false))) := by
  unfold splitU at hg ⊢
  cases hv : tget t n <;> rw [hv] at hg <;> first | exact hg.elim | skip
  rename_i u
  change Good (Bool.rec .fail (.alt (k (T.set t n (.bool true))) (k (T.set t n (.bool false)))) (uq u .b)) at hg
  cases hu : uq u .b with
  | false => rw [hu] at hg; exact hg.elim
  | true =>
    rw [hu] at hg
    have := uq_eq hu; subst this
    exact ⟨rfl, hg.1, hg.2, rfl⟩

def OpsOk (X : Cx) (P : Program) (w0 : World) (N n : Nat) (F : Fence) (ops : Array Oper) (ds : List Dq) (l : List Oper) (f : T GV → T GO → Nat → GR) : Prop :=
  ∀ (Q : Exit → Act → World → Prop) (t : T GV) (h : T GO) (nx : Nat) (a : Act) (w : World) (E : Env), Good (f t h nx) → TR E N t a.tmps → DR E ds a.defers → GL E X.ng → WR (CRX X P) E w0 h nx w →
    (∀ e a' w', Post X P N w0 E (f t h nx) e a' w' → Q e a' w') → wpListIn F n P ops Q l a w

theorem split_ok {N n : Nat} {F : Fence} {ops : Array Oper} {ds : List Dq} {l : List Oper} {fb : T GV → T GO → Nat → GR} (hfb : OpsOk X P w0 N n F ops ds l fb) {Q : Exit → Act → World → Prop} {t : T GV} {h : T GO} {nx m : Nat} {a : Act} {w : World} {E : Env}
    (hne : Good (splitU t m (fun t' => fb t' h nx))) (ht : TR E N t a.tmps) (hd : DR E ds a.defers) (hg : GL E X.ng) (hW : WR (CRX X P) E w0 h nx w) (hQ : ∀ e a' w', Post X P N w0 E (splitU t m (fun t' => fb t' h nx)) e a' w' → Q e a' w') : wpListIn F n P ops Q l a w := by
  obtain ⟨h1, h2, h3, h4⟩ := splitU_cases (E := E) (N := N) hne
  rw [h4] at hQ
  obtain ⟨b, hb, _⟩ := refine_ok ht h1
  cases b with
  | true => exact hfb Q _ h nx a w E h2 hb hd hg hW (fun e a' w' hp => hQ e a' w' (.inl hp))
  | false => exact hfb Q _ h nx a w E h3 hb hd hg hW (fun e a' w' hp => hQ e a' w' (.inr hp))

theorem stepO_eq {ih : T GV → T GO → Nat → GR} {g : GOper} {fb : T GV → T GO → Nat → GR} {t : T GV} {h : T GO} {nx : Nat} : stepO self fs ih g fb t h nx = Option.rec (Option.rec .fail (fun p => splitU t p.1 (fun t' => fb t' h nx)) g.guard) (fun wanted => Bool.rec (ih (tput t g.dst (.tup [])) h nx)
      (Option.rec (Option.rec (Option.rec .fail (fun n => splitU t n (fun t' => fb t' h nx)) (pickOf g.op)) (fun x => altAll (fun s => MS.casesOn s fun v h nx => ih (tput t g.dst v) h nx) (mNxtAll h nx (ev t x))) (nxtOf g.op)) (fun s => MS.casesOn s fun v h nx => ih (tput t g.dst v) h nx) (xop self fs t h nx g.op)) wanted) (gwant t g.guard) := rfl

/-- one operation, the rest of the region behind it -/
theorem stepO_ok (H : FOk P X w0 fs) (hs : SelfOk P X w0 self) {N n : Nat} {F : Fence} (hF : Wd F) {ops : Array Oper} {ds : List Dq} {o : Oper} {l : List Oper} {ih fb : T GV → T GO → Nat → GR} (hih : OpsOk X P w0 N n F ops ds l ih) (hfb : OpsOk X P w0 N n F ops ds (o :: l) fb) :
    OpsOk X P w0 N n F ops ds (o :: l) (stepO self fs ih (cOper { X with nt := N } P ops o) fb) := by
  intro Q t h nx a w E hne ht hd hg hW hQ
  rw [stepO_eq, cOper_dst] at hne hQ
  cases hgw : gwant t (cOper { X with nt := N } P ops o).guard with
  | none =>
    rw [hgw] at hne hQ
    revert hne hQ
    cases (cOper { X with nt := N } P ops o).guard with
    | none => intro hne; exact hne.elim
    | some p => intro hne hQ; exact split_ok hfb hne ht hd hg hW hQ
  | some b =>
    rw [hgw] at hne hQ
    have hwant := gwant_ok ht hgw
    cases b with
    | false =>
      unfold wpListIn
      rw [hwant, if_neg (by decide)]
      exact ⟨fun f _ => hF.fn f, hih Q _ h nx _ w E hne (tput_ok ht undef_ok) (by rw [put_defers]; exact hd) hg hW hQ⟩
    | true =>
      cases hop : xop self fs t h nx (cOper { X with nt := N } P ops o).op with
      | none =>
        rw [hop] at hne hQ
        cases hnx : nxtOf (cOper { X with nt := N } P ops o).op with
        | none =>
          rw [hnx] at hne hQ
          cases hpk : pickOf (cOper { X with nt := N } P ops o).op with
          | none => rw [hpk] at hne; exact hne.elim
          | some m => rw [hpk] at hne hQ; exact split_ok hfb hne ht hd hg hW hQ
        | some ox =>
          unfold wpListIn
          rw [hwant, if_pos rfl]
          rw [hnx] at hne hQ
          change Good (altAll (fun s => MS.casesOn s fun v h nx => ih (tput t (sl N o.dst) v) h nx) (mNxtAll h nx (ev t ox))) at hne
          change ∀ e a' w', Post X P N w0 E (altAll (fun s => MS.casesOn s fun v h nx => ih (tput t (sl N o.dst) v) h nx) (mNxtAll h nx (ev t ox))) e a' w' → Q e a' w' at hQ
          obtain ⟨x, ho, hcx⟩ := cOper_nxt hnx
          have hl : mNxtAll h nx (ev t ox) ≠ [] := by intro e; rw [e] at hne; exact hne.elim
          obtain ⟨s, hmem, v, w', hrun, hr, hW'⟩ := m_next_all (P := P) ht hg hW ho hcx hl
          refine ⟨fun f _ => hF.fn f, ?_⟩
          rw [Oper.semAt_eq _ _ _ (fun c e => by rw [ho] at e; cases e), hrun]
          show wpListIn F n P ops Q l (a.put o.dst v) w'
          exact hih Q _ _ _ _ w' E (altAll_good hne hmem) (tput_ok ht hr) (by rw [put_defers]; exact hd) hg hW' (fun e a' w'' hp => hQ e a' w'' (altAll_post hmem hp))
      | some s =>
        unfold wpListIn
        rw [hwant, if_pos rfl]
        rw [hop] at hne hQ
        refine xop_ok H hs (dst_op hop) hF ht hg hW fun v E' w' hE hr hW' => ?_
        exact hih Q _ _ _ _ w' E' hne (tput_ok (ht.mono hE) hr) (by rw [put_defers]; exact hd.mono hE) (hg.mono hE) hW' (fun e a' w' hp => hQ e a' w' (Post.mono hE hp))

/-- the operations of a region, one behind the other -/
theorem xops_gen (H : FOk P X w0 fs) (hs : SelfOk P X w0 self) {N n : Nat} {F : Fence} (hF : Wd F) {ops : Array Oper} {ds : List Dq} {tl : List Oper} {fin : T GV → T GO → Nat → GR} (hfin : OpsOk X P w0 N n F ops ds tl fin) :
    ∀ (l : List Oper), OpsOk X P w0 N n F ops ds (l ++ tl) (xops self fs fin (l.map (cOper { X with nt := N } P ops)))
  | [] => hfin
  | o :: l => stepO_ok H hs hF (xops_gen H hs hF hfin l) (stepO_ok H hs hF (xops_gen H hs hF hfin l) (fun Q t h nx a w E hne => (hne : False).elim))
theorem finN_ok {N n : Nat} {F : Fence} {ops : Array Oper} {ds : List Dq} : OpsOk X P w0 N n F ops ds [] (finN ds) :=
  fun Q t h nx a w E hne ht hd hg hW hQ => hQ .normal a w ⟨E, Env.le_refl E, ht, hd, hW⟩
theorem xops_ok (H : FOk P X w0 fs) (hs : SelfOk P X w0 self) {N n : Nat} {F : Fence} (hF : Wd F) {ops : Array Oper} {ds : List Dq} (l : List Oper) : OpsOk X P w0 N n F ops ds l (xops self fs (finN ds) (l.map (cOper { X with nt := N } P ops))) := by
  have := xops_gen (N := N) (n := n) H hs hF (ops := ops) (finN_ok (ds := ds)) l
  rwa [List.append_nil] at this
/-- a defer statement ends a region -/
theorem finD_ok {rd : Option Nat} {N n : Nat} {F : Fence} (hF : Wd F) {ops : Array Oper} {ds : List Dq} {o : Oper} {x : Operand} {args : Array Operand} {ats : Array TypeId} (ho : o.op = .defer { callee := .value x, args, argTypes := ats }) (hdst : o.dst = none) (hgd : o.guard = none)
    {fo : Od} {l : List Od} (hx : cod X.ng x = some fo) (hl : cods X.ng args.toList = some l) (E0 : Env) (hr0 : rd = none → F.round = none) : OpsOk X P w0 N n F ops ds [o] (finD rd ds fo l) := by
  intro Q t h nx a w E hne ht hd hg hW hQ
  unfold wpListIn
  have hwant : Region.wanted o (yielded ops a.tmps) = true := by unfold Region.wanted; rw [hgd]
  rw [hwant, if_pos rfl]
  cases rd with
  | some q => exact hne.elim
  | none =>
    have hro := hr0 rfl
    change Good (onFn .fail (ev t fo) (fun f a c => onFunc .fail f fun f => .norm ⟨t, .fn f (a ++ (evs t l ++ c)) :: ds, h, nx⟩) (fun _ => .fail)) at hne
    change ∀ e a' w', Post X P N w0 E (onFn .fail (ev t fo) (fun f a c => onFunc .fail f fun f => .norm ⟨t, .fn f (a ++ (evs t l ++ c)) :: ds, h, nx⟩) (fun _ => .fail)) e a' w' → Q e a' w' at hQ
    have hr := ev_ok ht hg hx
    have ha := evs_ok ht hg hl
    cases hv : ev t fo <;> rw [hv] at hne hr hQ <;> first | exact hne.elim | skip
    rename_i f first cap
    cases f <;> first | exact hne.elim | skip
    rename_i fid
    simp only [R] at hr
    obtain ⟨va, vc, hval, h1, h2⟩ := hr
    refine ⟨fun f _ => hF.fn f, ?_⟩
    have hsem : (o.semAt F.round a.eval).run P w = .ok (.defer { target := .fn (.func fid) vc, args := va ++ args.map a.eval }) w := by
      rw [hro, Oper.semAt_none]
      simp only [execOp, ho, resolve, Sem.run_bind, Sem.run_pure, Result.andThen_ok, hval, Deferred.ofValue]
    rw [hsem, Oper.uponIn_defer, hdst]
    show Q .normal _ w
    refine hQ .normal _ w ⟨E, Env.le_refl E, ?_, ?_, hW⟩
    · exact ht
    · refine ⟨vc, va ++ args.map a.eval, a.defers, rfl, ?_, hd⟩
      have e : (va ++ args.map a.eval).toList ++ vc.toList = va.toList ++ ((args.toList.map a.eval) ++ vc.toList) := by simp
      rw [e]
      exact h1.append (ha.append h2)
end
end Go.Gh
