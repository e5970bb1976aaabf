/- The run is sound: calls, rounds, operations. -/
import Derived.Test.YtoekfbfgilbgoaaGreatDoorG25b
namespace Go.Gh
set_option linter.unusedVariables false

section
variable {P : Program} {X : Cx} {fs : T GFn} {w0 : World} {self : Option Nat → GC → GS → GR}

def SelfOk (P : Program) (X : Cx) (w0 : World) (self : Option Nat → GC → GS → GR) : Prop :=
  ∀ (n : Nat) (rd : Option Nat) (N : Nat) (c : Code) (s : GS) (F : Fence) (a : Act) (w : World) (E : Env),
    Good (self rd (cCode { X with nt := N } P c) s) → Wd F → RdOk E rd F.round → GL E X.ng → Rel X P N w0 s a w E →
    c.wpIn F n P (Post X P N w0 E (self rd (cCode { X with nt := N } P c) s)) a w

theorem xjoin_ok {x y s : MS} (h : xjoin x y = some s) : (∀ (E : Env) (v : Value), (R E x.v v → R E s.v v) ∧ (R E y.v v → R E s.v v)) ∧ (∀ g o, s.h.get g = some o → x.h.get g = some o ∧ y.h.get g = some o) ∧ x.nx ≤ s.nx ∧ y.nx ≤ s.nx := by
  obtain ⟨v, h1, n1⟩ := x
  obtain ⟨v', h2, n2⟩ := y
  obtain ⟨u, hv, h⟩ := orec_some (show Option.rec none (fun u => some ⟨u, meet h1 h2, Bool.rec n1 n2 (Nat.ble n1 n2)⟩) (vjoin v v') = some s from h)
  cases h
  refine ⟨vjoin_ok hv, fun g o hg => meet_get _ _ _ _ hg, ?_, ?_⟩
  · show n1 ≤ Bool.rec n1 n2 (Nat.ble n1 n2)
    cases hb : Nat.ble n1 n2 with
    | true => exact ble_t hb
    | false => exact Nat.le_refl _
  · show n2 ≤ Bool.rec n1 n2 (Nat.ble n1 n2)
    cases hb : Nat.ble n1 n2 with
    | true => exact Nat.le_refl _
    | false => have := ble_f hb; exact Nat.le_of_lt this
theorem xfin_alt {res : List GRes} {a b : GR} {s : MS} (h : xfin res (.alt a b) = some s) : ∃ x y, xfin res a = some x ∧ xfin res b = some y ∧ xjoin x y = some s := by
  obtain ⟨x, hx, h⟩ := orec_some (show Option.rec none (fun x => Option.rec none (fun y => xjoin x y) (xfin res b)) (xfin res a) = some s from h)
  obtain ⟨y, hy, h⟩ := orec_some h
  exact ⟨x, y, hx, hy, h⟩
theorem xfin_ne {res : List GRes} {r : GR} {s : MS} (h : xfin res r = some s) : Good r := by
  induction r generalizing s with
  | fail => cases h
  | alt a b iha ihb => obtain ⟨x, y, h1, h2, _⟩ := xfin_alt h; exact ⟨iha h1, ihb h2⟩
  | _ => trivial
theorem xfin_post {N : Nat} {E : Env} {res : List GRes} {r : GR} {s : MS} (h : xfin res r = some s) {e : Exit} {a : Act} {w : World} (hp : Post X P N w0 E r e a w) :
    ∃ s1 sx, xout res s1 = some sx ∧ (e = .normal ∨ e = .ret) ∧ (∃ E', E.le E' ∧ Rel X P N w0 s1 a w E') ∧ (∀ (E : Env) (v : Value), R E sx.v v → R E s.v v) ∧ (∀ g o, s.h.get g = some o → sx.h.get g = some o) ∧ sx.nx ≤ s.nx := by
  induction r generalizing s with
  | norm s1 => cases e <;> first | exact hp.elim | exact ⟨s1, s, h, .inl rfl, hp, fun _ _ h => h, fun _ _ h => h, Nat.le_refl _⟩
  | ret s1 => cases e <;> first | exact hp.elim | exact ⟨s1, s, h, .inr rfl, hp, fun _ _ h => h, fun _ _ h => h, Nat.le_refl _⟩
  | exit id s1 => cases h
  | goto l s1 => cases h
  | fail => cases h
  | alt p q ihp ihq =>
    obtain ⟨x, y, h1, h2, h3⟩ := xfin_alt h
    obtain ⟨j1, j3, j4, j5⟩ := xjoin_ok h3
    rcases hp with hp | hp
    · obtain ⟨s1, sx, k1, k2, k3, k4, k5, k6⟩ := ihp h1 hp
      exact ⟨s1, sx, k1, k2, k3, fun E v hv => (j1 E v).1 (k4 E v hv), fun g o hg => k5 g o (j3 g o hg).1, Nat.le_trans k6 j4⟩
    · obtain ⟨s1, sx, k1, k2, k3, k4, k5, k6⟩ := ihq h2 hp
      exact ⟨s1, sx, k1, k2, k3, fun E v hv => (j1 E v).2 (k4 E v hv), fun g o hg => k5 g o (j3 g o hg).2, Nat.le_trans k6 j5⟩

theorem xcall_ok (H : FOk P X fs) (hs : SelfOk P X w0 self) {f : Nat} {args : List GV} {h : T GO} {nx : Nat} {s : MS} {E : Env} {w : World} (hx : xcall self fs f args h nx = some s) {vals : List Value} (ha : RL E args vals) (hg : GL E X.ng) (hW : WR (CRX X P) E w0 h nx w) :
    (∀ n, CallsIn Fence.wide n P f vals.toArray w (CPost X P w0 E s)) ∧ ∀ (ar : Array Value) (w : World), (callFunc f ar).run P w = .ok (.enter f ar) w := by
  obtain ⟨g, hgf, hx1⟩ := orec_some hx
  obtain ⟨fn, c, hf, hname, hb, hgo⟩ := H.fn f _ hgf
  have henter : ∀ (ar : Array Value) (w : World), (callFunc f ar).run P w = .ok (.enter f ar) w := fun ar w => by
    have hp : (program).run P w = .ok P w := rfl
    simp only [callFunc, Sem.run_bind, hp, Result.andThen_ok, hf, hname, hb, Option.isNone_some, Bool.false_eq_true, if_false]; rfl
  cases g with
  | sm σ => exact ⟨hgo w0 args vals h nx s E w hx1 ha hg hW, henter⟩
  | code body res nt =>
  obtain ⟨hle, hx2⟩ := okIf_some (show okIf (Nat.ble args.length nt) (xfin res (self none body ⟨T.lay args 0 .nil, [], h, nx⟩)) = some s from hx1)
  have hle : args.length ≤ nt := ble_t hle
  clear hx hx1
  obtain ⟨hbody, hnt, hres⟩ := hgo
  subst hnt; subst hbody
  refine ⟨fun n => ?_, henter⟩
  refine callsIn_of_wp_marks hf hb trivial ?_
  have hlen := ha.length
  have hrel : Rel X P fn.ntmps w0 ⟨T.lay args 0 .nil, [], h, nx⟩ { tmps := vals.toArray ++ Array.replicate (fn.ntmps - vals.toArray.size) undef, defers := [] } w E := by
    refine ⟨⟨by simp; omega, fun i v hi => ?_⟩, by simp only [DR], hW⟩
    have hi : (T.lay args 0 .nil).get i = some v := hi
    rw [T.get_lay] at hi
    by_cases hlt : 0 ≤ i ∧ i < 0 + args.length
    · rw [if_pos hlt] at hi
      obtain ⟨x, hx', hr⟩ := ha.get (i := i) (by simpa using hi)
      exact ⟨by omega, x, by rw [Array.getElem?_append_left (by simp; omega)]; simpa using hx', hr⟩
    · rw [if_neg hlt, T.get_nil] at hi; cases hi
  have hw := hs n none fn.ntmps c _ Fence.wide _ w E (xfin_ne hx2) (.inl rfl) trivial hg hrel
  refine wpIn_mono hw fun e a' w' hp => ?_
  obtain ⟨s1, sx, k1, k2, k3, k4, k5, k6⟩ := xfin_post hx2 hp
  have fin : LeavesInM Fence.wide n P fn a'.tmps (CPost X P w0 E s) a'.defers .returning w' := by
    obtain ⟨t1, ds1, h1, nx1⟩ := s1
    obtain ⟨E', hE, ht, hd, hW'⟩ := k3
    obtain ⟨h', hl, hx⟩ := orec_some (show Option.rec none (fun h' => Option.rec none (fun vs => some ⟨xresv vs, h', nx1⟩) (xress t1 h' res)) (xleave ds1 h1) = some sx from k1)
    obtain ⟨vs, hvs, hx⟩ := orec_some hx
    cases hx
    refine leave_ok ds1 _ hl hd hW' fun w'' hW'' => ?_
    obtain ⟨v, hv, hr⟩ := results_ok H.tb ht hW'' hres hvs
    exact ⟨v, hv, v, E', rfl, hE, k4 _ _ hr, hW''.sub k5 k6⟩
  rcases k2 with rfl | rfl
  · exact fin
  · exact fin

/-! ### rounds -/
theorem onLoop_some {β : Type} {o : Option GO} {f : LoopState → Option GC → T GV → List Nat → GC → GC → Option β} {r : β} (h : onLoop none o f = some r) : ∃ st pe t ps as bd, o = some (.loop st pe t ps as bd) ∧ f st pe t ps as bd = some r := by
  cases o with
  | none => cases h
  | some o => cases o <;> first | exact ⟨_, _, _, _, _, _, rfl, h⟩ | cases h
theorem isReady_t {s : LoopState} (h : isReady s = true) : s = .ready := by cases s <;> first | rfl | cases h

theorem loopObj {CR : Nat → Code → GC → Prop} {E : Env} {h : T GO} {nx : Nat} {w : World} (hW : WR CR E w0 h nx w) {l : Nat} {st : LoopState} {pe : Option GC} {t : T GV} {ps : List Nat} {ga gb : GC} (hl : h.get l = some (.loop st pe t ps ga gb)) {cb : Nat} (hm : E.m l = some (cb, 0)) :
    ∃ r N, w.heap[cb]? = some (.loop r) ∧ w0.heap.size ≤ cb ∧ r.state = st ∧ r.params = ps.toArray ∧ TR E N t r.tmps ∧ (∀ p ∈ ps, p < N) ∧ CR N r.assign ga ∧ CR N r.body gb ∧ PE CR pe r.pending := by
  have := hW.obj l _ hl
  simp only [OR] at this
  obtain ⟨cb', r, h1, h2, h3, h4, h5, N, h6, h7, h8, h9, h10⟩ := this
  rw [hm] at h1; cases h1
  exact ⟨r, N, h2, h3, h4, h5, h6, h7, h8, h9, h10⟩

theorem setps_ok {E : Env} {N : Nat} : ∀ (ps : List Nat) (vs : List GV) (xs : List Value) {t : T GV} {tm : Array Value}, TR E N t tm → RL E vs xs → (∀ p ∈ ps, p < N) → vs.length = ps.length →
    TR E N (setps ps vs t) ((ps.zip xs).foldl (fun tmps (x : Nat × Value) => tmps.setIfInBounds x.1 x.2) tm)
  | [], vs, xs, t, tm, ht, hr, hp, hl => by simpa [setps] using ht
  | p :: ps, vs, xs, t, tm, ht, hr, hp, hl => by
    cases vs with
    | nil => simp at hl
    | cons v vs =>
      simp only [RL] at hr
      obtain ⟨x, r, rfl, h1, h2⟩ := hr
      exact setps_ok ps vs r (ht.set (hp p (by simp)) h1) h2 (fun q hq => hp q (List.mem_cons_of_mem _ hq)) (by simpa using hl)


def JE (X : Cx) (P : Program) (jump : Option GC) (cj : Option Code) : Prop := match jump, cj with
  | none, none => True
  | some g, some c => ∀ N, CRX X P N c g
  | _, _ => False
/-- the round's end -/
theorem xend_ok {E : Env} {l cb : Nat} (hm : E.m l = some (cb, 0)) {jump : Option GC} {cj : Option Code} (hj : JE X P jump cj)
    {s1 : GS} {s : MS} (hx : xend l jump s1 = some s) {w : World} (hW : WR (CRX X P) E w0 s1.h s1.nx w) :
    ∃ v w', (Instr.endRound cb cj).run P w = .ok v w' ∧ R E s.v v ∧ WR (CRX X P) E w0 s.h s.nx w' := by
  obtain ⟨t1, ds1, h1, nx1⟩ := s1
  obtain ⟨st, pe, t, ps, as, bd, hl, hx⟩ := onLoop_some (show onLoop none (h1.get l) (fun _ _ t ps as bd => some ⟨.bool (Option.rec true (fun _ => false) jump), h1.set l (.loop (Option.rec .ready (fun _ => .done) jump) jump t ps as bd), nx1⟩) = some s from hx)
  cases hx
  obtain ⟨r, N, q1, q2, q3, q4, q5, q6, q7, q8, q9⟩ := loopObj hW hl hm
  refine ⟨_, _, run_endRound cj q1, ?_, ?_⟩
  · cases jump <;> cases cj <;> first | exact hj.elim | simp only [R]; rfl
  · refine updObj_ok hW hl hm q1 (fun _ _ _ h => by cases h) q2 ?_
    simp only [OR]
    refine ⟨cb, _, hm, World.putObj_heap_same (heap_lt q1), q2, ?_, q4, N, q5, q6, q7, q8, ?_⟩
    · cases jump <;> cases cj <;> first | exact hj.elim | rfl
    · cases jump <;> cases cj <;> first | exact hj.elim | trivial | exact hj

theorem xround_ok (H : FOk P X fs) (hs : SelfOk P X w0 self) {l : Nat} {args : List GV} {h : T GO} {nx : Nat} {s : MS} {E : Env} {w : World} (hx : xround self l args h nx = some s) {vals : List Value} (ha : RL E args vals) (hg : GL E X.ng) (hW : WR (CRX X P) E w0 h nx w) {cb : Nat} (hm : E.m l = some (cb, 0)) :
    ∃ f tm ca cbd, (∀ ar : Array Value, ar = vals.toArray → (Instr.yield cb ar).run P w = .ok (.round cb f tm ca cbd) w) ∧ ∀ n, RoundIn Fence.wide n P cb f tm ca cbd w (CPost X P w0 E s) := by
  obtain ⟨st, pe, t, ps, as, bd, hl, hx1⟩ := onLoop_some hx
  obtain ⟨hcond, hx2⟩ := okIf_some hx1
  clear hx hx1
  obtain ⟨hst, hlen⟩ := band_t hcond
  have hst := isReady_t hst; subst hst
  have hlen : args.length = ps.length := beq_t hlen
  obtain ⟨r, N, q1, q2, q3, q4, q5, q6, q7, q8, q9⟩ := loopObj hW hl hm
  have hvl := ha.length
  refine ⟨r.fn, (r.params.zip vals.toArray).foldl (fun tmps (x : Nat × Value) => tmps.setIfInBounds x.1 x.2) r.tmps, r.assign, r.body, fun ar har => by subst har; exact run_yield q1 (by rw [q4]; simp; omega), fun n => ?_⟩
  refine roundIn_of_wpIn trivial ?_
  have htr : TR E N (setps ps args t) ((r.params.zip vals.toArray).foldl (fun tmps (x : Nat × Value) => tmps.setIfInBounds x.1 x.2) r.tmps) := by
    have := setps_ok ps args vals q5 ha q6 hlen
    rw [q4]
    have e : (ps.toArray.zip vals.toArray) = (ps.zip vals).toArray := by simp
    rw [e]
    simpa using this
  have hq7 : as = cCode { X with nt := N } P r.assign := q7
  subst hq7
  have hne : Good (self (some l) (cCode { X with nt := N } P r.assign) ⟨setps ps args t, [], h, nx⟩) := by
    revert hx2
    cases self (some l) (cCode { X with nt := N } P r.assign) ⟨setps ps args t, [], h, nx⟩ <;> intro hx2 <;> first | trivial | cases hx2
  have hw := hs n (some l) N r.assign _ (Fence.wide.inRound cb) { tmps := _, defers := [] } w E hne (.inr ⟨cb, rfl⟩) (show E.m l = some (cb, 0) from hm) hg ⟨htr, by simp only [DR], hW⟩
  refine wpIn_mono hw fun e a1 w1 hp => ?_
  revert hx2 hp
  generalize self (some l) (cCode { X with nt := N } P r.assign) _ = r1
  intro hx hp
  cases r1 <;> cases e <;> first | exact hp.elim | (cases hx; done) | skip
  rename_i s1
  obtain ⟨t1, ds1, h1, nx1⟩ := s1
  obtain ⟨E1, hE1, ht1, hd1, hW1⟩ := hp
  obtain ⟨st1, pe1, t', ps', as', bd', hl1, hx3⟩ := onLoop_some (show onLoop none (h1.get l) _ = some s from hx)
  obtain ⟨hst1, hx4⟩ := okIf_some hx3
  clear hx hx3
  have hst1 := isReady_t hst1; subst hst1
  have hm1 := hE1.1 _ _ hm
  obtain ⟨r2, N2, p1, p2, p3, p4, p5, p6, p7, p8, p9⟩ := loopObj hW1 hl1 hm1
  refine ⟨_, run_beginRound p1 p3, ?_⟩
  have hW2 : WR (CRX X P) E1 w0 (h1.set l (.loop .busy pe1 t' ps' as' bd')) nx1 (w1.putObj cb (.loop { r2 with state := .busy })) := by
    refine updObj_ok hW1 hl1 hm1 p1 (fun _ _ _ h => by cases h) p2 ?_
    simp only [OR]
    exact ⟨cb, _, hm1, World.putObj_heap_same (heap_lt p1), p2, rfl, p4, N2, p5, p6, p7, p8, p9⟩
  have hq8 : bd = cCode { X with nt := N } P r.body := q8
  subst hq8
  have hne : Good (self (some l) (cCode { X with nt := N } P r.body) ⟨t1, ds1, h1.set l (.loop .busy pe1 t' ps' as' bd'), nx1⟩) := by
    revert hx4
    cases self (some l) (cCode { X with nt := N } P r.body) ⟨t1, ds1, h1.set l (.loop .busy pe1 t' ps' as' bd'), nx1⟩ <;> intro hx4 <;> first | trivial | cases hx4
  have hw := hs n (some l) N r.body _ (Fence.wide.inRound cb) a1 _ E1 hne (.inr ⟨cb, rfl⟩) (show E1.m l = some (cb, 0) from hm1) (hg.mono hE1) ⟨ht1, hd1, hW2⟩
  refine wpIn_mono hw fun e a2 w2 hp => ?_
  revert hx4 hp
  generalize self (some l) (cCode { X with nt := N } P r.body) _ = r3
  intro hx hp
  have fin : ∀ {jump : Option GC} {cj : Option Code} {s2 : GS}, xend l jump s2 = some s → JE X P jump cj → (∃ E', E1.le E' ∧ Rel X P N w0 s2 a2 w2 E') →
      ∃ v w', (Instr.endRound cb cj).run P w2 = .ok v w' ∧ CPost X P w0 E s (.returned v) w' := by
    rintro jump cj s2 hx hj ⟨E2, hE2, ht2, hd2, hW2⟩
    obtain ⟨v, w', h1, h2, h3⟩ := xend_ok (hE2.1 _ _ hm1) hj hx hW2
    exact ⟨v, w', h1, v, E2, rfl, Env.le_trans hE1 hE2, h2, h3⟩
  cases r3 <;> cases e <;> first | exact hp.elim | (cases hx; done) | skip
  · exact fin hx trivial hp
  · obtain ⟨rfl, hp⟩ := hp; exact fin hx (fun N => rfl) hp
  · obtain ⟨rfl, hp⟩ := hp; exact fin hx (fun N => rfl) hp
  · exact fin hx (fun N => rfl) hp
end
end Go.Gh
