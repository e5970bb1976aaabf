/- The run is sound. -/
import Derived.Test.YtoekfbfgilbgoaaGreatDoorG28c
namespace Go.Gh
set_option linter.unusedVariables false

section
variable {P : Program} {X : Cx} {fs : T GFn} {w0 : World} {self : Option Nat → GC → GS → GR}

theorem isBusy_f {s : LoopState} (h : isBusy s = false) : s ≠ .busy := by cases s <;> first | (intro e; cases e; done) | cases h

/-- when the function that was ranged over has ended -/
theorem xjump_ok (hs : SelfOk P X w0 self) {rd : Option Nat} {N n lid cb : Nat} {F : Fence} (hF : Wd F) {t : T GV} {ds : List Nat} {s : MS} {r : GR} (hx : xjump self rd lid t ds s = r) (hne : Good r) {a : Act} {w : World} {E E0 : Env}
    (hE : E0.le E) (hm : E.m lid = some (cb, 0)) (hr : RdOk E rd F.round) (ht : TR E N t a.tmps) (hds : DR E ds a.defers) (hg : GL E X.ng) (hW : WR (CRX X P) E w0 s.h s.nx w) {v : Value} :
    rangePost F n P cb (Post X P N w0 E0 r) a (.returned v) w := by
  obtain ⟨v', h, nx⟩ := s
  subst hx
  change Good (onLoop .fail (h.get lid) fun st pe t' ps as bd => Bool.rec
    (Option.rec (.norm ⟨t, ds, h.set lid (.loop .exhausted pe t' ps as bd), nx⟩) (fun c => self rd c ⟨t, ds, h.set lid (.loop .exhausted pe t' ps as bd), nx⟩) pe) .fail (isBusy st) : GR) at hne
  show rangePost F n P cb (Post X P N w0 E0 (onLoop .fail (h.get lid) fun st pe t' ps as bd => Bool.rec
    (Option.rec (.norm ⟨t, ds, h.set lid (.loop .exhausted pe t' ps as bd), nx⟩) (fun c => self rd c ⟨t, ds, h.set lid (.loop .exhausted pe t' ps as bd), nx⟩) pe) .fail (isBusy st))) a (.returned v) w
  cases hl : h.get lid with
  | none => rw [hl] at hne; exact hne.elim
  | some o =>
    rw [hl] at hne
    cases o <;> first | exact hne.elim | skip
    rename_i st pe t' ps as bd
    obtain ⟨rr, N', q1, q2, q3, q4, q5, q6, q7, q8, q9⟩ := loopObj hW hl hm
    change Good (Bool.rec (Option.rec (.norm ⟨t, ds, h.set lid (.loop .exhausted pe t' ps as bd), nx⟩) (fun c => self rd c ⟨t, ds, h.set lid (.loop .exhausted pe t' ps as bd), nx⟩) pe) .fail (isBusy st) : GR) at hne
    show rangePost F n P cb (Post X P N w0 E0 (Bool.rec (Option.rec (.norm ⟨t, ds, h.set lid (.loop .exhausted pe t' ps as bd), nx⟩) (fun c => self rd c ⟨t, ds, h.set lid (.loop .exhausted pe t' ps as bd), nx⟩) pe) .fail (isBusy st))) a (.returned v) w
    cases hb : isBusy st with
    | true => rw [hb] at hne; exact hne.elim
    | false =>
      rw [hb] at hne
      have hW2 : WR (CRX X P) E w0 (h.set lid (.loop .exhausted pe t' ps as bd)) nx (w.putObj cb (.loop { rr with state := .exhausted })) := by
        refine updObj_ok hW hl hm q1 (fun _ _ _ h => by cases h) q2 ?_
        simp only [OR]
        exact ⟨cb, _, hm, World.putObj_heap_same (heap_lt q1), q2, rfl, q4, N', q5, q6, q7, q8, q9⟩
      refine ⟨rr.pending, _, run_endLoop q1 (by rw [q3]; exact isBusy_f hb), ?_⟩
      have hp := q9
      cases pe with
      | none =>
        cases hpp : rr.pending with
        | none => rw [hpp] at hW2; exact ⟨E, hE, ht, hds, hW2⟩
        | some c => rw [hpp] at hp; exact hp.elim
      | some g =>
        cases hpp : rr.pending with
        | none => rw [hpp] at hp; exact hp.elim
        | some c =>
          rw [hpp] at hp hW2
          have hp : g = cCode { X with nt := N } P c := hp N
          subst hp
          exact wpIn_mono (hs n rd N c _ F a _ E hne hF hr hg ⟨ht, hds, hW2⟩) fun e a' w' hp => hp.mono hE

theorem run_enterLoop_in {fn : FuncId} {tmps : Array Value} {ps : Array Tmp} {as bd : Code} {l : Nat} {r : Loop} {w : World} (h : w.heap[l]? = some (.loop r)) :
    (Instr.enterLoop fn tmps ps as bd (some l)).run P w = .ok (w.heap.size, []) (w.alloc (.loop { state := .ready, pending := none, fn, tmps, params := ps, assign := as, body := bd, defers := r.defers })) := by
  unfold Instr.enterLoop
  simp only [Sem.run_bind, run_getLoop h, Result.andThen, Sem.run_pure, run_newObj_alloc]

theorem xrf_ok (H : FOk P X fs) (hs : SelfOk P X w0 self) {rd : Option Nat} {N n : Nat} {F : Fence} (hF : Wd F) {f : Operand} {of : Od} (hof : cod X.ng f = some of) {ps : Array Nat} {as bd : Code} (hps : ∀ p ∈ ps.toList, p < N) {t : T GV} {ds : List Nat} {h : T GO} {nx : Nat} {r : GR}
    (hx : xrf self fs rd of ps.toList (cCode { X with nt := N } P as) (cCode { X with nt := N } P bd) t ds h nx = r) (hne : Good r) {a : Act} {w : World} {E : Env} (hr : RdOk E rd F.round) (ht : TR E N t a.tmps) (hds : DR E ds a.defers) (hg : GL E X.ng) (hW : WR (CRX X P) E w0 h nx w) :
    (Code.rangeFunc f ps as bd).wpIn F n P (Post X P N w0 E r) a w := by
  have hrf := ev_ok ht hg hof
  subst hx
  unfold xrf at hne ⊢
  cases hv : ev t of <;> rw [hv] at hne hrf <;> first | exact hne.elim | skip
  rename_i fn first cap
  cases fn <;> first | exact hne.elim | skip
  rename_i fid
  simp only [R] at hrf
  obtain ⟨va, vc, hval, h1, h2⟩ := hrf
  refine wpIn_rangeFunc fun fno hfn => ?_
  -- the call, whatever the record's number
  have call : ∀ {lid cb : Nat} {h2' : T GO} {nx2 : Nat} {mark : List Deferred} {w1 : World} {E1 : Env} {ds1 : List Nat} {r1 : GR}, (Instr.enterLoop fno a.tmps ps as bd F.round).run P w = .ok (cb, mark) w1 → E.le E1 → E1.m lid = some (cb, 0) → WR (CRX X P) E1 w0 h2' nx2 w1 →
      DR E1 ds1 (mark ++ a.defers) → (Option.rec .fail (fun s => xjump self rd lid t ds1 s) (xcall self fs fid (first ++ (.yl lid :: cap)) h2' nx2) : GR) = r1 → Good r1 →
      ∃ (l : Nat) (mark : List Deferred) (w₁ : World) (d : Deferred) (w₁' : World) (f' : FuncId) (args : Array Value) (w₂ : World),
      (Instr.enterLoop fno a.tmps ps as bd F.round).run P w = .ok (l, mark) w₁ ∧
      (resolve a.eval (rangeCall f l) 0).run P w₁ = .ok d w₁' ∧
      (∀ f', Target.leads P w₁' d.target d.args = some f' → F.fn f') ∧
      (invoke d.target d.args).run P w₁' = .ok (.enter f' args) w₂ ∧
      (F.depth.isSome = true → 1 ≤ n) ∧
      CallsIn F (n - 1) P f' args w₂ (rangePost F n P l (Post X P N w0 E r1) { a with defers := mark ++ a.defers }) := by
    intro lid cb h2' nx2 mark w1 E1 ds1 r1 hent hE hm hW1 hd1 hr1 hne1
    subst hr1
    cases hc : xcall self fs fid (first ++ (.yl lid :: cap)) h2' nx2 with
    | none => rw [hc] at hne1; exact hne1.elim
    | some s =>
      rw [hc] at hne1
      have harg : RL E1 (first ++ (.yl lid :: cap)) (va.toList ++ (.func (.yield cb) #[] #[] :: vc.toList)) := by
        refine (RL.mono hE _ _ h1).append ?_
        simp only [RL]
        exact ⟨_, _, rfl, by simp only [R]; exact ⟨cb, hm, rfl⟩, RL.mono hE _ _ h2⟩
      obtain ⟨c1, c2⟩ := xcall_ok H hs hc harg (hg.mono hE) hW1
      refine ⟨cb, mark, w1, { target := .fn (.func fid) vc, args := va ++ #[.func (.yield cb) #[] #[]] }, w1, fid, (va ++ #[.func (.yield cb) #[] #[]]) ++ vc, w1, hent, ?_, fun f' _ => hF.fn f', ?_, (fun hd => by rw [hF.depth] at hd; cases hd), ?_⟩
      · simp only [resolve, Deferred.ofValue, hval]
        have : Array.map a.eval #[Operand.const (Value.func (Fn.yield cb) #[] #[])] = #[Value.func (Fn.yield cb) #[] #[]] := by simp [Act.eval]
        rw [this]; rfl
      · simp only [invoke]; exact c2 _ _
      · have e : (va ++ #[.func (.yield cb) #[] #[]]) ++ vc = (va.toList ++ (.func (.yield cb) #[] #[] :: vc.toList)).toArray := by simp [← Array.toList_inj]
        rw [e]
        refine hF.calls ((c1 (n - 1)).mono fun e w' he => ?_)
        obtain ⟨v, E', rfl, e1, e2, e3⟩ := he
        exact xjump_ok (a := { a with defers := mark ++ a.defers }) hs hF rfl hne1 (Env.le_trans hE e1) (e1.1 _ _ hm) ((hr.mono hE).mono e1) ((ht.mono hE).mono e1) (hd1.mono e1) ((hg.mono hE).mono e1) e3
  cases rd with
  | none =>
    cases hro : F.round with
    | some c => rw [hro] at hr; exact hr.elim
    | none =>
      obtain ⟨E1, f1, f2, f3⟩ := newObj_ok hW (o := .defs) (.deferred (some [])) (fun E' hle hm => by simp only [OR]; exact ⟨_, hm, World.alloc_heap_new w _, hW.fr.size⟩)
      obtain ⟨E2, g1, g2, g3⟩ := newObj_ok f3 (o := .loop .ready none t ps.toList (cCode { X with nt := N } P as) (cCode { X with nt := N } P bd)) (.loop { state := .ready, pending := none, fn := fno, tmps := a.tmps, params := ps, assign := as, body := bd, defers := w.heap.size }) (fun E' hle hm => by
        simp only [OR]
        exact ⟨_, _, hm, World.alloc_heap_new _ _, f3.fr.size, rfl, by simp, N, (ht.mono f1).mono hle, hps, rfl, rfl, trivial⟩)
      have hsz : (w.alloc (.deferred (some []))).heap.size = w.heap.size + 1 := World.size_alloc _ _
      rw [hsz] at g2
      have fin := call (by rw [hro]; exact run_enterLoop_outer fno a.tmps ps as bd) (Env.le_trans f1 g1) g2 g3 (ds1 := nx :: ds) ⟨_, _, rfl, g1.1 _ _ f2, (hds.mono f1).mono g1⟩ rfl hne
      rw [hro] at fin
      exact fin
  | some l =>
    cases hro : F.round with
    | none => rw [hro] at hr; exact hr.elim
    | some c =>
      rw [hro] at hr
      have hml : E.m l = some (c, 0) := hr
      change Good (onLoop .fail (h.get l) fun _ _ _ _ _ _ => Option.rec .fail (fun s => xjump self (some l) nx t ds s) (xcall self fs fid (first ++ (.yl nx :: cap)) (h.set nx (.loop .ready none t ps.toList (cCode { X with nt := N } P as) (cCode { X with nt := N } P bd))) (Nat.succ nx)) : GR) at hne
      cases hl : h.get l with
      | none => rw [hl] at hne; exact hne.elim
      | some o =>
        rw [hl] at hne
        cases o <;> first | exact hne.elim | skip
        rename_i st pe t' ps' as' bd'
        obtain ⟨rr, N', q1, q2, q3, q4, q5, q6, q7, q8, q9⟩ := loopObj hW hl hml
        obtain ⟨E2, g1, g2, g3⟩ := newObj_ok hW (o := .loop .ready none t ps.toList (cCode { X with nt := N } P as) (cCode { X with nt := N } P bd)) (.loop { state := .ready, pending := none, fn := fno, tmps := a.tmps, params := ps, assign := as, body := bd, defers := rr.defers }) (fun E' hle hm => by
          simp only [OR]
          exact ⟨_, _, hm, World.alloc_heap_new _ _, hW.fr.size, rfl, by simp, N, ht.mono hle, hps, rfl, rfl, trivial⟩)
        have fin := call (by rw [hro]; exact run_enterLoop_in (fn := fno) (tmps := a.tmps) (ps := ps) (as := as) (bd := bd) q1) g1 g2 g3 (mark := []) (ds1 := ds) (hds.mono g1) rfl hne
        rw [hro] at fin
        simp only [hl]
        exact fin

theorem xthen_ne {r : GR} {k : GS → GR} (h : Good (xthen r k)) : Good r := by
  induction r with
  | alt x y hx hy => exact ⟨hx h.1, hy h.2⟩
  | fail => exact h
  | _ => trivial
/-- behind a first piece of code -/
theorem post_gen {N : Nat} {E : Env} {r : GR} {k : GS → GR} {e : Exit} {a : Act} {w : World} {K : Act → World → Prop} {Q : Exit → Act → World → Prop} (hg : Good (xthen r k)) (hp : Post X P N w0 E r e a w)
    (hQ : ∀ e a w, Post X P N w0 E (xthen r k) e a w → Q e a w) (hK : ∀ s E', Good (k s) → E.le E' → Rel X P N w0 s a w E' → (∀ e a w, Post X P N w0 E (k s) e a w → Q e a w) → K a w) : Exit.then K Q e a w := by
  induction r with
  | norm s => cases e <;> first | exact hp.elim | (obtain ⟨E', h1, h2⟩ := hp; exact hK s E' hg h1 h2 hQ)
  | ret s => cases e <;> first | exact hp.elim | exact hQ _ _ _ hp
  | exit id s => cases e <;> first | exact hp.elim | exact hQ _ _ _ hp
  | goto l s => cases e <;> first | exact hp.elim | exact hQ _ _ _ hp
  | fail => exact hp.elim
  | alt x y hx hy =>
    rcases hp with hp | hp
    · exact hx hg.1 hp (fun e a w h => hQ e a w (.inl h))
    · exact hy hg.2 hp (fun e a w h => hQ e a w (.inr h))
theorem post_then {N : Nat} {E : Env} {r : GR} {k : GS → GR} {e : Exit} {a : Act} {w : World} {K : Act → World → Prop} (hg : Good (xthen r k)) (hp : Post X P N w0 E r e a w)
    (hK : ∀ s E', Good (k s) → E.le E' → Rel X P N w0 s a w E' → (∀ e a w, Post X P N w0 E (k s) e a w → Post X P N w0 E (xthen r k) e a w) → K a w) : Exit.then K (Post X P N w0 E (xthen r k)) e a w :=
  post_gen hg hp (fun _ _ _ h => h) hK

theorem loop_ok (k : Nat) : (∀ j, j < k → SelfOk P X w0 (run fs j)) → ∀ (n : Nat) (rd : Option Nat) (N : Nat) (c : Code) (s : GS) (F : Fence) (a : Act) (w : World) (E E0 : Env) (Q : Exit → Act → World → Prop),
    Good (run fs k rd (.loop (cCode { X with nt := N } P c)) s) → Wd F → RdOk E rd F.round → GL E X.ng → Rel X P N w0 s a w E → E0.le E →
    (∀ e a w, Post X P N w0 E0 (run fs k rd (.loop (cCode { X with nt := N } P c)) s) e a w → Q e a w) → Code.roundsIn F n P c Q k a w := by
  induction k with
  | zero => intro _ n rd N c s F a w E E0 Q hne; exact hne.elim
  | succ k ih =>
    intro hs n rd N c s F a w E E0 Q hne hF hr hg hrel hE hQ
    obtain ⟨t, ds, h, nx⟩ := s
    change Good (xthen (run fs k rd (cCode { X with nt := N } P c) ⟨t, ds, h, nx⟩) (fun s => run fs k rd (.loop (cCode { X with nt := N } P c)) s)) at hne
    change ∀ e a w, Post X P N w0 E0 (xthen (run fs k rd (cCode { X with nt := N } P c) ⟨t, ds, h, nx⟩) (fun s => run fs k rd (.loop (cCode { X with nt := N } P c)) s)) e a w → Q e a w at hQ
    rw [roundsIn_succ]
    refine wpIn_mono (hs k (Nat.lt_succ_self k) n rd N c _ F a w E (xthen_ne hne) hF hr hg hrel) fun e a1 w1 hp => ?_
    have := post_then (K := Code.roundsIn F n P c Q k) hne hp fun s E1 hg1 h1 h2 hk => ih (fun j hj => hs j (Nat.lt_succ_of_lt hj)) n rd N c s F a1 w1 E1 E Q hg1 hF (hr.mono h1) (hg.mono h1) h2 h1 (fun e a w h => hQ e a w (Post.mono hE (hk e a w h)))
    cases e <;> first | exact this | exact hQ _ _ _ (Post.mono hE this)

theorem xblock_ne {id : Nat} {r : GR} (h : Good (xblock id r)) : Good r := by
  induction r with
  | alt x y hx hy => exact ⟨hx h.1, hy h.2⟩
  | fail => exact h
  | _ => trivial
theorem xblock_post {N id : Nat} {E : Env} {r : GR} {e : Exit} {a : Act} {w : World} {Q : Exit → Act → World → Prop} (hp : Post X P N w0 E r e a w) (hQ : ∀ e a w, Post X P N w0 E (xblock id r) e a w → Q e a w) : Exit.inBlock id Q e a w := by
  induction r with
  | norm s => cases e <;> first | exact hp.elim | exact hQ _ _ _ hp
  | ret s => cases e <;> first | exact hp.elim | exact hQ _ _ _ hp
  | goto l s => cases e <;> first | exact hp.elim | exact hQ _ _ _ hp
  | fail => exact hp.elim
  | alt x y hx hy =>
    rcases hp with hp | hp
    · exact hx hp (fun e a w h => hQ e a w (.inl h))
    · exact hy hp (fun e a w h => hQ e a w (.inr h))
  | exit m s =>
    cases e <;> first | exact hp.elim | skip
    rename_i m'
    obtain ⟨rfl, hp⟩ := hp
    change ∀ e a w, Post X P N w0 E (Bool.rec (.exit m s) (.norm s) (Nat.beq m id)) e a w → Q e a w at hQ
    show if m = id then _ else _
    cases hb : Nat.beq m id with
    | true => rw [if_pos (beq_t hb)]; rw [hb] at hQ; exact hQ .normal _ _ hp
    | false => rw [if_neg (beq_f hb)]; rw [hb] at hQ; exact hQ (.exit m) _ _ ⟨rfl, hp⟩

theorem step_ok (H : FOk P X fs) (k : Nat) (hs : ∀ j, j ≤ k → SelfOk P X w0 (run fs j)) : SelfOk P X w0 (run fs (k + 1)) := by
  intro n rd N c s F a w E hne hF hr hg hrel
  have hk := hs k (Nat.le_refl k)
  obtain ⟨t, ds, h, nx⟩ := s
  obtain ⟨ht, hds, hW⟩ := hrel
  have hrel : Rel X P N w0 ⟨t, ds, h, nx⟩ a w E := ⟨ht, hds, hW⟩
  cases c with
  | skip => exact wpIn_skip ⟨E, Env.le_refl E, hrel⟩
  | region id ops draw =>
    cases draw with
    | false =>
      exact wpIn_region_list (xops_ok H hk hF ops.toList _ t h nx a w E hne ht hds hg hW (fun e a' w' hp => hp))
    | true =>
      change Good (run fs (k + 1) rd (if drawOk (ops.toList.map depsOf) (cDraw { X with nt := N } P ops) = true then .dreg (cDraw { X with nt := N } P ops) else .no) _) at hne
      show (Code.region id ops true).wpIn F n P (Post X P N w0 E (run fs (k + 1) rd (if drawOk (ops.toList.map depsOf) (cDraw { X with nt := N } P ops) = true then .dreg (cDraw { X with nt := N } P ops) else .no) _)) a w
      by_cases hd : drawOk (ops.toList.map depsOf) (cDraw { X with nt := N } P ops) = true
      · rw [if_pos hd] at hne ⊢
        exact xdreg_ok H hk hF hd rfl hne ht hds hg hW
      · rw [if_neg hd] at hne; exact hne.elim
  | seq x y =>
    change Good (xthen (run fs k rd (cCode { X with nt := N } P x) ⟨t, ds, h, nx⟩) (fun s => run fs k rd (cCode { X with nt := N } P y) s)) at hne
    refine wpIn_seq (wpIn_mono (hk n rd N x _ F a w E (xthen_ne hne) hF hr hg hrel) fun e a1 w1 hp => ?_)
    exact post_then (r := run fs k rd (cCode { X with nt := N } P x) ⟨t, ds, h, nx⟩) (k := fun s => run fs k rd (cCode { X with nt := N } P y) s) hne hp fun s E' hg' hE' hrel' hkk =>
      wpIn_mono (hk n rd N y s F a1 w1 E' hg' hF (hr.mono hE') (hg.mono hE') hrel') fun e a w hp => hkk e a w (hp.mono hE')
  | cond c x y =>
    change Good (run fs (k + 1) rd (match cod X.ng c with | some o => .cond o (cCode { X with nt := N } P x) (cCode { X with nt := N } P y) | none => .no) _) at hne
    show (Code.cond c x y).wpIn F n P (Post X P N w0 E (run fs (k + 1) rd (match cod X.ng c with | some o => .cond o (cCode { X with nt := N } P x) (cCode { X with nt := N } P y) | none => .no) _)) a w
    cases hc : cod X.ng c with
    | none => rw [hc] at hne; exact hne.elim
    | some o =>
      rw [hc] at hne
      have hr' := ev_ok ht hg hc
      change Good (onBool (condU t o (fun t' => run fs k rd (cCode { X with nt := N } P x) ⟨t', ds, h, nx⟩) (fun t' => run fs k rd (cCode { X with nt := N } P y) ⟨t', ds, h, nx⟩)) (ev t o) fun b => Bool.rec (run fs k rd (cCode { X with nt := N } P y) ⟨t, ds, h, nx⟩) (run fs k rd (cCode { X with nt := N } P x) ⟨t, ds, h, nx⟩) b : GR) at hne
      show (Code.cond c x y).wpIn F n P (Post X P N w0 E (onBool (condU t o (fun t' => run fs k rd (cCode { X with nt := N } P x) ⟨t', ds, h, nx⟩) (fun t' => run fs k rd (cCode { X with nt := N } P y) ⟨t', ds, h, nx⟩)) (ev t o) fun b => Bool.rec (run fs k rd (cCode { X with nt := N } P y) ⟨t, ds, h, nx⟩) (run fs k rd (cCode { X with nt := N } P x) ⟨t, ds, h, nx⟩) b)) a w
      by_cases hbv : ∃ b, ev t o = .bool b
      · obtain ⟨b, hv⟩ := hbv
        rw [hv] at hne hr' ⊢
        have hb : a.eval c = .bool b := by simpa only [R] using hr'
        cases b with
        | true => exact wpIn_cond_true hb (hk n rd N x _ F a w E hne hF hr hg hrel)
        | false => exact wpIn_cond_false hb (hk n rd N y _ F a w E hne hF hr hg hrel)
      · have hd : ∀ (z : GR) (f : Bool → GR), onBool z (ev t o) f = z := by
          intro z f
          cases hv : ev t o <;> first | rfl | exact absurd ⟨_, hv⟩ hbv
        rw [hd] at hne ⊢
        cases o <;> first | exact hne.elim | skip
        rename_i m
        unfold condU at hne ⊢
        cases hv : tget t m <;> simp only [hv, onUn] at hne <;> first | exact hne.elim | skip
        rename_i u
        simp only [hv, onUn]
        cases hu : uq u .b with
        | false => rw [hu] at hne; exact hne.elim
        | true =>
          rw [hu] at hne
          have := uq_eq hu; subst this
          obtain ⟨b, hb, hbe⟩ := refine_ok ht hv
          have hce : a.eval c = .bool b := by
            cases c <;> simp only [cod] at hc
            case tmp q => cases hc; exact hbe
            case const q => obtain ⟨_, _, e⟩ := Option.map_eq_some_iff.1 hc; cases e
            case global q => split at hc <;> cases hc
            case func q => cases hc
          cases b with
          | true => exact wpIn_cond_true hce (wpIn_mono (hk n rd N x _ F a w E hne.1 hF hr hg ⟨hb, hds, hW⟩) fun e a w hp => .inl hp)
          | false => exact wpIn_cond_false hce (wpIn_mono (hk n rd N y _ F a w E hne.2 hF hr hg ⟨hb, hds, hW⟩) fun e a w hp => .inr hp)
  | block id b =>
    change Good (xblock id (run fs k rd (cCode { X with nt := N } P b) ⟨t, ds, h, nx⟩)) at hne
    refine wpIn_block (wpIn_mono (hk n rd N b _ F a w E (xblock_ne hne) hF hr hg hrel) fun e a1 w1 hp => ?_)
    show Exit.inBlock id (Post X P N w0 E (xblock id (run fs k rd (cCode { X with nt := N } P b) ⟨t, ds, h, nx⟩))) e a1 w1
    exact xblock_post hp (fun _ _ _ h => h)
  | loop b =>
    exact wpIn_loop_rounds (k + 1) (loop_ok (k + 1) (fun j hj => hs j (Nat.le_of_lt_succ hj)) n rd N b _ F a w E E _ hne hF hr hg hrel (Env.le_refl E) fun e a w hp => hp)
  | rangeFunc f ps as bd =>
    change Good (run fs (k + 1) rd (match cod X.ng f with | some o => if ps.toList.all (· < N) then .rf o ps.toList (cCode { X with nt := N } P as) (cCode { X with nt := N } P bd) else .no | none => .no) _) at hne
    show (Code.rangeFunc f ps as bd).wpIn F n P (Post X P N w0 E (run fs (k + 1) rd (match cod X.ng f with | some o => if ps.toList.all (· < N) then .rf o ps.toList (cCode { X with nt := N } P as) (cCode { X with nt := N } P bd) else .no | none => .no) _)) a w
    cases hc : cod X.ng f with
    | none => rw [hc] at hne; exact hne.elim
    | some o =>
      rw [hc] at hne
      simp only at hne ⊢
      by_cases hp : ps.toList.all (· < N) = true
      · rw [if_pos hp] at hne ⊢
        exact xrf_ok H hk hF hc (fun p hp' => by simpa using List.all_eq_true.1 hp p hp') rfl hne hr ht hds hg hW
      · rw [if_neg hp] at hne; exact hne.elim
  | exit id => exact wpIn_exit ⟨rfl, E, Env.le_refl E, hrel⟩
  | scope b => exact hne.elim
  | label l => exact wpIn_label ⟨E, Env.le_refl E, hrel⟩
  | goto l => exact wpIn_goto ⟨rfl, E, Env.le_refl E, hrel⟩
  | ret => exact wpIn_ret ⟨E, Env.le_refl E, hrel⟩
  | refuse r => exact hne.elim

theorem run_ok (H : FOk P X fs) (k : Nat) : SelfOk P X w0 (run fs k) := by
  induction k using Nat.strongRecOn with
  | _ k ih =>
    cases k with
    | zero => intro n rd N c s F a w E hne; exact hne.elim
    | succ k => exact step_ok H k fun j hj => ih j (Nat.lt_succ_of_le hj)
end
end Go.Gh
