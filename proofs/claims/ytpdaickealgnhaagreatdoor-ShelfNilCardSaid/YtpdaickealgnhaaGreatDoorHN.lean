/- The run is sound. -/
import Derived.Test.YtpdaickealgnhaaGreatDoorHM
import Derived.Scope
import Derived.Laws.Externs
import Derived.ChangeSame
import Derived.ReadAgain
import Derived.RowKit
import Derived.LaidMore
import Derived.OpenShut
namespace Go.Gh
set_option linter.unusedVariables false

section
variable {P : Program} {X : Cx} {fs : T GFn} {w0 : World} {self : Option Nat → GC → GS → GR}

theorem isBusy_f {s : LoopState} (h : isBusy s = false) : s ≠ .busy := by cases s <;> first | (intro e; cases e; done) | cases h

/-- when the function that was ranged over has ended -/
theorem xjump_ok (hs : SelfOk P X w0 self) {rd : Option Nat} {N n lid cb : Nat} {F : Fence} (hF : Wd F) {t : T GV} {ds : List Dq} {s : MS} {r : GR} (hx : xjump self rd lid t ds s = r) (hne : Good r) {a : Act} {w : World} {E E0 : Env}
    (hE : E0.le E) (hm : E.m lid = some (cb, 0)) (hr : RdOk E rd F.round) (ht : TR E N t a.tmps) (hds : DR E ds a.defers) (hg : GL E X.ng) (hW : WR (CRX X P) E w0 s.h s.nx w) {v : Value} :
    rangePost F n P cb (Post X P N w0 E0 r) a (.returned v) w := by
  obtain ⟨v', h, nx⟩ := s
  subst hx
  change Good (onLoop .fail (h.get lid) fun st pe t' ps as bd => Bool.rec
    (Option.rec (.norm ⟨t, ds, h.set lid (.loop .exhausted pe t' ps as bd), nx⟩) (fun c => self rd c ⟨t, ds, h.set lid (.loop .exhausted pe t' ps as bd), nx⟩) pe) .fail (isBusy st) : GR) at hne
  show rangePost F n P cb (Post X P N w0 E0 (onLoop .fail (h.get lid) fun st pe t' ps as bd => Bool.rec
    (Option.rec (.norm ⟨t, ds, h.set lid (.loop .exhausted pe t' ps as bd), nx⟩) (fun c => self rd c ⟨t, ds, h.set lid (.loop .exhausted pe t' ps as bd), nx⟩) pe) .fail (isBusy st))) a (.returned v) w
  cases hl : h.get lid with
  | none => rw [hl] at hne; exact hne.elim
  | some o =>
    rw [hl] at hne
    cases o <;> first | exact hne.elim | skip
    rename_i st pe t' ps as bd
    obtain ⟨rr, N', q1, q2, q3, q4, q5, q6, q7, q8, q9⟩ := loopObj hW hl hm
    change Good (Bool.rec (Option.rec (.norm ⟨t, ds, h.set lid (.loop .exhausted pe t' ps as bd), nx⟩) (fun c => self rd c ⟨t, ds, h.set lid (.loop .exhausted pe t' ps as bd), nx⟩) pe) .fail (isBusy st) : GR) at hne
    show rangePost F n P cb (Post X P N w0 E0 (Bool.rec (Option.rec (.norm ⟨t, ds, h.set lid (.loop .exhausted pe t' ps as bd), nx⟩) (fun c => self rd c ⟨t, ds, h.set lid (.loop .exhausted pe t' ps as bd), nx⟩) pe) .fail (isBusy st))) a (.returned v) w
    cases hb : isBusy st with
    | true => rw [hb] at hne; exact hne.elim
    | false =>
      rw [hb] at hne
      have hW2 : WR (CRX X P) E w0 (h.set lid (.loop .exhausted pe t' ps as bd)) nx (w.putObj cb (.loop { rr with state := .exhausted })) := by
        refine updObj_ok hW hl hm q1 (fun _ _ _ h => by cases h) q2 ?_
        simp only [OR]
        exact ⟨cb, _, hm, World.putObj_heap_same (heap_lt q1), q2, rfl, q4, N', q5, q6, q7, q8, q9⟩
      refine ⟨rr.pending, _, run_endLoop q1 (by rw [q3]; exact isBusy_f hb), ?_⟩
      have hp := q9
      cases pe with
      | none =>
        cases hpp : rr.pending with
        | none => rw [hpp] at hW2; exact ⟨E, hE, ht, hds, hW2⟩
        | some c => rw [hpp] at hp; exact hp.elim
      | some g =>
        cases hpp : rr.pending with
        | none => rw [hpp] at hp; exact hp.elim
        | some c =>
          rw [hpp] at hp hW2
          have hp : g = cCode { X with nt := N } P c := hp N
          subst hp
          exact wpIn_mono (hs n rd N c _ F a _ E hne hF hr hg ⟨ht, hds, hW2⟩) fun e a' w' hp => hp.mono hE

theorem run_enterLoop_in {fn : FuncId} {tmps : Array Value} {ps : Array Tmp} {as bd : Code} {l : Nat} {r : Loop} {w : World} (h : w.heap[l]? = some (.loop r)) :
    (Instr.enterLoop fn tmps ps as bd (some l)).run P w = .ok (w.heap.size, []) (w.alloc (.loop { state := .ready, pending := none, fn, tmps, params := ps, assign := as, body := bd, defers := r.defers })) := by
  unfold Instr.enterLoop
  simp only [Sem.run_bind, run_getLoop h, Result.andThen, Sem.run_pure, run_newObj_alloc]

theorem xrf_ok (H : FOk P X w0 fs) (hs : SelfOk P X w0 self) {rd : Option Nat} {N n : Nat} {F : Fence} (hF : Wd F) {f : Operand} {of : Od} (hof : cod X.ng f = some of) {ps : Array Nat} {as bd : Code} (hps : ∀ p ∈ ps.toList, p < N) {t : T GV} {ds : List Dq} {h : T GO} {nx : Nat} {r : GR}
    (hx : xrf self fs rd of ps.toList (cCode { X with nt := N } P as) (cCode { X with nt := N } P bd) t ds h nx = r) (hne : Good r) {a : Act} {w : World} {E : Env} (hr : RdOk E rd F.round) (ht : TR E N t a.tmps) (hds : DR E ds a.defers) (hg : GL E X.ng) (hW : WR (CRX X P) E w0 h nx w) :
    (Code.rangeFunc f ps as bd).wpIn F n P (Post X P N w0 E r) a w := by
  have hrf := ev_ok ht hg hof
  subst hx
  unfold xrf at hne ⊢
  cases hv : ev t of <;> rw [hv] at hne hrf <;> first | exact hne.elim | skip
  rename_i fn first cap
  cases fn <;> first | exact hne.elim | skip
  rename_i fid
  simp only [R] at hrf
  obtain ⟨va, vc, hval, h1, h2⟩ := hrf
  refine wpIn_rangeFunc fun fno hfn => ?_
  -- the call, whatever the record's number
  have call : ∀ {lid cb : Nat} {h2' : T GO} {nx2 : Nat} {mark : List Deferred} {w1 : World} {E1 : Env} {ds1 : List Dq} {r1 : GR}, (Instr.enterLoop fno a.tmps ps as bd F.round).run P w = .ok (cb, mark) w1 → E.le E1 → E1.m lid = some (cb, 0) → WR (CRX X P) E1 w0 h2' nx2 w1 →
      DR E1 ds1 (mark ++ a.defers) → (Option.rec .fail (fun s => xjump self rd lid t ds1 s) (xcall self fs fid (first ++ (.yl lid :: cap)) h2' nx2) : GR) = r1 → Good r1 →
      ∃ (l : Nat) (mark : List Deferred) (w₁ : World) (d : Deferred) (w₁' : World) (f' : FuncId) (args : Array Value) (w₂ : World),
      (Instr.enterLoop fno a.tmps ps as bd F.round).run P w = .ok (l, mark) w₁ ∧
      (resolve a.eval (rangeCall f l) 0).run P w₁ = .ok d w₁' ∧
      (∀ f', Target.leads P w₁' d.target d.args = some f' → F.fn f') ∧
      (invoke d.target d.args).run P w₁' = .ok (.enter f' args) w₂ ∧
      (F.depth.isSome = true → 1 ≤ n) ∧
      CallsIn F (n - 1) P f' args w₂ (rangePost F n P l (Post X P N w0 E r1) { a with defers := mark ++ a.defers }) := by
    intro lid cb h2' nx2 mark w1 E1 ds1 r1 hent hE hm hW1 hd1 hr1 hne1
    subst hr1
    cases hc : xcall self fs fid (first ++ (.yl lid :: cap)) h2' nx2 with
    | none => rw [hc] at hne1; exact hne1.elim
    | some s =>
      rw [hc] at hne1
      have harg : RL E1 (first ++ (.yl lid :: cap)) (va.toList ++ (.func (.yield cb) #[] #[] :: vc.toList)) := by
        refine (RL.mono hE _ _ h1).append ?_
        simp only [RL]
        exact ⟨_, _, rfl, by simp only [R]; exact ⟨cb, hm, rfl⟩, RL.mono hE _ _ h2⟩
      obtain ⟨c1, c2⟩ := xcall_ok H hs hc harg (hg.mono hE) hW1
      refine ⟨cb, mark, w1, { target := .fn (.func fid) vc, args := va ++ #[.func (.yield cb) #[] #[]] }, w1, fid, (va ++ #[.func (.yield cb) #[] #[]]) ++ vc, w1, hent, ?_, fun f' _ => hF.fn f', ?_, (fun hd => by rw [hF.depth] at hd; cases hd), ?_⟩
      · simp only [resolve, Deferred.ofValue, hval]
        have : Array.map a.eval #[Operand.const (Value.func (Fn.yield cb) #[] #[])] = #[Value.func (Fn.yield cb) #[] #[]] := by simp [Act.eval]
        rw [this]; rfl
      · simp only [invoke]; exact c2 _ _
      · have e : (va ++ #[.func (.yield cb) #[] #[]]) ++ vc = (va.toList ++ (.func (.yield cb) #[] #[] :: vc.toList)).toArray := by simp [← Array.toList_inj]
        rw [e]
        refine hF.calls ((c1 (n - 1)).mono fun e w' he => ?_)
        obtain ⟨v, E', rfl, e1, e2, e3⟩ := he
        exact xjump_ok (a := { a with defers := mark ++ a.defers }) hs hF rfl hne1 (Env.le_trans hE e1) (e1.1 _ _ hm) ((hr.mono hE).mono e1) ((ht.mono hE).mono e1) (hd1.mono e1) ((hg.mono hE).mono e1) e3
  cases rd with
  | none =>
    cases hro : F.round with
    | some c => rw [hro] at hr; exact hr.elim
    | none =>
      obtain ⟨E1, f1, f2, f3⟩ := newObj_ok hW (o := .defs) (.deferred (some [])) (fun E' hle hm => by simp only [OR]; exact ⟨_, hm, World.alloc_heap_new w _, hW.fr.size⟩)
      obtain ⟨E2, g1, g2, g3⟩ := newObj_ok f3 (o := .loop .ready none t ps.toList (cCode { X with nt := N } P as) (cCode { X with nt := N } P bd)) (.loop { state := .ready, pending := none, fn := fno, tmps := a.tmps, params := ps, assign := as, body := bd, defers := w.heap.size }) (fun E' hle hm => by
        simp only [OR]
        exact ⟨_, _, hm, World.alloc_heap_new _ _, f3.fr.size, rfl, by simp, N, (ht.mono f1).mono hle, hps, rfl, rfl, trivial⟩)
      have hsz : (w.alloc (.deferred (some []))).heap.size = w.heap.size + 1 := World.size_alloc _ _
      rw [hsz] at g2
      have fin := call (by rw [hro]; exact run_enterLoop_outer fno a.tmps ps as bd) (Env.le_trans f1 g1) g2 g3 (ds1 := .col nx :: ds) ⟨_, _, rfl, g1.1 _ _ f2, (hds.mono f1).mono g1⟩ rfl hne
      rw [hro] at fin
      exact fin
  | some l =>
    cases hro : F.round with
    | none => rw [hro] at hr; exact hr.elim
    | some c =>
      rw [hro] at hr
      have hml : E.m l = some (c, 0) := hr
      change Good (onLoop .fail (h.get l) fun _ _ _ _ _ _ => Option.rec .fail (fun s => xjump self (some l) nx t ds s) (xcall self fs fid (first ++ (.yl nx :: cap)) (h.set nx (.loop .ready none t ps.toList (cCode { X with nt := N } P as) (cCode { X with nt := N } P bd))) (Nat.succ nx)) : GR) at hne
      cases hl : h.get l with
      | none => rw [hl] at hne; exact hne.elim
      | some o =>
        rw [hl] at hne
        cases o <;> first | exact hne.elim | skip
        rename_i st pe t' ps' as' bd'
        obtain ⟨rr, N', q1, q2, q3, q4, q5, q6, q7, q8, q9⟩ := loopObj hW hl hml
        obtain ⟨E2, g1, g2, g3⟩ := newObj_ok hW (o := .loop .ready none t ps.toList (cCode { X with nt := N } P as) (cCode { X with nt := N } P bd)) (.loop { state := .ready, pending := none, fn := fno, tmps := a.tmps, params := ps, assign := as, body := bd, defers := rr.defers }) (fun E' hle hm => by
          simp only [OR]
          exact ⟨_, _, hm, World.alloc_heap_new _ _, hW.fr.size, rfl, by simp, N, ht.mono hle, hps, rfl, rfl, trivial⟩)
        have fin := call (by rw [hro]; exact run_enterLoop_in (fn := fno) (tmps := a.tmps) (ps := ps) (as := as) (bd := bd) q1) g1 g2 g3 (mark := []) (ds1 := ds) (hds.mono g1) rfl hne
        rw [hro] at fin
        simp only [hl]
        exact fin

theorem xthen_ne {r : GR} {k : GS → GR} (h : Good (xthen r k)) : Good r := by
  induction r with
  | alt x y hx hy => exact ⟨hx h.1, hy h.2⟩
  | fail => exact h
  | _ => trivial
/-- behind a first piece of code -/
theorem post_gen {N : Nat} {E : Env} {r : GR} {k : GS → GR} {e : Exit} {a : Act} {w : World} {K : Act → World → Prop} {Q : Exit → Act → World → Prop} (hg : Good (xthen r k)) (hp : Post X P N w0 E r e a w)
    (hQ : ∀ e a w, Post X P N w0 E (xthen r k) e a w → Q e a w) (hK : ∀ s E', Good (k s) → E.le E' → Rel X P N w0 s a w E' → (∀ e a w, Post X P N w0 E (k s) e a w → Q e a w) → K a w) : Exit.then K Q e a w := by
  induction r with
  | norm s => cases e <;> first | exact hp.elim | (obtain ⟨E', h1, h2⟩ := hp; exact hK s E' hg h1 h2 hQ)
  | ret s => cases e <;> first | exact hp.elim | exact hQ _ _ _ hp
  | exit id s => cases e <;> first | exact hp.elim | exact hQ _ _ _ hp
  | goto l s => cases e <;> first | exact hp.elim | exact hQ _ _ _ hp
  | fail => exact hp.elim
  | alt x y hx hy =>
    rcases hp with hp | hp
    · exact hx hg.1 hp (fun e a w h => hQ e a w (.inl h))
    · exact hy hg.2 hp (fun e a w h => hQ e a w (.inr h))
theorem post_then {N : Nat} {E : Env} {r : GR} {k : GS → GR} {e : Exit} {a : Act} {w : World} {K : Act → World → Prop} (hg : Good (xthen r k)) (hp : Post X P N w0 E r e a w)
    (hK : ∀ s E', Good (k s) → E.le E' → Rel X P N w0 s a w E' → (∀ e a w, Post X P N w0 E (k s) e a w → Post X P N w0 E (xthen r k) e a w) → K a w) : Exit.then K (Post X P N w0 E (xthen r k)) e a w :=
  post_gen hg hp (fun _ _ _ h => h) hK

theorem loop_ok (k : Nat) : (∀ j, j < k → SelfOk P X w0 (run fs j)) → ∀ (n : Nat) (rd : Option Nat) (N : Nat) (c : Code) (s : GS) (F : Fence) (a : Act) (w : World) (E E0 : Env) (Q : Exit → Act → World → Prop),
    Good (run fs k rd (.loop (cCode { X with nt := N } P c)) s) → Wd F → RdOk E rd F.round → GL E X.ng → Rel X P N w0 s a w E → E0.le E →
    (∀ e a w, Post X P N w0 E0 (run fs k rd (.loop (cCode { X with nt := N } P c)) s) e a w → Q e a w) → Code.roundsIn F n P c Q k a w := by
  induction k with
  | zero => intro _ n rd N c s F a w E E0 Q hne; exact hne.elim
  | succ k ih =>
    intro hs n rd N c s F a w E E0 Q hne hF hr hg hrel hE hQ
    obtain ⟨t, ds, h, nx⟩ := s
    change Good (xthen (run fs k rd (cCode { X with nt := N } P c) ⟨t, ds, h, nx⟩) (fun s => run fs k rd (.loop (cCode { X with nt := N } P c)) s)) at hne
    change ∀ e a w, Post X P N w0 E0 (xthen (run fs k rd (cCode { X with nt := N } P c) ⟨t, ds, h, nx⟩) (fun s => run fs k rd (.loop (cCode { X with nt := N } P c)) s)) e a w → Q e a w at hQ
    rw [roundsIn_succ]
    refine wpIn_mono (hs k (Nat.lt_succ_self k) n rd N c _ F a w E (xthen_ne hne) hF hr hg hrel) fun e a1 w1 hp => ?_
    have := post_then (K := Code.roundsIn F n P c Q k) hne hp fun s E1 hg1 h1 h2 hk => ih (fun j hj => hs j (Nat.lt_succ_of_lt hj)) n rd N c s F a1 w1 E1 E Q hg1 hF (hr.mono h1) (hg.mono h1) h2 h1 (fun e a w h => hQ e a w (Post.mono hE (hk e a w h)))
    cases e <;> first | exact this | exact hQ _ _ _ (Post.mono hE this)

theorem xblock_ne {id : Nat} {r : GR} (h : Good (xblock id r)) : Good r := by
  induction r with
  | alt x y hx hy => exact ⟨hx h.1, hy h.2⟩
  | fail => exact h
  | _ => trivial
theorem xblock_post {N id : Nat} {E : Env} {r : GR} {e : Exit} {a : Act} {w : World} {Q : Exit → Act → World → Prop} (hp : Post X P N w0 E r e a w) (hQ : ∀ e a w, Post X P N w0 E (xblock id r) e a w → Q e a w) : Exit.inBlock id Q e a w := by
  induction r with
  | norm s => cases e <;> first | exact hp.elim | exact hQ _ _ _ hp
  | ret s => cases e <;> first | exact hp.elim | exact hQ _ _ _ hp
  | goto l s => cases e <;> first | exact hp.elim | exact hQ _ _ _ hp
  | fail => exact hp.elim
  | alt x y hx hy =>
    rcases hp with hp | hp
    · exact hx hp (fun e a w h => hQ e a w (.inl h))
    · exact hy hp (fun e a w h => hQ e a w (.inr h))
  | exit m s =>
    cases e <;> first | exact hp.elim | skip
    rename_i m'
    obtain ⟨rfl, hp⟩ := hp
    change ∀ e a w, Post X P N w0 E (Bool.rec (.exit m s) (.norm s) (Nat.beq m id)) e a w → Q e a w at hQ
    show if m = id then _ else _
    cases hb : Nat.beq m id with
    | true => rw [if_pos (beq_t hb)]; rw [hb] at hQ; exact hQ .normal _ _ hp
    | false => rw [if_neg (beq_f hb)]; rw [hb] at hQ; exact hQ (.exit m) _ _ ⟨rfl, hp⟩

theorem stepR_scope {b : Frame} {a : Act} {k : List Item} {cs : List Frame} {w : World} {c : Code} : step P (lone (b.atR a (.code (.scope c) :: k)) cs w) = .next (lone (b.atR a (.code c :: .inScope c :: k)) cs w) :=
  step_lone_go (by simp [stepG, stepG.exec, Frame.atR])
theorem stepR_inScope {b : Frame} {a : Act} {k : List Item} {cs : List Frame} {w : World} {c : Code} : step P (lone (b.atR a (.inScope c :: k)) cs w) = .next (lone (b.atR a k) cs w) :=
  step_lone_go (by simp [stepG, stepG.exec, Frame.atR])
theorem wpIn_scope_straight {F : Fence} {n : Nat} {Q : Exit → Act → World → Prop} {a : Act} {w : World} {c : Code} (h : c.wpIn F n P (Exit.noGoto Q) a w) : (Code.scope c).wpIn F n P Q a w := by
  intro b k cs hro hb hr
  have h0 : (lone (b.atR a (.code (.scope c) :: k)) cs w).fenced P F := fenced_calm hb hr rfl
  obtain ⟨e, a₁, w₁, hq, harr⟩ := h b (.inScope c :: k) cs hro hb hr
  cases e with
  | normal => exact ⟨.normal, a₁, w₁, hq, .head h0 stepR_scope (StepsIn.trans harr (.one (fenced_calm hb hr rfl) stepR_inScope))⟩
  | exit id' =>
    have hx : exitTo id' (.inScope c :: k) = exitTo id' k := by simp [exitTo]
    exact ⟨.exit id', a₁, w₁, hq, fun k' hk => .head h0 stepR_scope (harr.1 k' (by rw [hx]; exact hk)),
      fun hr' hk => let ⟨k₁, h1, h2⟩ := harr.2 hr' (by rw [hx]; exact hk); ⟨k₁, h1, .head h0 stepR_scope h2⟩⟩
  | goto l => exact hq.elim
  | ret => exact ⟨_, a₁, w₁, hq, .of_steps (.one h0 stepR_scope) harr⟩
  | panic ch => exact ⟨_, a₁, w₁, hq, .of_steps (.one h0 stepR_scope) harr⟩
  | outgrown => exact ⟨_, a₁, w₁, hq, .of_steps (.one h0 stepR_scope) harr⟩
theorem xscope_ne {r : GR} (h : Good (xscope r)) : Good r := by
  induction r with
  | alt x y hx hy => exact ⟨hx h.1, hy h.2⟩
  | fail => exact h
  | _ => trivial
theorem xscope_post {N : Nat} {E : Env} {r : GR} {e : Exit} {a : Act} {w : World} {Q : Exit → Act → World → Prop} (hg : Good (xscope r)) (hp : Post X P N w0 E r e a w) (hQ : ∀ e a w, Post X P N w0 E (xscope r) e a w → Q e a w) : Exit.noGoto Q e a w := by
  induction r with
  | norm s => cases e <;> first | exact hp.elim | exact hQ _ _ _ hp
  | ret s => cases e <;> first | exact hp.elim | exact hQ _ _ _ hp
  | exit id s => cases e <;> first | exact hp.elim | exact hQ _ _ _ hp
  | goto l s => exact hg.elim
  | fail => exact hp.elim
  | alt x y hx hy =>
    rcases hp with hp | hp
    · exact hx hg.1 hp (fun e a w h => hQ e a w (.inl h))
    · exact hy hg.2 hp (fun e a w h => hQ e a w (.inr h))
theorem isDfr_some {l : List Oper} {x : Operand} {args : List Operand} (h : isDfr l = some (x, args)) : ∃ (pre : List Oper) (o : Oper) (as : Array Operand) (ats : Array TypeId), l = pre ++ [o] ∧ args = as.toList ∧ o.op = .defer { callee := .value x, args := as, argTypes := ats } ∧ o.dst = none ∧ o.guard = none := by
  unfold isDfr at h
  split at h
  · rename_i x' as ats aft ty hl
    cases h
    obtain ⟨ys, hys⟩ := List.getLast?_eq_some_iff.1 hl
    exact ⟨ys, _, _, _, hys, rfl, rfl, rfl, rfl⟩
  · cases h
theorem step_ok (H : FOk P X w0 fs) (k : Nat) (hs : ∀ j, j ≤ k → SelfOk P X w0 (run fs j)) : SelfOk P X w0 (run fs (k + 1)) := by
  intro n rd N c s F a w E hne hF hr hg hrel
  have hk := hs k (Nat.le_refl k)
  obtain ⟨t, ds, h, nx⟩ := s
  obtain ⟨ht, hds, hW⟩ := hrel
  have hrel : Rel X P N w0 ⟨t, ds, h, nx⟩ a w E := ⟨ht, hds, hW⟩
  cases c with
  | skip => exact wpIn_skip ⟨E, Env.le_refl E, hrel⟩
  | region id ops draw =>
    cases draw with
    | false =>
      change Good (run fs (k + 1) rd (cDfr { X with nt := N } P ops (isDfr ops.toList)) _) at hne
      show (Code.region id ops false).wpIn F n P (Post X P N w0 E (run fs (k + 1) rd (cDfr { X with nt := N } P ops (isDfr ops.toList)) _)) a w
      cases hd : isDfr ops.toList with
      | none =>
        rw [hd] at hne
        exact wpIn_region_list (xops_ok H hk hF ops.toList _ t h nx a w E hne ht hds hg hW (fun e a' w' hp => hp))
      | some p =>
        obtain ⟨x, args⟩ := p
        rw [hd] at hne
        obtain ⟨pre, o, as, ats, hl, rfl, ho, hdst, hgd⟩ := isDfr_some hd
        unfold cDfr at hne ⊢
        simp only at hne ⊢
        cases hcx : cod X.ng x with
        | none => simp only [hcx] at hne; exact hne.elim
        | some ox =>
          cases hcl : cods X.ng as.toList with
          | none => simp only [hcx, hcl] at hne; exact hne.elim
          | some l =>
            simp only [hcx, hcl] at hne ⊢
            have hfin := finD_ok (X := X) (P := P) (w0 := w0) (rd := rd) (N := N) (n := n) hF (ops := ops) (ds := ds) ho hdst hgd hcx hcl E (fun e => by
              subst e
              cases hro : F.round with
              | none => rfl
              | some c => rw [hro] at hr; exact hr.elim)
            have hgen := xops_gen H hk hF hfin pre
            rw [hl, List.dropLast_concat] at hne ⊢
            refine wpIn_region_list ?_
            rw [hl]
            exact hgen _ t h nx a w E hne ht hds hg hW (fun e a' w' hp => hp)
    | true =>
      change Good (run fs (k + 1) rd (if drawOk (ops.toList.map depsOf) (cDraw { X with nt := N } P ops) = true then .dreg (cDraw { X with nt := N } P ops) else if (drawOk (ops.toList.map depsOf) (cDrawA { X with nt := N } P ops) && alOk (cDrawA { X with nt := N } P ops) (alsOf (cDraw { X with nt := N } P ops))) = true then .areg (alsOf (cDraw { X with nt := N } P ops)) (cDrawA { X with nt := N } P ops) else .no) _) at hne
      show (Code.region id ops true).wpIn F n P (Post X P N w0 E (run fs (k + 1) rd (if drawOk (ops.toList.map depsOf) (cDraw { X with nt := N } P ops) = true then .dreg (cDraw { X with nt := N } P ops) else if (drawOk (ops.toList.map depsOf) (cDrawA { X with nt := N } P ops) && alOk (cDrawA { X with nt := N } P ops) (alsOf (cDraw { X with nt := N } P ops))) = true then .areg (alsOf (cDraw { X with nt := N } P ops)) (cDrawA { X with nt := N } P ops) else .no) _)) a w
      by_cases hd : drawOk (ops.toList.map depsOf) (cDraw { X with nt := N } P ops) = true
      · rw [if_pos hd] at hne ⊢
        exact xdreg_ok H hk hF hd rfl hne ht hds hg hW
      · rw [if_neg hd] at hne ⊢
        by_cases hd2 : (drawOk (ops.toList.map depsOf) (cDrawA { X with nt := N } P ops) && alOk (cDrawA { X with nt := N } P ops) (alsOf (cDraw { X with nt := N } P ops))) = true
        · rw [if_pos hd2] at hne ⊢
          rw [Bool.and_eq_true] at hd2
          exact xdregA_ok H hk hF hd2.1 hd2.2 rfl hne ht hds hg hW
        · rw [if_neg hd2] at hne; exact hne.elim
  | seq x y =>
    change Good (xthen (run fs k rd (cCode { X with nt := N } P x) ⟨t, ds, h, nx⟩) (fun s => run fs k rd (cCode { X with nt := N } P y) s)) at hne
    refine wpIn_seq (wpIn_mono (hk n rd N x _ F a w E (xthen_ne hne) hF hr hg hrel) fun e a1 w1 hp => ?_)
    exact post_then (r := run fs k rd (cCode { X with nt := N } P x) ⟨t, ds, h, nx⟩) (k := fun s => run fs k rd (cCode { X with nt := N } P y) s) hne hp fun s E' hg' hE' hrel' hkk =>
      wpIn_mono (hk n rd N y s F a1 w1 E' hg' hF (hr.mono hE') (hg.mono hE') hrel') fun e a w hp => hkk e a w (hp.mono hE')
  | cond c x y =>
    change Good (run fs (k + 1) rd (match cod X.ng c with | some o => .cond o (cCode { X with nt := N } P x) (cCode { X with nt := N } P y) | none => .no) _) at hne
    show (Code.cond c x y).wpIn F n P (Post X P N w0 E (run fs (k + 1) rd (match cod X.ng c with | some o => .cond o (cCode { X with nt := N } P x) (cCode { X with nt := N } P y) | none => .no) _)) a w
    cases hc : cod X.ng c with
    | none => rw [hc] at hne; exact hne.elim
    | some o =>
      rw [hc] at hne
      have hr' := ev_ok ht hg hc
      change Good (onBool (condU t o (fun t' => run fs k rd (cCode { X with nt := N } P x) ⟨t', ds, h, nx⟩) (fun t' => run fs k rd (cCode { X with nt := N } P y) ⟨t', ds, h, nx⟩)) (ev t o) fun b => Bool.rec (run fs k rd (cCode { X with nt := N } P y) ⟨t, ds, h, nx⟩) (run fs k rd (cCode { X with nt := N } P x) ⟨t, ds, h, nx⟩) b : GR) at hne
      show (Code.cond c x y).wpIn F n P (Post X P N w0 E (onBool (condU t o (fun t' => run fs k rd (cCode { X with nt := N } P x) ⟨t', ds, h, nx⟩) (fun t' => run fs k rd (cCode { X with nt := N } P y) ⟨t', ds, h, nx⟩)) (ev t o) fun b => Bool.rec (run fs k rd (cCode { X with nt := N } P y) ⟨t, ds, h, nx⟩) (run fs k rd (cCode { X with nt := N } P x) ⟨t, ds, h, nx⟩) b)) a w
      by_cases hbv : ∃ b, ev t o = .bool b
      · obtain ⟨b, hv⟩ := hbv
        rw [hv] at hne hr' ⊢
        have hb : a.eval c = .bool b := by simpa only [R] using hr'
        cases b with
        | true => exact wpIn_cond_true hb (hk n rd N x _ F a w E hne hF hr hg hrel)
        | false => exact wpIn_cond_false hb (hk n rd N y _ F a w E hne hF hr hg hrel)
      · have hd : ∀ (z : GR) (f : Bool → GR), onBool z (ev t o) f = z := by
          intro z f
          cases hv : ev t o <;> first | rfl | exact absurd ⟨_, hv⟩ hbv
        rw [hd] at hne ⊢
        cases o <;> first | exact hne.elim | skip
        rename_i m
        unfold condU at hne ⊢
        cases hv : tget t m <;> simp only [hv, onUn] at hne <;> first | exact hne.elim | skip
        rename_i u
        simp only [hv, onUn]
        cases hu : uq u .b with
        | false => rw [hu] at hne; exact hne.elim
        | true =>
          rw [hu] at hne
          have := uq_eq hu; subst this
          obtain ⟨b, hb, hbe⟩ := refine_ok ht hv
          have hce : a.eval c = .bool b := by
            cases c <;> simp only [cod] at hc
            case tmp q => cases hc; exact hbe
            case const q => obtain ⟨_, _, e⟩ := Option.map_eq_some_iff.1 hc; cases e
            case global q => split at hc <;> cases hc
            case func q => cases hc
          cases b with
          | true => exact wpIn_cond_true hce (wpIn_mono (hk n rd N x _ F a w E hne.1 hF hr hg ⟨hb, hds, hW⟩) fun e a w hp => .inl hp)
          | false => exact wpIn_cond_false hce (wpIn_mono (hk n rd N y _ F a w E hne.2 hF hr hg ⟨hb, hds, hW⟩) fun e a w hp => .inr hp)
  | block id b =>
    change Good (xblock id (run fs k rd (cCode { X with nt := N } P b) ⟨t, ds, h, nx⟩)) at hne
    refine wpIn_block (wpIn_mono (hk n rd N b _ F a w E (xblock_ne hne) hF hr hg hrel) fun e a1 w1 hp => ?_)
    show Exit.inBlock id (Post X P N w0 E (xblock id (run fs k rd (cCode { X with nt := N } P b) ⟨t, ds, h, nx⟩))) e a1 w1
    exact xblock_post hp (fun _ _ _ h => h)
  | loop b =>
    exact wpIn_loop_rounds (k + 1) (loop_ok (k + 1) (fun j hj => hs j (Nat.le_of_lt_succ hj)) n rd N b _ F a w E E _ hne hF hr hg hrel (Env.le_refl E) fun e a w hp => hp)
  | rangeFunc f ps as bd =>
    change Good (run fs (k + 1) rd (match cod X.ng f with | some o => if ps.toList.all (· < N) then .rf o ps.toList (cCode { X with nt := N } P as) (cCode { X with nt := N } P bd) else .no | none => .no) _) at hne
    show (Code.rangeFunc f ps as bd).wpIn F n P (Post X P N w0 E (run fs (k + 1) rd (match cod X.ng f with | some o => if ps.toList.all (· < N) then .rf o ps.toList (cCode { X with nt := N } P as) (cCode { X with nt := N } P bd) else .no | none => .no) _)) a w
    cases hc : cod X.ng f with
    | none => rw [hc] at hne; exact hne.elim
    | some o =>
      rw [hc] at hne
      simp only at hne ⊢
      by_cases hp : ps.toList.all (· < N) = true
      · rw [if_pos hp] at hne ⊢
        exact xrf_ok H hk hF hc (fun p hp' => by simpa using List.all_eq_true.1 hp p hp') rfl hne hr ht hds hg hW
      · rw [if_neg hp] at hne; exact hne.elim
  | exit id => exact wpIn_exit ⟨rfl, E, Env.le_refl E, hrel⟩
  | scope b =>
    change Good (xscope (run fs k rd (cCode { X with nt := N } P b) ⟨t, ds, h, nx⟩)) at hne
    refine wpIn_scope_straight (wpIn_mono (hk n rd N b _ F a w E (xscope_ne hne) hF hr hg hrel) fun e a1 w1 hp => ?_)
    show Exit.noGoto (Post X P N w0 E (xscope (run fs k rd (cCode { X with nt := N } P b) ⟨t, ds, h, nx⟩))) e a1 w1
    exact xscope_post hne hp (fun _ _ _ h => h)
  | label l => exact wpIn_label ⟨E, Env.le_refl E, hrel⟩
  | goto l => exact wpIn_goto ⟨rfl, E, Env.le_refl E, hrel⟩
  | ret => exact wpIn_ret ⟨E, Env.le_refl E, hrel⟩
  | refuse r => exact hne.elim

theorem run_ok (H : FOk P X w0 fs) (k : Nat) : SelfOk P X w0 (run fs k) := by
  induction k using Nat.strongRecOn with
  | _ k ih =>
    cases k with
    | zero => intro n rd N c s F a w E hne; exact hne.elim
    | succ k => exact step_ok H k fun j hj => ih j (Nat.lt_succ_of_le hj)
end
end Go.Gh

/- From a run to a contract: the tables, the functions, the variables as they lie. -/
namespace Go.Gh
set_option linter.unusedVariables false

section
variable {P : Program} {X : Cx}
theorem tb_ok (P : Program) : Tb P (T.ofList P.types.toList) := by
  intro t i h
  rw [T.get_ofList, Array.getElem?_toList] at h
  have hlt := (Array.getElem?_eq_some_iff.1 h).1
  show P.toTables.info? t = some i
  unfold Tables.info?
  rw [if_pos hlt]; exact h

noncomputable def cFn (X : Cx) (P : Program) (fn : Func) : Option GFn :=
  Option.rec none (fun c => Option.rec none (fun res => some (.code (cCode { X with nt := fn.ntmps } P c) res fn.ntmps)) (cRess X.tb fn.results.toList)) fn.body
noncomputable def fsOf (X : Cx) (P : Program) (ft : T Func) (L : List Nat) : T GFn :=
  List.rec .nil (fun id _ ih => Option.rec ih (fun fn => Option.rec ih (fun g => T.set ih id g) (cFn X P fn)) (ft.get id)) L
theorem fsOf_ok {ft : T Func} (f : Nat) (g : GFn) : ∀ (L : List Nat), (fsOf X P ft L).get f = some g → ∃ fn, ft.get f = some fn ∧ cFn X P fn = some g
  | [], h => by rw [show fsOf X P ft [] = .nil from rfl, T.get_nil] at h; cases h
  | id :: L, h => by
    change (Option.rec (fsOf X P ft L) (fun fn => Option.rec (fsOf X P ft L) (fun g => T.set (fsOf X P ft L) id g) (cFn X P fn)) (ft.get id) : T GFn).get f = some g at h
    cases hf : ft.get id with
    | none => rw [hf] at h; exact fsOf_ok f g L h
    | some fn =>
      rw [hf] at h
      change (Option.rec (fsOf X P ft L) (fun g => T.set (fsOf X P ft L) id g) (cFn X P fn) : T GFn).get f = some g at h
      cases hc : cFn X P fn with
      | none => rw [hc] at h; exact fsOf_ok f g L h
      | some g' =>
        rw [hc] at h
        change (T.set (fsOf X P ft L) id g').get f = some g at h
        rw [T.get_set] at h
        by_cases e : f = id
        · rw [if_pos e] at h; cases h; subst e; exact ⟨fn, hf, hc⟩
        · rw [if_neg e] at h; exact fsOf_ok f g L h
theorem cFn_some {w0 : World} {f : Nat} {fn : Func} {g : GFn} (h : cFn X P fn = some g) : ∃ c, fn.body = some c ∧ GFnOk P X w0 f fn c g := by
  obtain ⟨c, hc, h⟩ := orec_some h
  obtain ⟨res, hr, h⟩ := orec_some h
  cases h
  exact ⟨c, hc, rfl, rfl, hr⟩

theorem FOk.of (htb : X.tb = T.ofList P.types.toList) (hex : ExOk P X) (hmx : P.follows .mixedOrders = true) (hn : P.funcs.toList.all (fun fn => !(fn.name == "runtime.NumGoroutine")) = true) (L : List Nat) :
    ∀ w0, FOk P X w0 (fsOf X P (T.ofList P.funcs.toList) L) := fun w0 => {
  tb := by rw [htb]; exact tb_ok P
  ex := hex
  mx := hmx
  fn f g h := by
    obtain ⟨fn, h1, h2⟩ := fsOf_ok f g L h
    rw [T.get_ofList, Array.getElem?_toList] at h1
    obtain ⟨c, h3, h4⟩ := cFn_some (f := f) h2
    refine ⟨fn, c, h1, ?_, h3, h4⟩
    have := List.all_eq_true.1 hn fn (Array.mem_toList_iff.2 (Array.mem_of_getElem? h1))
    simpa using this }

/-- What is known of a function, in place of its code. -/
theorem FOk.sum {w0 : World} {fs : T GFn} (H : FOk P X w0 fs) {f : Nat} {σ : List GV → T GO → Nat → Option MS} (hf : (fs.get f).isSome = true) (hs : SumOk P X w0 f σ) : FOk P X w0 (T.set fs f (.sm σ)) where
  tb := H.tb
  ex := H.ex
  mx := H.mx
  fn g x h := by
    rw [T.get_set] at h
    by_cases e : g = f
    · rw [if_pos e] at h; cases h; subst e
      obtain ⟨y, hy⟩ := Option.isSome_iff_exists.1 hf
      obtain ⟨fn, c, h1, h2, h3, _⟩ := H.fn g y hy
      exact ⟨fn, c, h1, h2, h3, hs⟩
    · rw [if_neg e] at h; exact H.fn g x h

theorem ExOk.of2 {a b : Nat} (hX : X.ex = T.set (T.set .nil a .clone) b .ixb) {fa fb : Func} (ha : P.funcs[a]? = some fa) (hb : P.funcs[b]? = some fb) (na : (fa.name == "runtime.NumGoroutine") = false) (nb : (fb.name == "runtime.NumGoroutine") = false)
    (ba : fa.body.isNone = true) (bb : fb.body.isNone = true) (ea : Extern.findNext fa = none) (eb : Extern.findNext fb = none) (xa : Extern.find fa = some Extern.MapsClone.clone) (xb : Extern.find fb = some Extern.BytealgIndexByte.indexByte) : ExOk P X := by
  intro f e hf args w
  rw [hX, T.get_set] at hf
  by_cases h1 : f = b
  · rw [if_pos h1] at hf; cases hf; subst h1
    rw [run_callFunc_extern hb nb bb eb xb]
    simp only [exRun, Sem.run_bind, Sem.run_pure]
  · rw [if_neg h1, T.get_set] at hf
    by_cases h2 : f = a
    · rw [if_pos h2] at hf; cases hf; subst h2
      rw [run_callFunc_extern ha na ba ea xa]
      simp only [exRun, Sem.run_bind, Sem.run_pure]
    · rw [if_neg h2, T.get_nil] at hf; cases hf

/-! ### the start -/
noncomputable def heap0 (gs : List (Nat × List GV)) : T GO := List.rec .nil (fun x _ ih => T.set ih x.1 (.cells (T.lay x.2 0 .nil) 0 x.2.length .bad true)) gs
theorem heap0_get : ∀ (gs : List (Nat × List GV)) (g : Nat) (o : GO), (heap0 gs).get g = some o → ∃ l, (g, l) ∈ gs ∧ o = .cells (T.lay l 0 .nil) 0 l.length .bad true
  | [], g, o, h => by rw [show heap0 [] = .nil from rfl, T.get_nil] at h; cases h
  | x :: gs, g, o, h => by
    change (T.set (heap0 gs) x.1 (.cells (T.lay x.2 0 .nil) 0 x.2.length .bad true)).get g = some o at h
    rw [T.get_set] at h
    by_cases e : g = x.1
    · rw [if_pos e] at h; cases h; exact ⟨x.2, by rw [e]; simp, rfl⟩
    · rw [if_neg e] at h
      obtain ⟨l, h1, h2⟩ := heap0_get gs g o h
      exact ⟨l, List.mem_cons_of_mem _ h1, h2⟩

/-- The variables as the run takes them: closed values, row by row. -/
def Laid (ng : Nat) (gs : List (Nat × List GV)) (w : World) : Prop :=
  ∀ x ∈ gs, x.1 < ng ∧ ∃ c el fz, w.heap[x.1]? = some (.cells c el fz) ∧ x.2.length ≤ c.size ∧ (∀ i, fz.1 ≤ i → i < fz.2 → c.size ≤ i) ∧ ∀ E, RL E x.2 (c.toList.take x.2.length)

def env0 (ng : Nat) (w : World) : Env where
  m g := if g < ng then some (g, 0) else none
  sz b := match w.heap[b]? with | some (.cells c _ _) => if b < ng then c.size else 0 | _ => 0

theorem start_ok {CR : Nat → Code → GC → Prop} {ng : Nat} {gs : List (Nat × List GV)} {w : World} (hl : Laid ng gs w) : WR CR (env0 ng w) w (heap0 gs) ng w where
  obj g o hg := by
    obtain ⟨l, hm, rfl⟩ := heap0_get gs g o hg
    obtain ⟨h1, c, el, fz, h2, h3, h4, h5⟩ := hl _ hm
    have h1 : g < ng := h1
    have h2 : w.heap[g]? = some (.cells c el fz) := h2
    have hsz : (env0 ng w).sz g = c.size := by simp only [env0, h2]; rw [if_pos h1]
    simp only [OR]
    refine ⟨g, 0, c, el, fz, by simp only [env0]; rw [if_pos h1], h2, by rw [hsz]; simpa using h3, by rw [hsz]; exact Nat.le_refl _, h4, (fun h => by cases h), fun i hi => ?_⟩
    have hx : l[i]? = some l[i] := List.getElem?_eq_getElem hi
    obtain ⟨y, hy, hr⟩ := (h5 (env0 ng w)).get hx
    rw [List.getElem?_take_of_lt hi, Array.getElem?_toList] at hy
    refine ⟨y, by rw [Nat.zero_add]; exact hy, ?_⟩
    rw [T.get_lay, if_pos (by omega), Nat.zero_add, Nat.sub_zero, hx]
    exact hr
  inj g g' o o' cb co co' h1 h2 h3 h4 := by
    simp only [env0] at h3 h4
    split at h3
    · cases h3
      split at h4
      · cases h4; rfl
      · cases h4
    · cases h3
  lt g x hg := by
    simp only [env0] at hg
    split at hg
    · assumption
    · cases hg
  sz cb hc := by
    simp only [env0] at hc ⊢
    split at hc
    · rename_i c el fz h
      exact ⟨c, el, fz, h, by split <;> omega⟩
    · omega
  fr := Fr.refl w

noncomputable def okTrue (o : Option MS) : Bool := Option.rec false (fun s => MS.casesOn s fun v _ _ => onBool false v fun b => b) o
theorem okTrue_some {o : Option MS} (h : okTrue o = true) : ∃ s, o = some s ∧ s.v = .bool true := by
  cases o with
  | none => cases h
  | some s =>
    obtain ⟨v, hh, nx⟩ := s
    change onBool false v (fun b => b) = true at h
    cases v <;> first | (cases h; done) | skip
    rename_i b
    have h : b = true := h
    subst h
    exact ⟨_, rfl, rfl⟩

/-- A function that the run finds to answer true does so, whatever the tape; what was there is left. -/
theorem calls_true {fs : T GFn} {w : World} (H : FOk P X w fs) {f fuel : Nat} {gs : List (Nat × List GV)} {args : List GV} (hrun : okTrue (xcall (run fs fuel) fs f args (heap0 gs) X.ng) = true) {vals : List Value} (ha : ∀ E, RL E args vals) (hl : Laid X.ng gs w) :
    Calls P f vals.toArray w fun e w' => e = .returned (.bool true) ∧ Fr w w' := by
  obtain ⟨s, hs, hv⟩ := okTrue_some hrun
  obtain ⟨h1, _⟩ := xcall_ok (w0 := w) H (run_ok H fuel) hs (E := env0 X.ng w) (ha _) (fun g hg => by simp only [env0]; rw [if_pos hg]) (start_ok hl)
  refine callsIn_wide.1 ((h1 0).mono fun e w' he => ?_)
  obtain ⟨v, E', rfl, _, hr, hW⟩ := he
  rw [hv] at hr
  simp only [R] at hr
  subst hr
  exact ⟨rfl, hW.fr⟩
end
end Go.Gh

/- A law that answers true and writes nothing: its row's post. -/
namespace Go.Gh
open Go.ChangeShapes Go.WideShapes Go.RowKit
set_option linter.unusedVariables false

theorem Fr.keptBut {w w' : World} (h : Fr w w') (may : MemPlace → Prop) : w.keptBut w' may := by
  have h0 := World.keptBut_refl w may
  refine ⟨h.os, h.output, fun i hi => ?_⟩
  have := h0.2.2 i hi
  rw [h.old i hi]
  exact this
theorem Fr.sameAt {w w' : World} (h : Fr w w') {p : MemPlace} (hp : p.block < w.heap.size) : w.sameAt w' p := by
  cases p with
  | cell b off =>
    show w'.cell? ⟨b, off, none⟩ = w.cell? ⟨b, off, none⟩
    have := h.old b hp
    simp only [World.cell?, this]
  | map b => exact h.old b hp

section
variable {H : Type} {enc : TypeId × Value → H} {P : Program}
theorem trodAll_fr {w w' : World} (hf : Fr w w') {base : Nat} {sp : Nat → Bool} {held : Bool} : ∀ {ts : List TypeId} {vs : List Value} {ds : List (DataW H)} {ps : List MemPlace},
    DataW.TrodAll enc P w base sp held ts vs ds ps → (∀ p ∈ ps, p.block < w.heap.size) → DataW.TrodAll enc P w' base sp held ts vs ds ps
  | [], [], [], _, h, _ => h
  | _ :: _, _ :: _, _ :: _, _, ⟨p, q, ⟨n, h1⟩, h2, e⟩, hs =>
    ⟨p, q, ⟨n, DataW.trod_carry n _ _ _ h1 fun x hx => hf.sameAt (hs x (by rw [e]; exact List.mem_append_left _ hx))⟩, trodAll_fr hf h2 fun x hx => hs x (by rw [e]; exact List.mem_append_right _ hx), e⟩

theorem post_true {f : Func} {s : ChangeSpec} {apart fresh handsOn : Bool} {W W' : World} {args : Array Value} {ds gs : List (DataW H)} {before : List MemPlace} {tb : TypeId} (hl : laidOutB P = true) (hm : mapsRowed P = true)
    (hz : ((List.range P.types.size).all fun t => match P.underlying t with | some (.slice e) => decide (0 < P.cellsOf e) | _ => true) = true) (hrt : f.resultTypes = #[tb]) (hb : P.underlying tb = some .bool) (hp : ∀ t ∈ f.params.toList, t < P.types.size)
    (hvars : s.vars = []) (hfn : ∀ gs', gs' = [] → s.fn H (ds ++ gs') = { results := [.lit (.bool true)], args := ds })
    (hW : DataW.Whole enc P f.params.toList s.vars apart W args.toList ds gs before) (hf : Fr W W') : s.post enc P f apart fresh handsOn false W args (.bool true) W' := by
  have hlt := hW.lt
  have hW0 := hW
  obtain ⟨p, q, hA, hV, rfl, _, _⟩ := hW
  rw [hvars] at hV
  obtain ⟨rfl, rfl⟩ := trodVars_none hV
  have hfn := hfn [] rfl
  have hA' := DataW.TrodAll.respare (spare' := fun b => decide (b < W.heap.size)) (kids_rows hl hm) (slices_full_of P hz) hp hA (fun x hx => by simpa using hlt x (by simpa using hx))
  refine ⟨ds, [], p ++ [], [], p, [], hW0, ?_, ?_, ?_, hf.keptBut _, fun h => by cases h⟩
  · rw [hfn, hrt]; exact trodAll_mk1 (shut_bool hb true)
  · rw [hfn]; exact trodAll_fr hf hA' (fun x hx => hlt x (by simpa using hx))
  · rw [hfn, hvars]; rfl
end

/-! ### a listed variable: a row of numbers -/
def intsOf (k : IntKind) (ns : List Int) : List GV := ns.map fun n => .int k n
theorem trod_ints {H : Type} {enc : TypeId × Value → H} {P : Program} {w : World} {base : Nat} {sp : Nat → Bool} {held : Bool} {fuel : Nat} {t e : TypeId} {n : Nat} {k : IntKind} {cs : List Value} {ns : List Int} {ps : List MemPlace} (ht : P.underlying t = some (.array n e)) (he : P.underlying e = some (.int k))
    (hc : P.cellsOf e = 1) (hct : P.cellsOf t = n) (h : DataW.trod enc P w base sp held fuel t cs = some (.agg (ns.map fun n => .lit (.int k n)), ps)) : cs = ns.map (Value.int k) ∧ ns.length = n := by
  obtain ⟨xs, m, rfl, hx, hl, hn, hel⟩ := DataW.trod_array ht h
  simp only [Prod.mk.injEq, DataW.agg.injEq] at hx
  have hlen : ns.length = n := by
    have := congrArg List.length hx.1
    simp at this; omega
  refine ⟨List.ext_getElem? fun i => ?_, hlen⟩
  by_cases hi : i < n
  · have h1 := hel i hi
    rw [hc, Nat.mul_one] at h1
    have hxi : xs[i]? = some xs[i] := List.getElem?_eq_getElem (by omega)
    rw [hxi] at h1
    obtain ⟨z, e1, e2, _⟩ := DataW.trod_int he h1
    have e3 : cs[i]? = some (.int k z) := by
      have := congrArg (fun l : List Value => l[0]?) e1
      simpa [List.getElem?_take, List.getElem?_drop] using this
    have e4 : (xs.map (·.1))[i]? = some (.lit (.int k z)) := by rw [List.getElem?_map, hxi, e2]; rfl
    rw [← hx.1, List.getElem?_map] at e4
    rw [e3, List.getElem?_map]
    cases hni : ns[i]? with
    | none => rw [hni] at e4; cases e4
    | some y =>
      rw [hni] at e4
      simp only [Option.map_some, Option.some.injEq, DataW.lit.injEq, Lit.int.injEq] at e4
      rw [e4.2]; rfl
  · rw [List.getElem?_eq_none (by omega), List.getElem?_eq_none (by simp; omega)]

/-- Such a variable as the run takes it. -/
theorem laid_ints {P : Program} {w : World} {name : String} {g : Nat} {t e : TypeId} {n : Nat} {k : IntKind} {ns : List Int} {cs : Array Value} {fuel : Nat} {ps : List MemPlace} (hg : P.globalNamed name = some g) (ht : P.underlying t = some (.array n e)) (he : P.underlying e = some (.int k)) (hc : P.cellsOf e = 1) (hct : P.cellsOf t = n) (hpos : 0 < n)
    (hv : w.var? P name = some cs) (hd : DataW.trod (fun _ => ()) P w 0 (fun _ => true) false fuel t cs.toList = some (.agg (ns.map fun n => .lit (.int k n)), ps)) (hz : ∀ off, off < cs.size → ∃ c t, w.heap[g]? = some (.cells c t (0, 0))) :
    g < w.heap.size ∧ ∃ c el fz, w.heap[g]? = some (.cells c el fz) ∧ (intsOf k ns).length ≤ c.size ∧ (∀ i, fz.1 ≤ i → i < fz.2 → c.size ≤ i) ∧ ∀ E, RL E (intsOf k ns) (c.toList.take (intsOf k ns).length) := by
  obtain ⟨h1, h2⟩ := trod_ints ht he hc hct hd
  have hsz : cs.size = n := by rw [← Array.length_toList, h1, List.length_map, h2]
  obtain ⟨c, el, hh⟩ := hz 0 (by omega)
  have hcell : ∀ i, i < n → c[i]? = cs[i]? := fun i hi => by
    have := World.var?_cell hg hv i
    simpa [World.cell?, hh] using this
  have hcs : ∀ i, cs[i]? = (ns.map (Value.int k))[i]? := fun i => by rw [← Array.getElem?_toList, h1]
  have hle : n ≤ c.size := by
    rcases Nat.lt_or_ge c.size n with hlt | hge
    · exfalso
      have h3 := hcell c.size hlt
      rw [Array.getElem?_eq_none (Nat.le_refl _), hcs, List.getElem?_eq_getElem (by rw [List.length_map]; omega)] at h3
      cases h3
    · exact hge
  have hil : (intsOf k ns).length = n := by simp [intsOf, h2]
  refine ⟨heap_lt hh, c, el, (0, 0), hh, by rw [hil]; exact hle, noFz, fun E => RL.of_get (by simp [hil]; omega) fun i x y hx hy => ?_⟩
  have hi : i < n := by
    rcases Nat.lt_or_ge i n with hi | hi
    · exact hi
    · rw [List.getElem?_eq_none (by rw [hil]; exact hi)] at hx; cases hx
  rw [List.getElem?_take_of_lt (by rw [hil]; exact hi), Array.getElem?_toList, hcell i hi, hcs] at hy
  unfold intsOf at hx
  rw [List.getElem?_map] at hx hy
  cases hni : ns[i]? with
  | none => rw [hni] at hx; cases hx
  | some z => rw [hni] at hx hy; cases hx; cases hy; exact R.mkInt _ _ _

/-! ### an argument, of which its kind is known -/
def ukT (P : Program) (u : TypeId) : Option UK := match P.underlying u with
  | some .bool => some .b
  | some (.int k) => some (.i k)
  | some .string => some .s
  | some (.slice _) => some .l
  | _ => none
theorem cell_un {P : Program} {w : World} {r : Reach} {base : Nat} {u : TypeId} {v : Value} {k : UK} (h : Cell.okWide P w r base u v) (hu : ukT P u = some k) : UR k v := by
  unfold ukT at hu
  split at hu <;> first | (cases hu; done) | skip
  all_goals
    rename_i hd
    cases hu
    simp only [Cell.okWide, Cell.ok, hd] at h
    cases v <;> simp at h <;> first | exact ⟨_, rfl⟩ | exact ⟨_, _, _, rfl⟩ | (obtain ⟨rfl, _⟩ := h; exact ⟨_, rfl⟩) | skip
def argU (P : Program) (t : TypeId) : Option GV := match P.underlying t with
  | some (.struct _) => (P.cellTypes P.depth t).bind fun ts => if ts.length = P.cellsOf t then (ts.mapM (ukT P)).map fun l => .agg (l.map .un) else none
  | some (.array _ _) => none
  | _ => (ukT P t).map .un
theorem mapM_some {α β : Type} {f : α → Option β} : ∀ {l : List α} {r : List β}, l.mapM f = some r → r.length = l.length ∧ ∀ (i : Nat) (x : α) (y : β), l[i]? = some x → r[i]? = some y → f x = some y
  | [], r, h => by simp at h; subst h; exact ⟨rfl, fun i x y h => by simp at h⟩
  | a :: l, r, h => by
    rw [List.mapM_cons] at h
    obtain ⟨b, hb, h⟩ := Option.bind_eq_some_iff.1 h
    obtain ⟨r', hr, h⟩ := Option.bind_eq_some_iff.1 h
    cases h
    obtain ⟨h1, h2⟩ := mapM_some hr
    refine ⟨by simp [h1], fun i x y hx hy => ?_⟩
    cases i with
    | zero => cases hx; cases hy; exact hb
    | succ i => exact h2 i x y (by simpa using hx) (by simpa using hy)
theorem arg_un {P : Program} {w : World} {r : Reach} {base : Nat} {t : TypeId} {v : Value} {g : GV} (h : Value.okWide P w r base t v) (hg : argU P t = some g) (E : Env) : R E g v := by
  unfold argU at hg
  unfold Value.okWide at h
  split at hg
  · rename_i fs hu
    rw [hu] at h
    obtain ⟨cs, rfl, hsz, ts, hts, hn, hc⟩ := h
    rw [hts] at hg
    change (if ts.length = P.cellsOf t then (ts.mapM (ukT P)).map fun l => GV.agg (l.map .un) else none) = some g at hg
    split at hg
    · rename_i hl
      obtain ⟨l, hl2, rfl⟩ := Option.map_eq_some_iff.1 hg
      obtain ⟨h1, h2⟩ := mapM_some hl2
      simp only [R]
      refine ⟨cs, rfl, RL.of_get (by simp; omega) fun i x y hx hy => ?_⟩
      have hi : i < cs.size := by
        rcases Nat.lt_or_ge i cs.size with hi | hi
        · exact hi
        · rw [List.getElem?_eq_none (by simpa using hi)] at hy; cases hy
      rw [Array.getElem?_toList] at hy
      obtain ⟨u, hu', hok⟩ := hc i y hy
      rw [Nat.mod_eq_of_lt (by omega)] at hu'
      rw [List.getElem?_map] at hx
      cases hli : l[i]? with
      | none => rw [hli] at hx; cases hx
      | some k =>
        rw [hli] at hx; cases hx
        simp only [R]
        exact cell_un hok (h2 i u k hu' hli)
    · cases hg
  · cases hg
  · rename_i hs ha
    obtain ⟨k, hk, rfl⟩ := Option.map_eq_some_iff.1 hg
    simp only [R]
    refine cell_un (w := w) (r := r) (base := base) (u := t) ?_ hk
    split at h
    · rename_i fs hu; exact absurd hu (hs fs)
    · rename_i n e hu; exact absurd hu (ha n e)
    · exact h
end Go.Gh
