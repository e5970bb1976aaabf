/- The run is sound: operations, regions, loops over functions. -/
import Derived.Test.YtoekfbfgilbgoaaGreatDoorG26
namespace Go.Gh
set_option linter.unusedVariables false

section
variable {P : Program} {X : Cx} {fs : T GFn} {w0 : World} {self : Option Nat → GC → GS → GR}

theorem cPf_defer {tb : T TypeInfo} {ng : Nat} {c : Call} : cPf P tb ng (.defer c) = none := rfl
theorem cMf_defer {c : Call} : cMf X P (.defer c) = none := rfl
theorem onFunc_some {β : Type} {f : Fn} {k : Nat → Option β} {r : β} (h : onFunc none f k = some r) : ∃ n, f = .func n ∧ k n = some r := by cases f <;> first | exact ⟨_, rfl, h⟩ | cases h

/-- an operation, wanted -/
theorem xop_ok (H : FOk P X fs) (hs : SelfOk P X w0 self) {o : Oper} {N : Nat} {t : T GV} {h : T GO} {nx : Nat} {s : MS} (hx : xop self fs t h nx (cOp { X with nt := N } P o.op) = some s) {F : Fence} (hF : Wd F) {a : Act} {w : World} {E : Env} {M : Nat}
    (ht : TR E M t a.tmps) (hg : GL E X.ng) (hW : WR (CRX X P) E w0 h nx w) {n : Nat} {next : Act → World → Prop} {Q : Exit → Act → World → Prop}
    (hk : ∀ v E' w', E.le E' → R E' s.v v → WR (CRX X P) E' w0 s.h s.nx w' → next (a.put o.dst v) w') : o.wpIn F n P a w next Q := by
  refine ⟨fun f _ => hF.fn f, ?_⟩
  have sem : (∀ c, o.op ≠ .defer c) → o.semAt F.round a.eval = execOp a.eval o := fun hd => Oper.semAt_eq _ _ _ hd
  have call : ∀ {f : Nat} {args : List GV} {vals : List Value}, (∀ c, o.op ≠ .defer c) → xcall self fs f args h nx = some s → RL E args vals → (execOp a.eval o).run P w = (callFunc f vals.toArray).run P w → o.uponIn F n P a next Q ((o.semAt F.round a.eval).run P w) := by
    intro f args vals hd hc ha he
    obtain ⟨h1, h2⟩ := xcall_ok H hs hc ha hg hW
    rw [sem hd, he, h2, Oper.uponIn_enter]
    refine ⟨(fun hd => by rw [hF.depth] at hd; cases hd), hF.calls ((h1 (n - 1)).mono fun e w' he => ?_)⟩
    obtain ⟨v, E', rfl, e1, e2, e3⟩ := he
    exact hk v E' w' e1 e2 e3
  unfold cOp at hx
  split at hx
  · rename_i x ho
    cases hcx : cod X.ng x with
    | none => simp only [hcx] at hx; cases hx
    | some ox =>
      simp only [hcx] at hx
      have hmm : cMf X P o.op = some (.nxtm ox) := by rw [ho]; simp only [cMf, hcx, Option.map_some]; rfl
      obtain ⟨E', v', w', nxt, h1, h2, h3, h4, h5⟩ := mf_ok H.tb ht hg hW H.ex hmm (show mf t h nx (.nxtm ox) = some s from hx)
      rw [sem (fun c e => by rw [ho] at e; cases e), h1]
      rcases h2 with rfl | ⟨rfl, rfl⟩
      · exact hk v' E' w' h3 h4 h5
      · exact hk undef E' w' h3 h4 h5
  rename_i hnn
  unfold cOp1 at hx
  split at hx
  · rename_i p hp
    have hd : ∀ c, o.op ≠ .defer c := fun c e => by rw [e] at hp; rw [cPf_defer] at hp; cases hp
    obtain ⟨v, hv, hx⟩ := orec_some (show Option.rec none (fun v => some ⟨v, h, nx⟩) (pf t p) = some s from hx)
    cases hx
    obtain ⟨x, h1, h2⟩ := pf_ok H.tb ht hg hp hv w
    rw [sem hd, h1, Oper.uponIn_value]
    exact hk x E w (Env.le_refl E) h2 hW
  · split at hx
    · rename_i m hm
      have hd : ∀ c, o.op ≠ .defer c := fun c e => by rw [e] at hm; cases hm
      have hmm : cMf X P o.op = some m := hm
      obtain ⟨E', v', w', nxt, h1, h2, h3, h4, h5⟩ := mf_ok H.tb ht hg hW H.ex hmm (show mf t h nx m = some s from hx)
      rw [sem hd, h1]
      rcases h2 with rfl | ⟨rfl, rfl⟩
      · exact hk v' E' w' h3 h4 h5
      · exact hk undef E' w' h3 h4 h5
    · split at hx
      · rename_i f args ats ho
        split at hx
        · rename_i l hex hl
          have ha := evs_ok ht hg hl
          exact call (fun c e => by rw [ho] at e; cases e) (show xcall self fs f (evs t l) h nx = some s from hx) ha (by
            simp only [execOp, ho, resolve, Sem.run_bind, Sem.run_pure, Result.andThen_ok, Act.eval, Deferred.ofValue, invoke]
            congr 2
            simp [← Array.toList_inj])
        · cases hx
      · rename_i x args ats hnf ho
        split at hx
        · rename_i ox l hox hl
          have ha := evs_ok ht hg hl
          have hr := ev_ok ht hg hox
          rcases onFn_some (show onFn none (ev t ox) (fun f a c => onFunc none f fun f => xcall self fs f (a ++ (evs t l ++ c)) h nx) (fun y => xround self y (evs t l) h nx) = some s from hx) with ⟨f, fa, fc, e, hx⟩ | ⟨y, e, hx⟩
          · rw [e] at hr; simp only [R] at hr
            obtain ⟨va, vc, hv, h1, h2⟩ := hr
            obtain ⟨g, rfl, hx⟩ := onFunc_some hx
            refine call (vals := va.toList ++ (args.toList.map a.eval ++ vc.toList)) (fun c e => by rw [ho] at e; cases e) hx (h1.append (ha.append h2)) ?_
            simp only [execOp, ho, resolve, Sem.run_bind, Sem.run_pure, Result.andThen_ok, hv, Deferred.ofValue, invoke]
            congr 2
            simp [← Array.toList_inj]
          · rw [e] at hr; simp only [R] at hr
            obtain ⟨cb, hm, hv⟩ := hr
            obtain ⟨f, tm, ca, cbd, h1, h2⟩ := xround_ok H hs hx ha hg hW hm
            have he : (execOp a.eval o).run P w = .ok (.round cb f tm ca cbd) w := by
              simp only [execOp, ho, resolve, Sem.run_bind, Sem.run_pure, Result.andThen_ok, hv, Deferred.ofValue, invoke]
              refine h1 _ ?_
              simp [← Array.toList_inj]
            rw [sem (fun c e => by rw [ho] at e; cases e), he, Oper.uponIn_round]
            refine ⟨(fun hd => by rw [hF.depth] at hd; cases hd), hF.round ((h2 (n - 1)).mono fun e w' he => ?_)⟩
            obtain ⟨v, E', rfl, e1, e2, e3⟩ := he
            exact hk v E' w' e1 e2 e3
        · cases hx
      · split at hx <;> cases hx
      · cases hx
      · split at hx <;> cases hx
      · cases hx

/-! ### slots -/
theorem gwant_ok {t : T GV} {tm : Array Value} {E : Env} {N : Nat} (ht : TR E N t tm) {ops : Array Oper} {o : Oper} {b : Bool} (h : gwant t ((cOper { X with nt := N } P ops o).guard) = some b) : Region.wanted o (yielded ops tm) = b := by
  unfold Region.wanted
  cases hg : o.guard with
  | none =>
    simp only [cOper, hg] at h
    cases h; rfl
  | some p =>
    obtain ⟨j, want⟩ := p
    simp only [cOper, hg] at h
    change onBool (onTup none (tget t ((((ops[j]?).bind (·.dst)).getD N))) (fun l => List.casesOn l (some false) (fun _ _ => none))) (tget t ((((ops[j]?).bind (·.dst)).getD N))) (fun b => some (Bool.rec (bnot want) want b)) = some b at h
    cases hd : (ops[j]?).bind (·.dst) with
    | none =>
      rw [hd] at h
      have : tget t N = .bad := by
        unfold tget
        cases hn : t.get N with
        | none => rfl
        | some v => exact absurd (ht.2 N v hn).1 (Nat.lt_irrefl _)
      simp only [Option.getD_none, this] at h
      cases h
    | some d =>
      rw [hd] at h
      simp only [Option.getD_some] at h
      unfold tget at h
      cases htd : t.get d with
      | none => rw [htd] at h; cases h
      | some v =>
        rw [htd] at h
        obtain ⟨_, x, hx, hr⟩ := ht.2 d v htd
        have hy : yielded ops tm j = match x with | .bool b => some b | _ => none := by
          unfold yielded
          rw [hd]
          simp only [Option.bind_some, hx]
          cases x <;> rfl
        simp only [hy]
        change onBool (onTup none v (fun l => List.casesOn l (some false) (fun _ _ => none))) v (fun b => some (Bool.rec (bnot want) want b)) = some b at h
        cases v <;> first | (cases h; done) | skip
        case bool b0 =>
          cases h
          simp only [R] at hr; subst hr
          cases b0 <;> cases want <;> rfl
        case tup l =>
          change (List.casesOn l (some false) (fun _ _ => none) : Option Bool) = some b at h
          cases l with
          | cons _ _ => cases h
          | nil =>
            cases h
            simp only [R] at hr
            obtain ⟨y, rfl, hy⟩ := hr
            rfl

/-- the slot that an operation writes, if the function has it -/
def sl (N : Nat) (d : Option Nat) : Option Nat := match d with | some d => if d < N then some d else none | none => none
theorem cOper_dst {ops : Array Oper} {o : Oper} {N : Nat} : (cOper { X with nt := N } P ops o).dst = sl N o.dst := by unfold cOper sl; cases o.dst <;> rfl
theorem tput_ok {E : Env} {N : Nat} {t : T GV} {a : Act} {d : Option Nat} {g : GV} {v : Value} (ht : TR E N t a.tmps) (hr : R E g v) : TR E N (tput t (sl N d) g) (a.put d v).tmps := by
  cases d with
  | none => exact ht
  | some d =>
    unfold sl
    simp only
    by_cases hd : d < N
    · rw [if_pos hd]; exact ht.set hd hr
    · rw [if_neg hd]
      refine ⟨by simpa [Act.put] using ht.1, fun n u hn => ?_⟩
      obtain ⟨h1, x, h2, h3⟩ := ht.2 n u hn
      exact ⟨h1, x, by show (a.tmps.setIfInBounds d v)[n]? = _; rw [Array.getElem?_setIfInBounds_ne (by omega)]; exact h2, h3⟩
theorem put_defers (a : Act) (d : Option Nat) (v : Value) : (a.put d v).defers = a.defers := by cases d <;> rfl
theorem undef_ok {E : Env} : R E (.tup []) undef := R.unit

theorem dst_op {ops : Array Oper} {o : Oper} {N : Nat} {t : T GV} {h : T GO} {nx : Nat} {s : MS} (hx : xop self fs t h nx (cOper { X with nt := N } P ops o).op = some s) : xop self fs t h nx (cOp { X with nt := N } P o.op) = some s := by
  unfold cOper at hx
  simp only at hx
  cases hd : o.dst with
  | none => rw [hd] at hx; exact hx
  | some d =>
    rw [hd] at hx
    simp only at hx
    split at hx
    · exact hx
    · cases hx

theorem altAll_post {N : Nat} {E : Env} {k : MS → GR} {e : Exit} {a : Act} {w : World} {x : MS} : ∀ {l : List MS}, x ∈ l → Post X P N w0 E (k x) e a w → Post X P N w0 E (altAll k l) e a w
  | [], h, _ => by cases h
  | [y], h, hp => by
    have : x = y := by simpa using h
    subst this; exact hp
  | y :: z :: l, h, hp => by
    show Post X P N w0 E (k y) e a w ∨ Post X P N w0 E (altAll k (z :: l)) e a w
    rcases List.mem_cons.1 h with rfl | h
    · exact .inl hp
    · exact .inr (altAll_post h hp)
theorem altAll_good {k : MS → GR} {x : MS} : ∀ {l : List MS}, Good (altAll k l) → x ∈ l → Good (k x)
  | [], h, hm => by cases hm
  | [y], h, hm => by
    have : x = y := by simpa using hm
    subst this; exact h
  | y :: z :: l, h, hm => by
    obtain ⟨h1, h2⟩ := (show Good (k y) ∧ Good (altAll k (z :: l)) from h)
    rcases List.mem_cons.1 hm with rfl | hm
    · exact h1
    · exact altAll_good h2 hm
theorem nxtOf_some {op : GOp} {x : Od} (h : nxtOf op = some x) : op = .nx x := by
  unfold nxtOf at h
  split at h
  · cases h; rfl
  · cases h
theorem cOp1_nx {op : Op} {ox : Od} (h : cOp1 X P op = .nx ox) : False := by
  unfold cOp1 at h
  split at h
  · cases h
  · split at h
    · cases h
    · repeat' (split at h)
      all_goals cases h
/-- which operation a step over a map is read off -/
theorem cOp_nxt {op : Op} {ox : Od} (h : cOp X P op = .nx ox) : ∃ x, op = .next x false ∧ cod X.ng x = some ox := by
  unfold cOp at h
  split at h
  · rename_i x
    cases hc : cod X.ng x with
    | none => rw [hc] at h; cases h
    | some o => rw [hc] at h; cases h; exact ⟨x, rfl, hc⟩
  · exact (cOp1_nx h).elim

theorem onMiter_l {o : Option GO} {f : Option Nat → Nat → List Nat → Nat → List MS} (h : onMiter [] o f ≠ []) : ∃ m a l b, o = some (.miter m a l b) ∧ f m a l b ≠ [] := by
  cases o with
  | none => exact absurd rfl h
  | some o => cases o <;> first | exact absurd rfl h | exact ⟨_, _, _, _, rfl, h⟩
theorem onMapO_l {o : Option GO} {f : List (GV × GV × Nat) → Nat → List MS} (h : onMapO [] o f ≠ []) : ∃ es cl, o = some (.map es cl) ∧ f es cl ≠ [] := by
  cases o with
  | none => exact absurd rfl h
  | some o => cases o <;> first | exact absurd rfl h | exact ⟨_, _, rfl, h⟩

/-- a step over a map, whichever entry comes up -/
theorem m_next_all {CR : Nat → Code → GC → Prop} {N : Nat} {t : T GV} {h : T GO} {nx : Nat} {a : Act} {w : World} {E : Env} (ht : TR E N t a.tmps) (hg : GL E X.ng) (hW : WR CR E w0 h nx w) {o : Oper} {x : Operand} {ox : Od} (ho : o.op = .next x false) (hx : cod X.ng x = some ox)
    (hne : mNxtAll h nx (ev t ox) ≠ []) : ∃ s, s ∈ mNxtAll h nx (ev t ox) ∧ ∃ v w', (execOp a.eval o).run P w = .ok (.value v) w' ∧ R E s.v v ∧ WR CR E w0 s.h s.nx w' := by
  have hr := ev_ok ht hg hx
  unfold mNxtAll at hne ⊢
  cases he : ev t ox <;> rw [he] at hne hr <;> first | exact absurd rfl hne | skip
  rename_i i oo
  simp only [onPtr] at hne ⊢
  cases hz : Nat.beq oo 0 with
  | false => rw [hz] at hne; exact absurd rfl hne
  | true =>
    rw [hz] at hne
    have ho0 := beq_t hz; subst ho0
    simp only at hne ⊢
    obtain ⟨mp, since, seen, last, hi, hne2⟩ := onMiter_l hne
    simp only [hi, onMiter]
    cases mp with
    | none => exact absurd rfl hne2
    | some r =>
      obtain ⟨es, cl, hrr, hne3⟩ := onMapO_l hne2
      simp only [hrr, onMapO]
      change (Bool.rec [] ((leftOf seen es).map fun e => (⟨.tup [.bool true, e.1, e.2.1], h.set i (.miter (some r) since (seen ++ [e.2.2]) cl), nx⟩ : MS))
        (band (bnot (band (bnot seen.isEmpty) (band (bnot es.isEmpty) (noneBelow last es)))) ((leftOf seen es).all fun e => Nat.ble (Nat.succ e.2.2) since)) : List MS) ≠ [] at hne3
      show ∃ s, s ∈ (Bool.rec [] ((leftOf seen es).map fun e => (⟨.tup [.bool true, e.1, e.2.1], h.set i (.miter (some r) since (seen ++ [e.2.2]) cl), nx⟩ : MS))
        (band (bnot (band (bnot seen.isEmpty) (band (bnot es.isEmpty) (noneBelow last es)))) ((leftOf seen es).all fun e => Nat.ble (Nat.succ e.2.2) since)) : List MS) ∧ _
      cases hb : band (bnot (band (bnot seen.isEmpty) (band (bnot es.isEmpty) (noneBelow last es)))) ((leftOf seen es).all fun e => Nat.ble (Nat.succ e.2.2) since) with
      | false => rw [hb] at hne3; exact absurd rfl hne3
      | true =>
        rw [hb] at hne3
        change (leftOf seen es).map _ ≠ [] at hne3
        obtain ⟨hbad, hall⟩ := band_t hb
        simp only [R] at hr
        obtain ⟨cb, co, hmi, hv⟩ := hr
        have hob := hW.obj i _ hi
        simp only [OR] at hob
        obtain ⟨cb', cm, q1, q2, q3, q4⟩ := hob
        rw [hmi] at q1; cases q1
        have hget := run_getObj_of (P := P) q2 (fun _ _ _ h => by cases h)
        cases cm with
        | none => exact q4.elim
        | some cr =>
          obtain ⟨ces, g1, g2, g3⟩ := mapObj hW hrr q4
          have hgood : (!seen.toArray.isEmpty && !ces.isEmpty && ces.all (fun e => decide (e.born ≥ last))) = false := by
            have e1 : noneBelow last es = ces.all (fun e => decide (e.born ≥ last)) := by rw [noneBelow_ok last g2, Array.all_toList]
            have e2 : es.isEmpty = ces.isEmpty := by
              have := g2.length
              rw [Array.length_toList] at this
              cases es with
              | nil => simp at this; simp [this]
              | cons x es =>
                simp only [List.length_cons] at this
                have : ces.isEmpty = false := by rw [Array.isEmpty_eq_false_iff]; intro h0; rw [h0] at this; simp at this
                rw [this]; rfl
            have hbad : bnot (band (bnot seen.isEmpty) (band (bnot es.isEmpty) (noneBelow last es))) = true := hbad
            rw [e1, e2] at hbad
            have e3 : seen.toArray.isEmpty = seen.isEmpty := by simp
            rw [e3]
            revert hbad
            cases seen.isEmpty <;> cases ces.isEmpty <;> cases ces.all (fun e => decide (e.born ≥ last)) <;> intro hb <;> first | rfl | cases hb
          have hleft := leftOf_ok seen g2
          have hfil : (ces.filter fun e => !seen.toArray.contains e.born).toList = ces.toList.filter fun e => !seen.contains e.born := by
            rw [Array.toList_filter]; simp
          rw [← hfil] at hleft
          generalize hlf : (ces.filter fun e => !seen.toArray.contains e.born) = left at hleft
          have hlen : left.size = (leftOf seen es).length := by rw [← Array.length_toList]; exact hleft.length
          have hpos : 0 < left.size := by
            rw [hlen]
            cases hl : leftOf seen es with
            | nil => rw [hl] at hne3; exact absurd rfl hne3
            | cons _ _ => simp
          have hborn : ∀ e ∈ left.toList, e.born < since := by
            intro e hem
            obtain ⟨j, hj⟩ := List.getElem?_of_mem hem
            have hjl : j < (leftOf seen es).length := by rw [← hlen, ← Array.length_toList]; exact (List.getElem?_eq_some_iff.1 hj).1
            obtain ⟨e', he', _, _, hb'⟩ := hleft.get (List.getElem?_eq_getElem hjl)
            rw [hj] at he'; cases he'
            have := List.all_eq_true.1 hall _ (List.getElem_mem hjl)
            have : _ < since := ble_t this
            rw [hb']; exact this
          have hold : left.filter (fun e => decide (e.born < since)) = left := by
            apply Array.filter_eq_self.2
            intro e he
            simpa using hborn e (Array.mem_toList_iff.2 he)
          have hnew : left.filter (fun e => decide (e.born ≥ since)) = #[] := by
            apply Array.filter_eq_empty_iff.2
            intro e he
            have := hborn e (Array.mem_toList_iff.2 he)
            simp; omega
          have hne0 : left.isEmpty = false := by rw [Array.isEmpty_eq_false_iff]; intro h0; rw [h0] at hpos; simp at hpos
          have hcand : (if left.isEmpty = true then #[none] else #[]) ++ (left ++ (#[] : Array MapEntry)).map some = left.map some := by rw [hne0]; simp
          -- the choice
          obtain ⟨c, w1, hc, hw1, hch⟩ : ∃ c w1, c < left.size ∧ (w1.heap = w.heap ∧ w1.tape = w.tape ∧ w1.os = w.os ∧ w1.output = w.output) ∧ (choose (.mapNext (left.map some).size)).run P w = .ok c w1 := by
            rw [run_choose_drew]
            by_cases hf : (Question.mapNext (left.map some).size).forced = true
            · exact ⟨0, w, hpos, ⟨rfl, rfl, rfl, rfl⟩, by rw [if_pos hf]⟩
            · refine ⟨_, w.drew, ?_, ⟨rfl, rfl, rfl, rfl⟩, by rw [if_neg hf]⟩
              simp only [Question.cut, Array.size_map]
              exact Nat.mod_lt _ hpos
          obtain ⟨hw1a, hw1b, hw1c, hw1d⟩ := hw1
          have hcl : c < (leftOf seen es).length := by rw [← hlen]; exact hc
          have hgc : (leftOf seen es)[c]? = some (leftOf seen es)[c] := List.getElem?_eq_getElem hcl
          obtain ⟨e, he', h1, h2, h3⟩ := hleft.get hgc
          have hlc : left[c]? = some e := by rw [← Array.getElem?_toList]; exact he'
          refine ⟨⟨.tup [.bool true, (leftOf seen es)[c].1, (leftOf seen es)[c].2.1], h.set i (.miter (some r) since (seen ++ [(leftOf seen es)[c].2.2]) cl), nx⟩, List.mem_map.2 ⟨_, List.getElem_mem hcl, rfl⟩,
            .tuple #[.bool true, e.key, e.val], w1.putObj cb (.mapIter (some cr) since (seen.toArray.push e.born) cl), ?_, R.triple (R.tbool _) h1 h2, ?_⟩
          · have hq2 : w1.heap[cb]? = some (.mapIter (some cr) since seen.toArray last) := by rw [hw1a]; exact q2
            simp only [execOp, ho, hv, Instr.next, Sem.run_bind, Nat.add_zero, hget, Result.andThen_ok, run_getMap g1, hgood, Bool.false_eq_true, if_false, hlf, hold, hnew, hcand, hch]
            simp only [Array.getElem?_map, hlc, Option.map_some, Sem.run_bind, run_setObj_of hq2 (fun _ _ _ h => by cases h), Result.andThen_ok, Sem.run_pure]
          · have hW1 : WR CR E w0 h nx w1 := hW.same hw1a hw1b hw1c hw1d
            have hq2 : w1.heap[cb]? = some (.mapIter (some cr) since seen.toArray last) := by rw [hw1a]; exact q2
            refine updObj_ok hW1 hi hmi hq2 (fun _ _ _ h => by cases h) q3 ?_
            simp only [OR]
            refine ⟨cb, some cr, hmi, ?_, q3, q4⟩
            rw [World.putObj_heap_same (heap_lt hq2), h3]; simp

theorem cOper_nxt {ops : Array Oper} {o : Oper} {N : Nat} {ox : Od} (h : nxtOf (cOper { X with nt := N } P ops o).op = some ox) : ∃ x, o.op = .next x false ∧ cod X.ng x = some ox := by
  have h := nxtOf_some h
  unfold cOper at h
  simp only at h
  cases hd : o.dst with
  | none => rw [hd] at h; exact cOp_nxt (X := { X with nt := N }) h
  | some d =>
    rw [hd] at h
    simp only at h
    split at h
    · exact cOp_nxt (X := { X with nt := N }) h
    · cases h

/-- a bool that is not known is one of the two -/
theorem refine_ok {E : Env} {N : Nat} {t : T GV} {tm : Array Value} (ht : TR E N t tm) {n : Nat} (h : tget t n = .un .b) : ∃ b, TR E N (T.set t n (.bool b)) tm ∧ tm.getD n undef = .bool b := by
  have hr := tget_ok ht n
  rw [h] at hr
  simp only [R] at hr
  obtain ⟨b, hb⟩ := hr
  refine ⟨b, ⟨ht.1, fun m v hm => ?_⟩, hb⟩
  rw [T.get_set] at hm
  by_cases e : m = n
  · subst e
    rw [if_pos rfl] at hm; cases hm
    unfold tget at h
    cases hg : t.get m with
    | none => rw [hg] at h; cases h
    | some u =>
      obtain ⟨h1, x, h2, _⟩ := ht.2 m u hg
      refine ⟨h1, x, h2, ?_⟩
      rw [Array.getD_eq_getD_getElem?, h2] at hb
      simp only [R]; exact hb
  · rw [if_neg e] at hm; exact ht.2 m v hm
theorem splitU_cases {E : Env} {N : Nat} {t : T GV} {n : Nat} {k : T GV → GR} (hg : Good (splitU t n k)) : tget t n = .un .b ∧ Good (k (T.set t n (.bool true))) ∧ Good (k (T.set t n (.bool false))) ∧ splitU t n k = .alt (k (T.set t n (.bool true))) (k (T.set t n (.bool false))) := by
  unfold splitU at hg ⊢
  cases hv : tget t n <;> rw [hv] at hg <;> first | exact hg.elim | skip
  rename_i u
  change Good (Bool.rec .fail (.alt (k (T.set t n (.bool true))) (k (T.set t n (.bool false)))) (uq u .b)) at hg
  cases hu : uq u .b with
  | false => rw [hu] at hg; exact hg.elim
  | true =>
    rw [hu] at hg
    have := uq_eq hu; subst this
    exact ⟨rfl, hg.1, hg.2, rfl⟩

def OpsOk (X : Cx) (P : Program) (w0 : World) (N n : Nat) (F : Fence) (ops : Array Oper) (ds : List Nat) (l : List Oper) (f : T GV → T GO → Nat → GR) : Prop :=
  ∀ (Q : Exit → Act → World → Prop) (t : T GV) (h : T GO) (nx : Nat) (a : Act) (w : World) (E : Env), Good (f t h nx) → TR E N t a.tmps → DR E ds a.defers → GL E X.ng → WR (CRX X P) E w0 h nx w →
    (∀ e a' w', Post X P N w0 E (f t h nx) e a' w' → Q e a' w') → wpListIn F n P ops Q l a w

theorem split_ok {N n : Nat} {F : Fence} {ops : Array Oper} {ds : List Nat} {l : List Oper} {fb : T GV → T GO → Nat → GR} (hfb : OpsOk X P w0 N n F ops ds l fb) {Q : Exit → Act → World → Prop} {t : T GV} {h : T GO} {nx m : Nat} {a : Act} {w : World} {E : Env}
    (hne : Good (splitU t m (fun t' => fb t' h nx))) (ht : TR E N t a.tmps) (hd : DR E ds a.defers) (hg : GL E X.ng) (hW : WR (CRX X P) E w0 h nx w) (hQ : ∀ e a' w', Post X P N w0 E (splitU t m (fun t' => fb t' h nx)) e a' w' → Q e a' w') : wpListIn F n P ops Q l a w := by
  obtain ⟨h1, h2, h3, h4⟩ := splitU_cases (E := E) (N := N) hne
  rw [h4] at hQ
  obtain ⟨b, hb, _⟩ := refine_ok ht h1
  cases b with
  | true => exact hfb Q _ h nx a w E h2 hb hd hg hW (fun e a' w' hp => hQ e a' w' (.inl hp))
  | false => exact hfb Q _ h nx a w E h3 hb hd hg hW (fun e a' w' hp => hQ e a' w' (.inr hp))

theorem stepO_eq {ih : T GV → T GO → Nat → GR} {g : GOper} {fb : T GV → T GO → Nat → GR} {t : T GV} {h : T GO} {nx : Nat} : stepO self fs ih g fb t h nx = Option.rec (Option.rec .fail (fun p => splitU t p.1 (fun t' => fb t' h nx)) g.guard) (fun wanted => Bool.rec (ih (tput t g.dst (.tup [])) h nx)
      (Option.rec (Option.rec (Option.rec .fail (fun n => splitU t n (fun t' => fb t' h nx)) (pickOf g.op)) (fun x => altAll (fun s => MS.casesOn s fun v h nx => ih (tput t g.dst v) h nx) (mNxtAll h nx (ev t x))) (nxtOf g.op)) (fun s => MS.casesOn s fun v h nx => ih (tput t g.dst v) h nx) (xop self fs t h nx g.op)) wanted) (gwant t g.guard) := rfl

/-- one operation, the rest of the region behind it -/
theorem stepO_ok (H : FOk P X fs) (hs : SelfOk P X w0 self) {N n : Nat} {F : Fence} (hF : Wd F) {ops : Array Oper} {ds : List Nat} {o : Oper} {l : List Oper} {ih fb : T GV → T GO → Nat → GR} (hih : OpsOk X P w0 N n F ops ds l ih) (hfb : OpsOk X P w0 N n F ops ds (o :: l) fb) :
    OpsOk X P w0 N n F ops ds (o :: l) (stepO self fs ih (cOper { X with nt := N } P ops o) fb) := by
  intro Q t h nx a w E hne ht hd hg hW hQ
  rw [stepO_eq, cOper_dst] at hne hQ
  cases hgw : gwant t (cOper { X with nt := N } P ops o).guard with
  | none =>
    rw [hgw] at hne hQ
    revert hne hQ
    cases (cOper { X with nt := N } P ops o).guard with
    | none => intro hne; exact hne.elim
    | some p => intro hne hQ; exact split_ok hfb hne ht hd hg hW hQ
  | some b =>
    rw [hgw] at hne hQ
    have hwant := gwant_ok ht hgw
    cases b with
    | false =>
      unfold wpListIn
      rw [hwant, if_neg (by decide)]
      exact ⟨fun f _ => hF.fn f, hih Q _ h nx _ w E hne (tput_ok ht undef_ok) (by rw [put_defers]; exact hd) hg hW hQ⟩
    | true =>
      cases hop : xop self fs t h nx (cOper { X with nt := N } P ops o).op with
      | none =>
        rw [hop] at hne hQ
        cases hnx : nxtOf (cOper { X with nt := N } P ops o).op with
        | none =>
          rw [hnx] at hne hQ
          cases hpk : pickOf (cOper { X with nt := N } P ops o).op with
          | none => rw [hpk] at hne; exact hne.elim
          | some m => rw [hpk] at hne hQ; exact split_ok hfb hne ht hd hg hW hQ
        | some ox =>
          unfold wpListIn
          rw [hwant, if_pos rfl]
          rw [hnx] at hne hQ
          change Good (altAll (fun s => MS.casesOn s fun v h nx => ih (tput t (sl N o.dst) v) h nx) (mNxtAll h nx (ev t ox))) at hne
          change ∀ e a' w', Post X P N w0 E (altAll (fun s => MS.casesOn s fun v h nx => ih (tput t (sl N o.dst) v) h nx) (mNxtAll h nx (ev t ox))) e a' w' → Q e a' w' at hQ
          obtain ⟨x, ho, hcx⟩ := cOper_nxt hnx
          have hl : mNxtAll h nx (ev t ox) ≠ [] := by intro e; rw [e] at hne; exact hne.elim
          obtain ⟨s, hmem, v, w', hrun, hr, hW'⟩ := m_next_all (P := P) ht hg hW ho hcx hl
          refine ⟨fun f _ => hF.fn f, ?_⟩
          rw [Oper.semAt_eq _ _ _ (fun c e => by rw [ho] at e; cases e), hrun]
          show wpListIn F n P ops Q l (a.put o.dst v) w'
          exact hih Q _ _ _ _ w' E (altAll_good hne hmem) (tput_ok ht hr) (by rw [put_defers]; exact hd) hg hW' (fun e a' w'' hp => hQ e a' w'' (altAll_post hmem hp))
      | some s =>
        unfold wpListIn
        rw [hwant, if_pos rfl]
        rw [hop] at hne hQ
        refine xop_ok H hs (dst_op hop) hF ht hg hW fun v E' w' hE hr hW' => ?_
        exact hih Q _ _ _ _ w' E' hne (tput_ok (ht.mono hE) hr) (by rw [put_defers]; exact hd.mono hE) (hg.mono hE) hW' (fun e a' w' hp => hQ e a' w' (Post.mono hE hp))

/-- the operations of a region, one behind the other -/
theorem xops_ok (H : FOk P X fs) (hs : SelfOk P X w0 self) {N n : Nat} {F : Fence} (hF : Wd F) {ops : Array Oper} {ds : List Nat} : ∀ (l : List Oper), OpsOk X P w0 N n F ops ds l (xops self fs ds (l.map (cOper { X with nt := N } P ops)))
  | [] => fun Q t h nx a w E hne ht hd hg hW hQ => hQ .normal a w ⟨E, Env.le_refl E, ht, hd, hW⟩
  | o :: l => stepO_ok H hs hF (xops_ok H hs hF l) (stepO_ok H hs hF (xops_ok H hs hF l) (fun Q t h nx a w E hne => (hne : False).elim))
end
end Go.Gh
