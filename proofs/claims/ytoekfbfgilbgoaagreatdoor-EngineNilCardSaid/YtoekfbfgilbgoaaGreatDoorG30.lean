/- From a run to a contract: the tables, the functions, the variables as they lie. -/
import Derived.Test.YtoekfbfgilbgoaaGreatDoorG29
import Derived.Laws.Externs
namespace Go.Gh
set_option linter.unusedVariables false

section
variable {P : Program} {X : Cx}
theorem tb_ok (P : Program) : Tb P (T.ofList P.types.toList) := by
  intro t i h
  rw [T.get_ofList, Array.getElem?_toList] at h
  have hlt := (Array.getElem?_eq_some_iff.1 h).1
  show P.toTables.info? t = some i
  unfold Tables.info?
  rw [if_pos hlt]; exact h

noncomputable def cFn (X : Cx) (P : Program) (fn : Func) : Option GFn :=
  Option.rec none (fun c => Option.rec none (fun res => some (.code (cCode { X with nt := fn.ntmps } P c) res fn.ntmps)) (cRess X.tb fn.results.toList)) fn.body
noncomputable def fsOf (X : Cx) (P : Program) (ft : T Func) (L : List Nat) : T GFn :=
  List.rec .nil (fun id _ ih => Option.rec ih (fun fn => Option.rec ih (fun g => T.set ih id g) (cFn X P fn)) (ft.get id)) L
theorem fsOf_ok {ft : T Func} (f : Nat) (g : GFn) : ∀ (L : List Nat), (fsOf X P ft L).get f = some g → ∃ fn, ft.get f = some fn ∧ cFn X P fn = some g
  | [], h => by rw [show fsOf X P ft [] = .nil from rfl, T.get_nil] at h; cases h
  | id :: L, h => by
    change (Option.rec (fsOf X P ft L) (fun fn => Option.rec (fsOf X P ft L) (fun g => T.set (fsOf X P ft L) id g) (cFn X P fn)) (ft.get id) : T GFn).get f = some g at h
    cases hf : ft.get id with
    | none => rw [hf] at h; exact fsOf_ok f g L h
    | some fn =>
      rw [hf] at h
      change (Option.rec (fsOf X P ft L) (fun g => T.set (fsOf X P ft L) id g) (cFn X P fn) : T GFn).get f = some g at h
      cases hc : cFn X P fn with
      | none => rw [hc] at h; exact fsOf_ok f g L h
      | some g' =>
        rw [hc] at h
        change (T.set (fsOf X P ft L) id g').get f = some g at h
        rw [T.get_set] at h
        by_cases e : f = id
        · rw [if_pos e] at h; cases h; subst e; exact ⟨fn, hf, hc⟩
        · rw [if_neg e] at h; exact fsOf_ok f g L h
theorem cFn_some {f : Nat} {fn : Func} {g : GFn} (h : cFn X P fn = some g) : ∃ c, fn.body = some c ∧ GFnOk P X f fn c g := by
  obtain ⟨c, hc, h⟩ := orec_some h
  obtain ⟨res, hr, h⟩ := orec_some h
  cases h
  exact ⟨c, hc, rfl, rfl, hr⟩

theorem FOk.of (htb : X.tb = T.ofList P.types.toList) (hex : ExOk P X) (hmx : P.follows .mixedOrders = true) (hn : P.funcs.toList.all (fun fn => !(fn.name == "runtime.NumGoroutine")) = true) (L : List Nat) :
    FOk P X (fsOf X P (T.ofList P.funcs.toList) L) where
  tb := by rw [htb]; exact tb_ok P
  ex := hex
  mx := hmx
  fn f g h := by
    obtain ⟨fn, h1, h2⟩ := fsOf_ok f g L h
    rw [T.get_ofList, Array.getElem?_toList] at h1
    obtain ⟨c, h3, h4⟩ := cFn_some (f := f) h2
    refine ⟨fn, c, h1, ?_, h3, h4⟩
    have := List.all_eq_true.1 hn fn (Array.mem_toList_iff.2 (Array.mem_of_getElem? h1))
    simpa using this

/-- What is known of a function, in place of its code. -/
theorem FOk.sum {fs : T GFn} (H : FOk P X fs) {f : Nat} {σ : List GV → T GO → Nat → Option MS} (hf : (fs.get f).isSome = true) (hs : SumOk P X f σ) : FOk P X (T.set fs f (.sm σ)) where
  tb := H.tb
  ex := H.ex
  mx := H.mx
  fn g x h := by
    rw [T.get_set] at h
    by_cases e : g = f
    · rw [if_pos e] at h; cases h; subst e
      obtain ⟨y, hy⟩ := Option.isSome_iff_exists.1 hf
      obtain ⟨fn, c, h1, h2, h3, _⟩ := H.fn g y hy
      exact ⟨fn, c, h1, h2, h3, hs⟩
    · rw [if_neg e] at h; exact H.fn g x h

theorem ExOk.of2 {a b : Nat} (hX : X.ex = T.set (T.set .nil a .clone) b .ixb) {fa fb : Func} (ha : P.funcs[a]? = some fa) (hb : P.funcs[b]? = some fb) (na : (fa.name == "runtime.NumGoroutine") = false) (nb : (fb.name == "runtime.NumGoroutine") = false)
    (ba : fa.body.isNone = true) (bb : fb.body.isNone = true) (ea : Extern.findNext fa = none) (eb : Extern.findNext fb = none) (xa : Extern.find fa = some Extern.MapsClone.clone) (xb : Extern.find fb = some Extern.BytealgIndexByte.indexByte) : ExOk P X := by
  intro f e hf args w
  rw [hX, T.get_set] at hf
  by_cases h1 : f = b
  · rw [if_pos h1] at hf; cases hf; subst h1
    rw [run_callFunc_extern hb nb bb eb xb]
    simp only [exRun, Sem.run_bind, Sem.run_pure]
  · rw [if_neg h1, T.get_set] at hf
    by_cases h2 : f = a
    · rw [if_pos h2] at hf; cases hf; subst h2
      rw [run_callFunc_extern ha na ba ea xa]
      simp only [exRun, Sem.run_bind, Sem.run_pure]
    · rw [if_neg h2, T.get_nil] at hf; cases hf

/-! ### the start -/
noncomputable def heap0 (gs : List (Nat × List GV)) : T GO := List.rec .nil (fun x _ ih => T.set ih x.1 (.cells (T.lay x.2 0 .nil) 0 x.2.length .bad true)) gs
theorem heap0_get : ∀ (gs : List (Nat × List GV)) (g : Nat) (o : GO), (heap0 gs).get g = some o → ∃ l, (g, l) ∈ gs ∧ o = .cells (T.lay l 0 .nil) 0 l.length .bad true
  | [], g, o, h => by rw [show heap0 [] = .nil from rfl, T.get_nil] at h; cases h
  | x :: gs, g, o, h => by
    change (T.set (heap0 gs) x.1 (.cells (T.lay x.2 0 .nil) 0 x.2.length .bad true)).get g = some o at h
    rw [T.get_set] at h
    by_cases e : g = x.1
    · rw [if_pos e] at h; cases h; exact ⟨x.2, by rw [e]; simp, rfl⟩
    · rw [if_neg e] at h
      obtain ⟨l, h1, h2⟩ := heap0_get gs g o h
      exact ⟨l, List.mem_cons_of_mem _ h1, h2⟩

/-- The variables as the run takes them: closed values, row by row. -/
def Laid (ng : Nat) (gs : List (Nat × List GV)) (w : World) : Prop :=
  ∀ x ∈ gs, x.1 < ng ∧ ∃ c el fz, w.heap[x.1]? = some (.cells c el fz) ∧ x.2.length ≤ c.size ∧ (∀ i, fz.1 ≤ i → i < fz.2 → c.size ≤ i) ∧ ∀ E, RL E x.2 (c.toList.take x.2.length)

def env0 (ng : Nat) (w : World) : Env where
  m g := if g < ng then some (g, 0) else none
  sz b := match w.heap[b]? with | some (.cells c _ _) => if b < ng then c.size else 0 | _ => 0

theorem start_ok {CR : Nat → Code → GC → Prop} {ng : Nat} {gs : List (Nat × List GV)} {w : World} (hl : Laid ng gs w) : WR CR (env0 ng w) w (heap0 gs) ng w where
  obj g o hg := by
    obtain ⟨l, hm, rfl⟩ := heap0_get gs g o hg
    obtain ⟨h1, c, el, fz, h2, h3, h4, h5⟩ := hl _ hm
    have h1 : g < ng := h1
    have h2 : w.heap[g]? = some (.cells c el fz) := h2
    have hsz : (env0 ng w).sz g = c.size := by simp only [env0, h2]; rw [if_pos h1]
    simp only [OR]
    refine ⟨g, 0, c, el, fz, by simp only [env0]; rw [if_pos h1], h2, by rw [hsz]; simpa using h3, by rw [hsz]; exact Nat.le_refl _, h4, (fun h => by cases h), fun i hi => ?_⟩
    have hx : l[i]? = some l[i] := List.getElem?_eq_getElem hi
    obtain ⟨y, hy, hr⟩ := (h5 (env0 ng w)).get hx
    rw [List.getElem?_take_of_lt hi, Array.getElem?_toList] at hy
    refine ⟨y, by rw [Nat.zero_add]; exact hy, ?_⟩
    rw [T.get_lay, if_pos (by omega), Nat.zero_add, Nat.sub_zero, hx]
    exact hr
  inj g g' o o' cb co co' h1 h2 h3 h4 := by
    simp only [env0] at h3 h4
    split at h3
    · cases h3
      split at h4
      · cases h4; rfl
      · cases h4
    · cases h3
  lt g x hg := by
    simp only [env0] at hg
    split at hg
    · assumption
    · cases hg
  sz cb hc := by
    simp only [env0] at hc ⊢
    split at hc
    · rename_i c el fz h
      exact ⟨c, el, fz, h, by split <;> omega⟩
    · omega
  fr := Fr.refl w

noncomputable def okTrue (o : Option MS) : Bool := Option.rec false (fun s => MS.casesOn s fun v _ _ => onBool false v fun b => b) o
theorem okTrue_some {o : Option MS} (h : okTrue o = true) : ∃ s, o = some s ∧ s.v = .bool true := by
  cases o with
  | none => cases h
  | some s =>
    obtain ⟨v, hh, nx⟩ := s
    change onBool false v (fun b => b) = true at h
    cases v <;> first | (cases h; done) | skip
    rename_i b
    have h : b = true := h
    subst h
    exact ⟨_, rfl, rfl⟩

/-- A function that the run finds to answer true does so, whatever the tape; what was there is left. -/
theorem calls_true {fs : T GFn} (H : FOk P X fs) {f fuel : Nat} {gs : List (Nat × List GV)} {args : List GV} (hrun : okTrue (xcall (run fs fuel) fs f args (heap0 gs) X.ng) = true) {vals : List Value} (ha : ∀ E, RL E args vals) {w : World} (hl : Laid X.ng gs w) :
    Calls P f vals.toArray w fun e w' => e = .returned (.bool true) ∧ Fr w w' := by
  obtain ⟨s, hs, hv⟩ := okTrue_some hrun
  obtain ⟨h1, _⟩ := xcall_ok (w0 := w) H (run_ok H fuel) hs (E := env0 X.ng w) (ha _) (fun g hg => by simp only [env0]; rw [if_pos hg]) (start_ok hl)
  refine callsIn_wide.1 ((h1 0).mono fun e w' he => ?_)
  obtain ⟨v, E', rfl, _, hr, hW⟩ := he
  rw [hv] at hr
  simp only [R] at hr
  subst hr
  exact ⟨rfl, hW.fr⟩
end
end Go.Gh
