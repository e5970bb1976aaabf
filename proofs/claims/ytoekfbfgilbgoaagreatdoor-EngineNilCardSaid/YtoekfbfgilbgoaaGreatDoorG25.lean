/- The run is sound: states, what is left behind, results. -/
import Derived.Test.YtoekfbfgilbgoaaGreatDoorG24
import Derived.LoopNIn
import Derived.TacticsIn
import Derived.RangeFuncCalls
namespace Go.Gh
set_option linter.unusedVariables false

def CRX (X : Cx) (P : Program) : Nat → Code → GC → Prop := fun N c g => g = cCode { X with nt := N } P c
def Wd (F : Fence) : Prop := F = Fence.wide ∨ ∃ l, F = Fence.wide.inRound l
theorem Wd.fn {F : Fence} (h : Wd F) (f : FuncId) : F.fn f := by rcases h with rfl | ⟨l, rfl⟩ <;> trivial
theorem Wd.depth {F : Fence} (h : Wd F) : F.depth = none := by rcases h with rfl | ⟨l, rfl⟩ <;> rfl
theorem Wd.calls {F : Fence} (h : Wd F) {n : Nat} {P : Program} {f : FuncId} {args : Array Value} {w : World} {Q : Ending → World → Prop} (hc : CallsIn Fence.wide n P f args w Q) : CallsIn F n P f args w Q := by
  rcases h with rfl | ⟨l, rfl⟩ <;> exact hc
theorem Wd.round {F : Fence} (h : Wd F) {n l : Nat} {P : Program} {f : FuncId} {tm : Array Value} {a b : Code} {w : World} {Q : Ending → World → Prop} (hc : RoundIn Fence.wide n P l f tm a b w Q) : RoundIn F n P l f tm a b w Q := by
  rcases h with rfl | ⟨l, rfl⟩ <;> exact hc

def DR (E : Env) : List Nat → List Deferred → Prop
  | [], l => l = []
  | g :: r, l => ∃ cb l', l = { target := .collected cb, args := #[] } :: l' ∧ E.m g = some (cb, 0) ∧ DR E r l'
theorem DR.mono {E E' : Env} (h : E.le E') : ∀ {l : List Nat} {d : List Deferred}, DR E l d → DR E' l d
  | [], d, hd => hd
  | g :: r, d, hd => by
    obtain ⟨cb, l', h1, h2, h3⟩ := hd
    exact ⟨cb, l', h1, h.1 _ _ h2, DR.mono h h3⟩
def RdOk (E : Env) (rd ro : Option Nat) : Prop := match rd, ro with | none, none => True | some l, some c => E.m l = some (c, 0) | _, _ => False
theorem RdOk.mono {E E' : Env} (h : E.le E') {rd ro : Option Nat} (hr : RdOk E rd ro) : RdOk E' rd ro := by
  cases rd <;> cases ro <;> first | exact hr | exact h.1 _ _ hr

noncomputable def cRess (tb : T TypeInfo) : List ResultVar → Option (List GRes)
  | [] => some []
  | r :: l => match (match r with
      | .tmp n => some (GRes.tmp n)
      | .cell a ty => (match und tb ty, szOf tb ty with
        | some d, some n => some (if aggD d = true then GRes.cn a n else GRes.c1 a)
        | _, _ => none)), cRess tb l with
    | some x, some y => some (x :: y)
    | _, _ => none

/-- what a call hands back -/
def CPost (X : Cx) (P : Program) (w0 : World) (E : Env) (s : MS) (e : Ending) (w : World) : Prop := ∃ v E', e = .returned v ∧ E.le E' ∧ R E' s.v v ∧ WR (CRX X P) E' w0 s.h s.nx w
/-- A function does what is known of it. -/
def SumOk (P : Program) (X : Cx) (f : Nat) (σ : List GV → T GO → Nat → Option MS) : Prop :=
  ∀ (w0 : World) (args : List GV) (vals : List Value) (h : T GO) (nx : Nat) (s : MS) (E : Env) (w : World), σ args h nx = some s → RL E args vals → GL E X.ng → WR (CRX X P) E w0 h nx w →
    ∀ n, CallsIn Fence.wide n P f vals.toArray w (CPost X P w0 E s)
def GFnOk (P : Program) (X : Cx) (f : Nat) (fn : Func) (c : Code) : GFn → Prop
  | .code body res nt => body = cCode { X with nt := fn.ntmps } P c ∧ nt = fn.ntmps ∧ cRess X.tb fn.results.toList = some res
  | .sm σ => SumOk P X f σ
structure FOk (P : Program) (X : Cx) (fs : T GFn) : Prop where
  tb : Tb P X.tb
  ex : ExOk P X
  mx : P.follows .mixedOrders = true
  fn : ∀ f g, fs.get f = some g → ∃ fn c, P.funcs[f]? = some fn ∧ (fn.name == "runtime.NumGoroutine") = false ∧ fn.body = some c ∧ GFnOk P X f fn c g

section
variable {P : Program} {X : Cx} {fs : T GFn} {w0 : World}

structure Rel (X : Cx) (P : Program) (N : Nat) (w0 : World) (s : GS) (a : Act) (w : World) (E : Env) : Prop where
  t : TR E N s.t a.tmps
  d : DR E s.ds a.defers
  w : WR (CRX X P) E w0 s.h s.nx w
def Good : GR → Prop
  | .fail => False
  | .alt x y => Good x ∧ Good y
  | _ => True
def Post (X : Cx) (P : Program) (N : Nat) (w0 : World) (E0 : Env) : GR → Exit → Act → World → Prop
  | .alt x y, e, a, w => Post X P N w0 E0 x e a w ∨ Post X P N w0 E0 y e a w
  | .norm s, .normal, a, w => ∃ E, E0.le E ∧ Rel X P N w0 s a w E
  | .ret s, .ret, a, w => ∃ E, E0.le E ∧ Rel X P N w0 s a w E
  | .exit id s, .exit id', a, w => id = id' ∧ ∃ E, E0.le E ∧ Rel X P N w0 s a w E
  | .goto l s, .goto l', a, w => l = l' ∧ ∃ E, E0.le E ∧ Rel X P N w0 s a w E
  | _, _, _, _ => False
theorem Post.mono {N : Nat} {E0 E1 : Env} (h : E0.le E1) {r : GR} {e : Exit} {a : Act} {w : World} (hp : Post X P N w0 E1 r e a w) : Post X P N w0 E0 r e a w := by
  induction r with
  | alt x y hx hy =>
    rcases hp with hp | hp
    · exact .inl (hx hp)
    · exact .inr (hy hp)
  | norm s => cases e <;> first | exact hp.elim | (obtain ⟨E, h1, h2⟩ := hp; exact ⟨E, Env.le_trans h h1, h2⟩)
  | ret s => cases e <;> first | exact hp.elim | (obtain ⟨E, h1, h2⟩ := hp; exact ⟨E, Env.le_trans h h1, h2⟩)
  | exit id s => cases e <;> first | exact hp.elim | (obtain ⟨h0, E, h1, h2⟩ := hp; exact ⟨h0, E, Env.le_trans h h1, h2⟩)
  | goto l s => cases e <;> first | exact hp.elim | (obtain ⟨h0, E, h1, h2⟩ := hp; exact ⟨h0, E, Env.le_trans h h1, h2⟩)
  | fail => exact hp.elim

/-- A memory that says less. -/
theorem WR.sub {CR : Nat → Code → GC → Prop} {E : Env} {h h' : T GO} {nx nx' : Nat} {w : World} (hW : WR CR E w0 h nx w) (hs : ∀ g o, h'.get g = some o → h.get g = some o) (hn : nx ≤ nx') : WR CR E w0 h' nx' w where
  obj g o hg := hW.obj g o (hs g o hg)
  inj g g' o o' cb co co' h1 h2 h3 h4 := hW.inj g g' o o' cb co co' (hs _ _ h1) (hs _ _ h2) h3 h4
  lt g x hg := Nat.lt_of_lt_of_le (hW.lt g x hg) hn
  sz := hW.sz
  fr := hW.fr

/-- A block that no live number means becomes something else. -/
theorem WR.blind {CR : Nat → Code → GC → Prop} {E : Env} {h : T GO} {nx : Nat} {w : World} (hW : WR CR E w0 h nx w) {cb : Nat} {q q' : Obj} (hq : w.heap[cb]? = some q) (hnc : ∀ c el fz, q ≠ .cells c el fz) (hn : w0.heap.size ≤ cb)
    (hfree : ∀ g o c', h.get g = some o → E.m g ≠ some (cb, c')) : WR CR E w0 h nx (w.putObj cb q') where
  obj g o hg := OR.mono CR (Env.le_refl E) (hW.obj g o hg) (fun cb' co hm => World.putObj_heap_other (fun e => hfree g o co hg (e ▸ hm))) (fun _ _ _ _ _ _ _ h => h)
  inj := hW.inj
  lt := hW.lt
  sz b hb := by
    obtain ⟨c, el, fz, h1, h2⟩ := hW.sz b hb
    have : b ≠ cb := by intro e; subst e; rw [hq] at h1; cases h1; exact hnc _ _ _ rfl
    exact ⟨c, el, fz, by rw [World.putObj_heap_other this]; exact h1, h2⟩
  fr := ⟨hW.fr.tape, hW.fr.os, hW.fr.output, by rw [World.putObj_size]; exact hW.fr.size, fun b hb => by rw [World.putObj_heap_other (by omega)]; exact hW.fr.old b hb⟩

theorem onDefs_some {β : Type} {o : Option GO} {k : Option β} {r : β} (h : onDefs none o k = some r) : o = some .defs ∧ k = some r := by
  cases o with
  | none => cases h
  | some o => cases o <;> first | exact ⟨rfl, h⟩ | cases h
theorem leave_ok {CR : Nat → Code → GC → Prop} {E : Env} {F : Fence} {n : Nat} {fn : Func} {tm : Array Value} {Q : Ending → World → Prop} {nx : Nat} : ∀ (ds : List Nat) (dl : List Deferred) {h h' : T GO} {w : World}, xleave ds h = some h' → DR E ds dl → WR CR E w0 h nx w →
    (∀ w', WR CR E w0 h' nx w' → LeavesIn F n P fn tm Q [] .returning w') → LeavesInM F n P fn tm Q dl .returning w
  | [], dl, h, h', w, hx, hd, hW, hk => by
    simp only [DR] at hd; subst hd
    cases hx
    exact hk w hW
  | g :: ds, dl, h, h', w, hx, hd, hW, hk => by
    obtain ⟨cb, l', rfl, hm, hd⟩ := hd
    obtain ⟨hg, hx⟩ := onDefs_some (show onDefs none (h.get g) (xleave ds (T.del h g)) = some h' from hx)
    have hob := hW.obj g _ hg
    simp only [OR] at hob
    obtain ⟨cb', q1, q2, q3⟩ := hob
    rw [hm] at q1; cases q1
    refine ⟨by simp, .inl ⟨cb, _, rfl, run_takeDeferred q2, ?_⟩⟩
    refine leave_ok ds l' hx hd ?_ hk
    refine (hW.kill g).blind q2 (fun _ _ _ h => by cases h) q3 fun g' o c' hg' hm' => ?_
    rw [T.get_del] at hg'
    by_cases e : g' = g
    · rw [if_pos e] at hg'; cases hg'
    · rw [if_neg e] at hg'
      exact e (hW.inj g' g o _ _ _ _ hg' hg hm' hm)

theorem tget_ok {E : Env} {N : Nat} {t : T GV} {tm : Array Value} (ht : TR E N t tm) (n : Nat) : R E (tget t n) (tm.getD n undef) := by
  unfold tget
  cases h : t.get n with
  | none => simp only [R]
  | some v =>
    obtain ⟨_, x, hx, hr⟩ := ht.2 n v h
    rw [Array.getD_eq_getD_getElem?, hx]; exact hr

theorem R.of_resv {E : Env} {vs : List GV} {xs : Array Value} (h : RL E vs xs.toList) : R E (xresv vs) (if h : xs.size = 1 then xs[0] else .tuple xs) := by
  have hl : xs.size = vs.length := by rw [← Array.length_toList]; exact h.length
  match vs, h, hl with
  | [], h, hl => rw [dif_neg (by simp [hl])]; simp only [xresv, R]; exact ⟨xs, rfl, h⟩
  | [v], h, hl =>
    simp only [RL] at h
    obtain ⟨x, r, e, hr, rfl⟩ := h
    have : xs = #[x] := by rw [← Array.toList_inj, e]
    subst this
    exact hr
  | v :: v' :: r, h, hl => rw [dif_neg (by simp [hl])]; simp only [xresv, R]; exact ⟨xs, rfl, h⟩

theorem run_mapM_list {α β : Type} {P : Program} {w : World} (f : α → Sem β) : ∀ (l : List α) (ys : List β), (∀ (i : Nat) (x : α) (y : β), l[i]? = some x → ys[i]? = some y → (f x).run P w = .ok y w) → ys.length = l.length → (l.mapM f : Sem (List β)).run P w = .ok ys w
  | [], ys, h, hl => by
    have : ys = [] := List.eq_nil_of_length_eq_zero (by simpa using hl)
    subst this; simp
  | x :: l, ys, h, hl => by
    cases ys with
    | nil => simp at hl
    | cons y ys =>
      have ih := run_mapM_list f l ys (fun i x' y' hx hy => h (i + 1) x' y' (by simpa using hx) (by simpa using hy)) (by simpa using hl)
      rw [List.mapM_cons, Sem.run_bind, h 0 x y (by simp) (by simp), Result.andThen_ok, Sem.run_bind, ih]
      simp

def resOf (tm : Array Value) : ResultVar → Sem Value
  | .tmp t => pure (tm.getD t undef)
  | .cell a t => do loadVar t (← asAddr (tm.getD a undef))
theorem xress_ok {CR : Nat → Code → GC → Prop} {tb : T TypeInfo} (hT : Tb P tb) {E : Env} {N : Nat} {t : T GV} {tm : Array Value} {h : T GO} {nx : Nat} {w : World} (ht : TR E N t tm) (hW : WR CR E w0 h nx w) :
    ∀ (rs : List ResultVar) (l : List GRes) (vs : List GV), cRess tb rs = some l → xress t h l = some vs →
    ∃ xs : List Value, xs.length = rs.length ∧ RL E vs xs ∧ ∀ (i : Nat) (r : ResultVar) (x : Value), rs[i]? = some r → xs[i]? = some x →
      (resOf tm r).run P w = .ok x w
  | [], l, vs, hc, hx => by
    cases hc; cases hx
    exact ⟨[], rfl, by simp [RL], fun i r x h => by simp at h⟩
  | r :: rs, l, vs, hc, hx => by
    simp only [cRess] at hc
    split at hc
    · rename_i g l' hg hl'
      cases hc
      obtain ⟨v, hv, hx⟩ := orec_some (show Option.rec none (fun v => Option.rec none (fun vs => some (v :: vs)) (xress t h l')) (xres1 t h g) = some vs from hx)
      obtain ⟨vs', hvs, hx⟩ := orec_some hx
      cases hx
      obtain ⟨xs, h1, h2, h3⟩ := xress_ok hT ht hW rs l' vs' hl' hvs
      have key : ∃ x, R E v x ∧ (resOf tm r).run P w = .ok x w := by
        cases r with
        | tmp n => cases hg; cases hv; exact ⟨_, tget_ok ht n, rfl⟩
        | cell a ty =>
          simp only at hg
          split at hg
          · rename_i d k hd hk
            have hagg := run_isAgg hT hd w
            have ra := tget_ok ht a
            by_cases hdd : aggD d = true
            · rw [if_pos hdd] at hg; cases hg
              obtain ⟨s, hs, hv⟩ := orec_some (show Option.rec none (fun s => some s.v) (mLdn h 0 k (tget t a)) = some v from hv)
              cases hv
              obtain ⟨b, oo, e, hm⟩ := onPtr_some hs
              obtain ⟨tr, lo, kk, dd, ro, hb, hm⟩ := onCells_some hm
              obtain ⟨hle, hm⟩ := okIf_some hm
              cases hm
              have hle : oo + k ≤ kk := ble_t hle
              rw [e] at ra; simp only [R] at ra
              obtain ⟨cb, co, hmm, hvv⟩ := ra
              obtain ⟨c, el, fz, q1, q2, q3, q4, q5, q6⟩ := row_ok hW hb hmm
              refine ⟨.agg ((c.toList.drop (co + oo)).take k).toArray, by simp only [R]; exact ⟨_, rfl, by simpa using q6 oo k hle⟩, ?_⟩
              simp [resOf, hvv, asAddr, loadVar, hagg, hdd, run_sizeOf' hT hk w, run_loadCells_of (P := P) q1 (o := co + oo) (n := k) (by omega)]
            · rw [if_neg hdd] at hg; cases hg
              obtain ⟨s, hs, hv⟩ := orec_some (show Option.rec none (fun s => some s.v) (mLd1 h 0 (tget t a)) = some v from hv)
              cases hv
              obtain ⟨b, oo, e, hm⟩ := onPtr_some hs
              obtain ⟨tr, lo, kk, dd, ro, hb, hm⟩ := onCells_some hm
              obtain ⟨hle, hm⟩ := okIf_some hm
              cases hm
              have hle : oo < kk := ble_t hle
              rw [e] at ra; simp only [R] at ra
              obtain ⟨cb, co, hmm, hvv⟩ := ra
              have hob := hW.obj b _ hb
              simp only [OR] at hob
              obtain ⟨cb', co', c, el, fz, q1, q2, q3, q3', q4, q5, q6⟩ := hob
              rw [hmm] at q1; cases q1
              obtain ⟨y, hy, hry⟩ := q6 oo hle
              have hdf : aggD d = false := by simpa using hdd
              refine ⟨y, by rw [cellAt_eq]; exact hry, ?_⟩
              simp [resOf, hvv, asAddr, loadVar, hagg, hdf, run_load, cell_of q2, hy]
          · cases hg
      obtain ⟨x, hx1, hx2⟩ := key
      refine ⟨x :: xs, by simp [h1], by simp only [RL]; exact ⟨x, xs, rfl, hx1, h2⟩, fun i r' x' hr hx' => ?_⟩
      cases i with
      | zero => cases hr; cases hx'; exact hx2
      | succ i => exact h3 i r' x' hr hx'
    · cases hc

theorem results_ok {CR : Nat → Code → GC → Prop} {tb : T TypeInfo} (hT : Tb P tb) {E : Env} {N : Nat} {t : T GV} {h : T GO} {nx : Nat} {w : World} {fn : Func} {tm : Array Value} {l : List GRes} {vs : List GV} (ht : TR E N t tm) (hW : WR CR E w0 h nx w) (hc : cRess tb fn.results.toList = some l) (hx : xress t h l = some vs) :
    ∃ v, (results fn tm).run P w = .ok v w ∧ R E (xresv vs) v := by
  obtain ⟨xs, h1, h2, h3⟩ := xress_ok hT ht hW _ _ _ hc hx
  have hm := run_mapM_list (P := P) (w := w) (resOf tm) fn.results.toList xs (fun i x y hx hy => h3 i x y hx hy) h1
  refine ⟨if h : xs.toArray.size = 1 then xs.toArray[0] else .tuple xs.toArray, ?_, R.of_resv (by simpa using h2)⟩
  have e : results fn tm = (do
      let vs ← fn.results.mapM (resOf tm)
      pure (if h : vs.size = 1 then vs[0] else .tuple vs)) := by
    unfold results
    congr 2
  rw [e, Sem.run_bind, Array.mapM_eq_mapM_toList, map_eq_pure_bind, Sem.run_bind, hm]
  rfl
end
end Go.Gh
