/- Pure operations: what they come to, and that the machine's operations come to that, in whatever world. -/
import Derived.Test.YtoekfbfgilbgoaaGreatDoorG2
namespace Go.Gh
set_option linter.unusedVariables false

inductive Od where
  | t (n : Nat)
  | c (v : GV)
  | g (n : Nat)
  | f (n : Nat)

noncomputable def ev (t : T GV) (o : Od) : GV := Od.casesOn o (fun n => Option.rec .bad (fun v => v) (t.get n)) (fun v => v) (fun g => .ptr g 0) (fun f => .fn (.func f) [] [])
noncomputable def evs (t : T GV) (l : List Od) : List GV := List.rec [] (fun o _ ih => ev t o :: ih) l

/-- The temporaries as the run has them. -/
def TR (E : Env) (N : Nat) (t : T GV) (tmps : Array Value) : Prop := N ≤ tmps.size ∧ ∀ n v, t.get n = some v → n < N ∧ ∃ x, tmps[n]? = some x ∧ R E v x
def GL (E : Env) (ng : Nat) : Prop := ∀ g, g < ng → E.m g = some (g, 0)
theorem GL.mono {E E' : Env} {ng : Nat} (h : GL E ng) (hE : E.le E') : GL E' ng := fun g hg => hE.1 _ _ (h g hg)
theorem TR.mono {E E' : Env} {N : Nat} {t : T GV} {a : Array Value} (h : TR E N t a) (hE : E.le E') : TR E' N t a :=
  ⟨h.1, fun n v hn => let ⟨hlt, x, hx, hr⟩ := h.2 n v hn; ⟨hlt, x, hx, R.mono hE _ _ hr⟩⟩
theorem TR.set {E : Env} {N : Nat} {t : T GV} {a : Array Value} {d : Nat} {v : GV} {x : Value} (h : TR E N t a) (hd : d < N) (hr : R E v x) :
    TR E N (t.set d v) (a.setIfInBounds d x) := by
  refine ⟨by simpa using h.1, fun n u hn => ?_⟩
  rw [T.get_set] at hn
  by_cases e : n = d
  · subst e
    rw [if_pos rfl] at hn; cases hn
    exact ⟨hd, x, by have := h.1; simp [Array.getElem?_setIfInBounds]; omega, hr⟩
  · rw [if_neg e] at hn
    obtain ⟨hlt, y, hy, hr'⟩ := h.2 n u hn
    exact ⟨hlt, y, by rw [Array.getElem?_setIfInBounds_ne (by omega)]; exact hy, hr'⟩

/-! ### constants -/
def cs1 (v : Value) : Option GV :=
  match v with
  | .bool b => some (.bool b)
  | .int k n => some (.int k n)
  | .string s => some (.str (s.data.toList.map UInt8.toNat))
  | .pointer none => some .nilp
  | .slice none 0 0 => some .nils
  | .map none => some .nilm
  | .nilFunc => some .nilf
  | .nilIface => some .nili
  | _ => none
def csl : List Value → Option (List GV)
  | [] => some []
  | v :: r => match cs1 v, csl r with
    | some g, some gs => some (g :: gs)
    | _, _ => none
def cv (v : Value) : Option GV :=
  match v with
  | .agg cs => (csl cs.toList).map .agg
  | .tuple vs => if vs.size = 0 then some (.tup []) else none
  | v => cs1 v
theorem bs_back (s : ByteArray) : bs (s.data.toList.map UInt8.toNat) = s := by
  have h : (s.data.toList.map UInt8.toNat).map UInt8.ofNat = s.data.toList := by
    rw [List.map_map]
    conv => rhs; rw [← List.map_id s.data.toList]
    exact List.map_congr_left fun x _ => by simp
  unfold bs; rw [h]
theorem cs1_ok {v : Value} {g : GV} (h : cs1 v = some g) (E : Env) : R E g v := by
  unfold cs1 at h
  split at h <;> first | (cases h; simp only [R]; done) | (cases h; done) | skip
  cases h
  simp only [R]
  refine ⟨by rw [bs_back], fun x hx => ?_⟩
  obtain ⟨y, _, rfl⟩ := List.mem_map.1 hx
  exact y.toNat_lt
theorem csl_ok (E : Env) : ∀ {l : List Value} {g : List GV}, csl l = some g → RL E g l
  | [], g, h => by simp only [csl, Option.some.injEq] at h; subst h; simp only [RL]
  | v :: r, g, h => by
    simp only [csl] at h
    split at h
    · rename_i x xs h1 h2
      cases h
      simp only [RL]
      exact ⟨v, r, rfl, cs1_ok h1 E, csl_ok E h2⟩
    · cases h
theorem cv_ok {v : Value} {g : GV} (h : cv v = some g) (E : Env) : R E g v := by
  unfold cv at h
  split at h
  · rename_i cs
    obtain ⟨l, hl, rfl⟩ := Option.map_eq_some_iff.1 h
    simp only [R]
    exact ⟨cs, rfl, csl_ok E hl⟩
  · rename_i vs
    by_cases h0 : vs.size = 0
    · rw [if_pos h0] at h; cases h
      simp only [R, RL]
      exact ⟨vs, rfl, by rw [← Array.length_toList] at h0; exact List.eq_nil_of_length_eq_zero h0⟩
    · rw [if_neg h0] at h; cases h
  · exact cs1_ok h E

def cod (ng : Nat) (x : Operand) : Option Od :=
  match x with
  | .tmp n => some (.t n)
  | .const v => (cv v).map .c
  | .global g => if g < ng then some (.g g) else none
  | .func f => some (.f f)
def cods (ng : Nat) : List Operand → Option (List Od)
  | [] => some []
  | x :: r => match cod ng x, cods ng r with
    | some o, some os => some (o :: os)
    | _, _ => none
section
variable {E : Env} {N ng : Nat} {t : T GV} {a : Act}
theorem ev_ok (ht : TR E N t a.tmps) (hg : GL E ng) {x : Operand} {o : Od} (h : cod ng x = some o) : R E (ev t o) (a.eval x) := by
  cases x with
  | tmp n =>
    simp only [cod, Option.some.injEq] at h; subst h
    show R E (Option.rec .bad (fun v => v) (t.get n)) (a.tmps.getD n undef)
    cases hn : t.get n with
    | none => simp only [R]
    | some v =>
      obtain ⟨_, y, hy, hr⟩ := ht.2 n v hn
      rw [Array.getD_eq_getD_getElem?, hy]; exact hr
  | const v =>
    simp only [cod] at h
    obtain ⟨g, hg', rfl⟩ := Option.map_eq_some_iff.1 h
    exact cv_ok hg' E
  | global g =>
    simp only [cod] at h
    by_cases hl : g < ng
    · rw [if_pos hl] at h; cases h
      show R E (.ptr g 0) (.pointer (some ⟨g, 0, none⟩))
      simp only [R]
      exact ⟨g, 0, hg g hl, rfl⟩
    · rw [if_neg hl] at h; cases h
  | func f =>
    simp only [cod, Option.some.injEq] at h; subst h
    show R E (.fn (.func f) [] []) (.func (.func f) #[] #[])
    simp only [R, RL]
    exact ⟨#[], #[], rfl, rfl, rfl⟩
theorem evs_ok (ht : TR E N t a.tmps) (hg : GL E ng) : ∀ {l : List Operand} {os : List Od}, cods ng l = some os → RL E (evs t os) (l.map a.eval)
  | [], os, h => by simp only [cods, Option.some.injEq] at h; subst h; show RL E [] []; simp only [RL]
  | x :: r, os, h => by
    simp only [cods] at h
    split at h
    · rename_i o os' h1 h2
      cases h
      show RL E (ev t o :: evs t os') (a.eval x :: r.map a.eval)
      simp only [RL]
      exact ⟨_, _, rfl, ev_ok ht hg h1, evs_ok ht hg h2⟩
    · cases h
end

/-! ### types -/
def Tb (P : Program) (tb : T TypeInfo) : Prop := ∀ t i, tb.get t = some i → P.info? t = some i
noncomputable def und (tb : T TypeInfo) (t : TypeId) : Option TypeDesc :=
  match tb.get t with
  | some i => match i.desc with
    | .named _ u => (tb.get u).map (·.desc)
    | d => some d
  | none => none
theorem und_ok {P : Program} {tb : T TypeInfo} (hT : Tb P tb) {t : TypeId} {d : TypeDesc} (h : und tb t = some d) : P.underlying t = some d := by
  unfold und at h
  split at h
  · rename_i i hi
    have hi' := hT _ _ hi
    obtain ⟨desc, str, size, bytes, hp, al, fa, zero, cmp, ms⟩ := i
    split at h
    · rename_i n u hd
      simp only at hd; subst hd
      obtain ⟨j, hj, rfl⟩ := Option.map_eq_some_iff.1 h
      simp [Program.underlying, hi', hT _ _ hj]
    · rename_i hd
      simp only [Option.some.injEq] at h; subst h
      unfold Program.underlying
      rw [hi']
      simp only at hd ⊢
      split
      · rename_i n u _ _ _ _ _ _ _ _ _ heq
        simp only [Option.some.injEq, TypeInfo.mk.injEq] at heq
        exact absurd heq.1 (hd n u)
      · rename_i i heq
        simp only [Option.some.injEq] at heq; subst heq; rfl
      · rename_i heq; cases heq
  · cases h
noncomputable def szOf (tb : T TypeInfo) (t : TypeId) : Option Nat := (tb.get t).map (·.size)
theorem run_sizeOf' {P : Program} {tb : T TypeInfo} (hT : Tb P tb) {t : TypeId} {n : Nat} (h : szOf tb t = some n) (w : World) : (sizeOf t).run P w = .ok n w := by
  obtain ⟨i, hi, rfl⟩ := Option.map_eq_some_iff.1 h
  have := hT _ _ hi
  simp [sizeOf, typeInfo, program, Sem.run, this, pure]
theorem run_und {P : Program} {tb : T TypeInfo} (hT : Tb P tb) {t : TypeId} {d : TypeDesc} (h : und tb t = some d) (w : World) : (underlying t).run P w = .ok d w :=
  run_underlying (und_ok hT h) w
def aggD : TypeDesc → Bool
  | .struct _ => true
  | .array _ _ => true
  | _ => false
theorem run_isAgg {P : Program} {tb : T TypeInfo} (hT : Tb P tb) {t : TypeId} {d : TypeDesc} (h : und tb t = some d) (w : World) : (isAgg t).run P w = .ok (aggD d) w := by
  have := und_ok hT h
  unfold isAgg
  rw [Sem.run_bind, run_underlying this]
  simp only [Result.andThen_ok]
  cases d <;> rfl
end Go.Gh
