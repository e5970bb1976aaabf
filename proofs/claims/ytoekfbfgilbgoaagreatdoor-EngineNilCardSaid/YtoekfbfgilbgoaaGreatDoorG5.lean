/- Pure operations: equality, parts of structs and texts, places, lengths. -/
import Derived.Test.YtoekfbfgilbgoaaGreatDoorG4
import Derived.Laws.StructEq
import Derived.Laws.Tables
import Derived.Laws.Slices
namespace Go.Gh
set_option linter.unusedVariables false

/-! ### equality of one cell, of a row of cells -/
inductive ST where | b | i | st
def stOf : TypeDesc → Option ST
  | .bool => some .b
  | .int _ => some .i
  | .string => some .st
  | _ => none
noncomputable def sEq (s : ST) (x y : GV) : Option Bool :=
  ST.casesOn s (onBool none x fun a => onBool none y fun b => some (Bool.rec (bnot b) b a))
    (onInt none x fun k a => onInt none y fun k' b => okIf (kq k k') (some (ieq a b)))
    (onStr none x fun a => onStr none y fun b => some (leq a b))
noncomputable def sEqs (l : List ST) : List GV → List GV → Option Bool :=
  List.rec (motive := fun _ => List GV → List GV → Option Bool) (fun xs ys => List.casesOn xs (List.casesOn ys (some true) (fun _ _ => none)) (fun _ _ => none))
    (fun s _ ih xs ys => List.casesOn xs none (fun x xs => List.casesOn ys none (fun y ys => Option.rec none (fun b => Bool.rec (some false) (ih xs ys) b) (sEq s x y)))) l

section
variable {P : Program} {w : World} {E : Env}
theorem sEq_ok {s : ST} {x y : GV} {a b : Value} {r : Bool} {t : TypeId} {d : TypeDesc} (h : sEq s x y = some r) (hx : R E x a) (hy : R E y b)
    (ht : P.underlying t = some d) (hs : stOf d = some s) (n : Nat) : (Op.equalIn (n + 1) t a b).run P w = .ok r w ∧ (r = true → a = b) := by
  cases s with
  | b =>
    obtain ⟨p, rfl, h⟩ := onBool_some (show onBool none x _ = some r from h)
    obtain ⟨q, rfl, h⟩ := onBool_some h
    cases R.boolv hx; cases R.boolv hy
    have hd : d = .bool := by cases d <;> simp [stOf] at hs; rfl
    subst hd
    have e : (p == q) = r := by cases p <;> cases q <;> (cases h; rfl)
    refine ⟨by simp [Op.equalIn, run_underlying ht, e], fun hr => ?_⟩
    rw [hr, beq_iff_eq] at e; rw [e]
  | i =>
    obtain ⟨k, p, rfl, h⟩ := onInt_some (show onInt none x _ = some r from h)
    obtain ⟨k', q, rfl, h⟩ := onInt_some h
    obtain ⟨hk, h⟩ := okIf_some h; cases h
    cases kq_eq hk
    cases R.int hx; cases R.int hy
    obtain ⟨k0, hd⟩ : ∃ k0, d = .int k0 := by cases d <;> simp [stOf] at hs; exact ⟨_, rfl⟩
    subst hd
    rw [ieq_eq]
    refine ⟨by simp [Op.equalIn, run_underlying ht], fun hr => ?_⟩
    rw [beq_iff_eq] at hr; rw [hr]
  | st =>
    obtain ⟨p, rfl, h⟩ := onStr_some (show onStr none x _ = some r from h)
    obtain ⟨q, rfl, h⟩ := onStr_some h
    cases h
    obtain ⟨rfl, hp⟩ := R.str hx
    obtain ⟨rfl, hq⟩ := R.str hy
    have hd : d = .string := by cases d <;> simp [stOf] at hs; rfl
    subst hd
    have e : (bs p == bs q) = leq p q := by
      rw [beq_toListBytes, bs_toList, bs_toList, leq_eq, Bool.eq_iff_iff, beq_iff_eq, decide_eq_true_eq]
      exact ⟨fun e => bs_inj hp hq (by simp only [bs, e]), fun e => by rw [e]⟩
    refine ⟨by simp [Op.equalIn, run_underlying ht, e], fun hr => ?_⟩
    rw [leq_eq, decide_eq_true_eq] at hr; rw [hr]

/-- fields that lie one behind the other, a cell each -/
noncomputable def flat (tb : T TypeInfo) : List Field → Nat → Option (List ST)
  | [], _ => some []
  | f :: fs, n =>
    match (und tb f.type).bind stOf, flat tb fs (n + 1) with
    | some s, some l => if f.offset = n ∧ f.name ≠ "_" then some (s :: l) else none
    | _, _ => none
theorem run_part_cell {tb : T TypeInfo} (hT : Tb P tb) {t : TypeId} {d : TypeDesc} (ht : und tb t = some d) (ha : aggD d = false) {cs : Array Value} {off : Nat} {v : Value} (h : cs[off]? = some v) :
    (part t cs off).run P w = .ok v w := by
  unfold part
  rw [Sem.run_bind, run_isAgg hT ht]
  simp [ha, h]
theorem stOf_agg {d : TypeDesc} {s : ST} (h : stOf d = some s) : aggD d = false := by cases d <;> simp [stOf] at h <;> rfl
theorem sEqs_fields {tb : T TypeInfo} (hT : Tb P tb) (d : Nat) : ∀ (fs : List Field) (n : Nat) (l : List ST) (xs ys : List GV) (cx cy : Array Value) (r : Bool), flat tb fs n = some l →
    RL E xs (cx.toList.drop n) → RL E ys (cy.toList.drop n) → sEqs l xs ys = some r → (Op.eqFields (d + 1) cx cy fs).run P w = .ok r w ∧ (r = true → cx.toList.drop n = cy.toList.drop n)
  | [], n, l, xs, ys, cx, cy, r, hl, hx, hy, h => by
    simp only [flat, Option.some.injEq] at hl; subst hl
    cases xs with
    | cons x xs => cases h
    | nil =>
      cases ys with
      | cons y ys => cases h
      | nil =>
        cases h
        simp only [RL] at hx hy
        exact ⟨by simp [Op.eqFields], fun _ => by rw [hx, hy]⟩
  | f :: fs, n, l, xs, ys, cx, cy, r, hl, hx, hy, h => by
    simp only [flat] at hl
    split at hl
    · rename_i s l' h1 h2
      split at hl
      · rename_i hf
        cases hl
        obtain ⟨dd, hd, hs⟩ := Option.bind_eq_some_iff.1 h1
        cases xs with
        | nil => cases h
        | cons x xs =>
          cases ys with
          | nil => cases h
          | cons y ys =>
            simp only [RL] at hx hy
            obtain ⟨a, ra, ea, hxa, hxs⟩ := hx
            obtain ⟨b, rb, eb, hyb, hys⟩ := hy
            have ga : cx[n]? = some a := by
              rw [← Array.getElem?_toList]
              have := congrArg (fun z : List Value => z[0]?) ea
              simpa [List.getElem?_drop] using this
            have gb : cy[n]? = some b := by
              rw [← Array.getElem?_toList]
              have := congrArg (fun z : List Value => z[0]?) eb
              simpa [List.getElem?_drop] using this
            have da : cx.toList.drop (n + 1) = ra := by rw [← List.drop_drop, ea]; rfl
            have db : cy.toList.drop (n + 1) = rb := by rw [← List.drop_drop, eb]; rfl
            change Option.rec none (fun b => Bool.rec (some false) (sEqs l' xs ys) b) (sEq s x y) = some r at h
            cases hq : sEq s x y with
            | none => rw [hq] at h; cases h
            | some q =>
              rw [hq] at h
              obtain ⟨hrun, heq⟩ := sEq_ok (w := w) hq hxa hyb (und_ok hT hd) hs d
              have pa : (part f.type cx f.offset).run P w = .ok a w := run_part_cell hT hd (stOf_agg hs) (by rw [hf.1]; exact ga)
              have pb : (part f.type cy f.offset).run P w = .ok b w := run_part_cell hT hd (stOf_agg hs) (by rw [hf.1]; exact gb)
              cases q with
              | false =>
                cases h
                exact ⟨by simp [Op.eqFields, hf.2, pa, pb, hrun], fun h => by cases h⟩
              | true =>
                change sEqs l' xs ys = some r at h
                obtain ⟨ih1, ih2⟩ := sEqs_fields hT d fs (n + 1) l' xs ys cx cy r h2 (by rw [da]; exact hxs) (by rw [db]; exact hys) h
                refine ⟨by simp [Op.eqFields, hf.2, pa, pb, hrun, ih1], fun hr => ?_⟩
                have := ih2 hr
                rw [da, db] at this
                rw [ea, eb, heq rfl, this]
      · cases hl
    · cases hl

/-- what kind of key a type is: one cell, or a struct of such cells -/
inductive KT where | one (s : ST) | many (l : List ST)
noncomputable def keq (k : KT) (x y : GV) : Option Bool :=
  KT.casesOn k (fun s => sEq s x y) (fun l => onAgg none x fun a => onAgg none y fun b => sEqs l a b)
noncomputable def ktOf (P : Program) (tb : T TypeInfo) (t : TypeId) : Option KT :=
  match und tb t with
  | some (.struct fs) => if P.stoodInHeld t = true then none else (flat tb fs.toList 0).map .many
  | some d => (stOf d).map .one
  | none => none
theorem keq_ok {tb : T TypeInfo} (hT : Tb P tb) {t : TypeId} {k : KT} (hk : ktOf P tb t = some k) {x y : GV} {a b : Value} {r : Bool} (h : keq k x y = some r) (hx : R E x a) (hy : R E y b) :
    (Op.equal t a b).run P w = .ok r w ∧ (r = true → a = b) := by
  unfold ktOf at hk
  split at hk
  · rename_i fs hu
    split at hk
    · cases hk
    · rename_i hst
      obtain ⟨l, hl, rfl⟩ := Option.map_eq_some_iff.1 hk
      obtain ⟨xs, rfl, h⟩ := onAgg_some (show onAgg none x _ = some r from h)
      obtain ⟨ys, rfl, h⟩ := onAgg_some h
      simp only [R] at hx hy
      obtain ⟨cx, rfl, hx⟩ := hx
      obtain ⟨cy, rfl, hy⟩ := hy
      have hu' := und_ok hT hu
      have hfo : P.fieldsOf t = fs := by simp [Program.fieldsOf, hu']
      obtain ⟨h1, h2⟩ := sEqs_fields (w := w) hT 9998 fs.toList 0 l xs ys cx cy r hl (by simpa using hx) (by simpa using hy) h
      refine ⟨?_, fun hr => ?_⟩
      · show (Op.equalIn (9999 + 1) t (.agg cx) (.agg cy)).run P w = _
        rw [run_equalIn_struct w 9999 t cx cy (by rw [hfo]; exact hu') (by simpa using hst), hfo]
        exact h1
      · have := h2 hr
        rw [List.drop_zero, List.drop_zero] at this
        rw [Array.toList_inj.1 this]
  · rename_i d hn hu
    obtain ⟨s, hs, rfl⟩ := Option.map_eq_some_iff.1 hk
    exact sEq_ok h hx hy (und_ok hT hu) hs 9999
  · cases hk
end
end Go.Gh
