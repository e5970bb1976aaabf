/- Pure operations, all of them: one function, one law. -/
import Derived.Test.YtoekfbfgilbgoaaGreatDoorG5
namespace Go.Gh
set_option linter.unusedVariables false

section
variable {β : Type}
noncomputable def onP (d : β) (v : GV) (n : β) (f : Nat → Nat → β) : β := GV.casesOn v d (fun _ => d) (fun _ _ => d) (fun _ => d) n f d (fun _ _ _ _ _ _ => d) d (fun _ => d) (fun _ _ _ => d) (fun _ => d) d (fun _ _ => d) d (fun _ => d) (fun _ => d) (fun _ => d)
noncomputable def onFN (d : β) (v : GV) (n f : β) : β := GV.casesOn v d (fun _ => d) (fun _ _ => d) (fun _ => d) d (fun _ _ => d) d (fun _ _ _ _ _ _ => d) d (fun _ => d) (fun _ _ _ => f) (fun _ => f) n (fun _ _ => d) d (fun _ => d) (fun _ => d) (fun _ => d)
variable {v : GV} {r : β}
theorem onP_some {n : Option β} {f : Nat → Nat → Option β} (h : onP none v n f = some r) : (v = .nilp ∧ n = some r) ∨ ∃ b o, v = .ptr b o ∧ f b o = some r := by cases v <;> first | exact .inl ⟨rfl, h⟩ | exact .inr ⟨_, _, rfl, h⟩ | cases h
theorem onFN_some {n f : Option β} (h : onFN none v n f = some r) : (v = .nilf ∧ n = some r) ∨ (((∃ a b c, v = .fn a b c) ∨ ∃ l, v = .yl l) ∧ f = some r) := by
  cases v <;> first | exact .inl ⟨rfl, h⟩ | exact .inr ⟨.inl ⟨_, _, _, rfl⟩, h⟩ | exact .inr ⟨.inr ⟨_, rfl⟩, h⟩ | cases h
end

inductive EK where | bool | ptr | slice | map | func | iface | key (k : KT)
noncomputable def fEq (k : EK) (x y : GV) : Option Bool :=
  EK.casesOn k
    (sEq .b x y)
    (onP none x (onP none y (some true) (fun _ _ => some false)) (fun b o => onP none y (some false) (fun b' o' => okIf (Nat.beq b b') (some (Nat.beq o o')))))
    (onSl none x (onSl none y (some true) (fun _ _ _ _ _ _ => some false)) (fun _ _ _ _ _ _ => onSl none y (some false) (fun _ _ _ _ _ _ => none)))
    (onMap none x (onMap none y (some true) (fun _ => some false)) (fun _ => onMap none y (some false) (fun _ => none)))
    (onFN none x (onFN none y (some true) (some false)) (onFN none y (some false) none))
    (onIf none x (onIf none y (some true) (fun _ _ => some false)) (fun _ _ => onIf none y (some false) (fun _ _ => none)))
    (fun k => keq k x y)
/-- The kinds of equality, by the type. -/
noncomputable def ekOf (P : Program) (tb : T TypeInfo) (t : TypeId) : Option EK :=
  match und tb t with
  | some .bool => some .bool
  | some (.pointer e) => match szOf tb e with
    | some (n + 1) => some .ptr
    | _ => none
  | some (.slice _) => some .slice
  | some (.map _ _) => some .map
  | some (.func _ _ _) => some .func
  | some (.interface _) => some .iface
  | some (.struct _) => if P.eqGuardType P.depth t = true then none else (ktOf P tb t).map .key
  | _ => none

section
variable {P : Program} {w : World} {E : Env}
theorem nat_beq_dec (a b : Nat) : Nat.beq a b = decide (a = b) := by
  by_cases h : a = b
  · subst h; simp
  · cases e : Nat.beq a b with
    | false => simp [h]
    | true => exact absurd (beq_t e) h
theorem fEq_ok {tb : T TypeInfo} (hT : Tb P tb) {t : TypeId} {k : EK} (hk : ekOf P tb t = some k) {x y : GV} {a b : Value} {r : Bool} (h : fEq k x y = some r) (hx : R E x a) (hy : R E y b) :
    (Op.equal t a b).run P w = .ok r w := by
  unfold ekOf at hk
  split at hk
  · rename_i hu
    cases hk
    exact (sEq_ok (s := .b) (show sEq .b x y = some r from h) hx hy (und_ok hT hu) rfl 9999).1
  · rename_i e hu
    split at hk
    · rename_i n hn
      cases hk
      have hu' := und_ok hT hu
      rcases onP_some (show onP none x _ _ = some r from h) with ⟨rfl, h⟩ | ⟨b1, o1, rfl, h⟩
      · simp only [R] at hx; subst hx
        rcases onP_some h with ⟨rfl, h⟩ | ⟨b2, o2, rfl, h⟩
        · simp only [R] at hy; subst hy; cases h
          exact (fun n => by simp [Op.equalIn, run_underlying hu'] : ∀ n, (Op.equalIn (n + 1) t _ _).run P w = _) 9999
        · simp only [R] at hy; obtain ⟨cb, co, _, rfl⟩ := hy; cases h
          exact (fun n => by simp [Op.equalIn, run_underlying hu'] : ∀ n, (Op.equalIn (n + 1) t _ _).run P w = _) 9999
      · simp only [R] at hx; obtain ⟨cb, co, hm, rfl⟩ := hx
        rcases onP_some h with ⟨rfl, h⟩ | ⟨b2, o2, rfl, h⟩
        · simp only [R] at hy; subst hy; cases h
          exact (fun n => by simp [Op.equalIn, run_underlying hu'] : ∀ n, (Op.equalIn (n + 1) t _ _).run P w = _) 9999
        · simp only [R] at hy; obtain ⟨cb', co', hm', rfl⟩ := hy
          obtain ⟨hb, h⟩ := okIf_some h; cases h
          cases beq_t hb
          rw [hm] at hm'; cases hm'
          have hz : (sizeOf e).run P w = .ok (n + 1) w := run_sizeOf' hT hn w
          have e1 : ((⟨cb, co + o1, none⟩ : Addr) == ⟨cb, co + o2, none⟩) = Nat.beq o1 o2 := by
            rw [nat_beq_dec, Bool.eq_iff_iff, beq_iff_eq, decide_eq_true_eq, Addr.mk.injEq]
            exact ⟨fun h => by omega, fun h => ⟨rfl, by omega, rfl⟩⟩
          exact (fun n => by simp [Op.equalIn, run_underlying hu', hz, sameAddr, ← e1] : ∀ n, (Op.equalIn (n + 1) t _ _).run P w = _) 9999
    · cases hk
  · rename_i e hu
    cases hk
    have hu' := und_ok hT hu
    rcases onSl_some (show onSl none x _ _ = some r from h) with ⟨rfl, h⟩ | ⟨_, _, _, _, _, _, rfl, h⟩
    · simp only [R] at hx; subst hx
      rcases onSl_some h with ⟨rfl, h⟩ | ⟨_, _, _, _, _, _, rfl, h⟩
      · simp only [R] at hy; subst hy; cases h
        exact (fun n => by simp [Op.equalIn, run_underlying hu'] : ∀ n, (Op.equalIn (n + 1) t _ _).run P w = _) 9999
      · simp only [R] at hy; obtain ⟨_, _, _, _, _, rfl, _⟩ := hy; cases h
        exact (fun n => by simp [Op.equalIn, run_underlying hu'] : ∀ n, (Op.equalIn (n + 1) t _ _).run P w = _) 9999
    · simp only [R] at hx; obtain ⟨_, _, _, _, _, rfl, _⟩ := hx
      rcases onSl_some h with ⟨rfl, h⟩ | ⟨_, _, _, _, _, _, rfl, h⟩
      · simp only [R] at hy; subst hy; cases h
        exact (fun n => by simp [Op.equalIn, run_underlying hu'] : ∀ n, (Op.equalIn (n + 1) t _ _).run P w = _) 9999
      · cases h
  · rename_i e1 e2 hu
    cases hk
    have hu' := und_ok hT hu
    rcases onMap_some (show onMap none x _ _ = some r from h) with ⟨rfl, h⟩ | ⟨_, rfl, h⟩
    · simp only [R] at hx; subst hx
      rcases onMap_some h with ⟨rfl, h⟩ | ⟨_, rfl, h⟩
      · simp only [R] at hy; subst hy; cases h
        exact (fun n => by simp [Op.equalIn, run_underlying hu'] : ∀ n, (Op.equalIn (n + 1) t _ _).run P w = _) 9999
      · simp only [R] at hy; obtain ⟨_, _, rfl⟩ := hy; cases h
        exact (fun n => by simp [Op.equalIn, run_underlying hu'] : ∀ n, (Op.equalIn (n + 1) t _ _).run P w = _) 9999
    · simp only [R] at hx; obtain ⟨_, _, rfl⟩ := hx
      rcases onMap_some h with ⟨rfl, h⟩ | ⟨_, rfl, h⟩
      · simp only [R] at hy; subst hy; cases h
        exact (fun n => by simp [Op.equalIn, run_underlying hu'] : ∀ n, (Op.equalIn (n + 1) t _ _).run P w = _) 9999
      · cases h
  · rename_i e1 e2 e3 hu
    cases hk
    have hu' := und_ok hT hu
    have fnv : ∀ {z : GV} {c : Value}, ((∃ p q s, z = .fn p q s) ∨ ∃ l, z = .yl l) → R E z c → ∃ f u v, c = .func f u v := by
      rintro z c (⟨p, q, s, rfl⟩ | ⟨l, rfl⟩) hz
      · simp only [R] at hz; obtain ⟨u, v, rfl, _⟩ := hz; exact ⟨_, _, _, rfl⟩
      · simp only [R] at hz; obtain ⟨cb, _, rfl⟩ := hz; exact ⟨_, _, _, rfl⟩
    rcases onFN_some (show onFN none x _ _ = some r from h) with ⟨rfl, h⟩ | ⟨hf, h⟩
    · simp only [R] at hx; subst hx
      rcases onFN_some h with ⟨rfl, h⟩ | ⟨hg, h⟩
      · simp only [R] at hy; subst hy; cases h
        exact (fun n => by simp [Op.equalIn, run_underlying hu'] : ∀ n, (Op.equalIn (n + 1) t _ _).run P w = _) 9999
      · obtain ⟨_, _, _, rfl⟩ := fnv hg hy; cases h
        exact (fun n => by simp [Op.equalIn, run_underlying hu'] : ∀ n, (Op.equalIn (n + 1) t _ _).run P w = _) 9999
    · obtain ⟨_, _, _, rfl⟩ := fnv hf hx
      rcases onFN_some h with ⟨rfl, h⟩ | ⟨hg, h⟩
      · simp only [R] at hy; subst hy; cases h
        exact (fun n => by simp [Op.equalIn, run_underlying hu'] : ∀ n, (Op.equalIn (n + 1) t _ _).run P w = _) 9999
      · cases h
  · rename_i e hu
    cases hk
    have hu' := und_ok hT hu
    rcases onIf_some (show onIf none x _ _ = some r from h) with ⟨rfl, h⟩ | ⟨_, _, rfl, h⟩
    · simp only [R] at hx; subst hx
      rcases onIf_some h with ⟨rfl, h⟩ | ⟨_, _, rfl, h⟩
      · simp only [R] at hy; subst hy; cases h
        exact (fun n => by simp [Op.equalIn, run_underlying hu'] : ∀ n, (Op.equalIn (n + 1) t _ _).run P w = _) 9999
      · simp only [R] at hy; obtain ⟨_, rfl, _⟩ := hy; cases h
        exact (fun n => by simp [Op.equalIn, run_underlying hu'] : ∀ n, (Op.equalIn (n + 1) t _ _).run P w = _) 9999
    · simp only [R] at hx; obtain ⟨_, rfl, _⟩ := hx
      rcases onIf_some h with ⟨rfl, h⟩ | ⟨_, _, rfl, h⟩
      · simp only [R] at hy; subst hy; cases h
        exact (fun n => by simp [Op.equalIn, run_underlying hu'] : ∀ n, (Op.equalIn (n + 1) t _ _).run P w = _) 9999
      · cases h
  · rename_i fs hu
    split at hk
    · cases hk
    · obtain ⟨kt, hkt, rfl⟩ := Option.map_eq_some_iff.1 hk
      exact (keq_ok hT hkt h hx hy).1
  · cases hk

/-- The guard ahead of == and != goes through: not two nil interface values, or one of them a constant. -/
theorem eqGuard_ok {op : BinOp} {t : TypeId} {x y : Operand} {a b : Value} (h1 : ¬ (a = .nilIface ∧ b = .nilIface) ∨ (∃ c, x = .const c) ∨ ∃ c, y = .const c)
    (h2 : (∃ p q, a = .agg p ∧ b = .agg q) → P.eqGuardType P.depth t = false) : (eqGuard op t x y a b).run P w = .ok () w := by
  have key : ∀ op : BinOp, op = .eql ∨ op = .neq → (eqGuard op t x y a b).run P w = .ok () w := by
    intro op hop
    rcases hop with rfl | rfl
    all_goals
      simp only [eqGuard, Bool.not_true, Bool.false_eq_true, if_false]
      split
      · rcases h1 with h1 | ⟨c, rfl⟩ | ⟨c, rfl⟩
        · exact absurd ⟨rfl, rfl⟩ h1
        · simp
        · cases x <;> simp
      · rename_i p q
        simp [h2 ⟨p, q, rfl, rfl⟩]
      · simp
  cases op <;> first | exact key _ (.inl rfl) | exact key _ (.inr rfl) | rfl
end
end Go.Gh
