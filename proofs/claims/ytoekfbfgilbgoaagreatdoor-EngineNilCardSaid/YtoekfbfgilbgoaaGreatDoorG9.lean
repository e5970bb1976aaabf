/- Pure operations: the machine's operation comes to what the run's does, in whatever world. -/
import Derived.Test.YtoekfbfgilbgoaaGreatDoorG8
namespace Go.Gh
set_option linter.unusedVariables false

theorem ekOf_und {P : Program} {tb : T TypeInfo} {t : TypeId} {k : EK} (hk : ekOf P tb t = some k) :
    ∃ d, und tb t = some d ∧ (∀ q, d ≠ .int q) ∧ (∀ q, d ≠ .float q) ∧ (∀ q, d ≠ .complex q) ∧ d ≠ .string ∧ (ekIface k = false → ∀ q, d ≠ .interface q) ∧ ((∃ fs, d = .struct fs) → P.eqGuardType P.depth t = false) ∧ (∀ n e, d ≠ .array n e) := by
  unfold ekOf at hk
  split at hk
  case h_1 hu => exact ⟨_, hu, by simp, by simp, by simp, by simp, by simp, by simp, by simp⟩
  case h_2 hu => exact ⟨_, hu, by simp, by simp, by simp, by simp, by simp, by simp, by simp⟩
  case h_3 hu => exact ⟨_, hu, by simp, by simp, by simp, by simp, by simp, by simp, by simp⟩
  case h_4 hu => exact ⟨_, hu, by simp, by simp, by simp, by simp, by simp, by simp, by simp⟩
  case h_5 hu => exact ⟨_, hu, by simp, by simp, by simp, by simp, by simp, by simp, by simp⟩
  case h_6 hu => cases hk; exact ⟨_, hu, by simp, by simp, by simp, by simp, by simp [ekIface], by simp, by simp⟩
  case h_7 hu =>
    split at hk
    · cases hk
    · rename_i hq
      exact ⟨_, hu, by simp, by simp, by simp, by simp, by simp, fun _ => by simpa using hq, by simp⟩
  case h_8 => cases hk
theorem stuckNe {α : Type} {P : Program} {w : World} {r : α} {why : String} : (stuck why : Sem α).run P w ≠ .ok r w := by simp [stuck]
theorem equal_fits {P : Program} {w : World} {t : TypeId} {d : TypeDesc} {A B : Value} {r : Bool} (hu : P.underlying t = some d)
    (h1 : ∀ q, d ≠ .int q) (h2 : ∀ q, d ≠ .float q) (h3 : ∀ q, d ≠ .complex q) (h4 : d ≠ .string) (he : (Op.equal t A B).run P w = .ok r w) :
    (∀ k n k' n', ¬ (A = .int k n ∧ B = .int k' n')) ∧ (∀ k n k' n', ¬ (A = .float k n ∧ B = .float k' n')) ∧ (∀ k n m k' n' m', ¬ (A = .complex k n m ∧ B = .complex k' n' m')) ∧ (∀ s s', ¬ (A = .string s ∧ B = .string s')) := by
  have go : ∀ (A B : Value), (∀ m, (Op.equalIn (m + 1) t A B).run P w = .ok r w → False) → (Op.equal t A B).run P w = .ok r w → False := fun A B h he => h 9999 he
  refine ⟨?_, ?_, ?_, ?_⟩
  all_goals
    intros
    rintro ⟨rfl, rfl⟩
    refine go _ _ (fun m hm => ?_) he
    rw [Op.equalIn, Sem.run_bind, run_underlying hu, Result.andThen_ok] at hm
    cases d <;> first | exact absurd rfl (h1 _) | exact absurd rfl (h2 _) | exact absurd rfl (h3 _) | exact absurd rfl h4 | exact stuckNe hm
theorem run_binop_eq {P : Program} {w : World} {t : TypeId} {d : TypeDesc} {A B : Value} {r : Bool} (hu : P.underlying t = some d)
    (h1 : ∀ q, d ≠ .int q) (h2 : ∀ q, d ≠ .float q) (h3 : ∀ q, d ≠ .complex q) (h4 : d ≠ .string) (he : (Op.equal t A B).run P w = .ok r w) :
    (binOp .eql t A B).run P w = .ok (.bool r) w ∧ (binOp .neq t A B).run P w = .ok (.bool (!r)) w := by
  obtain ⟨g1, g2, g3, g4⟩ := equal_fits hu h1 h2 h3 h4 he
  have e1 : binOp .eql t A B = (do pure (.bool (← Op.equal t A B))) := by
    unfold binOp
    split <;> first | rfl | exact absurd ⟨rfl, rfl⟩ (g1 _ _ _ _) | exact absurd ⟨rfl, rfl⟩ (g2 _ _ _ _) | exact absurd ⟨rfl, rfl⟩ (g3 _ _ _ _ _ _) | exact absurd ⟨rfl, rfl⟩ (g4 _ _) | contradiction | exact (‹BinOp.eql = BinOp.eql → False› rfl).elim
  have e2 : binOp .neq t A B = (do pure (.bool (!(← Op.equal t A B)))) := by
    unfold binOp
    split <;> first | rfl | exact absurd ⟨rfl, rfl⟩ (g1 _ _ _ _) | exact absurd ⟨rfl, rfl⟩ (g2 _ _ _ _) | exact absurd ⟨rfl, rfl⟩ (g3 _ _ _ _ _ _) | exact absurd ⟨rfl, rfl⟩ (g4 _ _) | contradiction | exact (‹BinOp.neq = BinOp.neq → False› rfl).elim
  rw [e1, e2]
  simp [he]

section
variable {P : Program} {tb : T TypeInfo} {ng N : Nat} {E : Env} {t : T GV} {a : Act}

theorem orec_some {α β : Type} {o : Option α} {f : α → Option β} {r : β} (h : (Option.rec none f o : Option β) = some r) : ∃ x, o = some x ∧ f x = some r := by
  cases o with
  | none => cases h
  | some x => exact ⟨x, rfl, h⟩
theorem natOf_some {v : GV} {n : Nat} (h : natOf v = some n) : ∃ k, v = .int k (n : Int) := by
  obtain ⟨k, m, rfl, h⟩ := onInt_some h
  cases m with
  | ofNat m => cases h; exact ⟨k, rfl⟩
  | negSucc m => cases h
theorem natOf_val {v : GV} {n : Nat} {x : Value} (h : natOf v = some n) (hr : R E v x) : ∃ k, x = .int k (n : Int) := by
  obtain ⟨k, rfl⟩ := natOf_some h
  exact ⟨k, R.int hr⟩

/-- What a pure operation must show. -/
def POk (P : Program) (E : Env) (o : Oper) (a : Act) (v : GV) : Prop := ∀ w, ∃ v', (execOp a.eval o).run P w = .ok (.value v') w ∧ R E v v'

theorem kindI_some {x : GV} {f : IntKind → Option GV} {v : GV} (h : kindI x f = some v) {X : Value} (hx : R E x X) : ∃ k n, X = .int k n ∧ f k = some v := by
  rcases onInt_or h with ⟨k, n, rfl, h1⟩ | h1
  · exact ⟨k, n, R.int hx, h1⟩
  · obtain ⟨u, rfl, h2⟩ := onUn_some h1
    clear h h1
    cases u with
    | i k =>
      simp only [R] at hx
      obtain ⟨n, rfl⟩ := hx
      exact ⟨k, n, rfl, h2⟩
    | _ => cases h2
theorem uop_ok {op : BinOp} {k : IntKind} {v : GV} (h : uop op k = some v) (a b : Int) : ∃ v', fInt op k k a b = some v' ∧ ∀ (E : Env) (x : Value), R E v' x → R E v x := by
  have hk : kq k k = true := kq_self k
  cases op <;> simp only [uop] at h <;> first | (cases h; done) | skip
  all_goals
    cases h
    refine ⟨_, by simp only [fInt, hk, okIf]; rfl, fun E x hx => ?_⟩
    simp only [R] at hx ⊢
    exact ⟨_, hx⟩
variable (hT : Tb P tb) (ht : TR E N t a.tmps) (hg : GL E ng) {o : Oper} {v : GV}
include hT ht hg

omit hT in
theorem p_ubin {op : BinOp} {xt yt : TypeId} {x y : Operand} {ox oy : Od} (ho : o.op = .binOp op xt x y yt) (hx : cod ng x = some ox) (hy : cod ng y = some oy) (h : uBin op (ev t ox) (ev t oy) = some v) : POk P E o a v := by
  intro w
  obtain ⟨k, n, r1, h⟩ := kindI_some h (ev_ok ht hg hx)
  obtain ⟨k', n', r2, h⟩ := kindI_some h (ev_ok ht hg hy)
  obtain ⟨hk, h3⟩ := okIf_some h
  have hk := kq_eq hk; subst hk
  obtain ⟨v1, h1, h2⟩ := uop_ok h3 n n'
  obtain ⟨v', hr, hv⟩ := fInt_ok (P := P) (w := w) xt h1
  refine ⟨v', ?_, h2 E _ (hv E)⟩
  simp only [execOp, ho, Sem.run_bind, r1, r2, eqGuard_int, Result.andThen_ok, hr, Sem.run_pure]

theorem p_bin {op : BinOp} {xt yt : TypeId} {x y : Operand} {p : Pf} (ho : o.op = .binOp op xt x y yt) (hc : cBin P tb ng op xt x y = some p) (h : pf t p = some v) : POk P E o a v := by
  intro w
  unfold cBin at hc
  split at hc
  · rename_i ox oy k hx hy hu
    cases hc
    rcases onInt_or (show pfBin t op ox oy = some v from h) with ⟨k1, n1, e1, h⟩ | h
    rotate_left
    · exact p_ubin ht hg ho hx hy h w
    rcases onInt_or h with ⟨k2, n2, e2, h⟩ | h
    rotate_left
    · exact p_ubin ht hg ho hx hy h w
    have r1 := ev_ok ht hg hx
    have r2 := ev_ok ht hg hy
    rw [e1] at r1; rw [e2] at r2
    have r1 := R.int r1; have r2 := R.int r2
    obtain ⟨v', hr, hv⟩ := fInt_ok (P := P) (w := w) xt h
    refine ⟨v', ?_, hv E⟩
    simp only [execOp, ho, Sem.run_bind, r1, r2, eqGuard_int, Result.andThen_ok, hr, Sem.run_pure]
  · rename_i ox oy hx hy hu
    cases hc
    obtain ⟨s1, e1, h⟩ := onStr_some (show pfSbin t op ox oy = some v from h)
    obtain ⟨s2, e2, h⟩ := onStr_some h
    have r1 := ev_ok ht hg hx
    have r2 := ev_ok ht hg hy
    rw [e1] at r1; rw [e2] at r2
    obtain ⟨r1, q1⟩ := R.str r1; obtain ⟨r2, q2⟩ := R.str r2
    obtain ⟨v', hr, hv⟩ := fStr_ok (P := P) (w := w) xt q1 q2 h
    refine ⟨v', ?_, hv E⟩
    simp only [execOp, ho, Sem.run_bind, r1, r2, eqGuard_str, Result.andThen_ok, hr, Sem.run_pure]
  · rename_i ox oy d hni hns hx hy hu
    split at hc
    · rename_i k hk
      split at hc
      · cases hc
      · rename_i hcond
        have r1 := ev_ok ht hg hx
        have r2 := ev_ok ht hg hy
        obtain ⟨d', hd', n1, n2, n3, n4, n5, n6, n7⟩ := ekOf_und hk
        rw [hu] at hd'; cases hd'
        have hu' := und_ok hT hu
        have key : ∀ (r : Bool), fEq k (ev t ox) (ev t oy) = some r →
            (eqGuard op xt x y (a.eval x) (a.eval y)).run P w = .ok () w ∧ (binOp .eql xt (a.eval x) (a.eval y)).run P w = .ok (.bool r) w ∧ (binOp .neq xt (a.eval x) (a.eval y)).run P w = .ok (.bool (!r)) w := by
          intro r hr
          have he := fEq_ok (w := w) hT hk hr r1 r2
          refine ⟨eqGuard_ok ?_ ?_, run_binop_eq hu' n1 n2 n3 n4 he⟩
          · by_cases hi : ekIface k = true
            · right
              have hcc : (isConstO x || isConstO y) = true := by
                cases hq : (isConstO x || isConstO y) with
                | true => rfl
                | false => exact absurd ⟨hi, hq⟩ hcond
              simp only [Bool.or_eq_true] at hcc
              rcases hcc with hcc | hcc
              · left; cases x <;> simp [isConstO] at hcc; exact ⟨_, rfl⟩
              · right; cases y <;> simp [isConstO] at hcc; exact ⟨_, rfl⟩
            · left
              rintro ⟨e1, e2⟩
              rw [e1, e2] at he
              have n5' := n5 (by simpa using hi)
              have h : ∀ m, ((Op.equalIn (m + 1) xt .nilIface .nilIface).run P w = .ok r w) → False := fun m hm => by
                rw [Op.equalIn, Sem.run_bind, run_underlying hu', Result.andThen_ok] at hm
                cases d <;> first | exact absurd rfl (n1 _) | exact absurd rfl (n2 _) | exact absurd rfl (n3 _) | exact absurd rfl n4 | exact absurd rfl (n5' _) | exact stuckNe hm
              exact h 9999 he
          · rintro ⟨p', q', e1, e2⟩
            rw [e1, e2] at he
            have hst : ∃ fs, d = .struct fs := by
              have h : ∀ m, ((Op.equalIn (m + 1) xt (.agg p') (.agg q')).run P w = .ok r w) → ∃ fs, d = .struct fs := fun m hm => by
                cases d
                case struct fs => exact ⟨fs, rfl⟩
                case array n e => exact absurd rfl (n7 n e)
                all_goals
                  rw [Op.equalIn, Sem.run_bind, run_underlying hu', Result.andThen_ok] at hm
                  exact absurd hm stuckNe
              exact h 9999 he
            exact n6 hst
        split at hc
        · cases hc
          obtain ⟨r, hr, h⟩ := orec_some (show pfEqx t false k ox oy = some v from h)
          cases h
          obtain ⟨q1, q2, q3⟩ := key r hr
          exact ⟨.bool r, by simp only [execOp, ho, Sem.run_bind, q1, q2, Result.andThen_ok, Sem.run_pure], R.mkBool _ _⟩
        · cases hc
          obtain ⟨r, hr, h⟩ := orec_some (show pfEqx t true k ox oy = some v from h)
          cases h
          obtain ⟨q1, q2, q3⟩ := key r hr
          exact ⟨.bool (!r), by simp only [execOp, ho, Sem.run_bind, q1, q3, Result.andThen_ok, Sem.run_pure], by show R E (.bool (bnot r)) _; rw [bnot_eq]; exact R.mkBool _ _⟩
        · cases hc
    · cases hc
  · cases hc

omit hT ht hg in
theorem R.agg {E : Env} {l : List GV} {v : Value} (h : R E (.agg l) v) : ∃ x, v = .agg x ∧ RL E l x.toList := by simpa only [R] using h
omit hT ht hg in
theorem R.tupv {E : Env} {l : List GV} {v : Value} (h : R E (.tup l) v) : ∃ x, v = .tuple x ∧ RL E l x.toList := by simpa only [R] using h
omit hT ht hg in
theorem run_part' {tb : T TypeInfo} (hT : Tb P tb) {ty : TypeId} {q : Option Nat} (hq : cPart tb ty = some q) {l : List GV} {cs : Array Value} (hl : RL E l cs.toList) {off : Nat} {v : GV} (h : fPart l off q = some v) (w : World) :
    ∃ x, (part ty cs off).run P w = .ok x w ∧ R E v x := by
  unfold cPart at hq
  split at hq
  · rename_i d n hd hn
    simp only [Option.some.injEq] at hq
    by_cases ha : aggD d = true
    · rw [if_pos ha] at hq; subst hq
      obtain ⟨hb, h⟩ := okIf_some (show okIf _ _ = some v from h); cases h
      refine ⟨.agg (cs.extract off (off + n)), ?_, ?_⟩
      · unfold part
        rw [Sem.run_bind, run_isAgg hT hd]
        simp [ha, run_sizeOf' hT hn]
      · simp only [R]
        refine ⟨_, rfl, ?_⟩
        rw [Array.toList_extract, List.extract_eq_take_drop]
        have := (hl.drop off).take n
        rwa [show off + n - off = n by omega]
    · rw [if_neg ha] at hq; subst hq
      have h : l[off]? = some v := h
      obtain ⟨x, hx, hr⟩ := hl.get h
      exact ⟨x, run_part_cell hT hd (by simpa using ha) (by rw [← Array.getElem?_toList]; exact hx), hr⟩
  · cases hq
omit hT ht hg in
theorem bs_extract (s : List Nat) (l h : Nat) (hh : h ≤ s.length) : (bs s).extract l h = bs ((s.drop l).take (h - l)) := by
  apply ByteArray.ext
  simp only [bs, ByteArray.data_extract]
  apply Array.toList_inj.1
  rw [Array.toList_extract, List.extract_eq_take_drop]
  simp
omit hT in
theorem bnd_ok {x : Option Operand} {ox : Option Od} (hx : codO ng x = some ox) {d n : Nat} (h : bnd t ox d = some n) :
    (x = none ∧ ox = none ∧ n = d) ∨ ∃ k y, x = some y ∧ (∃ z, ox = some z) ∧ a.eval y = .int k (n : Int) := by
  cases x with
  | none => simp only [codO, Option.some.injEq] at hx; subst hx; cases h; exact .inl ⟨rfl, rfl, rfl⟩
  | some y =>
    obtain ⟨z, hz, rfl⟩ := Option.map_eq_some_iff.1 (show (cod ng y).map some = some ox from hx)
    obtain ⟨k, hk⟩ := natOf_val (show natOf (ev t z) = some n from h) (ev_ok ht hg hz)
    exact .inr ⟨k, y, rfl, ⟨z, rfl⟩, hk⟩
omit hT in
theorem bldEv_get : ∀ {ps : List (Nat × Operand)} {place : Nat → Option (Nat × Nat)} {qs : List (Nat × Nat × Od)}, cParts ng place ps = some qs →
    (bldEv t qs).length = (ps.map fun x => (x.1, a.eval x.2)).length ∧
    ∀ (i : Nat) (x : Nat × Nat × GV) (y : Nat × Value), (bldEv t qs)[i]? = some x → (ps.map fun x => (x.1, a.eval x.2))[i]? = some y → place y.1 = some (x.1, x.2.1) ∧ R E x.2.2 y.2
  | [], place, qs, h => by
    simp only [cParts, Option.some.injEq] at h; subst h
    exact ⟨rfl, fun i x y hx hy => by simp at hy⟩
  | (j, z) :: ps, place, qs, h => by
    simp only [cParts] at h
    split at h
    · rename_i p q o l h1 h2 h3
      cases h
      obtain ⟨g1, g2⟩ := bldEv_get h3
      refine ⟨by show (bldEv t l).length + 1 = _; simp [g1], fun i x y hx hy => ?_⟩
      cases i with
      | zero =>
        change some (p, q, ev t o) = some x at hx; cases hx
        simp only [List.map_cons, List.getElem?_cons_zero, Option.some.injEq] at hy; subst hy
        exact ⟨h1, ev_ok ht hg h2⟩
      | succ i => exact g2 i x y hx (by simpa using hy)
    · cases h
end
end Go.Gh
