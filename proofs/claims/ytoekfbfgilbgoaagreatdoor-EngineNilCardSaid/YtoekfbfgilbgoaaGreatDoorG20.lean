/- Keys of maps: found, checked; entries in a row. -/
import Derived.Test.YtoekfbfgilbgoaaGreatDoorG19
namespace Go.Gh
set_option linter.unusedVariables false

section
variable {P : Program} {w : World} {E : Env}

theorem ER.length : ∀ {es : List (GV × GV × Nat)} {ces : List MapEntry}, ER E es ces → ces.length = es.length
  | [], ces, h => by simp only [ER] at h; simp [h]
  | x :: r, ces, h => by
    simp only [ER] at h
    obtain ⟨e, r', rfl, _, _, _, h4⟩ := h
    simp [ER.length h4]
theorem ER.get : ∀ {es : List (GV × GV × Nat)} {ces : List MapEntry} {i : Nat} {x : GV × GV × Nat}, ER E es ces → es[i]? = some x → ∃ e, ces[i]? = some e ∧ R E x.1 e.key ∧ R E x.2.1 e.val ∧ e.born = x.2.2
  | [], ces, i, x, h, hx => by simp at hx
  | y :: r, ces, i, x, h, hx => by
    simp only [ER] at h
    obtain ⟨e, r', rfl, h1, h2, h3, h4⟩ := h
    cases i with
    | zero => cases hx; exact ⟨e, rfl, h1, h2, h3⟩
    | succ i => exact ER.get (i := i) h4 hx
theorem ER.append : ∀ {es es' : List (GV × GV × Nat)} {ces ces' : List MapEntry}, ER E es ces → ER E es' ces' → ER E (es ++ es') (ces ++ ces')
  | [], es', ces, ces', h, h' => by simp only [ER] at h; subst h; exact h'
  | x :: r, es', ces, ces', h, h' => by
    simp only [ER] at h
    obtain ⟨e, r', rfl, h1, h2, h3, h4⟩ := h
    exact ⟨e, r' ++ ces', rfl, h1, h2, h3, ER.append h4 h'⟩
theorem ER.take : ∀ {es : List (GV × GV × Nat)} {ces : List MapEntry} (n : Nat), ER E es ces → ER E (es.take n) (ces.take n)
  | es, ces, 0, h => by simp [ER]
  | [], ces, n + 1, h => by simp only [ER] at h; subst h; simp [ER]
  | x :: r, ces, n + 1, h => by
    simp only [ER] at h
    obtain ⟨e, r', rfl, h1, h2, h3, h4⟩ := h
    exact ⟨e, r'.take n, rfl, h1, h2, h3, ER.take n h4⟩
theorem ER.drop : ∀ {es : List (GV × GV × Nat)} {ces : List MapEntry} (n : Nat), ER E es ces → ER E (es.drop n) (ces.drop n)
  | es, ces, 0, h => by simpa using h
  | [], ces, n + 1, h => by simp only [ER] at h; subst h; simp [ER]
  | x :: r, ces, n + 1, h => by
    simp only [ER] at h
    obtain ⟨e, r', rfl, h1, h2, h3, h4⟩ := h
    exact ER.drop n h4
theorem ER.one {k v : GV} {b : Nat} {e : MapEntry} (h1 : R E k e.key) (h2 : R E v e.val) (h3 : e.born = b) : ER E [(k, v, b)] [e] := ⟨e, [], rfl, h1, h2, h3, rfl⟩
theorem ER.setAt {es : List (GV × GV × Nat)} {ces : List MapEntry} {i : Nat} {x : GV × GV × Nat} {f : MapEntry → MapEntry} (h : ER E es ces) (hi : i < ces.length)
    (hx : R E x.1 (f ces[i]).key ∧ R E x.2.1 (f ces[i]).val ∧ (f ces[i]).born = x.2.2) : ER E (setAt es i x) (ces.modify i f) := by
  rw [List.modify_eq_take_cons_drop hi]
  exact ER.append (h.take i) (ER.append (es := [x]) (ces := [f ces[i]]) ⟨_, [], rfl, hx.1, hx.2.1, hx.2.2, rfl⟩ (h.drop (i + 1)))

theorem sameNow_eqn {d : TypeDesc} {x y : Value} {b : Bool} {kt : TypeId} (hd : P.underlying kt = some d) (n : Nat) (h : Instr.sameNow d x y = some b) : (Op.equalIn (n + 1) kt x y).run P w = .ok b w := by
  unfold Instr.sameNow at h
  split at h
  · split at h
    · rename_i e; cases h; subst e; simp [Op.equalIn, run_underlying hd]
    · cases h
  · cases h; simp [Op.equalIn, run_underlying hd]
  · cases h; simp [Op.equalIn, run_underlying hd]
  · cases h
theorem sameNow_eq {d : TypeDesc} {x y : Value} {b : Bool} {kt : TypeId} (hd : P.underlying kt = some d) (h : Instr.sameNow d x y = some b) : (Op.equal kt x y).run P w = .ok b w := sameNow_eqn hd 9999 h
theorem findNow_asks {d : TypeDesc} {x : Value} {kt : TypeId} (hd : P.underlying kt = some d) : ∀ (ces : List MapEntry) (i : Nat) {q : Option (Nat × Value)}, Instr.findNow d x ces i = some q → (Instr.findAsking kt x ces i).run P w = .ok q w
  | [], i, q, h => by cases h; simp [Instr.findAsking]
  | e :: es, i, q, h => by
    simp only [Instr.findNow] at h
    split at h
    · rename_i hs; cases h; simp [Instr.findAsking, sameNow_eq hd hs]
    · rename_i hs; simp [Instr.findAsking, sameNow_eq hd hs, findNow_asks hd es (i + 1) h]
    · cases h
theorem run_findKey_asks {d : TypeDesc} {x : Value} {kt : TypeId} (hd : P.underlying kt = some d) {ces : List MapEntry} {q : Option (Nat × Value)} (h : (Instr.findAsking kt x ces 0).run P w = .ok q w) : (Instr.findKey kt x ces).run P w = .ok q w := by
  unfold Instr.findKey
  rw [Sem.run_bind, run_underlying hd, Result.andThen_ok]
  cases hf : Instr.findNow d x ces 0 with
  | none => exact h
  | some r =>
    have := findNow_asks (w := w) hd ces 0 hf
    rw [h] at this; cases this; rfl

theorem ktOf_und {tb : T TypeInfo} (hT : Tb P tb) {kt : TypeId} {k : KT} (hk : ktOf P tb kt = some k) : ∃ d, P.underlying kt = some d := by
  unfold ktOf at hk
  split at hk
  · rename_i fs hu; exact ⟨_, und_ok hT hu⟩
  · rename_i d _ hu; exact ⟨_, und_ok hT hu⟩
  · cases hk

/-- what the search says of the entry found -/
def Found (E : Env) (es : List (GV × GV × Nat)) (ces : List MapEntry) (K : Value) (i : Nat) : Option (Nat × GV × Nat) → Option (Nat × Value) → Prop
  | none, none => True
  | some p, some q => p.1 = q.1 ∧ i ≤ q.1 ∧ ∃ e, ces[q.1 - i]? = some e ∧ e.key = K ∧ e.val = q.2 ∧ R E p.2.1 e.val ∧ e.born = p.2.2
  | _, _ => False

theorem gfind_ok {tb : T TypeInfo} (hT : Tb P tb) {kt : TypeId} {k : KT} (hk : ktOf P tb kt = some k) {key : GV} {K : Value} (hK : R E key K) :
    ∀ (es : List (GV × GV × Nat)) (ces : List MapEntry) (i : Nat) (r : Option (Nat × GV × Nat)), ER E es ces → gfind k key es i = some r → ∃ q, (Instr.findAsking kt K ces i).run P w = .ok q w ∧ Found E es ces K i r q
  | [], ces, i, r, h, hg => by
    simp only [ER] at h; subst h; cases hg
    exact ⟨none, by simp [Instr.findAsking], trivial⟩
  | x :: es, ces, i, r, h, hg => by
    simp only [ER] at h
    obtain ⟨e, ces', rfl, h1, h2, h3, h4⟩ := h
    obtain ⟨b, hb, hg⟩ := orec_some (show Option.rec none (fun b => Bool.rec (gfind k key es (Nat.succ i)) (some (some (i, x.2.1, x.2.2))) b) (keq k key x.1) = some r from hg)
    obtain ⟨hrun, heq⟩ := keq_ok (w := w) hT hk hb hK h1
    cases b with
    | true =>
      cases hg
      exact ⟨some (i, e.val), by simp [Instr.findAsking, hrun], rfl, Nat.le_refl _, e, by simp, (heq rfl).symm, rfl, h2, h3⟩
    | false =>
      obtain ⟨q, hq, hf⟩ := gfind_ok hT hk hK es ces' (i + 1) r h4 hg
      refine ⟨q, by simp [Instr.findAsking, hrun, hq], ?_⟩
      cases r with
      | none => cases q <;> simp_all [Found]
      | some p =>
        cases q with
        | none => simp [Found] at hf
        | some q =>
          obtain ⟨f1, f2, e', f3, f4⟩ := hf
          refine ⟨f1, by omega, e', ?_, f4⟩
          rw [show q.1 - i = (q.1 - (i + 1)) + 1 by omega]
          exact f3
theorem find_ok {tb : T TypeInfo} (hT : Tb P tb) {kt : TypeId} {k : KT} (hk : ktOf P tb kt = some k) {key : GV} {K : Value} (hK : R E key K) {es : List (GV × GV × Nat)} {ces : List MapEntry} {r : Option (Nat × GV × Nat)} (h : ER E es ces) (hg : gfind k key es 0 = some r) :
    ∃ q, (Instr.findKey kt K ces).run P w = .ok q w ∧ Found E es ces K 0 r q := by
  obtain ⟨q, hq, hf⟩ := gfind_ok (w := w) hT hk hK es ces 0 r h hg
  obtain ⟨d, hd⟩ := ktOf_und hT hk
  exact ⟨q, run_findKey_asks hd hq, hf⟩

theorem checkKey_cell {t : TypeId} {d : TypeDesc} {s : ST} (ht : P.underlying t = some d) (hs : stOf d = some s) (em : Bool) (n : Nat) (v : Value) : (Instr.checkKey em (n + 1) t v).run P w = .ok () w := by
  unfold Instr.checkKey
  rw [Sem.run_bind, run_underlying ht, Result.andThen_ok]
  cases d <;> simp [stOf] at hs <;> simp
theorem checkKey_fields {tb : T TypeInfo} (hT : Tb P tb) (em : Bool) (d : Nat) (cs : Array Value) : ∀ (fs : List Field) (n : Nat) (l : List ST), flat tb fs n = some l → n + l.length ≤ cs.size →
    (forIn fs PUnit.unit (fun (f : Field) (r : PUnit) => (do
      if f.name ≠ "_" then Instr.checkKey em (d + 1) f.type (← part f.type cs f.offset)
      pure (ForInStep.yield PUnit.unit) : Sem (ForInStep PUnit)))).run P w = .ok PUnit.unit w
  | [], n, l, hl, hc => by simp
  | f :: fs, n, l, hl, hc => by
    simp only [flat] at hl
    split at hl
    · rename_i s l' h1 h2
      split at hl
      · rename_i hf
        cases hl
        obtain ⟨dd, hd, hs⟩ := Option.bind_eq_some_iff.1 h1
        simp only [List.length_cons] at hc
        have hp : (part f.type cs f.offset).run P w = .ok cs[n] w := run_part_cell hT hd (stOf_agg hs) (by rw [hf.1]; exact Array.getElem?_eq_getElem (by omega))
        have hck := checkKey_cell (w := w) (und_ok hT hd) hs em d cs[n]
        have ih := checkKey_fields hT em d cs fs (n + 1) l' h2 (by omega)
        rw [List.forIn_cons]
        simp only [hf.2, ne_eq, not_false_eq_true, if_true, Sem.run_bind, hp, hck, Result.andThen_ok, Sem.run_pure]
        exact ih
      · cases hl
    · cases hl
theorem checkKey_ok {tb : T TypeInfo} (hT : Tb P tb) {kt : TypeId} {k : KT} (hk : ktOf P tb kt = some k) {key : GV} {K : Value} (hf : keyFits k key = true) (hK : R E key K) (em : Bool) : (Instr.checkKey em 10000 kt K).run P w = .ok () w := by
  unfold ktOf at hk
  split at hk
  · rename_i fs hu
    split at hk
    · cases hk
    · obtain ⟨l, hl, rfl⟩ := Option.map_eq_some_iff.1 hk
      have hf : onAgg false key (fun xs => Nat.beq xs.length l.length) = true := hf
      cases key with
      | agg xs =>
        have hf := beq_t (show Nat.beq xs.length l.length = true from hf)
        obtain ⟨cs, rfl, hcs⟩ := R.agg hK
        have hsz : cs.size = l.length := by rw [← Array.length_toList, hcs.length, hf]
        have := checkKey_fields (w := w) hT em 9998 cs fs.toList 0 l hl (by omega)
        unfold Instr.checkKey
        rw [Sem.run_bind, run_underlying (und_ok hT hu), Result.andThen_ok]
        simp only [Sem.run_bind]
        rw [← Array.forIn_toList, this]
        rfl
      | _ => cases hf
  · rename_i d hn hu
    obtain ⟨s, hs, rfl⟩ := Option.map_eq_some_iff.1 hk
    exact checkKey_cell (und_ok hT hu) hs em 9999 K
  · cases hk

/-- a cell of a key is its own twin -/
theorem sEq_twin {s : ST} {x y : GV} {a : Value} {r : Bool} (h : sEq s x y = some r) (hx : R E x a) (n : Nat) : Instr.sameBits n a a = true := by
  cases s with
  | b =>
    obtain ⟨p, rfl, h⟩ := onBool_some (show onBool none x _ = some r from h)
    cases R.boolv hx; simp [Instr.sameBits]
  | i =>
    obtain ⟨k, p, rfl, h⟩ := onInt_some (show onInt none x _ = some r from h)
    cases R.int hx; simp [Instr.sameBits]
  | st =>
    obtain ⟨p, rfl, h⟩ := onStr_some (show onStr none x _ = some r from h)
    obtain ⟨rfl, hp⟩ := R.str hx
    simp only [Instr.sameBits, beq_toListBytes, beq_self_eq_true]
theorem sEqs_twin : ∀ (l : List ST) (xs ys : List GV) (as : List Value) (n : Nat), sEqs l xs ys = some true → RL E xs as → (as.zip as).all (fun (x, y) => Instr.sameBits n x y) = true
  | [], xs, ys, as, n, h, hr => by
    cases xs with
    | nil => simp only [RL] at hr; subst hr; rfl
    | cons x xs => cases h
  | s :: l, xs, ys, as, n, h, hr => by
    cases xs with
    | nil => cases h
    | cons x xs =>
      cases ys with
      | nil => cases h
      | cons y ys =>
        simp only [RL] at hr
        obtain ⟨a, r, rfl, h1, h2⟩ := hr
        change Option.rec none (fun b => Bool.rec (some false) (sEqs l xs ys) b) (sEq s x y) = some true at h
        cases hq : sEq s x y with
        | none => rw [hq] at h; cases h
        | some q =>
          rw [hq] at h
          cases q with
          | false => cases h
          | true =>
            have := sEqs_twin l xs ys r n h h2
            simp only [List.zip_cons_cons, List.all_cons, sEq_twin hq h1 n, this, Bool.and_self]
theorem keq_twin {k : KT} {x y : GV} {a : Value} (h : keq k x y = some true) (hx : R E x a) : Instr.sameBits 10000 a a = true := by
  cases k with
  | one s => exact sEq_twin (show sEq s x y = some true from h) hx _
  | many l =>
    obtain ⟨xs, rfl, h⟩ := onAgg_some (show onAgg none x _ = some true from h)
    obtain ⟨ys, rfl, h⟩ := onAgg_some h
    obtain ⟨cs, rfl, hcs⟩ := R.agg hx
    show (cs.size == cs.size && _) = true
    rw [beq_self_eq_true, Bool.true_and]
    exact sEqs_twin l xs ys cs.toList 9999 h hcs
theorem gfind_twin {k : KT} {key : GV} {K : Value} (hK : R E key K) : ∀ (es : List (GV × GV × Nat)) (i : Nat) (p : Nat × GV × Nat), gfind k key es i = some (some p) → Instr.sameBits 10000 K K = true
  | [], i, p, h => by cases h
  | x :: es, i, p, h => by
    obtain ⟨b, hb, h⟩ := orec_some (show Option.rec none (fun b => Bool.rec (gfind k key es (Nat.succ i)) (some (some (i, x.2.1, x.2.2))) b) (keq k key x.1) = some (some p) from h)
    cases b with
    | true => exact keq_twin hb hK
    | false => exact gfind_twin hK es _ p h
theorem run_keyStays {K : Value} (h : Instr.sameBits 10000 K K = true) : (Instr.keyThatStays K K).run P w = .ok K w := by
  unfold Instr.keyThatStays; rw [if_pos h]; rfl
end
end Go.Gh
