/- Keys of maps: found, checked; entries in a row. -/
import Derived.Test.YtpdaickealgnhaaGreatDoorHG
namespace Go.Gh
set_option linter.unusedVariables false

section
variable {P : Program} {w : World} {E : Env}

theorem ER.length : ∀ {es : List (GV × GV × Nat)} {ces : List MapEntry}, ER E es ces → ces.length = es.length
  | [], ces, h => by simp only [ER] at h; simp [h]
  | x :: r, ces, h => by
    simp only [ER] at h
    obtain ⟨e, r', rfl, _, _, _, h4⟩ := h
    simp [ER.length h4]
theorem ER.get : ∀ {es : List (GV × GV × Nat)} {ces : List MapEntry} {i : Nat} {x : GV × GV × Nat}, ER E es ces → es[i]? = some x → ∃ e, ces[i]? = some e ∧ R E x.1 e.key ∧ R E x.2.1 e.val ∧ e.born = x.2.2
  | [], ces, i, x, h, hx => by simp at hx
  | y :: r, ces, i, x, h, hx => by
    simp only [ER] at h
    obtain ⟨e, r', rfl, h1, h2, h3, h4⟩ := h
    cases i with
    | zero => cases hx; exact ⟨e, rfl, h1, h2, h3⟩
    | succ i => exact ER.get (i := i) h4 hx
theorem ER.append : ∀ {es es' : List (GV × GV × Nat)} {ces ces' : List MapEntry}, ER E es ces → ER E es' ces' → ER E (es ++ es') (ces ++ ces')
  | [], es', ces, ces', h, h' => by simp only [ER] at h; subst h; exact h'
  | x :: r, es', ces, ces', h, h' => by
    simp only [ER] at h
    obtain ⟨e, r', rfl, h1, h2, h3, h4⟩ := h
    exact ⟨e, r' ++ ces', rfl, h1, h2, h3, ER.append h4 h'⟩
theorem ER.take : ∀ {es : List (GV × GV × Nat)} {ces : List MapEntry} (n : Nat), ER E es ces → ER E (es.take n) (ces.take n)
  | es, ces, 0, h => by simp [ER]
  | [], ces, n + 1, h => by simp only [ER] at h; subst h; simp [ER]
  | x :: r, ces, n + 1, h => by
    simp only [ER] at h
    obtain ⟨e, r', rfl, h1, h2, h3, h4⟩ := h
    exact ⟨e, r'.take n, rfl, h1, h2, h3, ER.take n h4⟩
theorem ER.drop : ∀ {es : List (GV × GV × Nat)} {ces : List MapEntry} (n : Nat), ER E es ces → ER E (es.drop n) (ces.drop n)
  | es, ces, 0, h => by simpa using h
  | [], ces, n + 1, h => by simp only [ER] at h; subst h; simp [ER]
  | x :: r, ces, n + 1, h => by
    simp only [ER] at h
    obtain ⟨e, r', rfl, h1, h2, h3, h4⟩ := h
    exact ER.drop n h4
theorem ER.one {k v : GV} {b : Nat} {e : MapEntry} (h1 : R E k e.key) (h2 : R E v e.val) (h3 : e.born = b) : ER E [(k, v, b)] [e] := ⟨e, [], rfl, h1, h2, h3, rfl⟩
theorem ER.setAt {es : List (GV × GV × Nat)} {ces : List MapEntry} {i : Nat} {x : GV × GV × Nat} {f : MapEntry → MapEntry} (h : ER E es ces) (hi : i < ces.length)
    (hx : R E x.1 (f ces[i]).key ∧ R E x.2.1 (f ces[i]).val ∧ (f ces[i]).born = x.2.2) : ER E (setAt es i x) (ces.modify i f) := by
  rw [List.modify_eq_take_cons_drop hi]
  exact ER.append (h.take i) (ER.append (es := [x]) (ces := [f ces[i]]) ⟨_, [], rfl, hx.1, hx.2.1, hx.2.2, rfl⟩ (h.drop (i + 1)))

theorem sameNow_eqn {d : TypeDesc} {x y : Value} {b : Bool} {kt : TypeId} (hd : P.underlying kt = some d) (n : Nat) (h : Instr.sameNow d x y = some b) : (Op.equalIn (n + 1) kt x y).run P w = .ok b w := by
  unfold Instr.sameNow at h
  split at h
  · split at h
    · rename_i e; cases h; subst e; simp [Op.equalIn, run_underlying hd]
    · cases h
  · cases h; simp [Op.equalIn, run_underlying hd]
  · cases h; simp [Op.equalIn, run_underlying hd]
  · cases h
theorem sameNow_eq {d : TypeDesc} {x y : Value} {b : Bool} {kt : TypeId} (hd : P.underlying kt = some d) (h : Instr.sameNow d x y = some b) : (Op.equal kt x y).run P w = .ok b w := sameNow_eqn hd 9999 h
theorem findNow_asks {d : TypeDesc} {x : Value} {kt : TypeId} (hd : P.underlying kt = some d) : ∀ (ces : List MapEntry) (i : Nat) {q : Option (Nat × Value)}, Instr.findNow d x ces i = some q → (Instr.findAsking kt x ces i).run P w = .ok q w
  | [], i, q, h => by cases h; simp [Instr.findAsking]
  | e :: es, i, q, h => by
    simp only [Instr.findNow] at h
    split at h
    · rename_i hs; cases h; simp [Instr.findAsking, sameNow_eq hd hs]
    · rename_i hs; simp [Instr.findAsking, sameNow_eq hd hs, findNow_asks hd es (i + 1) h]
    · cases h
theorem run_findKey_asks {d : TypeDesc} {x : Value} {kt : TypeId} (hd : P.underlying kt = some d) {ces : List MapEntry} {q : Option (Nat × Value)} (h : (Instr.findAsking kt x ces 0).run P w = .ok q w) : (Instr.findKey kt x ces).run P w = .ok q w := by
  unfold Instr.findKey
  rw [Sem.run_bind, run_underlying hd, Result.andThen_ok]
  cases hf : Instr.findNow d x ces 0 with
  | none => exact h
  | some r =>
    have := findNow_asks (w := w) hd ces 0 hf
    rw [h] at this; cases this; rfl

theorem ktOf_und {tb : T TypeInfo} (hT : Tb P tb) {kt : TypeId} {k : KT} (hk : ktOf P tb kt = some k) : ∃ d, P.underlying kt = some d := by
  unfold ktOf at hk
  split at hk
  · rename_i fs hu; exact ⟨_, und_ok hT hu⟩
  · rename_i d _ hu; exact ⟨_, und_ok hT hu⟩
  · cases hk

/-- what the search says of the entry found -/
def Found (E : Env) (es : List (GV × GV × Nat)) (ces : List MapEntry) (K : Value) (i : Nat) : Option (Nat × GV × Nat) → Option (Nat × Value) → Prop
  | none, none => True
  | some p, some q => p.1 = q.1 ∧ i ≤ q.1 ∧ ∃ e, ces[q.1 - i]? = some e ∧ e.key = K ∧ e.val = q.2 ∧ R E p.2.1 e.val ∧ e.born = p.2.2
  | _, _ => False

theorem gfind_ok {tb : T TypeInfo} (hT : Tb P tb) {kt : TypeId} {k : KT} (hk : ktOf P tb kt = some k) {key : GV} {K : Value} (hK : R E key K) :
    ∀ (es : List (GV × GV × Nat)) (ces : List MapEntry) (i : Nat) (r : Option (Nat × GV × Nat)), ER E es ces → gfind k key es i = some r → ∃ q, (Instr.findAsking kt K ces i).run P w = .ok q w ∧ Found E es ces K i r q
  | [], ces, i, r, h, hg => by
    simp only [ER] at h; subst h; cases hg
    exact ⟨none, by simp [Instr.findAsking], trivial⟩
  | x :: es, ces, i, r, h, hg => by
    simp only [ER] at h
    obtain ⟨e, ces', rfl, h1, h2, h3, h4⟩ := h
    obtain ⟨b, hb, hg⟩ := orec_some (show Option.rec none (fun b => Bool.rec (gfind k key es (Nat.succ i)) (some (some (i, x.2.1, x.2.2))) b) (keq k key x.1) = some r from hg)
    obtain ⟨hrun, heq⟩ := keq_ok (w := w) hT hk hb hK h1
    cases b with
    | true =>
      cases hg
      exact ⟨some (i, e.val), by simp [Instr.findAsking, hrun], rfl, Nat.le_refl _, e, by simp, (heq rfl).symm, rfl, h2, h3⟩
    | false =>
      obtain ⟨q, hq, hf⟩ := gfind_ok hT hk hK es ces' (i + 1) r h4 hg
      refine ⟨q, by simp [Instr.findAsking, hrun, hq], ?_⟩
      cases r with
      | none => cases q <;> simp_all [Found]
      | some p =>
        cases q with
        | none => simp [Found] at hf
        | some q =>
          obtain ⟨f1, f2, e', f3, f4⟩ := hf
          refine ⟨f1, by omega, e', ?_, f4⟩
          rw [show q.1 - i = (q.1 - (i + 1)) + 1 by omega]
          exact f3
theorem find_ok {tb : T TypeInfo} (hT : Tb P tb) {kt : TypeId} {k : KT} (hk : ktOf P tb kt = some k) {key : GV} {K : Value} (hK : R E key K) {es : List (GV × GV × Nat)} {ces : List MapEntry} {r : Option (Nat × GV × Nat)} (h : ER E es ces) (hg : gfind k key es 0 = some r) :
    ∃ q, (Instr.findKey kt K ces).run P w = .ok q w ∧ Found E es ces K 0 r q := by
  obtain ⟨q, hq, hf⟩ := gfind_ok (w := w) hT hk hK es ces 0 r h hg
  obtain ⟨d, hd⟩ := ktOf_und hT hk
  exact ⟨q, run_findKey_asks hd hq, hf⟩

theorem checkKey_cell {t : TypeId} {d : TypeDesc} {s : ST} (ht : P.underlying t = some d) (hs : stOf d = some s) (em : Bool) (n : Nat) (v : Value) : (Instr.checkKey em (n + 1) t v).run P w = .ok () w := by
  unfold Instr.checkKey
  rw [Sem.run_bind, run_underlying ht, Result.andThen_ok]
  cases d <;> simp [stOf] at hs <;> simp
theorem checkKey_fields {tb : T TypeInfo} (hT : Tb P tb) (em : Bool) (d : Nat) (cs : Array Value) : ∀ (fs : List Field) (n : Nat) (l : List ST), flat tb fs n = some l → n + l.length ≤ cs.size →
    (forIn fs PUnit.unit (fun (f : Field) (r : PUnit) => (do
      if f.name ≠ "_" then Instr.checkKey em (d + 1) f.type (← part f.type cs f.offset)
      pure (ForInStep.yield PUnit.unit) : Sem (ForInStep PUnit)))).run P w = .ok PUnit.unit w
  | [], n, l, hl, hc => by simp
  | f :: fs, n, l, hl, hc => by
    simp only [flat] at hl
    split at hl
    · rename_i s l' h1 h2
      split at hl
      · rename_i hf
        cases hl
        obtain ⟨dd, hd, hs⟩ := Option.bind_eq_some_iff.1 h1
        simp only [List.length_cons] at hc
        have hp : (part f.type cs f.offset).run P w = .ok cs[n] w := run_part_cell hT hd (stOf_agg hs) (by rw [hf.1]; exact Array.getElem?_eq_getElem (by omega))
        have hck := checkKey_cell (w := w) (und_ok hT hd) hs em d cs[n]
        have ih := checkKey_fields hT em d cs fs (n + 1) l' h2 (by omega)
        rw [List.forIn_cons]
        simp only [hf.2, ne_eq, not_false_eq_true, if_true, Sem.run_bind, hp, hck, Result.andThen_ok, Sem.run_pure]
        exact ih
      · cases hl
    · cases hl
theorem checkKey_ok {tb : T TypeInfo} (hT : Tb P tb) {kt : TypeId} {k : KT} (hk : ktOf P tb kt = some k) {key : GV} {K : Value} (hf : keyFits k key = true) (hK : R E key K) (em : Bool) : (Instr.checkKey em 10000 kt K).run P w = .ok () w := by
  unfold ktOf at hk
  split at hk
  · rename_i fs hu
    split at hk
    · cases hk
    · obtain ⟨l, hl, rfl⟩ := Option.map_eq_some_iff.1 hk
      have hf : onAgg false key (fun xs => Nat.beq xs.length l.length) = true := hf
      cases key with
      | agg xs =>
        have hf := beq_t (show Nat.beq xs.length l.length = true from hf)
        obtain ⟨cs, rfl, hcs⟩ := R.agg hK
        have hsz : cs.size = l.length := by rw [← Array.length_toList, hcs.length, hf]
        have := checkKey_fields (w := w) hT em 9998 cs fs.toList 0 l hl (by omega)
        unfold Instr.checkKey
        rw [Sem.run_bind, run_underlying (und_ok hT hu), Result.andThen_ok]
        simp only [Sem.run_bind]
        rw [← Array.forIn_toList, this]
        rfl
      | _ => cases hf
  · rename_i d hn hu
    obtain ⟨s, hs, rfl⟩ := Option.map_eq_some_iff.1 hk
    exact checkKey_cell (und_ok hT hu) hs em 9999 K
  · cases hk

/-- a cell of a key is its own twin -/
theorem sEq_twin {s : ST} {x y : GV} {a : Value} {r : Bool} (h : sEq s x y = some r) (hx : R E x a) (n : Nat) : Instr.sameBits n a a = true := by
  cases s with
  | b =>
    obtain ⟨p, rfl, h⟩ := onBool_some (show onBool none x _ = some r from h)
    cases R.boolv hx; simp [Instr.sameBits]
  | i =>
    obtain ⟨k, p, rfl, h⟩ := onInt_some (show onInt none x _ = some r from h)
    cases R.int hx; simp [Instr.sameBits]
  | st =>
    obtain ⟨p, rfl, h⟩ := onStr_some (show onStr none x _ = some r from h)
    obtain ⟨rfl, hp⟩ := R.str hx
    simp only [Instr.sameBits, beq_toListBytes, beq_self_eq_true]
theorem sEqs_twin : ∀ (l : List ST) (xs ys : List GV) (as : List Value) (n : Nat), sEqs l xs ys = some true → RL E xs as → (as.zip as).all (fun (x, y) => Instr.sameBits n x y) = true
  | [], xs, ys, as, n, h, hr => by
    cases xs with
    | nil => simp only [RL] at hr; subst hr; rfl
    | cons x xs => cases h
  | s :: l, xs, ys, as, n, h, hr => by
    cases xs with
    | nil => cases h
    | cons x xs =>
      cases ys with
      | nil => cases h
      | cons y ys =>
        simp only [RL] at hr
        obtain ⟨a, r, rfl, h1, h2⟩ := hr
        change Option.rec none (fun b => Bool.rec (some false) (sEqs l xs ys) b) (sEq s x y) = some true at h
        cases hq : sEq s x y with
        | none => rw [hq] at h; cases h
        | some q =>
          rw [hq] at h
          cases q with
          | false => cases h
          | true =>
            have := sEqs_twin l xs ys r n h h2
            simp only [List.zip_cons_cons, List.all_cons, sEq_twin hq h1 n, this, Bool.and_self]
theorem keq_twin {k : KT} {x y : GV} {a : Value} (h : keq k x y = some true) (hx : R E x a) : Instr.sameBits 10000 a a = true := by
  cases k with
  | one s => exact sEq_twin (show sEq s x y = some true from h) hx _
  | many l =>
    obtain ⟨xs, rfl, h⟩ := onAgg_some (show onAgg none x _ = some true from h)
    obtain ⟨ys, rfl, h⟩ := onAgg_some h
    obtain ⟨cs, rfl, hcs⟩ := R.agg hx
    show (cs.size == cs.size && _) = true
    rw [beq_self_eq_true, Bool.true_and]
    exact sEqs_twin l xs ys cs.toList 9999 h hcs
theorem gfind_twin {k : KT} {key : GV} {K : Value} (hK : R E key K) : ∀ (es : List (GV × GV × Nat)) (i : Nat) (p : Nat × GV × Nat), gfind k key es i = some (some p) → Instr.sameBits 10000 K K = true
  | [], i, p, h => by cases h
  | x :: es, i, p, h => by
    obtain ⟨b, hb, h⟩ := orec_some (show Option.rec none (fun b => Bool.rec (gfind k key es (Nat.succ i)) (some (some (i, x.2.1, x.2.2))) b) (keq k key x.1) = some (some p) from h)
    cases b with
    | true => exact keq_twin hb hK
    | false => exact gfind_twin hK es _ p h
theorem run_keyStays {K : Value} (h : Instr.sameBits 10000 K K = true) : (Instr.keyThatStays K K).run P w = .ok K w := by
  unfold Instr.keyThatStays; rw [if_pos h]; rfl
end
end Go.Gh

/- Operations on maps. -/
namespace Go.Gh
set_option linter.unusedVariables false

section inv
variable {β : Type} {r : β}
theorem onMapO_some {o : Option GO} {f : List (GV × GV × Nat) → Nat → Option β} (h : onMapO none o f = some r) : ∃ es cl, o = some (.map es cl) ∧ f es cl = some r := by
  cases o with
  | none => cases h
  | some o => cases o <;> first | exact ⟨_, _, rfl, h⟩ | cases h
theorem onSiter_some {o : Option GO} {f : List Nat → Nat → Option β} (h : onSiter none o f = some r) : ∃ s p, o = some (.siter s p) ∧ f s p = some r := by
  cases o with
  | none => cases h
  | some o => cases o <;> first | exact ⟨_, _, rfl, h⟩ | cases h
theorem onMiter_some {o : Option GO} {f : Option Nat → Nat → List Nat → Nat → Option β} (h : onMiter none o f = some r) : ∃ m a l b, o = some (.miter m a l b) ∧ f m a l b = some r := by
  cases o with
  | none => cases h
  | some o => cases o <;> first | exact ⟨_, _, _, _, rfl, h⟩ | cases h
end inv

section
variable {CR : Nat → Code → GC → Prop} {P : Program} {X : Cx} {N : Nat} {E : Env} {t : T GV} {a : Act} {w0 w : World} {h : T GO} {nx : Nat}

theorem run_getObj_of {q : Obj} {r : Nat} (h : w.heap[r]? = some q) (hnc : ∀ c el fz, q ≠ .cells c el fz) : (getObj r).run P w = .ok q w := by
  cases q <;> first | exact absurd rfl (hnc _ _ _) | simp [getObj, Sem.run, h]
theorem run_setObj_of {q : Obj} {r : Nat} (h : w.heap[r]? = some q) (hnc : ∀ c el fz, q ≠ .cells c el fz) (o : Obj) : (setObj r o).run P w = .ok () (w.putObj r o) := by
  cases q <;> first | exact absurd rfl (hnc _ _ _) | simp [setObj, Sem.run, h, World.putObj]
theorem run_getMap {r : Nat} {es : Array MapEntry} {cl : Nat} (h : w.heap[r]? = some (.map es cl)) : (getObj r).run P w = .ok (.map es cl) w := run_getObj_of h (fun _ _ _ h => by cases h)

/-- A block that is no row of cells gets new contents. -/
theorem updObj_ok (hW : WR CR E w0 h nx w) {g : Nat} {o o' : GO} {cb : Nat} {q q' : Obj} (hg : h.get g = some o) (hm : E.m g = some (cb, 0)) (hq : w.heap[cb]? = some q) (hnc : ∀ c el fz, q ≠ .cells c el fz) (hn : w0.heap.size ≤ cb)
    (ho : OR CR E w0.heap.size (w.putObj cb q') g o') : WR CR E w0 (h.set g o') nx (w.putObj cb q') := by
  refine hW.upd hg hm hn (fun b' hb2 => World.putObj_heap_other hb2) (World.putObj_size) rfl rfl rfl (fun hpos => ?_) ho
  obtain ⟨c, el, fz, h1, _⟩ := hW.sz cb hpos
  rw [hq] at h1; cases h1
  exact absurd rfl (hnc _ _ _)
/-- A new block that is no row of cells. -/
theorem newObj_ok (hW : WR CR E w0 h nx w) {o : GO} (q : Obj) (ho : ∀ E', E.le E' → E'.m nx = some (w.heap.size, 0) → OR CR E' w0.heap.size (w.alloc q) nx o) :
    ∃ E', E.le E' ∧ E'.m nx = some (w.heap.size, 0) ∧ WR CR E' w0 (h.set nx o) (nx + 1) (w.alloc q) := by
  obtain ⟨h1, h2, h3, h4⟩ := hW.alloc (Nat.le_refl nx) (o := o) q 0 (fun h => by omega) (fun E' hE hle => ho E' hle (by rw [hE]; simp [Env.add]))
  exact ⟨_, h1, h2, h4⟩

theorem mapObj (hW : WR CR E w0 h nx w) {r : Nat} {es : List (GV × GV × Nat)} {cl : Nat} (hr : h.get r = some (.map es cl)) {cb : Nat} (hm : E.m r = some (cb, 0)) :
    ∃ ces, w.heap[cb]? = some (.map ces cl) ∧ ER E es ces.toList ∧ w0.heap.size ≤ cb := by
  have := hW.obj r _ hr
  simp only [OR] at this
  obtain ⟨cb', ces, h1, h2, h3, h4⟩ := this
  rw [hm] at h1; cases h1
  exact ⟨ces, h2, h3, h4⟩
theorem setMap_ok (hW : WR CR E w0 h nx w) {r : Nat} {es es' : List (GV × GV × Nat)} {cl cl' : Nat} (hr : h.get r = some (.map es cl)) {cb : Nat} (hm : E.m r = some (cb, 0)) {ces ces' : Array MapEntry} (hq : w.heap[cb]? = some (.map ces cl)) (hn : w0.heap.size ≤ cb)
    (he : ER E es' ces'.toList) : (setObj cb (.map ces' cl')).run P w = .ok () (w.putObj cb (.map ces' cl')) ∧ WR CR E w0 (h.set r (.map es' cl')) nx (w.putObj cb (.map ces' cl')) := by
  refine ⟨run_setObj_of hq (fun _ _ _ h => by cases h) _, updObj_ok hW hr hm hq (fun _ _ _ h => by cases h) hn ?_⟩
  simp only [OR]
  exact ⟨cb, ces', hm, World.putObj_heap_same (heap_lt hq), he, hn⟩

theorem zeroOf_ok {tb : T TypeInfo} (hT : Tb P tb) {e : TypeId} {z : GV} (hz : zeroOf tb e = some z) (E : Env) (w : World) : ∃ v, (zeroValue e).run P w = .ok v w ∧ R E z v := by
  unfold zeroOf at hz
  obtain ⟨v, hv, hz2⟩ := Option.bind_eq_some_iff.1 hz
  obtain ⟨it, hit, hz3⟩ := Option.bind_eq_some_iff.1 hv
  exact ⟨v, by simp [zeroValue, typeInfo, hT _ _ hit, hz3], cv_ok hz2 E⟩
theorem R.mkMap {E : Env} {r cb : Nat} (h : E.m r = some (cb, 0)) : R E (.mp r) (.map (some cb)) := by simp only [R]; exact ⟨cb, h, rfl⟩
theorem R.pair {E : Env} {x y : GV} {a b : Value} (h1 : R E x a) (h2 : R E y b) : R E (.tup [x, y]) (.tuple #[a, b]) := by
  simp only [R]; exact ⟨_, rfl, by simp only [RL]; exact ⟨a, [b], rfl, h1, b, [], rfl, h2, rfl⟩⟩
theorem R.unit {E : Env} : R E (.tup []) (.tuple #[]) := by simp only [R]; exact ⟨_, rfl, by simp [RL]⟩
theorem R.tbool {E : Env} (b : Bool) : R E (.bool b) (.bool b) := by simp only [R]
theorem Found.none_of {es : List (GV × GV × Nat)} {ces : List MapEntry} {K : Value} {q : Option (Nat × Value)} (h : Found E es ces K 0 none q) : q = none := by cases q <;> simp_all [Found]
theorem Found.some_of {es : List (GV × GV × Nat)} {ces : List MapEntry} {K : Value} {p : Nat × GV × Nat} {q : Option (Nat × Value)} (h : Found E es ces K 0 (some p) q) :
    ∃ e, q = some (p.1, e.val) ∧ ces[p.1]? = some e ∧ e.key = K ∧ R E p.2.1 e.val ∧ e.born = p.2.2 := by
  cases q with
  | none => simp [Found] at h
  | some q =>
    obtain ⟨f1, f2, e, f3, f4, f5, f6, f7⟩ := h
    rw [Nat.sub_zero, ← f1] at f3
    exact ⟨e, by rw [f1, f5], f3, f4, f6, f7⟩

variable (hT : Tb P X.tb) (ht : TR E N t a.tmps) (hg : GL E X.ng) (hW : WR CR E w0 h nx w)

include hT ht hg hW in
theorem m_makeMap {o : Oper} {ty : TypeId} {hi : Option Operand} {m : Mf} {s : MS} (ho : o.op = .makeMap ty hi) (hc : cMf X P (.makeMap ty hi) = some m) (hm : mf t h nx m = some s) : MOk CR P E w0 o a w s := by
  simp only [cMf] at hc
  split at hc
  · rename_i k e oh hu hoh
    cases hc
    obtain ⟨hi2, hm⟩ := okIf_some (show mMkmap t h nx oh = some s from hm)
    cases hm
    have hrun : (Instr.makeMap ty (hi.map a.eval)).run P w = .ok (.map (some w.heap.size)) (w.alloc (.map #[] 0)) := by
      cases hi with
      | none => simp [Instr.makeMap]
      | some y =>
        obtain ⟨z, hz, rfl⟩ := Option.map_eq_some_iff.1 (show (cod X.ng y).map some = some oh from hoh)
        have hi2 : isInt (ev t z) = true := hi2
        have hr := ev_ok ht hg hz
        cases hz2 : ev t z with
        | int k n => rw [hz2] at hr; have := R.int hr; simp [Instr.makeMap, run_und hT hu, this, asInt, asIntOf]
        | _ => rw [hz2] at hi2; cases hi2
    obtain ⟨E', f1, f2, f3⟩ := newObj_ok hW (o := .map [] 0) (.map #[] 0) (fun E' hle hm => by
      simp only [OR]
      exact ⟨w.heap.size, #[], hm, World.alloc_heap_new w _, rfl, hW.fr.size⟩)
    exact ⟨E', .map (some w.heap.size), _, .value _, by simp only [execOp, ho, Sem.run_bind, hrun, Result.andThen_ok, Sem.run_pure], .inl rfl, f1, R.mkMap f2, f3⟩
  · cases hc

include hT ht hg hW in
theorem m_lookup {o : Oper} {ty : TypeId} {x y : Operand} {ok : Bool} {m : Mf} {s : MS} (ho : o.op = .lookup ty x y ok) (hc : cMf X P (.lookup ty x y ok) = some m) (hm : mf t h nx m = some s) : MOk CR P E w0 o a w s := by
  simp only [cMf] at hc
  split at hc
  · rename_i kt e oa ob hu hx hy
    split at hc
    · rename_i k z hk hz
      cases hc
      obtain ⟨hf, hm⟩ := okIf_some (show mLook h nx k ok z (ev t oa) (ev t ob) = some s from hm)
      have hry := ev_ok ht hg hy
      have hrx := ev_ok ht hg hx
      obtain ⟨zv, hzv, hzr⟩ := zeroOf_ok hT hz E w
      have hck := fun em => checkKey_ok (w := w) hT hk hf hry em
      have fin : ∀ {v : Value} {b : Bool} {g : GV}, (Instr.lookup ty (a.eval x) (a.eval y) ok).run P w = .ok (if ok then .tuple #[v, .bool b] else v) w →
          R E g v → s = ⟨Bool.rec g (.tup [g, .bool b]) ok, h, nx⟩ → MOk CR P E w0 o a w s := by
        intro v b g hrun h4 h5
        subst h5
        refine ⟨E, (if ok then .tuple #[v, .bool b] else v), w, .value _, by simp only [execOp, ho, Sem.run_bind, hrun, Result.andThen_ok, Sem.run_pure], .inl rfl, Env.le_refl E, ?_, hW⟩
        cases ok with
        | false => exact h4
        | true => exact R.pair h4 (R.tbool b)
      rcases onMap_some hm with ⟨ex, hm2⟩ | ⟨r, ex, hm2⟩
      · rw [ex] at hrx; simp only [R] at hrx
        cases hm2
        have hfk : (Instr.findKey kt (a.eval y) []).run P w = .ok none w := by
          obtain ⟨d, hd⟩ := ktOf_und hT hk
          exact run_findKey_asks hd (by simp [Instr.findAsking])
        refine fin (v := zv) (b := false) ?_ hzr rfl
        unfold Instr.lookup
        simp only [Sem.run_bind, run_und hT hu, Result.andThen_ok, hrx, hck, hfk, hzv, Sem.run_pure]
      · rw [ex] at hrx; simp only [R] at hrx
        obtain ⟨cb, hmr, hv⟩ := hrx
        obtain ⟨es, cl, hr, hm3⟩ := onMapO_some hm2
        obtain ⟨f, hfd, hm4⟩ := orec_some hm3
        obtain ⟨ces, q1, q2, q3⟩ := mapObj hW hr hmr
        obtain ⟨q, hq, hfo⟩ := find_ok (w := w) hT hk hry q2 hfd
        cases f with
        | none =>
          cases hm4
          have := hfo.none_of; subst this
          refine fin (v := zv) (b := false) ?_ hzr rfl
          unfold Instr.lookup
          simp only [Sem.run_bind, run_und hT hu, Result.andThen_ok, hv, run_getMap q1, hck, hq, hzv, Sem.run_pure]
        | some p =>
          cases hm4
          obtain ⟨e', rfl, g1, g2, g3, g4⟩ := hfo.some_of
          refine fin (v := e'.val) (b := true) ?_ g3 rfl
          unfold Instr.lookup
          simp only [Sem.run_bind, run_und hT hu, Result.andThen_ok, hv, run_getMap q1, hck, hq, Sem.run_pure]
    · cases hc
  · cases hc

/-- what a found entry's place gets -/
theorem upd_found {es : List (GV × GV × Nat)} {ces : Array MapEntry} (he : ER E es ces.toList) {p : Nat × GV × Nat} {e : MapEntry} (h1 : ces.toList[p.1]? = some e) {key v : GV} (f : MapEntry → MapEntry)
    (hk : R E key (f e).key) (hv : R E v (f e).val) (hb : (f e).born = p.2.2) : ER E (setAt es p.1 (key, v, p.2.2)) (ces.modify p.1 f).toList := by
  have hlt := (List.getElem?_eq_some_iff.1 h1).1
  have hge := (List.getElem?_eq_some_iff.1 h1).2
  rw [Array.toList_modify]
  exact he.setAt hlt (by rw [hge]; exact ⟨hk, hv, hb⟩)

theorem mapUpdate_ok (hW : WR CR E w0 h nx w) (hT : Tb P X.tb) {ty kt e : TypeId} (hu : und X.tb ty = some (.map kt e)) {k : KT} (hk : ktOf P X.tb kt = some k) {gm gk gv : GV} {M K V : Value} (hrm : R E gm M) (hrk : R E gk K) (hrv : R E gv V) {s : MS}
    (hm : mMupd h nx k gm gk gv = some s) : ∃ w', (Instr.mapUpdate ty M K V).run P w = .ok () w' ∧ s.v = .bad ∧ WR CR E w0 s.h s.nx w' := by
  obtain ⟨hf, hm⟩ := okIf_some hm
  have hck := fun em => checkKey_ok (w := w) hT hk hf hrk em
  rcases onMap_some hm with ⟨ex, hm2⟩ | ⟨r, ex, hm2⟩
  · cases hm2
  · rw [ex] at hrm; simp only [R] at hrm
    obtain ⟨cb, hmr, rfl⟩ := hrm
    obtain ⟨es, cl, hr, hm3⟩ := onMapO_some hm2
    obtain ⟨f, hfd, hm4⟩ := orec_some hm3
    obtain ⟨ces, q1, q2, q3⟩ := mapObj hW hr hmr
    obtain ⟨q, hq, hfo⟩ := find_ok (w := w) hT hk hrk q2 hfd
    unfold Instr.mapUpdate
    simp only [Sem.run_bind, run_und hT hu, Result.andThen_ok, run_getMap q1, hck, hq]
    cases f with
    | none =>
      cases hm4
      have := hfo.none_of; subst this
      obtain ⟨g1, g2⟩ := setMap_ok (P := P) hW hr hmr q1 q3 (es' := es ++ [(gk, gv, cl)]) (ces' := ces.push { key := K, val := V, born := cl }) (cl' := cl + 1) (by rw [Array.toList_push]; exact q2.append (ER.one hrk hrv rfl))
      exact ⟨_, g1, rfl, g2⟩
    | some p =>
      cases hm4
      obtain ⟨e', rfl, g1, g2, g3, g4⟩ := hfo.some_of
      have hce : ces[p.1]? = some e' := by rw [← Array.getElem?_toList]; exact g1
      simp only [hce, Option.map_some, Option.getD_some, g2, Sem.run_bind, run_keyStays (gfind_twin hrk _ _ _ hfd), Result.andThen_ok]
      obtain ⟨g5, g6⟩ := setMap_ok (P := P) hW hr hmr q1 q3 (cl' := cl) (upd_found q2 g1 (fun e => { e with key := K, val := V }) (key := gk) (v := gv) hrk hrv g4)
      exact ⟨_, g5, trivial, g6⟩

include hT ht hg hW in
theorem m_mapUpdate {o : Oper} {ty : TypeId} {x y z : Operand} {m : Mf} {s : MS} (ho : o.op = .mapUpdate ty x y z) (hc : cMf X P (.mapUpdate ty x y z) = some m) (hm : mf t h nx m = some s) : MOk CR P E w0 o a w s := by
  simp only [cMf] at hc
  split at hc
  · rename_i kt e oa ob oc hu hx hy hz
    obtain ⟨k, hk, rfl⟩ := Option.map_eq_some_iff.1 hc
    obtain ⟨w', h1, h2, h3⟩ := mapUpdate_ok hW hT hu hk (ev_ok ht hg hx) (ev_ok ht hg hy) (ev_ok ht hg hz) (show mMupd h nx k (ev t oa) (ev t ob) (ev t oc) = some s from hm)
    exact ⟨E, undef, w', .skip, by simp only [execOp, ho, Sem.run_bind, h1, Result.andThen_ok, Sem.run_pure], .inr ⟨rfl, rfl⟩, Env.le_refl E, by rw [h2]; simp only [R], h3⟩
  · cases hc
include hT ht hg hW in
theorem m_insert {o : Oper} {ty : TypeId} {x y z : Operand} {m : Mf} {s : MS} (ho : o.op = .insert ty x y z) (hc : cMf X P (.insert ty x y z) = some m) (hm : mf t h nx m = some s) : MOk CR P E w0 o a w s := by
  simp only [cMf] at hc
  split at hc
  · rename_i kt e oa ob oc hu hx hy hz
    obtain ⟨k, hk, rfl⟩ := Option.map_eq_some_iff.1 hc
    obtain ⟨w', h1, h2, h3⟩ := mapUpdate_ok hW hT hu hk (ev_ok ht hg hx) (ev_ok ht hg hy) (ev_ok ht hg hz) (show mMupd h nx k (ev t oa) (ev t ob) (ev t oc) = some s from hm)
    exact ⟨E, undef, w', .skip, by simp only [execOp, ho, Sem.run_bind, h1, Result.andThen_ok, Sem.run_pure], .inr ⟨rfl, rfl⟩, Env.le_refl E, by rw [h2]; simp only [R], h3⟩
  · cases hc

include hT ht hg hW in
theorem m_mapEntry {o : Oper} {ty : TypeId} {x y : Operand} {m : Mf} {s : MS} (ho : o.op = .mapEntry ty x y) (hc : cMf X P (.mapEntry ty x y) = some m) (hm : mf t h nx m = some s) : MOk CR P E w0 o a w s := by
  simp only [cMf] at hc
  split at hc
  · rename_i kt e oa ob hu hx hy
    split at hc
    · rename_i k z hk hz
      cases hc
      obtain ⟨hf, hm⟩ := okIf_some (show mMent h nx k z (ev t oa) (ev t ob) = some s from hm)
      have hrk := ev_ok ht hg hy
      have hrm := ev_ok ht hg hx
      have hck := fun em => checkKey_ok (w := w) hT hk hf hrk em
      obtain ⟨zv, hzv, hzr⟩ := zeroOf_ok hT hz E w
      rcases onMap_some hm with ⟨ex, hm2⟩ | ⟨r, ex, hm2⟩
      · cases hm2
      · rw [ex] at hrm; simp only [R] at hrm
        obtain ⟨cb, hmr, hv⟩ := hrm
        obtain ⟨es, cl, hr, hm3⟩ := onMapO_some hm2
        obtain ⟨f, hfd, hm4⟩ := orec_some hm3
        obtain ⟨ces, q1, q2, q3⟩ := mapObj hW hr hmr
        obtain ⟨q, hq, hfo⟩ := find_ok (w := w) hT hk hrk q2 hfd
        have fin : ∀ {v : Value} {w' : World}, (Instr.mapEntry ty (.map (some cb)) (a.eval y)).run P w = .ok v w' → R E s.v v → WR CR E w0 s.h s.nx w' → MOk CR P E w0 o a w s := by
          intro v w' h1 h2 h3
          exact ⟨E, v, w', .value v, by simp only [execOp, ho, hv, Sem.run_bind, h1, Result.andThen_ok, Sem.run_pure], .inl rfl, Env.le_refl E, h2, h3⟩
        cases f with
        | none =>
          cases hm4
          have := hfo.none_of; subst this
          obtain ⟨g1, g2⟩ := setMap_ok (P := P) hW hr hmr q1 q3 (es' := es ++ [(ev t ob, z, cl)]) (ces' := ces.push { key := a.eval y, val := zv, born := cl }) (cl' := cl + 1) (by rw [Array.toList_push]; exact q2.append (ER.one hrk hzr rfl))
          refine fin (v := .tuple #[zv, goInt cl]) ?_ (R.pair hzr (R.mkInt _ _ _)) g2
          unfold Instr.mapEntry
          simp only [Sem.run_bind, run_und hT hu, Result.andThen_ok, run_getMap q1, hck, hq, hzv, g1, Sem.run_pure]
        | some p =>
          cases hm4
          obtain ⟨e', rfl, g1, g2, g3, g4⟩ := hfo.some_of
          have hce : ces[p.1]? = some e' := by rw [← Array.getElem?_toList]; exact g1
          obtain ⟨g5, g6⟩ := setMap_ok (P := P) hW hr hmr q1 q3 (cl' := cl) (upd_found q2 g1 (fun e => { e with key := a.eval y }) (key := ev t ob) (v := p.2.1) hrk g3 g4)
          refine fin (v := .tuple #[e'.val, goInt e'.born]) ?_ (R.pair g3 (by rw [g4]; exact R.mkInt _ _ _)) g6
          unfold Instr.mapEntry
          simp only [Sem.run_bind, run_und hT hu, Result.andThen_ok, run_getMap q1, hck, hq, hce, Option.map_some, Option.getD_some, g2, run_keyStays (gfind_twin hrk _ _ _ hfd), g5, Sem.run_pure]
    · cases hc
  · cases hc

theorem bfind_ok (b : Nat) : ∀ (es : List (GV × GV × Nat)) (ces : List MapEntry) (i : Nat) (p : Nat × GV × GV), ER E es ces → bfind b es i = some p →
    i ≤ p.1 ∧ ∃ e, ces[p.1 - i]? = some e ∧ R E p.2.1 e.key ∧ R E p.2.2 e.val ∧ e.born = b ∧ ces.find? (fun e => e.born == b) = some e ∧ ces.findIdx? (fun e => (e.born : Int) == (b : Int)) = some (p.1 - i)
  | [], ces, i, p, h, hb => by cases hb
  | x :: es, ces, i, p, h, hb => by
    simp only [ER] at h
    obtain ⟨e, ces', rfl, h1, h2, h3, h4⟩ := h
    change Bool.rec (bfind b es (Nat.succ i)) (some (i, x.1, x.2.1)) (Nat.beq x.2.2 b) = some p at hb
    cases hx : Nat.beq x.2.2 b with
    | true =>
      rw [hx] at hb; cases hb
      have := beq_t hx
      refine ⟨Nat.le_refl _, e, by simp, h1, h2, by omega, ?_, ?_⟩
      · rw [List.find?_cons_of_pos]; rw [beq_iff_eq]; omega
      · rw [List.findIdx?_cons]; simp; omega
    | false =>
      rw [hx] at hb
      have hne := beq_f hx
      obtain ⟨g1, e', g2, g3, g4, g5, g6, g7⟩ := bfind_ok b es ces' (i + 1) p h4 hb
      refine ⟨by omega, e', ?_, g3, g4, g5, ?_, ?_⟩
      · rw [show p.1 - i = (p.1 - (i + 1)) + 1 by omega]; exact g2
      · rw [List.find?_cons_of_neg]; exact g6; rw [beq_iff_eq]; omega
      · rw [List.findIdx?_cons]
        have : ((e.born : Int) == (b : Int)) = false := by rw [beq_eq_false_iff_ne]; omega
        rw [this, g7]
        simp; omega

include ht hg hW in
theorem m_entryStore {o : Oper} {ty : TypeId} {x y z : Operand} {m : Mf} {s : MS} (ho : o.op = .entryStore ty x y z) (hc : cMf X P (.entryStore ty x y z) = some m) (hm : mf t h nx m = some s) : MOk CR P E w0 o a w s := by
  simp only [cMf] at hc
  split at hc
  · rename_i oa ob oc hx hy hz
    cases hc
    have hrm := ev_ok ht hg hx
    have hrv := ev_ok ht hg hz
    rcases onMap_some (show mEst h nx (ev t oa) (ev t ob) (ev t oc) = some s from hm) with ⟨ex, hm2⟩ | ⟨r, ex, hm2⟩
    · cases hm2
    · rw [ex] at hrm; simp only [R] at hrm
      obtain ⟨cb, hmr, hv⟩ := hrm
      obtain ⟨es, cl, hr, hm3⟩ := onMapO_some hm2
      obtain ⟨b, hb, hm4⟩ := orec_some hm3
      obtain ⟨p, hp, hm5⟩ := orec_some hm4
      cases hm5
      obtain ⟨kk, hy'⟩ := natOf_val hb (ev_ok ht hg hy)
      obtain ⟨ces, q1, q2, q3⟩ := mapObj hW hr hmr
      obtain ⟨g1, e', g2, g3, g4, g5, g6, g7⟩ := bfind_ok b es ces.toList 0 p q2 hp
      rw [Nat.sub_zero] at g2 g7
      obtain ⟨g8, g9⟩ := setMap_ok (P := P) hW hr hmr q1 q3 (cl' := cl) (upd_found (p := (p.1, p.2.2, b)) q2 g2 (fun e => { e with val := a.eval z }) (key := p.2.1) (v := ev t oc) g3 hrv g5)
      have hfi : ces.findIdx? (fun e => (e.born : Int) == (b : Int)) = some p.1 := by rw [← List.findIdx?_toArray] at *; exact g7
      refine ⟨E, undef, _, .skip, ?_, .inr ⟨rfl, rfl⟩, Env.le_refl E, by simp only [R], g9⟩
      simp only [execOp, ho, hv, hy', Instr.entryStore, Sem.run_bind, run_getMap q1, Result.andThen_ok, asInt, asIntOf, Sem.run_pure, hfi, g8]
  · cases hc
end
end Go.Gh
