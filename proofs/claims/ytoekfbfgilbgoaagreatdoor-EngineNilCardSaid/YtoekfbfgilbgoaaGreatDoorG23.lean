/- Builtins and externs; every operation on memory. -/
import Derived.Test.YtoekfbfgilbgoaaGreatDoorG22
namespace Go.Gh
set_option linter.unusedVariables false

/-- What the externs of the run do. -/
def exRun (e : EX) (args : Array Value) : Sem Value := match e with | .clone => Extern.MapsClone.clone args | .ixb => Extern.BytealgIndexByte.indexByte args
def ExOk (P : Program) (X : Cx) : Prop := ∀ f e, X.ex.get f = some e → ∀ args w, (callFunc f args).run P w = (do pure (.value (← exRun e args)) : Sem Next).run P w

section
variable {CR : Nat → Code → GC → Prop} {P : Program} {X : Cx} {N : Nat} {E : Env} {t : T GV} {a : Act} {w0 w : World} {h : T GO} {nx : Nat}

theorem mclone_ok (hW : WR CR E w0 h nx w) {g : GV} {V : Value} (hr : R E g V) {s : MS} (hm : mClone h nx g = some s) :
    ∃ E' v' w', (Extern.MapsClone.clone #[V]).run P w = .ok v' w' ∧ E.le E' ∧ R E' s.v v' ∧ WR CR E' w0 s.h s.nx w' := by
  rcases onIf_some hm with ⟨_, hm2⟩ | ⟨ty, x, rfl, hm2⟩
  · cases hm2
  · simp only [R] at hr
    obtain ⟨y, rfl, hr⟩ := hr
    rcases onMap_some hm2 with ⟨_, hm3⟩ | ⟨r, ex, hm3⟩
    · cases hm3
    · rw [ex] at hr; simp only [R] at hr
      obtain ⟨cb, hmr, rfl⟩ := hr
      obtain ⟨es, cl, hr, hm4⟩ := onMapO_some hm3
      cases hm4
      obtain ⟨ces, q1, q2, q3⟩ := mapObj hW hr hmr
      obtain ⟨E', f1, f2, f3⟩ := newObj_ok hW (o := .map es cl) (.map ces cl) (fun E' hle hm => by
        simp only [OR]
        exact ⟨w.heap.size, ces, hm, World.alloc_heap_new w _, q2.mono hle, hW.fr.size⟩)
      refine ⟨E', .iface ty (.map (some w.heap.size)), w.alloc (.map ces cl), ?_, f1, ?_, f3⟩
      · change (Sem.run P (do
          let .map entries clock ← getObj cb | stuck "maps.clone: a map expected"
          pure (Value.iface ty (.map (some (← newObj (.map entries clock)))))) w) = _
        simp only [Sem.run_bind, run_getMap q1, Result.andThen_ok, run_newObj_alloc, Sem.run_pure]
      · simp only [R]; exact ⟨_, rfl, R.mkMap f2⟩

theorem byteOfV_ok {g : GV} {V : Value} {b : Nat} (h : byteOfV g = some b) (hr : R E g V) : b < 256 ∧ (Extern.Bytes.asByte V).run P w = .ok (UInt8.ofNat b) w := by
  obtain ⟨k, n, rfl, h⟩ := onInt_some h
  obtain ⟨hk, h⟩ := okIf_some h
  have hk := kq_eq hk; subst hk
  have := R.int hr; subst this
  cases n with
  | negSucc m => cases h
  | ofNat m =>
    cases h
    refine ⟨Nat.mod_lt _ (by decide), ?_⟩
    have : UInt8.ofNat (m.mod 256) = UInt8.ofNat m := by apply UInt8.toNat_inj.1; rw [UInt8.toNat_ofNat', UInt8.toNat_ofNat']; exact Nat.mod_mod m 256
    rw [this]; rfl
theorem find_shift {p q : Nat → Bool} (h : ∀ i, p (i + 1) = q i) : ∀ (n k : Nat), (List.range' (k + 1) n).find? p = ((List.range' k n).find? q).map (· + 1)
  | 0, k => rfl
  | n + 1, k => by
    rw [List.range'_succ, List.range'_succ, List.find?_cons, List.find?_cons, h k]
    cases q k with
    | true => rfl
    | false => exact find_shift h n (k + 1)
theorem bget (l : List Nat) (i : Nat) (hi : i < l.length) : (bs l)[i]! = UInt8.ofNat l[i] := by
  have hb : i < (bs l).size := by rw [bs_size]; exact hi
  rw [getElem!_pos (bs l) i hb]
  show (bs l).data[i]'_ = _
  simp only [bs, List.getElem_toArray, List.getElem_map]
theorem findN_ok (c : Nat) (hc : c < 256) : ∀ (l : List Nat) (k : Nat), (∀ x ∈ l, x < 256) → findN c l k = ((List.range l.length).find? fun i => (bs l)[i]! == UInt8.ofNat c).map (· + k)
  | [], k, hl => rfl
  | x :: l, k, hl => by
    have hl2 : ∀ y ∈ l, y < 256 := fun y hy => hl y (List.mem_cons_of_mem _ hy)
    have ih := findN_ok c hc l (k + 1) hl2
    show (Bool.rec (findN c l (Nat.succ k)) (some k) (Nat.beq x c) : Option Nat) = _
    rw [List.length_cons, List.range_eq_range', List.range'_succ, List.find?_cons]
    have e0 : (bs (x :: l))[0]! = UInt8.ofNat x := bget (x :: l) 0 (by simp)
    have heq : (UInt8.ofNat x == UInt8.ofNat c) = Nat.beq x c := by
      have hx := hl x (by simp)
      cases hb : Nat.beq x c with
      | true => have := beq_t hb; subst this; simp
      | false =>
        have := beq_f hb
        rw [beq_eq_false_iff_ne]
        intro e
        have := congrArg UInt8.toNat e
        rw [UInt8.toNat_ofNat_of_lt' (show x < 256 from hx), UInt8.toNat_ofNat_of_lt' (show c < 256 from hc)] at this
        exact absurd this (by omega)
    rw [e0, heq]
    cases hb : Nat.beq x c with
    | true => simp
    | false =>
      simp only []
      have hs : ∀ i, ((bs (x :: l))[i + 1]! == UInt8.ofNat c) = ((bs l)[i]! == UInt8.ofNat c) := by
        intro i
        by_cases hi : i < l.length
        · rw [bget (x :: l) (i + 1) (by simpa using hi), bget l i hi]; rfl
        · rw [getElem!_neg (bs (x :: l)) (i + 1) (by show ¬ _ < (bs (x :: l)).size; rw [bs_size]; simpa using hi), getElem!_neg (bs l) i (by show ¬ _ < (bs l).size; rw [bs_size]; exact hi)]
      rw [find_shift hs l.length 0, ← List.range_eq_range', Option.map_map]
      rw [show findN c l (Nat.succ k) = _ from ih]
      congr 1
      funext i
      show i + (k + 1) = (i + 1) + k
      omega

theorem mixb_ok {g gc : GV} {V C : Value} (hr : R E g V) (hrc : R E gc C) {s : MS} (hm : mIxb h nx g gc = some s) :
    ∃ v', (Extern.BytealgIndexByte.indexByte #[V, C]).run P w = .ok v' w ∧ R E s.v v' ∧ s.h = h ∧ s.nx = nx := by
  obtain ⟨l, rfl, hm⟩ := onStr_some hm
  obtain ⟨b, hb, hm⟩ := orec_some hm
  cases hm
  obtain ⟨rfl, hl⟩ := R.str hr
  obtain ⟨hlt, hrun⟩ := byteOfV_ok (P := P) (w := w) hb hrc
  have hf := findN_ok b hlt l 0 hl
  have hsz := bs_size l
  cases hq : (List.range l.length).find? (fun i => (bs l)[i]! == UInt8.ofNat b) with
  | none =>
    rw [hq] at hf
    refine ⟨goInt (-1), ?_, by rw [hf]; exact R.mkInt _ _ _, rfl, rfl⟩
    change (Sem.run P (do
      let b ← Extern.Bytes.bytesOf (.string (bs l))
      let c ← Extern.Bytes.asByte C
      match (List.range b.size).find? fun i => b[i]! == c with
      | some i => pure (goInt i)
      | none => pure (goInt (-1))) w) = _
    simp only [Extern.Bytes.bytesOf, Sem.run_bind, Sem.run_pure, Result.andThen_ok, hrun, hsz, hq]
  | some i =>
    rw [hq] at hf
    refine ⟨goInt i, ?_, by rw [hf]; exact R.mkInt _ _ _, rfl, rfl⟩
    change (Sem.run P (do
      let b ← Extern.Bytes.bytesOf (.string (bs l))
      let c ← Extern.Bytes.asByte C
      match (List.range b.size).find? fun i => b[i]! == c with
      | some i => pure (goInt i)
      | none => pure (goInt (-1))) w) = _
    simp only [Extern.Bytes.bytesOf, Sem.run_bind, Sem.run_pure, Result.andThen_ok, hrun, hsz, hq]

variable (hT : Tb P X.tb) (ht : TR E N t a.tmps) (hg : GL E X.ng) (hW : WR CR E w0 h nx w) (hX : ExOk P X)

theorem list2 {α : Type} {a : Array α} {x y : α} (h : a.toList = [x, y]) : a = #[x, y] := by rw [← Array.toList_inj, h]
theorem map1 {α β : Type} (f : α → β) (x : α) : (#[x]).map f = #[f x] := by simp
theorem map2 {α β : Type} (f : α → β) (x y : α) : (#[x, y]).map f = #[f x, f y] := by simp
theorem list1 {α : Type} {a : Array α} {x : α} (h : a.toList = [x]) : a = #[x] := by rw [← Array.toList_inj, h]

include hT ht hg hW hX in
theorem m_call {o : Oper} {c : Call} {m : Mf} {s : MS} (ho : o.op = .call c) (hc : cMf X P (.call c) = some m) (hm : mf t h nx m = some s) : MOk CR P E w0 o a w s := by
  obtain ⟨callee, args, ats⟩ := c
  have finB : ∀ {b : Builtin} {E' : Env} {v' : Value} {w' : World}, callee = .builtin b → (builtin b ats o.type (args.map fun | .const _ => true | _ => false) (args.map a.eval)).run P w = .ok (.value v') w' → E.le E' → R E' s.v v' → WR CR E' w0 s.h s.nx w' → MOk CR P E w0 o a w s := by
    intro b E' v' w' hb h1 h2 h3 h4
    subst hb
    refine ⟨E', v', w', .value v', ?_, .inl rfl, h2, h3, h4⟩
    simp only [execOp, ho, resolve, Sem.run_bind, Sem.run_pure, Result.andThen_ok, invoke]
    exact h1
  cases callee with
  | invoke x n => cases hc
  | value x =>
    cases x with
    | func f =>
      simp only [cMf] at hc
      have run : ∀ {e : EX} {E' : Env} {v' : Value} {w' : World}, X.ex.get f = some e → (exRun e (args.map a.eval)).run P w = .ok v' w' → E.le E' → R E' s.v v' → WR CR E' w0 s.h s.nx w' → MOk CR P E w0 o a w s := by
        intro e E' v' w' hf h1 h2 h3 h4
        refine ⟨E', v', w', .value v', ?_, .inl rfl, h2, h3, h4⟩
        have hcf := hX f e hf (args.map a.eval) w
        simp only [execOp, ho, resolve, Sem.run_bind, Sem.run_pure, Result.andThen_ok, Act.eval, Deferred.ofValue, invoke, Array.empty_append, Array.append_empty] at hcf ⊢
        simp only [h1, Result.andThen_ok] at hcf
        simp [hcf]
      split at hc
      · rename_i x' hf hl
        obtain ⟨ox, hx, rfl⟩ := Option.map_eq_some_iff.1 hc
        obtain ⟨E', v', w', q1, q2, q3, q4⟩ := mclone_ok (P := P) hW (ev_ok ht hg hx) (show mClone h nx (ev t ox) = some s from hm)
        exact run hf (by rw [list1 hl, map1]; exact q1) q2 q3 q4
      · rename_i x' c' hf hl
        split at hc
        · rename_i oa ob hx hy
          cases hc
          obtain ⟨v', q1, q2, q3, q4⟩ := mixb_ok (P := P) (w := w) (ev_ok ht hg hx) (ev_ok ht hg hy) (show mIxb h nx (ev t oa) (ev t ob) = some s from hm)
          exact run hf (by rw [list2 hl, map2]; exact q1) (Env.le_refl E) q2 (by rw [q3, q4]; exact hW)
        · cases hc
      · cases hc
    | _ => cases hc
  | builtin b =>
    cases b with
    | append =>
      simp only [cMf] at hc
      split at hc
      · rename_i sx xx st xt h1 h2
        obtain ⟨E', v', w', q1, q2, q3, q4⟩ := m_append (ty := o.type) hT ht hg hW hc hm
        refine finB rfl ?_ q2 q3 q4
        rw [list2 h1, list2 h2]
        simp only [builtin, Sem.run_bind]
        rw [show (#[sx, xx] : Array Operand).map a.eval = #[a.eval sx, a.eval xx] by simp, q1]; rfl
      · cases hc
    | copy =>
      simp only [cMf] at hc
      split at hc
      · rename_i dx sx dt st h1 h2
        have fin : ∀ {v' : Value} {w' : World}, (Builtin.copy_ #[dt, st] o.type #[a.eval dx, a.eval sx]).run P w = .ok v' w' → R E s.v v' → WR CR E w0 s.h s.nx w' → MOk CR P E w0 o a w s := by
          intro v' w' q1 q2 q3
          refine finB rfl ?_ (Env.le_refl E) q2 q3
          rw [list2 h1, list2 h2]
          simp only [builtin, Sem.run_bind]
          rw [show (#[dx, sx] : Array Operand).map a.eval = #[a.eval dx, a.eval sx] by simp, q1]; rfl
        split at hc
        · rename_i e oa ob g1 g2 g3 g4
          split at hc
          · rename_i hz
            cases hc
            obtain ⟨n, xs, cs, f1, f2, f3⟩ := srcS_ok (P := P) (w := w) (ev_ok ht hg g4) (show mCopys h nx (ev t oa) (ev t ob) = some s from hm)
            obtain ⟨v', w', q1, q2, q3⟩ := copy1_ok (ty := o.type) (st := st) hW (und_ok hT g1) (run_sizeOf' hT hz) (ev_ok ht hg g3) f2 f3 f1
            exact fin q1 q2 q3
          · cases hc
        · rename_i e e2 oa ob g1 g2 g3 g4
          obtain ⟨z, hz, rfl⟩ := Option.map_eq_some_iff.1 hc
          obtain ⟨n, xs, cs, f1, f2, f3, _⟩ := srcOf_ok (P := P) hW (ev_ok ht hg g4) (show mCopy h nx z (ev t oa) (ev t ob) = some s from hm)
          obtain ⟨v', w', q1, q2, q3⟩ := copy1_ok (ty := o.type) (st := st) hW (und_ok hT g1) (run_sizeOf' hT hz) (ev_ok ht hg g3) f2 f3 f1
          exact fin q1 q2 q3
        · cases hc
      · cases hc
    | delete =>
      simp only [cMf] at hc
      split at hc
      · rename_i mx kx mt r h1 h2
        split at hc
        · rename_i kt e oa ob g1 g2 g3
          obtain ⟨k, hk, rfl⟩ := Option.map_eq_some_iff.1 hc
          obtain ⟨v', w', q1, q2, q3⟩ := mdel_ok (rt := o.type) (ats := ats) hW hT (by rw [← Array.getElem?_toList, h2]; rfl) g1 hk (ev_ok ht hg g2) (ev_ok ht hg g3) (show mMdel h nx k (ev t oa) (ev t ob) = some s from hm)
          refine finB rfl ?_ (Env.le_refl E) q2 q3
          rw [list2 h1]
          simp only [builtin, Sem.run_bind]
          rw [show (#[mx, kx] : Array Operand).map a.eval = #[a.eval mx, a.eval kx] by simp, q1]; rfl
        · cases hc
      · cases hc
    | clear =>
      simp only [cMf] at hc
      split at hc
      · rename_i x ty r h1 h2
        have fin : ∀ {v' : Value} {w' : World}, (Builtin.clear_ #[ty] o.type #[a.eval x]).run P w = .ok v' w' → R E s.v v' → WR CR E w0 s.h s.nx w' → MOk CR P E w0 o a w s := by
          intro v' w' q1 q2 q3
          refine finB rfl ?_ (Env.le_refl E) q2 q3
          rw [list1 h1]
          simp only [builtin, Sem.run_bind]
          have : (Builtin.clear_ ats o.type #[a.eval x]).run P w = (Builtin.clear_ #[ty] o.type #[a.eval x]).run P w := by
            unfold Builtin.clear_
            have : ats[0]? = some ty := by rw [← Array.getElem?_toList, h2]; rfl
            rw [this]; rfl
          rw [show (#[x] : Array Operand).map a.eval = #[a.eval x] by simp, this, q1]; rfl
        split at hc
        · rename_i kt e ox g1 g2
          cases hc
          obtain ⟨v', w', q1, q2, q3⟩ := mclr_ok (P := P) (rt := o.type) (ats := #[ty]) hW rfl (und_ok hT g1) (ev_ok ht hg g2) (show mMclr h nx (ev t ox) = some s from hm)
          exact fin q1 q2 q3
        · rename_i e ox g1 g2
          split at hc
          · rename_i z zs hz hzs
            split at hc
            · rename_i hzl
              cases hc
              obtain ⟨v', w', q1, q2, q3⟩ := sclr_ok (P := P) (rt := o.type) (ox := ox) hT hW (und_ok hT g1) hz hzs hzl (ev_ok ht hg g2) (show mSclr h nx zs (ev t ox) = some s from hm)
              exact fin q1 q2 q3
            · cases hc
          · cases hc
        · cases hc
      · cases hc
    | len =>
      simp only [cMf] at hc
      split at hc
      · rename_i x ty r h1 h2
        split at hc
        · rename_i kt e ox g1 g2
          cases hc
          obtain ⟨v', w', q1, q2, q3⟩ := mlen_ok (P := P) (rt := o.type) (ats := ats) hW (by rw [← Array.getElem?_toList, h2]; rfl) (und_ok hT g1) (ev_ok ht hg g2) (show mMlen h nx (ev t ox) = some s from hm)
          refine finB rfl ?_ (Env.le_refl E) q2 q3
          rw [list1 h1]
          simp only [builtin, Sem.run_bind]
          rw [show (#[x] : Array Operand).map a.eval = #[a.eval x] by simp, q1]; rfl
        · cases hc
      · cases hc
    | _ => cases hc

include hT ht hg hW hX in
theorem mf_ok {o : Oper} {m : Mf} {s : MS} (hc : cMf X P o.op = some m) (hm : mf t h nx m = some s) : MOk CR P E w0 o a w s := by
  cases ho : o.op <;> rw [ho] at hc
  case alloc => exact m_alloc hT hW ho hc hm
  case box => exact m_box ht hg hW ho hc hm
  case buildSlice => exact m_buildSlice hT ht hg hW ho hc hm
  case load => exact m_load hT ht hg hW ho hc hm
  case store => exact m_store hT ht hg hW ho hc hm
  case makeSlice => exact m_makeSlice hT ht hg hW ho hc hm
  case slice => exact m_slice hT ht hg hW ho hc hm
  case makeMap => exact m_makeMap hT ht hg hW ho hc hm
  case lookup => exact m_lookup hT ht hg hW ho hc hm
  case mapUpdate => exact m_mapUpdate hT ht hg hW ho hc hm
  case insert => exact m_insert hT ht hg hW ho hc hm
  case mapEntry => exact m_mapEntry hT ht hg hW ho hc hm
  case entryStore => exact m_entryStore ht hg hW ho hc hm
  case range => exact m_range hT ht hg hW ho hc hm
  case next => exact m_next ht hg hW ho hc hm
  case entry => exact m_entry ht hg hW ho hc hm
  case convert => exact m_convert hT ht hg hW ho hc hm
  case call => exact m_call hT ht hg hW hX ho hc hm
  all_goals cases hc
end
end Go.Gh
