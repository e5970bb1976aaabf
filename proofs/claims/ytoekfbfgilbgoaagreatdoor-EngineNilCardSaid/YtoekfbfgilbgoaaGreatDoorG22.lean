/- Operations on maps: taken away, gone through; externs. -/
import Derived.Test.YtoekfbfgilbgoaaGreatDoorG21
import Derived.Laws.RangeString
import GoSem.Extern.MapsClone
import GoSem.Extern.BytealgIndexByte
namespace Go.Gh
set_option linter.unusedVariables false

section
variable {CR : Nat → Code → GC → Prop} {P : Program} {X : Cx} {N : Nat} {E : Env} {t : T GV} {a : Act} {w0 w : World} {h : T GO} {nx : Nat}
variable (hT : Tb P X.tb) (ht : TR E N t a.tmps) (hg : GL E X.ng) (hW : WR CR E w0 h nx w)

theorem mdel_ok (hW : WR CR E w0 h nx w) (hT : Tb P X.tb) {mt rt kt e : TypeId} {ats : Array TypeId} (ha : ats[0]? = some mt) (hu : und X.tb mt = some (.map kt e)) {k : KT} (hk : ktOf P X.tb kt = some k) {gm gk : GV} {M K : Value} (hrm : R E gm M) (hrk : R E gk K) {s : MS}
    (hm : mMdel h nx k gm gk = some s) : ∃ v' w', (Builtin.delete_ ats rt #[M, K]).run P w = .ok v' w' ∧ R E s.v v' ∧ WR CR E w0 s.h s.nx w' := by
  obtain ⟨hf, hm⟩ := okIf_some hm
  have hck := fun em => checkKey_ok (w := w) hT hk hf hrk em
  rcases onMap_some hm with ⟨ex, hm2⟩ | ⟨r, ex, hm2⟩
  · rw [ex] at hrm; simp only [R] at hrm; subst hrm
    cases hm2
    exact ⟨.tuple #[], w, by simp [Builtin.delete_, ha, run_und hT hu, hck], R.unit, hW⟩
  · rw [ex] at hrm; simp only [R] at hrm
    obtain ⟨cb, hmr, rfl⟩ := hrm
    obtain ⟨es, cl, hr, hm3⟩ := onMapO_some hm2
    obtain ⟨f, hfd, hm4⟩ := orec_some hm3
    obtain ⟨ces, q1, q2, q3⟩ := mapObj hW hr hmr
    obtain ⟨q, hq, hfo⟩ := find_ok (w := w) hT hk hrk q2 hfd
    unfold Builtin.delete_
    simp only [ha, List.getElem?_toArray, List.getElem?_cons_zero, List.getElem?_cons_succ, Sem.run_bind, run_und hT hu, Result.andThen_ok, run_getMap q1, hck, hq]
    cases f with
    | none =>
      cases hm4
      have := hfo.none_of; subst this
      have hset : (setObj cb (.map ces cl)).run P w = .ok () w := by
        rw [run_setObj_of q1 (fun _ _ _ h => by cases h)]
        have : w.putObj cb (.map ces cl) = w := by
          unfold World.putObj
          have hlt := heap_lt q1
          have e : w.heap.setIfInBounds cb (.map ces cl) = w.heap := by
            apply Array.ext
            · simp
            · intro j h1 h2
              rw [Array.getElem_setIfInBounds h2]
              split
              · rename_i e; subst e; exact ((Array.getElem?_eq_some_iff.1 q1).2).symm
              · rfl
          rw [e]
        rw [this]
      exact ⟨.tuple #[], w, by simp only [Sem.run_bind, hset, Result.andThen_ok, Sem.run_pure], R.unit, hW⟩
    | some p =>
      cases hm4
      obtain ⟨e', rfl, g1, g2, g3, g4⟩ := hfo.some_of
      have hlt : p.1 < ces.size := by have := (List.getElem?_eq_some_iff.1 g1).1; simpa using this
      obtain ⟨g5, g6⟩ := setMap_ok (P := P) hW hr hmr q1 q3 (cl' := cl) (es' := es.take p.1 ++ es.drop (Nat.succ p.1)) (ces' := ces.eraseIdxIfInBounds p.1) (by
        have : (ces.eraseIdxIfInBounds p.1).toList = ces.toList.take p.1 ++ ces.toList.drop (p.1 + 1) := by
          unfold Array.eraseIdxIfInBounds
          rw [dif_pos hlt, Array.toList_eraseIdx, List.eraseIdx_eq_take_drop_succ]
        rw [this]
        exact (q2.take p.1).append (q2.drop (p.1 + 1)))
      exact ⟨.tuple #[], _, by simp only [Sem.run_bind, g5, Result.andThen_ok, Sem.run_pure], R.unit, g6⟩

theorem mclr_ok (hW : WR CR E w0 h nx w) {mt rt : TypeId} {kt e : TypeId} {ats : Array TypeId} (ha : ats[0]? = some mt) (hu : P.underlying mt = some (.map kt e)) {gm : GV} {M : Value} (hrm : R E gm M) {s : MS}
    (hm : mMclr h nx gm = some s) : ∃ v' w', (Builtin.clear_ ats rt #[M]).run P w = .ok v' w' ∧ R E s.v v' ∧ WR CR E w0 s.h s.nx w' := by
  rcases onMap_some hm with ⟨ex, hm2⟩ | ⟨r, ex, hm2⟩
  · rw [ex] at hrm; simp only [R] at hrm; subst hrm
    cases hm2
    exact ⟨.tuple #[], w, by simp [Builtin.clear_, ha, run_underlying hu], R.unit, hW⟩
  · rw [ex] at hrm; simp only [R] at hrm
    obtain ⟨cb, hmr, rfl⟩ := hrm
    obtain ⟨es, cl, hr, hm3⟩ := onMapO_some hm2
    cases hm3
    obtain ⟨ces, q1, q2, q3⟩ := mapObj hW hr hmr
    obtain ⟨g5, g6⟩ := setMap_ok (P := P) hW hr hmr q1 q3 (cl' := cl) (es' := []) (ces' := #[]) (by simp only [ER])
    exact ⟨.tuple #[], _, by simp [Builtin.clear_, ha, run_underlying hu, run_getMap q1, g5], R.unit, g6⟩

theorem mlen_ok (hW : WR CR E w0 h nx w) {mt rt : TypeId} {kt e : TypeId} {ats : Array TypeId} (ha : ats[0]? = some mt) (hu : P.underlying mt = some (.map kt e)) {gm : GV} {M : Value} (hrm : R E gm M) {s : MS}
    (hm : mMlen h nx gm = some s) : ∃ v' w', (Builtin.len_ ats rt #[M]).run P w = .ok v' w' ∧ R E s.v v' ∧ WR CR E w0 s.h s.nx w' := by
  rcases onMap_some hm with ⟨ex, hm2⟩ | ⟨r, ex, hm2⟩
  · rw [ex] at hrm; simp only [R] at hrm; subst hrm
    cases hm2
    exact ⟨goInt 0, w, by simp [Builtin.len_, ha, run_underlying hu], R.mkInt _ _ _, hW⟩
  · rw [ex] at hrm; simp only [R] at hrm
    obtain ⟨cb, hmr, rfl⟩ := hrm
    obtain ⟨es, cl, hr, hm3⟩ := onMapO_some hm2
    cases hm3
    obtain ⟨ces, q1, q2, q3⟩ := mapObj hW hr hmr
    exact ⟨goInt ces.size, w, by simp [Builtin.len_, ha, run_underlying hu, run_getMap q1], by rw [← q2.length, Array.length_toList]; exact R.mkInt _ _ _, hW⟩

include hT ht hg hW in
theorem m_range {o : Oper} {ty : TypeId} {x : Operand} {m : Mf} {s : MS} (ho : o.op = .range ty x) (hc : cMf X P (.range ty x) = some m) (hm : mf t h nx m = some s) : MOk CR P E w0 o a w s := by
  have fin : ∀ {q : Obj} {gq : GO}, (Instr.range ty (a.eval x)).run P w = .ok (.pointer (some ⟨w.heap.size, 0, none⟩)) (w.alloc q) → (∀ E', E.le E' → E'.m nx = some (w.heap.size, 0) → OR CR E' w0.heap.size (w.alloc q) nx gq) →
      s = ⟨.ptr nx 0, h.set nx gq, Nat.succ nx⟩ → MOk CR P E w0 o a w s := by
    intro q gq h1 h2 h3
    obtain ⟨E', f1, f2, f3⟩ := newObj_ok hW (o := gq) q h2
    subst h3
    exact ⟨E', .pointer (some ⟨w.heap.size, 0, none⟩), _, .value (.pointer (some ⟨w.heap.size, 0, none⟩)), by simp only [execOp, ho, Sem.run_bind, h1, Result.andThen_ok, Sem.run_pure], .inl rfl, f1, by simpa using R.mkPtr (o := 0) f2, f3⟩
  have hnew : ∀ q, (w.alloc q).heap[w.heap.size]? = some q := fun q => World.alloc_heap_new w q
  simp only [cMf] at hc
  split at hc
  · rename_i k e ox hu hx
    cases hc
    have hr := ev_ok ht hg hx
    rcases onMap_some (show mRngm h nx (ev t ox) = some s from hm) with ⟨ex, hm2⟩ | ⟨r, ex, hm2⟩
    · rw [ex] at hr; simp only [R] at hr
      cases hm2
      exact fin (q := .mapIter none 0 #[] 0) (by rw [hr]; simp [Instr.range, run_und hT hu]) (fun E' hle hm => by
        simp only [OR]
        exact ⟨w.heap.size, none, hm, hnew _, hW.fr.size, trivial⟩) rfl
    · rw [ex] at hr; simp only [R] at hr
      obtain ⟨cb, hmr, hv⟩ := hr
      obtain ⟨es, cl, hr, hm3⟩ := onMapO_some hm2
      cases hm3
      obtain ⟨ces, q1, q2, q3⟩ := mapObj hW hr hmr
      exact fin (q := .mapIter (some cb) cl #[] cl) (by rw [hv]; simp [Instr.range, run_und hT hu, run_getMap q1]) (fun E' hle hm => by
        simp only [OR]
        exact ⟨w.heap.size, some cb, hm, hnew _, hW.fr.size, hle.1 _ _ hmr⟩) rfl
  · rename_i ox hu hx
    cases hc
    have hr := ev_ok ht hg hx
    obtain ⟨l, ex, hm2⟩ := onStr_some (show mRngs h nx (ev t ox) = some s from hm)
    rw [ex] at hr
    obtain ⟨hv, hl⟩ := R.str hr
    cases hm2
    exact fin (q := .stringIter (bs l) 0) (by rw [hv]; simp [Instr.range, run_und hT hu]) (fun E' hle hm => by
      simp only [OR]
      exact ⟨w.heap.size, hm, hnew _, hl, hW.fr.size⟩) rfl
  · cases hc

theorem R.over {E : Env} : R E (.tup [.bool false]) (.tuple #[.bool false]) := by simp only [R]; exact ⟨_, rfl, by simp only [RL]; exact ⟨_, [], rfl, R.tbool _, rfl⟩⟩
theorem R.triple {E : Env} {x y z : GV} {a b c : Value} (h1 : R E x a) (h2 : R E y b) (h3 : R E z c) : R E (.tup [x, y, z]) (.tuple #[a, b, c]) := by
  simp only [R]; exact ⟨_, rfl, by simp only [RL]; exact ⟨a, _, rfl, h1, b, _, rfl, h2, c, [], rfl, h3, rfl⟩⟩

theorem memN_eq (n : Nat) : ∀ l : List Nat, memN n l = l.contains n
  | [] => rfl
  | x :: l => by
    show (Bool.rec (memN n l) true (Nat.beq n x) : Bool) = _
    rw [List.contains_cons, memN_eq n l]
    cases hb : Nat.beq n x with
    | true => have := beq_t hb; subst this; simp
    | false => have := beq_f hb; rw [beq_eq_false_iff_ne.2 this]; simp
theorem leftOf_ok (seen : List Nat) : ∀ {es : List (GV × GV × Nat)} {ces : List MapEntry}, ER E es ces → ER E (leftOf seen es) (ces.filter fun e => !seen.contains e.born)
  | [], ces, h => by simp only [ER] at h; subst h; simp [leftOf, ER]
  | x :: es, ces, h => by
    simp only [ER] at h
    obtain ⟨e, ces', rfl, h1, h2, h3, h4⟩ := h
    have ih := leftOf_ok seen h4
    show ER E (Bool.rec (x :: leftOf seen es) (leftOf seen es) (memN x.2.2 seen) : List _) _
    rw [memN_eq, List.filter_cons, h3]
    cases seen.contains x.2.2 with
    | true => simpa using ih
    | false => simpa using (show ER E (x :: leftOf seen es) (e :: _) from ⟨e, _, rfl, h1, h2, h3, ih⟩)
theorem noneBelow_ok (b : Nat) : ∀ {es : List (GV × GV × Nat)} {ces : List MapEntry}, ER E es ces → noneBelow b es = ces.all fun e => decide (e.born ≥ b)
  | [], ces, h => by simp only [ER] at h; subst h; rfl
  | x :: es, ces, h => by
    simp only [ER] at h
    obtain ⟨e, ces', rfl, h1, h2, h3, h4⟩ := h
    show band (Nat.ble b x.2.2) (noneBelow b es) = _
    rw [List.all_cons, noneBelow_ok b h4, h3]
    cases hb : Nat.ble b x.2.2 with
    | true => have := ble_t hb; simp [band, this]
    | false => have := ble_f hb; simp [band]; omega

include ht hg hW in
theorem m_next {o : Oper} {x : Operand} {is : Bool} {m : Mf} {s : MS} (ho : o.op = .next x is) (hc : cMf X P (.next x is) = some m) (hm : mf t h nx m = some s) : MOk CR P E w0 o a w s := by
  simp only [cMf] at hc
  obtain ⟨ox, hx, rfl⟩ := Option.map_eq_some_iff.1 hc
  have hr := ev_ok ht hg hx
  have fin : ∀ {E' : Env} {v : Value} {w' : World}, (Instr.next (a.eval x) is o.type).run P w = .ok v w' → R E s.v v → WR CR E w0 s.h s.nx w' → MOk CR P E w0 o a w s := by
    intro E' v w' h1 h2 h3
    exact ⟨E, v, w', .value v, by simp only [execOp, ho, Sem.run_bind, h1, Result.andThen_ok, Sem.run_pure], .inl rfl, Env.le_refl E, h2, h3⟩
  cases is with
  | true =>
    obtain ⟨i, oo, ex, hm⟩ := onPtr_some (show mNxts h nx (ev t ox) = some s from hm)
    obtain ⟨ho0, hm⟩ := okIf_some hm
    have ho0 := beq_t ho0; subst ho0
    obtain ⟨l, p, hi, hm⟩ := onSiter_some hm
    rw [ex] at hr; simp only [R] at hr
    obtain ⟨cb, co, hmi, hv⟩ := hr
    have hob := hW.obj i _ hi
    simp only [OR] at hob
    obtain ⟨cb', q1, q2, q3, q4⟩ := hob
    rw [hmi] at q1; cases q1
    have hget := run_getObj_of (P := P) q2 (fun _ _ _ h => by cases h)
    cases hp : l[p]? with
    | none =>
      rw [hp] at hm; cases hm
      have hge : ¬ p < (bs l).size := by
        rw [bs_size]; intro hlt
        rw [List.getElem?_eq_getElem hlt] at hp; cases hp
      exact fin (E' := E) (v := .tuple #[.bool false]) (w' := w) (by rw [hv]; simp [Instr.next, hget, hge]) R.over hW
    | some c =>
      rw [hp] at hm
      obtain ⟨hlt, hm⟩ := okIf_some hm
      cases hm
      have hlt : c < 128 := ble_t hlt
      have hpl : p < l.length := (List.getElem?_eq_some_iff.1 hp).1
      have hpc : l[p] = c := (List.getElem?_eq_some_iff.1 hp).2
      have hps : p < (bs l).size := by rw [bs_size]; exact hpl
      have hbyte : ((bs l)[p]'hps).toNat = c := by
        have : (bs l)[p]'hps = UInt8.ofNat l[p] := by
          show (bs l).data[p]'_ = _
          simp only [bs, List.getElem_toArray, List.getElem_map]
        rw [this, hpc, UInt8.toNat_ofNat_of_lt' (show c < 256 by omega)]
      have hdec : Utf8.decode (bs l) p = (c, 1) := by
        rw [decode_ascii (bs l) p hps (by rw [hbyte]; exact hlt), hbyte]
      refine fin (E' := E) (v := .tuple #[.bool true, goInt p, .int .i32 c]) (w' := w.putObj cb (.stringIter (bs l) (p + 1))) ?_ (R.triple (R.tbool _) (R.mkInt _ _ _) (R.mkInt _ _ _)) ?_
      · rw [hv]
        simp only [Instr.next, Sem.run_bind, Nat.add_zero, hget, Result.andThen_ok, hps, if_true, hdec, run_setObj_of q2 (fun _ _ _ h => by cases h), Sem.run_pure]
      · refine updObj_ok hW hi hmi q2 (fun _ _ _ h => by cases h) q4 ?_
        simp only [OR]
        exact ⟨cb, hmi, World.putObj_heap_same (heap_lt q2), q3, q4⟩
  | false =>
    obtain ⟨i, oo, ex, hm⟩ := onPtr_some (show mNxtm h nx (ev t ox) = some s from hm)
    obtain ⟨ho0, hm⟩ := okIf_some hm
    have ho0 := beq_t ho0; subst ho0
    obtain ⟨mp, since, seen, last, hi, hm⟩ := onMiter_some hm
    rw [ex] at hr; simp only [R] at hr
    obtain ⟨cb, co, hmi, hv⟩ := hr
    have hob := hW.obj i _ hi
    simp only [OR] at hob
    obtain ⟨cb', cm, q1, q2, q3, q4⟩ := hob
    rw [hmi] at q1; cases q1
    have hget := run_getObj_of (P := P) q2 (fun _ _ _ h => by cases h)
    cases mp with
    | none =>
      cases hm
      cases cm with
      | some c => exact q4.elim
      | none => exact fin (E' := E) (v := .tuple #[.bool false]) (w' := w) (by rw [hv]; simp [Instr.next, hget]) R.over hW
    | some r =>
      cases cm with
      | none => exact q4.elim
      | some cr =>
        obtain ⟨es, cl, hr, hm⟩ := onMapO_some hm
        obtain ⟨ces, g1, g2, g3⟩ := mapObj hW hr q4
        obtain ⟨hbad, hm⟩ := okIf_some hm
        have hgood : (!seen.toArray.isEmpty && !ces.isEmpty && ces.all (fun e => decide (e.born ≥ last))) = false := by
          have e1 : noneBelow last es = ces.all (fun e => decide (e.born ≥ last)) := by rw [noneBelow_ok last g2, Array.all_toList]
          have e2 : es.isEmpty = ces.isEmpty := by
            have := g2.length
            rw [Array.length_toList] at this
            cases es with
            | nil => simp at this; simp [this]
            | cons x es =>
              simp only [List.length_cons] at this
              have : ces.isEmpty = false := by rw [Array.isEmpty_eq_false_iff]; intro h0; rw [h0] at this; simp at this
              rw [this]; rfl
          have hbad : bnot (band (bnot seen.isEmpty) (band (bnot es.isEmpty) (noneBelow last es))) = true := hbad
          rw [e1, e2] at hbad
          have e3 : seen.toArray.isEmpty = seen.isEmpty := by simp
          rw [e3]
          revert hbad
          cases seen.isEmpty <;> cases ces.isEmpty <;> cases ces.all (fun e => decide (e.born ≥ last)) <;> intro hb <;> first | rfl | cases hb
        have hleft := leftOf_ok seen g2
        have hfil : (ces.filter fun e => !seen.toArray.contains e.born).toList = ces.toList.filter fun e => !seen.contains e.born := by
          rw [Array.toList_filter]; simp
        rw [← hfil] at hleft
        generalize hlf : (ces.filter fun e => !seen.toArray.contains e.born) = left at hleft
        have hlf' := hlf
        cases hlo : leftOf seen es with
        | nil =>
          rw [hlo] at hm hleft; cases hm
          simp only [ER] at hleft
          have hle : left = #[] := by rw [← Array.toList_inj, hleft]
          subst hle
          refine fin (E' := E) (v := .tuple #[.bool false]) (w' := w) ?_ R.over hW
          rw [hv]
          simp only [Instr.next, Sem.run_bind, Nat.add_zero, hget, Result.andThen_ok, run_getMap g1, hgood, Bool.false_eq_true, if_false, hlf]
          simp [Question.forced]
        | cons x rest =>
          rw [hlo] at hm hleft
          obtain ⟨hcond, hm⟩ := okIf_some hm
          cases hm
          obtain ⟨hrest, hlt⟩ := band_t hcond
          have hlt : x.2.2 < since := ble_t hlt
          have hrest : rest = [] := by simpa using hrest
          subst hrest
          simp only [ER] at hleft
          obtain ⟨e, r', hl1, h1, h2, h3, rfl⟩ := hleft
          have hle : left = #[e] := by rw [← Array.toList_inj, hl1]
          subst hle
          refine fin (E' := E) (v := .tuple #[.bool true, e.key, e.val]) (w' := w.putObj cb (.mapIter (some cr) since (seen.toArray.push e.born) cl)) ?_ (R.triple (R.tbool _) h1 h2) ?_
          · rw [hv]
            simp only [Instr.next, Sem.run_bind, Nat.add_zero, hget, Result.andThen_ok, run_getMap g1, hgood, Bool.false_eq_true, if_false, hlf]
            have e1 : e.born < since := by omega
            have e2 : ¬ since ≤ e.born := by omega
            simp [Question.forced, e1, e2, run_setObj_of q2 (fun _ _ _ h => by cases h)]
          · refine updObj_ok hW hi hmi q2 (fun _ _ _ h => by cases h) q3 ?_
            simp only [OR]
            refine ⟨cb, some cr, hmi, ?_, q3, q4⟩
            rw [World.putObj_heap_same (heap_lt q2), h3]; simp

include ht hg hW in
theorem m_entry {o : Oper} {x : Operand} {m : Mf} {s : MS} (ho : o.op = .entry x) (hc : cMf X P (.entry x) = some m) (hm : mf t h nx m = some s) : MOk CR P E w0 o a w s := by
  simp only [cMf] at hc
  obtain ⟨ox, hx, rfl⟩ := Option.map_eq_some_iff.1 hc
  have hr := ev_ok ht hg hx
  obtain ⟨i, oo, ex, hm⟩ := onPtr_some (show mEntry h nx (ev t ox) = some s from hm)
  obtain ⟨ho0, hm⟩ := okIf_some hm
  have ho0 := beq_t ho0; subst ho0
  obtain ⟨mp, since, seen, last, hi, hm⟩ := onMiter_some hm
  obtain ⟨r, rfl, hm⟩ := orec_some hm
  rw [ex] at hr; simp only [R] at hr
  obtain ⟨cb, co, hmi, hv⟩ := hr
  have hob := hW.obj i _ hi
  simp only [OR] at hob
  obtain ⟨cb', cm, q1, q2, q3, q4⟩ := hob
  rw [hmi] at q1; cases q1
  have hget := run_getObj_of (P := P) q2 (fun _ _ _ h => by cases h)
  cases cm with
  | none => exact q4.elim
  | some cr =>
    obtain ⟨es, cl, hr, hm⟩ := onMapO_some hm
    obtain ⟨ces, g1, g2, g3⟩ := mapObj hW hr q4
    obtain ⟨hcl, hm5⟩ := okIf_some hm
    have hcl := beq_t hcl; subst hcl
    obtain ⟨b, hb, hm6⟩ := orec_some hm5
    obtain ⟨p, hp, hm7⟩ := orec_some hm6
    cases hm7
    obtain ⟨f1, e, f2, f3, f4, f5, f6, f7⟩ := bfind_ok b es ces.toList 0 p g2 hp
    have hback : seen.toArray.back? = some b := by rw [← hb]; simp
    have hfind : ces.find? (fun e => e.born == b) = some e := by rw [← Array.find?_toList]; exact f6
    refine ⟨E, .tuple #[e.key, e.val], w, .value _, ?_, .inl rfl, Env.le_refl E, R.pair f3 f4, hW⟩
    simp only [execOp, ho, hv, Instr.entry, Sem.run_bind, Nat.add_zero, hget, Result.andThen_ok, hback, run_getMap g1, hfind, Sem.run_pure]
    simp
end
end Go.Gh
