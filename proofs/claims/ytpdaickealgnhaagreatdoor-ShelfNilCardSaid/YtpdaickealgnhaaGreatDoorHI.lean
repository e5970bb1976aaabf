/- Operations on maps: taken away, gone through; externs. -/
import Derived.Test.YtpdaickealgnhaaGreatDoorHH
import Derived.Laws.RangeString
import GoSem.Extern.MapsClone
import GoSem.Extern.BytealgIndexByte
namespace Go.Gh
set_option linter.unusedVariables false

section
variable {CR : Nat → Code → GC → Prop} {P : Program} {X : Cx} {N : Nat} {E : Env} {t : T GV} {a : Act} {w0 w : World} {h : T GO} {nx : Nat}
variable (hT : Tb P X.tb) (ht : TR E N t a.tmps) (hg : GL E X.ng) (hW : WR CR E w0 h nx w)

theorem mdel_ok (hW : WR CR E w0 h nx w) (hT : Tb P X.tb) {mt rt kt e : TypeId} {ats : Array TypeId} (ha : ats[0]? = some mt) (hu : und X.tb mt = some (.map kt e)) {k : KT} (hk : ktOf P X.tb kt = some k) {gm gk : GV} {M K : Value} (hrm : R E gm M) (hrk : R E gk K) {s : MS}
    (hm : mMdel h nx k gm gk = some s) : ∃ v' w', (Builtin.delete_ ats rt #[M, K]).run P w = .ok v' w' ∧ R E s.v v' ∧ WR CR E w0 s.h s.nx w' := by
  obtain ⟨hf, hm⟩ := okIf_some hm
  have hck := fun em => checkKey_ok (w := w) hT hk hf hrk em
  rcases onMap_some hm with ⟨ex, hm2⟩ | ⟨r, ex, hm2⟩
  · rw [ex] at hrm; simp only [R] at hrm; subst hrm
    cases hm2
    exact ⟨.tuple #[], w, by simp [Builtin.delete_, ha, run_und hT hu, hck], R.unit, hW⟩
  · rw [ex] at hrm; simp only [R] at hrm
    obtain ⟨cb, hmr, rfl⟩ := hrm
    obtain ⟨es, cl, hr, hm3⟩ := onMapO_some hm2
    obtain ⟨f, hfd, hm4⟩ := orec_some hm3
    obtain ⟨ces, q1, q2, q3⟩ := mapObj hW hr hmr
    obtain ⟨q, hq, hfo⟩ := find_ok (w := w) hT hk hrk q2 hfd
    unfold Builtin.delete_
    simp only [ha, List.getElem?_toArray, List.getElem?_cons_zero, List.getElem?_cons_succ, Sem.run_bind, run_und hT hu, Result.andThen_ok, run_getMap q1, hck, hq]
    cases f with
    | none =>
      cases hm4
      have := hfo.none_of; subst this
      have hset : (setObj cb (.map ces cl)).run P w = .ok () w := by
        rw [run_setObj_of q1 (fun _ _ _ h => by cases h)]
        have : w.putObj cb (.map ces cl) = w := by
          unfold World.putObj
          have hlt := heap_lt q1
          have e : w.heap.setIfInBounds cb (.map ces cl) = w.heap := by
            apply Array.ext
            · simp
            · intro j h1 h2
              rw [Array.getElem_setIfInBounds h2]
              split
              · rename_i e; subst e; exact ((Array.getElem?_eq_some_iff.1 q1).2).symm
              · rfl
          rw [e]
        rw [this]
      exact ⟨.tuple #[], w, by simp only [Sem.run_bind, hset, Result.andThen_ok, Sem.run_pure], R.unit, hW⟩
    | some p =>
      cases hm4
      obtain ⟨e', rfl, g1, g2, g3, g4⟩ := hfo.some_of
      have hlt : p.1 < ces.size := by have := (List.getElem?_eq_some_iff.1 g1).1; simpa using this
      obtain ⟨g5, g6⟩ := setMap_ok (P := P) hW hr hmr q1 q3 (cl' := cl) (es' := es.take p.1 ++ es.drop (Nat.succ p.1)) (ces' := ces.eraseIdxIfInBounds p.1) (by
        have : (ces.eraseIdxIfInBounds p.1).toList = ces.toList.take p.1 ++ ces.toList.drop (p.1 + 1) := by
          unfold Array.eraseIdxIfInBounds
          rw [dif_pos hlt, Array.toList_eraseIdx, List.eraseIdx_eq_take_drop_succ]
        rw [this]
        exact (q2.take p.1).append (q2.drop (p.1 + 1)))
      exact ⟨.tuple #[], _, by simp only [Sem.run_bind, g5, Result.andThen_ok, Sem.run_pure], R.unit, g6⟩

theorem mclr_ok (hW : WR CR E w0 h nx w) {mt rt : TypeId} {kt e : TypeId} {ats : Array TypeId} (ha : ats[0]? = some mt) (hu : P.underlying mt = some (.map kt e)) {gm : GV} {M : Value} (hrm : R E gm M) {s : MS}
    (hm : mMclr h nx gm = some s) : ∃ v' w', (Builtin.clear_ ats rt #[M]).run P w = .ok v' w' ∧ R E s.v v' ∧ WR CR E w0 s.h s.nx w' := by
  rcases onMap_some hm with ⟨ex, hm2⟩ | ⟨r, ex, hm2⟩
  · rw [ex] at hrm; simp only [R] at hrm; subst hrm
    cases hm2
    exact ⟨.tuple #[], w, by simp [Builtin.clear_, ha, run_underlying hu], R.unit, hW⟩
  · rw [ex] at hrm; simp only [R] at hrm
    obtain ⟨cb, hmr, rfl⟩ := hrm
    obtain ⟨es, cl, hr, hm3⟩ := onMapO_some hm2
    cases hm3
    obtain ⟨ces, q1, q2, q3⟩ := mapObj hW hr hmr
    obtain ⟨g5, g6⟩ := setMap_ok (P := P) hW hr hmr q1 q3 (cl' := cl) (es' := []) (ces' := #[]) (by simp only [ER])
    exact ⟨.tuple #[], _, by simp [Builtin.clear_, ha, run_underlying hu, run_getMap q1, g5], R.unit, g6⟩

theorem mlen_ok (hW : WR CR E w0 h nx w) {mt rt : TypeId} {kt e : TypeId} {ats : Array TypeId} (ha : ats[0]? = some mt) (hu : P.underlying mt = some (.map kt e)) {gm : GV} {M : Value} (hrm : R E gm M) {s : MS}
    (hm : mMlen h nx gm = some s) : ∃ v' w', (Builtin.len_ ats rt #[M]).run P w = .ok v' w' ∧ R E s.v v' ∧ WR CR E w0 s.h s.nx w' := by
  rcases onMap_some hm with ⟨ex, hm2⟩ | ⟨r, ex, hm2⟩
  · rw [ex] at hrm; simp only [R] at hrm; subst hrm
    cases hm2
    exact ⟨goInt 0, w, by simp [Builtin.len_, ha, run_underlying hu], R.mkInt _ _ _, hW⟩
  · rw [ex] at hrm; simp only [R] at hrm
    obtain ⟨cb, hmr, rfl⟩ := hrm
    obtain ⟨es, cl, hr, hm3⟩ := onMapO_some hm2
    cases hm3
    obtain ⟨ces, q1, q2, q3⟩ := mapObj hW hr hmr
    exact ⟨goInt ces.size, w, by simp [Builtin.len_, ha, run_underlying hu, run_getMap q1], by rw [← q2.length, Array.length_toList]; exact R.mkInt _ _ _, hW⟩

include hT ht hg hW in
theorem m_range {o : Oper} {ty : TypeId} {x : Operand} {m : Mf} {s : MS} (ho : o.op = .range ty x) (hc : cMf X P (.range ty x) = some m) (hm : mf t h nx m = some s) : MOk CR P E w0 o a w s := by
  have fin : ∀ {q : Obj} {gq : GO}, (Instr.range ty (a.eval x)).run P w = .ok (.pointer (some ⟨w.heap.size, 0, none⟩)) (w.alloc q) → (∀ E', E.le E' → E'.m nx = some (w.heap.size, 0) → OR CR E' w0.heap.size (w.alloc q) nx gq) →
      s = ⟨.ptr nx 0, h.set nx gq, Nat.succ nx⟩ → MOk CR P E w0 o a w s := by
    intro q gq h1 h2 h3
    obtain ⟨E', f1, f2, f3⟩ := newObj_ok hW (o := gq) q h2
    subst h3
    exact ⟨E', .pointer (some ⟨w.heap.size, 0, none⟩), _, .value (.pointer (some ⟨w.heap.size, 0, none⟩)), by simp only [execOp, ho, Sem.run_bind, h1, Result.andThen_ok, Sem.run_pure], .inl rfl, f1, by simpa using R.mkPtr (o := 0) f2, f3⟩
  have hnew : ∀ q, (w.alloc q).heap[w.heap.size]? = some q := fun q => World.alloc_heap_new w q
  simp only [cMf] at hc
  split at hc
  · rename_i k e ox hu hx
    cases hc
    have hr := ev_ok ht hg hx
    rcases onMap_some (show mRngm h nx (ev t ox) = some s from hm) with ⟨ex, hm2⟩ | ⟨r, ex, hm2⟩
    · rw [ex] at hr; simp only [R] at hr
      cases hm2
      exact fin (q := .mapIter none 0 #[] 0) (by rw [hr]; simp [Instr.range, run_und hT hu]) (fun E' hle hm => by
        simp only [OR]
        exact ⟨w.heap.size, none, hm, hnew _, hW.fr.size, trivial⟩) rfl
    · rw [ex] at hr; simp only [R] at hr
      obtain ⟨cb, hmr, hv⟩ := hr
      obtain ⟨es, cl, hr, hm3⟩ := onMapO_some hm2
      cases hm3
      obtain ⟨ces, q1, q2, q3⟩ := mapObj hW hr hmr
      exact fin (q := .mapIter (some cb) cl #[] cl) (by rw [hv]; simp [Instr.range, run_und hT hu, run_getMap q1]) (fun E' hle hm => by
        simp only [OR]
        exact ⟨w.heap.size, some cb, hm, hnew _, hW.fr.size, hle.1 _ _ hmr⟩) rfl
  · rename_i ox hu hx
    cases hc
    have hr := ev_ok ht hg hx
    obtain ⟨l, ex, hm2⟩ := onStr_some (show mRngs h nx (ev t ox) = some s from hm)
    rw [ex] at hr
    obtain ⟨hv, hl⟩ := R.str hr
    cases hm2
    exact fin (q := .stringIter (bs l) 0) (by rw [hv]; simp [Instr.range, run_und hT hu]) (fun E' hle hm => by
      simp only [OR]
      exact ⟨w.heap.size, hm, hnew _, hl, hW.fr.size⟩) rfl
  · cases hc

theorem R.over {E : Env} : R E (.tup [.bool false]) (.tuple #[.bool false]) := by simp only [R]; exact ⟨_, rfl, by simp only [RL]; exact ⟨_, [], rfl, R.tbool _, rfl⟩⟩
theorem R.triple {E : Env} {x y z : GV} {a b c : Value} (h1 : R E x a) (h2 : R E y b) (h3 : R E z c) : R E (.tup [x, y, z]) (.tuple #[a, b, c]) := by
  simp only [R]; exact ⟨_, rfl, by simp only [RL]; exact ⟨a, _, rfl, h1, b, _, rfl, h2, c, [], rfl, h3, rfl⟩⟩

theorem memN_eq (n : Nat) : ∀ l : List Nat, memN n l = l.contains n
  | [] => rfl
  | x :: l => by
    show (Bool.rec (memN n l) true (Nat.beq n x) : Bool) = _
    rw [List.contains_cons, memN_eq n l]
    cases hb : Nat.beq n x with
    | true => have := beq_t hb; subst this; simp
    | false => have := beq_f hb; rw [beq_eq_false_iff_ne.2 this]; simp
theorem leftOf_ok (seen : List Nat) : ∀ {es : List (GV × GV × Nat)} {ces : List MapEntry}, ER E es ces → ER E (leftOf seen es) (ces.filter fun e => !seen.contains e.born)
  | [], ces, h => by simp only [ER] at h; subst h; simp [leftOf, ER]
  | x :: es, ces, h => by
    simp only [ER] at h
    obtain ⟨e, ces', rfl, h1, h2, h3, h4⟩ := h
    have ih := leftOf_ok seen h4
    show ER E (Bool.rec (x :: leftOf seen es) (leftOf seen es) (memN x.2.2 seen) : List _) _
    rw [memN_eq, List.filter_cons, h3]
    cases seen.contains x.2.2 with
    | true => simpa using ih
    | false => simpa using (show ER E (x :: leftOf seen es) (e :: _) from ⟨e, _, rfl, h1, h2, h3, ih⟩)
theorem noneBelow_ok (b : Nat) : ∀ {es : List (GV × GV × Nat)} {ces : List MapEntry}, ER E es ces → noneBelow b es = ces.all fun e => decide (e.born ≥ b)
  | [], ces, h => by simp only [ER] at h; subst h; rfl
  | x :: es, ces, h => by
    simp only [ER] at h
    obtain ⟨e, ces', rfl, h1, h2, h3, h4⟩ := h
    show band (Nat.ble b x.2.2) (noneBelow b es) = _
    rw [List.all_cons, noneBelow_ok b h4, h3]
    cases hb : Nat.ble b x.2.2 with
    | true => have := ble_t hb; simp [band, this]
    | false => have := ble_f hb; simp [band]; omega

include ht hg hW in
theorem m_next {o : Oper} {x : Operand} {is : Bool} {m : Mf} {s : MS} (ho : o.op = .next x is) (hc : cMf X P (.next x is) = some m) (hm : mf t h nx m = some s) : MOk CR P E w0 o a w s := by
  simp only [cMf] at hc
  obtain ⟨ox, hx, rfl⟩ := Option.map_eq_some_iff.1 hc
  have hr := ev_ok ht hg hx
  have fin : ∀ {E' : Env} {v : Value} {w' : World}, (Instr.next (a.eval x) is o.type).run P w = .ok v w' → R E s.v v → WR CR E w0 s.h s.nx w' → MOk CR P E w0 o a w s := by
    intro E' v w' h1 h2 h3
    exact ⟨E, v, w', .value v, by simp only [execOp, ho, Sem.run_bind, h1, Result.andThen_ok, Sem.run_pure], .inl rfl, Env.le_refl E, h2, h3⟩
  cases is with
  | true =>
    obtain ⟨i, oo, ex, hm⟩ := onPtr_some (show mNxts h nx (ev t ox) = some s from hm)
    obtain ⟨ho0, hm⟩ := okIf_some hm
    have ho0 := beq_t ho0; subst ho0
    obtain ⟨l, p, hi, hm⟩ := onSiter_some hm
    rw [ex] at hr; simp only [R] at hr
    obtain ⟨cb, co, hmi, hv⟩ := hr
    have hob := hW.obj i _ hi
    simp only [OR] at hob
    obtain ⟨cb', q1, q2, q3, q4⟩ := hob
    rw [hmi] at q1; cases q1
    have hget := run_getObj_of (P := P) q2 (fun _ _ _ h => by cases h)
    cases hp : l[p]? with
    | none =>
      rw [hp] at hm; cases hm
      have hge : ¬ p < (bs l).size := by
        rw [bs_size]; intro hlt
        rw [List.getElem?_eq_getElem hlt] at hp; cases hp
      exact fin (E' := E) (v := .tuple #[.bool false]) (w' := w) (by rw [hv]; simp [Instr.next, hget, hge]) R.over hW
    | some c =>
      rw [hp] at hm
      obtain ⟨hlt, hm⟩ := okIf_some hm
      cases hm
      have hlt : c < 128 := ble_t hlt
      have hpl : p < l.length := (List.getElem?_eq_some_iff.1 hp).1
      have hpc : l[p] = c := (List.getElem?_eq_some_iff.1 hp).2
      have hps : p < (bs l).size := by rw [bs_size]; exact hpl
      have hbyte : ((bs l)[p]'hps).toNat = c := by
        have : (bs l)[p]'hps = UInt8.ofNat l[p] := by
          show (bs l).data[p]'_ = _
          simp only [bs, List.getElem_toArray, List.getElem_map]
        rw [this, hpc, UInt8.toNat_ofNat_of_lt' (show c < 256 by omega)]
      have hdec : Utf8.decode (bs l) p = (c, 1) := by
        rw [decode_ascii (bs l) p hps (by rw [hbyte]; exact hlt), hbyte]
      refine fin (E' := E) (v := .tuple #[.bool true, goInt p, .int .i32 c]) (w' := w.putObj cb (.stringIter (bs l) (p + 1))) ?_ (R.triple (R.tbool _) (R.mkInt _ _ _) (R.mkInt _ _ _)) ?_
      · rw [hv]
        simp only [Instr.next, Sem.run_bind, Nat.add_zero, hget, Result.andThen_ok, hps, if_true, hdec, run_setObj_of q2 (fun _ _ _ h => by cases h), Sem.run_pure]
      · refine updObj_ok hW hi hmi q2 (fun _ _ _ h => by cases h) q4 ?_
        simp only [OR]
        exact ⟨cb, hmi, World.putObj_heap_same (heap_lt q2), q3, q4⟩
  | false =>
    obtain ⟨i, oo, ex, hm⟩ := onPtr_some (show mNxtm h nx (ev t ox) = some s from hm)
    obtain ⟨ho0, hm⟩ := okIf_some hm
    have ho0 := beq_t ho0; subst ho0
    obtain ⟨mp, since, seen, last, hi, hm⟩ := onMiter_some hm
    rw [ex] at hr; simp only [R] at hr
    obtain ⟨cb, co, hmi, hv⟩ := hr
    have hob := hW.obj i _ hi
    simp only [OR] at hob
    obtain ⟨cb', cm, q1, q2, q3, q4⟩ := hob
    rw [hmi] at q1; cases q1
    have hget := run_getObj_of (P := P) q2 (fun _ _ _ h => by cases h)
    cases mp with
    | none =>
      cases hm
      cases cm with
      | some c => exact q4.elim
      | none => exact fin (E' := E) (v := .tuple #[.bool false]) (w' := w) (by rw [hv]; simp [Instr.next, hget]) R.over hW
    | some r =>
      cases cm with
      | none => exact q4.elim
      | some cr =>
        obtain ⟨es, cl, hr, hm⟩ := onMapO_some hm
        obtain ⟨ces, g1, g2, g3⟩ := mapObj hW hr q4
        obtain ⟨hbad, hm⟩ := okIf_some hm
        have hgood : (!seen.toArray.isEmpty && !ces.isEmpty && ces.all (fun e => decide (e.born ≥ last))) = false := by
          have e1 : noneBelow last es = ces.all (fun e => decide (e.born ≥ last)) := by rw [noneBelow_ok last g2, Array.all_toList]
          have e2 : es.isEmpty = ces.isEmpty := by
            have := g2.length
            rw [Array.length_toList] at this
            cases es with
            | nil => simp at this; simp [this]
            | cons x es =>
              simp only [List.length_cons] at this
              have : ces.isEmpty = false := by rw [Array.isEmpty_eq_false_iff]; intro h0; rw [h0] at this; simp at this
              rw [this]; rfl
          have hbad : bnot (band (bnot seen.isEmpty) (band (bnot es.isEmpty) (noneBelow last es))) = true := hbad
          rw [e1, e2] at hbad
          have e3 : seen.toArray.isEmpty = seen.isEmpty := by simp
          rw [e3]
          revert hbad
          cases seen.isEmpty <;> cases ces.isEmpty <;> cases ces.all (fun e => decide (e.born ≥ last)) <;> intro hb <;> first | rfl | cases hb
        have hleft := leftOf_ok seen g2
        have hfil : (ces.filter fun e => !seen.toArray.contains e.born).toList = ces.toList.filter fun e => !seen.contains e.born := by
          rw [Array.toList_filter]; simp
        rw [← hfil] at hleft
        generalize hlf : (ces.filter fun e => !seen.toArray.contains e.born) = left at hleft
        have hlf' := hlf
        cases hlo : leftOf seen es with
        | nil =>
          rw [hlo] at hm hleft; cases hm
          simp only [ER] at hleft
          have hle : left = #[] := by rw [← Array.toList_inj, hleft]
          subst hle
          refine fin (E' := E) (v := .tuple #[.bool false]) (w' := w) ?_ R.over hW
          rw [hv]
          simp only [Instr.next, Sem.run_bind, Nat.add_zero, hget, Result.andThen_ok, run_getMap g1, hgood, Bool.false_eq_true, if_false, hlf]
          simp [Question.forced]
        | cons x rest =>
          rw [hlo] at hm hleft
          obtain ⟨hcond, hm⟩ := okIf_some hm
          cases hm
          obtain ⟨hrest, hlt⟩ := band_t hcond
          have hlt : x.2.2 < since := ble_t hlt
          have hrest : rest = [] := by simpa using hrest
          subst hrest
          simp only [ER] at hleft
          obtain ⟨e, r', hl1, h1, h2, h3, rfl⟩ := hleft
          have hle : left = #[e] := by rw [← Array.toList_inj, hl1]
          subst hle
          refine fin (E' := E) (v := .tuple #[.bool true, e.key, e.val]) (w' := w.putObj cb (.mapIter (some cr) since (seen.toArray.push e.born) cl)) ?_ (R.triple (R.tbool _) h1 h2) ?_
          · rw [hv]
            simp only [Instr.next, Sem.run_bind, Nat.add_zero, hget, Result.andThen_ok, run_getMap g1, hgood, Bool.false_eq_true, if_false, hlf]
            have e1 : e.born < since := by omega
            have e2 : ¬ since ≤ e.born := by omega
            simp [Question.forced, e1, e2, run_setObj_of q2 (fun _ _ _ h => by cases h)]
          · refine updObj_ok hW hi hmi q2 (fun _ _ _ h => by cases h) q3 ?_
            simp only [OR]
            refine ⟨cb, some cr, hmi, ?_, q3, q4⟩
            rw [World.putObj_heap_same (heap_lt q2), h3]; simp

include ht hg hW in
theorem m_entry {o : Oper} {x : Operand} {m : Mf} {s : MS} (ho : o.op = .entry x) (hc : cMf X P (.entry x) = some m) (hm : mf t h nx m = some s) : MOk CR P E w0 o a w s := by
  simp only [cMf] at hc
  obtain ⟨ox, hx, rfl⟩ := Option.map_eq_some_iff.1 hc
  have hr := ev_ok ht hg hx
  obtain ⟨i, oo, ex, hm⟩ := onPtr_some (show mEntry h nx (ev t ox) = some s from hm)
  obtain ⟨ho0, hm⟩ := okIf_some hm
  have ho0 := beq_t ho0; subst ho0
  obtain ⟨mp, since, seen, last, hi, hm⟩ := onMiter_some hm
  obtain ⟨r, rfl, hm⟩ := orec_some hm
  rw [ex] at hr; simp only [R] at hr
  obtain ⟨cb, co, hmi, hv⟩ := hr
  have hob := hW.obj i _ hi
  simp only [OR] at hob
  obtain ⟨cb', cm, q1, q2, q3, q4⟩ := hob
  rw [hmi] at q1; cases q1
  have hget := run_getObj_of (P := P) q2 (fun _ _ _ h => by cases h)
  cases cm with
  | none => exact q4.elim
  | some cr =>
    obtain ⟨es, cl, hr, hm⟩ := onMapO_some hm
    obtain ⟨ces, g1, g2, g3⟩ := mapObj hW hr q4
    obtain ⟨hcl, hm5⟩ := okIf_some hm
    have hcl := beq_t hcl; subst hcl
    obtain ⟨b, hb, hm6⟩ := orec_some hm5
    obtain ⟨p, hp, hm7⟩ := orec_some hm6
    cases hm7
    obtain ⟨f1, e, f2, f3, f4, f5, f6, f7⟩ := bfind_ok b es ces.toList 0 p g2 hp
    have hback : seen.toArray.back? = some b := by rw [← hb]; simp
    have hfind : ces.find? (fun e => e.born == b) = some e := by rw [← Array.find?_toList]; exact f6
    refine ⟨E, .tuple #[e.key, e.val], w, .value _, ?_, .inl rfl, Env.le_refl E, R.pair f3 f4, hW⟩
    simp only [execOp, ho, hv, Instr.entry, Sem.run_bind, Nat.add_zero, hget, Result.andThen_ok, hback, run_getMap g1, hfind, Sem.run_pure]
    simp
end
end Go.Gh

/- Builtins and externs; every operation on memory. -/
namespace Go.Gh
set_option linter.unusedVariables false

/-- What the externs of the run do. -/
def exRun (e : EX) (args : Array Value) : Sem Value := match e with | .clone => Extern.MapsClone.clone args | .ixb => Extern.BytealgIndexByte.indexByte args
def ExOk (P : Program) (X : Cx) : Prop := ∀ f e, X.ex.get f = some e → ∀ args w, (callFunc f args).run P w = (do pure (.value (← exRun e args)) : Sem Next).run P w

section
variable {CR : Nat → Code → GC → Prop} {P : Program} {X : Cx} {N : Nat} {E : Env} {t : T GV} {a : Act} {w0 w : World} {h : T GO} {nx : Nat}

theorem mclone_ok (hW : WR CR E w0 h nx w) {g : GV} {V : Value} (hr : R E g V) {s : MS} (hm : mClone h nx g = some s) :
    ∃ E' v' w', (Extern.MapsClone.clone #[V]).run P w = .ok v' w' ∧ E.le E' ∧ R E' s.v v' ∧ WR CR E' w0 s.h s.nx w' := by
  rcases onIf_some hm with ⟨_, hm2⟩ | ⟨ty, x, rfl, hm2⟩
  · cases hm2
  · simp only [R] at hr
    obtain ⟨y, rfl, hr⟩ := hr
    rcases onMap_some hm2 with ⟨_, hm3⟩ | ⟨r, ex, hm3⟩
    · cases hm3
    · rw [ex] at hr; simp only [R] at hr
      obtain ⟨cb, hmr, rfl⟩ := hr
      obtain ⟨es, cl, hr, hm4⟩ := onMapO_some hm3
      cases hm4
      obtain ⟨ces, q1, q2, q3⟩ := mapObj hW hr hmr
      obtain ⟨E', f1, f2, f3⟩ := newObj_ok hW (o := .map es cl) (.map ces cl) (fun E' hle hm => by
        simp only [OR]
        exact ⟨w.heap.size, ces, hm, World.alloc_heap_new w _, q2.mono hle, hW.fr.size⟩)
      refine ⟨E', .iface ty (.map (some w.heap.size)), w.alloc (.map ces cl), ?_, f1, ?_, f3⟩
      · change (Sem.run P (do
          let .map entries clock ← getObj cb | stuck "maps.clone: a map expected"
          pure (Value.iface ty (.map (some (← newObj (.map entries clock)))))) w) = _
        simp only [Sem.run_bind, run_getMap q1, Result.andThen_ok, run_newObj_alloc, Sem.run_pure]
      · simp only [R]; exact ⟨_, rfl, R.mkMap f2⟩

theorem byteOfV_ok {g : GV} {V : Value} {b : Nat} (h : byteOfV g = some b) (hr : R E g V) : b < 256 ∧ (Extern.Bytes.asByte V).run P w = .ok (UInt8.ofNat b) w := by
  obtain ⟨k, n, rfl, h⟩ := onInt_some h
  obtain ⟨hk, h⟩ := okIf_some h
  have hk := kq_eq hk; subst hk
  have := R.int hr; subst this
  cases n with
  | negSucc m => cases h
  | ofNat m =>
    cases h
    refine ⟨Nat.mod_lt _ (by decide), ?_⟩
    have : UInt8.ofNat (m.mod 256) = UInt8.ofNat m := by apply UInt8.toNat_inj.1; rw [UInt8.toNat_ofNat', UInt8.toNat_ofNat']; exact Nat.mod_mod m 256
    rw [this]; rfl
theorem find_shift {p q : Nat → Bool} (h : ∀ i, p (i + 1) = q i) : ∀ (n k : Nat), (List.range' (k + 1) n).find? p = ((List.range' k n).find? q).map (· + 1)
  | 0, k => rfl
  | n + 1, k => by
    rw [List.range'_succ, List.range'_succ, List.find?_cons, List.find?_cons, h k]
    cases q k with
    | true => rfl
    | false => exact find_shift h n (k + 1)
theorem bget (l : List Nat) (i : Nat) (hi : i < l.length) : (bs l)[i]! = UInt8.ofNat l[i] := by
  have hb : i < (bs l).size := by rw [bs_size]; exact hi
  rw [getElem!_pos (bs l) i hb]
  show (bs l).data[i]'_ = _
  simp only [bs, List.getElem_toArray, List.getElem_map]
theorem findN_ok (c : Nat) (hc : c < 256) : ∀ (l : List Nat) (k : Nat), (∀ x ∈ l, x < 256) → findN c l k = ((List.range l.length).find? fun i => (bs l)[i]! == UInt8.ofNat c).map (· + k)
  | [], k, hl => rfl
  | x :: l, k, hl => by
    have hl2 : ∀ y ∈ l, y < 256 := fun y hy => hl y (List.mem_cons_of_mem _ hy)
    have ih := findN_ok c hc l (k + 1) hl2
    show (Bool.rec (findN c l (Nat.succ k)) (some k) (Nat.beq x c) : Option Nat) = _
    rw [List.length_cons, List.range_eq_range', List.range'_succ, List.find?_cons]
    have e0 : (bs (x :: l))[0]! = UInt8.ofNat x := bget (x :: l) 0 (by simp)
    have heq : (UInt8.ofNat x == UInt8.ofNat c) = Nat.beq x c := by
      have hx := hl x (by simp)
      cases hb : Nat.beq x c with
      | true => have := beq_t hb; subst this; simp
      | false =>
        have := beq_f hb
        rw [beq_eq_false_iff_ne]
        intro e
        have := congrArg UInt8.toNat e
        rw [UInt8.toNat_ofNat_of_lt' (show x < 256 from hx), UInt8.toNat_ofNat_of_lt' (show c < 256 from hc)] at this
        exact absurd this (by omega)
    rw [e0, heq]
    cases hb : Nat.beq x c with
    | true => simp
    | false =>
      simp only []
      have hs : ∀ i, ((bs (x :: l))[i + 1]! == UInt8.ofNat c) = ((bs l)[i]! == UInt8.ofNat c) := by
        intro i
        by_cases hi : i < l.length
        · rw [bget (x :: l) (i + 1) (by simpa using hi), bget l i hi]; rfl
        · rw [getElem!_neg (bs (x :: l)) (i + 1) (by show ¬ _ < (bs (x :: l)).size; rw [bs_size]; simpa using hi), getElem!_neg (bs l) i (by show ¬ _ < (bs l).size; rw [bs_size]; exact hi)]
      rw [find_shift hs l.length 0, ← List.range_eq_range', Option.map_map]
      rw [show findN c l (Nat.succ k) = _ from ih]
      congr 1
      funext i
      show i + (k + 1) = (i + 1) + k
      omega

theorem mixb_ok {g gc : GV} {V C : Value} (hr : R E g V) (hrc : R E gc C) {s : MS} (hm : mIxb h nx g gc = some s) :
    ∃ v', (Extern.BytealgIndexByte.indexByte #[V, C]).run P w = .ok v' w ∧ R E s.v v' ∧ s.h = h ∧ s.nx = nx := by
  obtain ⟨l, rfl, hm⟩ := onStr_some hm
  obtain ⟨b, hb, hm⟩ := orec_some hm
  cases hm
  obtain ⟨rfl, hl⟩ := R.str hr
  obtain ⟨hlt, hrun⟩ := byteOfV_ok (P := P) (w := w) hb hrc
  have hf := findN_ok b hlt l 0 hl
  have hsz := bs_size l
  cases hq : (List.range l.length).find? (fun i => (bs l)[i]! == UInt8.ofNat b) with
  | none =>
    rw [hq] at hf
    refine ⟨goInt (-1), ?_, by rw [hf]; exact R.mkInt _ _ _, rfl, rfl⟩
    change (Sem.run P (do
      let b ← Extern.Bytes.bytesOf (.string (bs l))
      let c ← Extern.Bytes.asByte C
      match (List.range b.size).find? fun i => b[i]! == c with
      | some i => pure (goInt i)
      | none => pure (goInt (-1))) w) = _
    simp only [Extern.Bytes.bytesOf, Sem.run_bind, Sem.run_pure, Result.andThen_ok, hrun, hsz, hq]
  | some i =>
    rw [hq] at hf
    refine ⟨goInt i, ?_, by rw [hf]; exact R.mkInt _ _ _, rfl, rfl⟩
    change (Sem.run P (do
      let b ← Extern.Bytes.bytesOf (.string (bs l))
      let c ← Extern.Bytes.asByte C
      match (List.range b.size).find? fun i => b[i]! == c with
      | some i => pure (goInt i)
      | none => pure (goInt (-1))) w) = _
    simp only [Extern.Bytes.bytesOf, Sem.run_bind, Sem.run_pure, Result.andThen_ok, hrun, hsz, hq]

variable (hT : Tb P X.tb) (ht : TR E N t a.tmps) (hg : GL E X.ng) (hW : WR CR E w0 h nx w) (hX : ExOk P X)

theorem list2 {α : Type} {a : Array α} {x y : α} (h : a.toList = [x, y]) : a = #[x, y] := by rw [← Array.toList_inj, h]
theorem map1 {α β : Type} (f : α → β) (x : α) : (#[x]).map f = #[f x] := by simp
theorem map2 {α β : Type} (f : α → β) (x y : α) : (#[x, y]).map f = #[f x, f y] := by simp
theorem list1 {α : Type} {a : Array α} {x : α} (h : a.toList = [x]) : a = #[x] := by rw [← Array.toList_inj, h]

include hT ht hg hW hX in
theorem m_call {o : Oper} {c : Call} {m : Mf} {s : MS} (ho : o.op = .call c) (hc : cMf X P (.call c) = some m) (hm : mf t h nx m = some s) : MOk CR P E w0 o a w s := by
  obtain ⟨callee, args, ats⟩ := c
  have finB : ∀ {b : Builtin} {E' : Env} {v' : Value} {w' : World}, callee = .builtin b → (builtin b ats o.type (args.map fun | .const _ => true | _ => false) (args.map a.eval)).run P w = .ok (.value v') w' → E.le E' → R E' s.v v' → WR CR E' w0 s.h s.nx w' → MOk CR P E w0 o a w s := by
    intro b E' v' w' hb h1 h2 h3 h4
    subst hb
    refine ⟨E', v', w', .value v', ?_, .inl rfl, h2, h3, h4⟩
    simp only [execOp, ho, resolve, Sem.run_bind, Sem.run_pure, Result.andThen_ok, invoke]
    exact h1
  cases callee with
  | invoke x n => cases hc
  | value x =>
    cases x with
    | func f =>
      simp only [cMf] at hc
      have run : ∀ {e : EX} {E' : Env} {v' : Value} {w' : World}, X.ex.get f = some e → (exRun e (args.map a.eval)).run P w = .ok v' w' → E.le E' → R E' s.v v' → WR CR E' w0 s.h s.nx w' → MOk CR P E w0 o a w s := by
        intro e E' v' w' hf h1 h2 h3 h4
        refine ⟨E', v', w', .value v', ?_, .inl rfl, h2, h3, h4⟩
        have hcf := hX f e hf (args.map a.eval) w
        simp only [execOp, ho, resolve, Sem.run_bind, Sem.run_pure, Result.andThen_ok, Act.eval, Deferred.ofValue, invoke, Array.empty_append, Array.append_empty] at hcf ⊢
        simp only [h1, Result.andThen_ok] at hcf
        simp [hcf]
      split at hc
      · rename_i x' hf hl
        obtain ⟨ox, hx, rfl⟩ := Option.map_eq_some_iff.1 hc
        obtain ⟨E', v', w', q1, q2, q3, q4⟩ := mclone_ok (P := P) hW (ev_ok ht hg hx) (show mClone h nx (ev t ox) = some s from hm)
        exact run hf (by rw [list1 hl, map1]; exact q1) q2 q3 q4
      · rename_i x' c' hf hl
        split at hc
        · rename_i oa ob hx hy
          cases hc
          obtain ⟨v', q1, q2, q3, q4⟩ := mixb_ok (P := P) (w := w) (ev_ok ht hg hx) (ev_ok ht hg hy) (show mIxb h nx (ev t oa) (ev t ob) = some s from hm)
          exact run hf (by rw [list2 hl, map2]; exact q1) (Env.le_refl E) q2 (by rw [q3, q4]; exact hW)
        · cases hc
      · cases hc
    | _ => cases hc
  | builtin b =>
    cases b with
    | append =>
      simp only [cMf] at hc
      split at hc
      · rename_i sx xx st xt h1 h2
        obtain ⟨E', v', w', q1, q2, q3, q4⟩ := m_append (ty := o.type) hT ht hg hW hc hm
        refine finB rfl ?_ q2 q3 q4
        rw [list2 h1, list2 h2]
        simp only [builtin, Sem.run_bind]
        rw [show (#[sx, xx] : Array Operand).map a.eval = #[a.eval sx, a.eval xx] by simp, q1]; rfl
      · cases hc
    | copy =>
      simp only [cMf] at hc
      split at hc
      · rename_i dx sx dt st h1 h2
        have fin : ∀ {v' : Value} {w' : World}, (Builtin.copy_ #[dt, st] o.type #[a.eval dx, a.eval sx]).run P w = .ok v' w' → R E s.v v' → WR CR E w0 s.h s.nx w' → MOk CR P E w0 o a w s := by
          intro v' w' q1 q2 q3
          refine finB rfl ?_ (Env.le_refl E) q2 q3
          rw [list2 h1, list2 h2]
          simp only [builtin, Sem.run_bind]
          rw [show (#[dx, sx] : Array Operand).map a.eval = #[a.eval dx, a.eval sx] by simp, q1]; rfl
        split at hc
        · rename_i e oa ob g1 g2 g3 g4
          split at hc
          · rename_i hz
            cases hc
            obtain ⟨n, xs, cs, f1, f2, f3⟩ := srcS_ok (P := P) (w := w) (ev_ok ht hg g4) (show mCopys h nx (ev t oa) (ev t ob) = some s from hm)
            obtain ⟨v', w', q1, q2, q3⟩ := copy1_ok (ty := o.type) (st := st) hW (und_ok hT g1) (run_sizeOf' hT hz) (ev_ok ht hg g3) f2 f3 f1
            exact fin q1 q2 q3
          · cases hc
        · rename_i e e2 oa ob g1 g2 g3 g4
          obtain ⟨z, hz, rfl⟩ := Option.map_eq_some_iff.1 hc
          obtain ⟨n, xs, cs, f1, f2, f3, _⟩ := srcOf_ok (P := P) hW (ev_ok ht hg g4) (show mCopy h nx z (ev t oa) (ev t ob) = some s from hm)
          obtain ⟨v', w', q1, q2, q3⟩ := copy1_ok (ty := o.type) (st := st) hW (und_ok hT g1) (run_sizeOf' hT hz) (ev_ok ht hg g3) f2 f3 f1
          exact fin q1 q2 q3
        · cases hc
      · cases hc
    | delete =>
      simp only [cMf] at hc
      split at hc
      · rename_i mx kx mt r h1 h2
        split at hc
        · rename_i kt e oa ob g1 g2 g3
          obtain ⟨k, hk, rfl⟩ := Option.map_eq_some_iff.1 hc
          obtain ⟨v', w', q1, q2, q3⟩ := mdel_ok (rt := o.type) (ats := ats) hW hT (by rw [← Array.getElem?_toList, h2]; rfl) g1 hk (ev_ok ht hg g2) (ev_ok ht hg g3) (show mMdel h nx k (ev t oa) (ev t ob) = some s from hm)
          refine finB rfl ?_ (Env.le_refl E) q2 q3
          rw [list2 h1]
          simp only [builtin, Sem.run_bind]
          rw [show (#[mx, kx] : Array Operand).map a.eval = #[a.eval mx, a.eval kx] by simp, q1]; rfl
        · cases hc
      · cases hc
    | clear =>
      simp only [cMf] at hc
      split at hc
      · rename_i x ty r h1 h2
        have fin : ∀ {v' : Value} {w' : World}, (Builtin.clear_ #[ty] o.type #[a.eval x]).run P w = .ok v' w' → R E s.v v' → WR CR E w0 s.h s.nx w' → MOk CR P E w0 o a w s := by
          intro v' w' q1 q2 q3
          refine finB rfl ?_ (Env.le_refl E) q2 q3
          rw [list1 h1]
          simp only [builtin, Sem.run_bind]
          have : (Builtin.clear_ ats o.type #[a.eval x]).run P w = (Builtin.clear_ #[ty] o.type #[a.eval x]).run P w := by
            unfold Builtin.clear_
            have : ats[0]? = some ty := by rw [← Array.getElem?_toList, h2]; rfl
            rw [this]; rfl
          rw [show (#[x] : Array Operand).map a.eval = #[a.eval x] by simp, this, q1]; rfl
        split at hc
        · rename_i kt e ox g1 g2
          cases hc
          obtain ⟨v', w', q1, q2, q3⟩ := mclr_ok (P := P) (rt := o.type) (ats := #[ty]) hW rfl (und_ok hT g1) (ev_ok ht hg g2) (show mMclr h nx (ev t ox) = some s from hm)
          exact fin q1 q2 q3
        · rename_i e ox g1 g2
          split at hc
          · rename_i z zs hz hzs
            split at hc
            · rename_i hzl
              cases hc
              obtain ⟨v', w', q1, q2, q3⟩ := sclr_ok (P := P) (rt := o.type) (ox := ox) hT hW (und_ok hT g1) hz hzs hzl (ev_ok ht hg g2) (show mSclr h nx zs (ev t ox) = some s from hm)
              exact fin q1 q2 q3
            · cases hc
          · cases hc
        · cases hc
      · cases hc
    | len =>
      simp only [cMf] at hc
      split at hc
      · rename_i x ty r h1 h2
        split at hc
        · rename_i kt e ox g1 g2
          cases hc
          obtain ⟨v', w', q1, q2, q3⟩ := mlen_ok (P := P) (rt := o.type) (ats := ats) hW (by rw [← Array.getElem?_toList, h2]; rfl) (und_ok hT g1) (ev_ok ht hg g2) (show mMlen h nx (ev t ox) = some s from hm)
          refine finB rfl ?_ (Env.le_refl E) q2 q3
          rw [list1 h1]
          simp only [builtin, Sem.run_bind]
          rw [show (#[x] : Array Operand).map a.eval = #[a.eval x] by simp, q1]; rfl
        · cases hc
      · cases hc
    | _ => cases hc

include hT ht hg hW hX in
theorem mf_ok {o : Oper} {m : Mf} {s : MS} (hc : cMf X P o.op = some m) (hm : mf t h nx m = some s) : MOk CR P E w0 o a w s := by
  cases ho : o.op <;> rw [ho] at hc
  case alloc => exact m_alloc hT hW ho hc hm
  case box => exact m_box ht hg hW ho hc hm
  case buildSlice => exact m_buildSlice hT ht hg hW ho hc hm
  case load => exact m_load hT ht hg hW ho hc hm
  case store => exact m_store hT ht hg hW ho hc hm
  case makeSlice => exact m_makeSlice hT ht hg hW ho hc hm
  case slice => exact m_slice hT ht hg hW ho hc hm
  case makeMap => exact m_makeMap hT ht hg hW ho hc hm
  case lookup => exact m_lookup hT ht hg hW ho hc hm
  case mapUpdate => exact m_mapUpdate hT ht hg hW ho hc hm
  case insert => exact m_insert hT ht hg hW ho hc hm
  case mapEntry => exact m_mapEntry hT ht hg hW ho hc hm
  case entryStore => exact m_entryStore ht hg hW ho hc hm
  case range => exact m_range hT ht hg hW ho hc hm
  case next => exact m_next ht hg hW ho hc hm
  case entry => exact m_entry ht hg hW ho hc hm
  case convert => exact m_convert hT ht hg hW ho hc hm
  case call => exact m_call hT ht hg hW hX ho hc hm
  all_goals cases hc
end
end Go.Gh

/- A new block under a number that was kept for it. -/
namespace Go.Gh
set_option linter.unusedVariables false

/-- What an operation that makes a block must show, its number given. -/
def MOkK (CR : Nat → Code → GC → Prop) (P : Program) (E : Env) (w0 : World) (o : Oper) (a : Act) (w : World) (s : MS) (k n' : Nat) : Prop :=
  ∃ E' v' w' nxt, (execOp a.eval o).run P w = .ok nxt w' ∧ (nxt = .value v' ∨ nxt = .skip ∧ v' = undef) ∧ E.le E' ∧ R E' s.v v' ∧ WR CR E' w0 s.h n' w' ∧ ∀ g, g ≠ k → E'.m g = E.m g

section
variable {CR : Nat → Code → GC → Prop} {P : Program} {X : Cx} {N : Nat} {E : Env} {t : T GV} {a : Act} {w0 w : World} {h : T GO} {nx kk n' : Nat}
variable (hT : Tb P X.tb) (ht : TR E N t a.tmps) (hg : GL E X.ng) (hW : WR CR E w0 h nx w) (hkk : E.m kk = none) (hn1 : nx ≤ n') (hn2 : kk < n')

include hT hW hkk hn1 hn2 in
theorem m_alloc_k {o : Oper} {ty : TypeId} {m : Mf} {s : MS} (ho : o.op = .alloc ty) (hc : cMf X P (.alloc ty) = some m) (hm : mf t h kk m = some s) : MOkK CR P E w0 o a w s kk n' := by
  obtain ⟨zs, hz, rfl⟩ := Option.map_eq_some_iff.1 (show (zeroCellsOf X.tb ty).map cAlloc = some m from hc)
  obtain ⟨it, z, h1, h2, h3, h4⟩ := zeroCells_ok hT hz E
  have hrun : (execOp a.eval o).run P w = .ok (.value (.pointer (some ⟨w.heap.size, 0, none⟩))) (w.alloc (.cells z.cells ty)) := by
    simp [execOp, ho, Instr.alloc, h4 w, newVar, newRow]
  have hlen := h3.length
  unfold cAlloc at hm
  split at hm
  · rename_i d r
    split at hm
    · rename_i hu
      have hr := sameZ_all hu.2
      cases hm
      obtain ⟨E', g1, g2, g3, g4, g5⟩ := new_okK hW hkk hn1 hn2 (t := .nil) (n := r.length + 1) (d := d) (c := z.cells) (el := ty) (fz := (0, 0)) (by simpa using (Nat.le_of_eq hlen.symm)) noFz (fun i hi => by
        have hd : (d :: r)[i]? = some d := by
          rw [hr]
          cases i with
          | zero => rfl
          | succ i => rw [List.getElem?_cons_succ, List.getElem?_replicate]; simp only [ite_eq_left_iff]; intro h'; omega
        obtain ⟨y, hy, hr⟩ := h3.get hd
        exact ⟨y, by simpa using hy, by simpa [T.get_nil] using hr⟩)
      exact ⟨E', _, _, _, hrun, .inl rfl, g1, by simpa using R.mkPtr (o := 0) g2, g4, g5⟩
    · cases hm
      obtain ⟨E', g1, g2, g3, g4, g5⟩ := newList_okK hW hkk hn1 hn2 (c := z.cells) (el := ty) (fz := (0, 0)) noFz (l := d :: r) (by rw [← hlen, List.take_length]; exact h3)
      exact ⟨E', _, _, _, hrun, .inl rfl, g1, by simpa using R.mkPtr (o := 0) g2, g4, g5⟩
  · cases hm
    obtain ⟨E', g1, g2, g3, g4, g5⟩ := newList_okK hW hkk hn1 hn2 (c := z.cells) (el := ty) (fz := (0, 0)) noFz (l := []) (by simp only [RL]; simp)
    exact ⟨E', _, _, _, hrun, .inl rfl, g1, by simpa using R.mkPtr (o := 0) g2, g4, g5⟩


include hT ht hg hW hkk hn1 hn2 in
theorem m_makeSlice_k {o : Oper} {ty : TypeId} {l c : Operand} {m : Mf} {s : MS} (ho : o.op = .makeSlice ty l c) (hc : cMf X P (.makeSlice ty l c) = some m) (hm : mf t h kk m = some s) : MOkK CR P E w0 o a w s kk n' := by
  simp only [cMf] at hc
  split at hc
  · rename_i e ol oc hu hl hcc
    split at hc
    · rename_i z by_ zs hz hb hzs
      split at hc
      · rename_i hcond
        cases hc
        obtain ⟨hzl, hz0⟩ := hcond
        obtain ⟨n, hn, hm⟩ := orec_some (show mMksl h kk z by_ zs (ev t ol) (ev t oc) = some s from hm)
        obtain ⟨k, hk, hm⟩ := orec_some hm
        obtain ⟨hbb, hm⟩ := okIf_some hm
        obtain ⟨hb1, hb2⟩ := band_t hbb
        obtain ⟨hb3, hb2⟩ := band_t hb2
        have hb1 : n ≤ k := ble_t hb1
        have hb3 : k ≤ 1099511627776 := ble_t hb3
        have hb2 : by_ * k ≤ 1099511627776 := ble_t hb2
        obtain ⟨kl, e1⟩ := natOf_val hn (ev_ok ht hg hl)
        obtain ⟨kc, e2⟩ := natOf_val hk (ev_ok ht hg hcc)
        obtain ⟨it, zv, h1, h2, h3, h4⟩ := zeroCells_ok hT hzs E
        obtain ⟨it', hit', hby⟩ := Option.map_eq_some_iff.1 hb
        have := hT _ _ hit'
        rw [h1] at this; cases this
        have hsz : it.size = z := by
          have := run_sizeOf' hT hz w
          simp [sizeOf, typeInfo, h1] at this
          exact this
        have hzc : zv.cells.size = z := by rw [← Array.length_toList, h3.length, hzl]
        have hrun : (execOp a.eval o).run P w = .ok (.value (.slice (some ⟨w.heap.size, 0, none⟩) n k)) (w.alloc (.cells (madeCells zv.cells (k * z)) e)) := by
          have := run_make (P := P) w ty e it zv (und_ok hT hu) h1 h2 kl kc n k (by omega) (by omega) (by
              have : ((it.bytes * k : Nat) : Int) ≤ 1099511627776 := by rw [hby]; omega
              rw [Int.natCast_mul] at this; omega) (by omega)
          simp only [execOp, ho, e1, e2, Sem.run_bind, this, Result.andThen_ok, Sem.run_pure, Int.toNat_natCast, hsz]
        have hcl : (madeCells zv.cells (k * z)).size = k * z := size_madeCells _ _
        have hcells : RL E (reps zs k) (madeCells zv.cells (k * z)).toList := by
          have := reps_cells h3 k
          rw [hzl] at this
          exact this
        have fin : ∀ {E' : Env}, E.le E' → E'.m kk = some (w.heap.size, 0) → E'.sz w.heap.size = k * z → R E' (.sl kk 0 n k true z) (.slice (some ⟨w.heap.size, 0, none⟩) n k) := fun {E'} f1 f2 f3 => by
          simp only [R]
          exact ⟨w.heap.size, 0, _, k, f2, rfl, hb1, Nat.le_refl _, fun _ => rfl, .inr (by simp), .inr (by rw [f3]; omega)⟩
        cases h1z : Nat.beq z 1 with
        | true =>
          rw [h1z] at hm; cases hm
          have := beq_t h1z; subst this
          obtain ⟨d, hd⟩ : ∃ d, zs = [d] := by
            match zs, hzl with
            | [d], _ => exact ⟨d, rfl⟩
          subst hd
          obtain ⟨E', f1, f2, f3, f4, f5⟩ := new_okK hW hkk hn1 hn2 (t := .nil) (n := k) (d := d) (c := madeCells zv.cells (k * 1)) (el := e) (fz := (0, 0)) (by rw [hcl]; omega) noFz (fun i hi => by
            have hx : (reps [d] k)[i]? = some d := by
              rw [reps_get [d] k i (by simpa using hi)]
              simp [Nat.mod_one]
            obtain ⟨y, hy, hr⟩ := hcells.get hx
            exact ⟨y, by simpa using hy, by simpa [T.get_nil] using hr⟩)
          exact ⟨E', _, _, _, hrun, .inl rfl, f1, fin f1 f2 (by rw [f3, hcl]), f4, f5⟩
        | false =>
          rw [h1z] at hm; cases hm
          obtain ⟨E', f1, f2, f3, f4, f5⟩ := newList_okK hW hkk hn1 hn2 (c := madeCells zv.cells (k * z)) (el := e) (fz := (0, 0)) noFz (l := reps zs k) (by rw [← hcells.length, List.take_length]; exact hcells)
          exact ⟨E', _, _, _, hrun, .inl rfl, f1, fin f1 f2 (by rw [f3, hcl]), f4, f5⟩
      · cases hc
    · cases hc
  · cases hc


end
end Go.Gh
