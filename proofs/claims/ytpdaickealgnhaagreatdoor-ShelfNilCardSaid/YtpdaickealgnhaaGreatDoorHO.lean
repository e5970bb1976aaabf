/- A call that was run once by itself, on some contents: what is known of it from then on. -/
import Derived.Test.YtpdaickealgnhaaGreatDoorHN
namespace Go.Gh
set_option linter.unusedVariables false

/-- a value of one cell that means no memory -/
noncomputable def cl0 (v : GV) : Bool := GV.casesOn v false (fun _ => true) (fun _ _ => true) (fun _ => true) true (fun _ _ => false) true (fun _ _ _ _ _ _ => false) true (fun _ => false) (fun _ _ _ => false) (fun _ => false) true (fun _ _ => false) true (fun _ => false) (fun _ => false) (fun _ => false) (fun _ => true)
noncomputable def allB {α : Type} (f : α → Bool) (l : List α) : Bool := List.rec true (fun x _ ih => band (f x) ih) l
noncomputable def cl1 (v : GV) : Bool := onAgg (cl0 v) v fun l => allB cl0 l
noncomputable def cl2 (v : GV) : Bool := onTup (cl1 v) v fun l => allB cl1 l
theorem allB_t {α : Type} {f : α → Bool} : ∀ {l : List α}, allB f l = true → ∀ x ∈ l, f x = true
  | [], _, x, hx => by cases hx
  | y :: l, h, x, hx => by
    obtain ⟨h1, h2⟩ := band_t (show band (f y) (allB f l) = true from h)
    rcases List.mem_cons.1 hx with rfl | hx
    · exact h1
    · exact allB_t h2 x hx
theorem cl0_ok {v : GV} (h : cl0 v = true) {E E' : Env} {x : Value} (hr : R E v x) : R E' v x := by
  cases v <;> first | (cases h; done) | (simpa only [R] using hr)
theorem RL.cl {f : GV → Bool} {E E' : Env} (hf : ∀ v x, f v = true → R E v x → R E' v x) : ∀ {l : List GV} {xs : List Value}, allB f l = true → RL E l xs → RL E' l xs
  | [], xs, _, h => by simpa only [RL] using h
  | v :: l, xs, ha, h => by
    obtain ⟨h1, h2⟩ := band_t (show band (f v) (allB f l) = true from ha)
    simp only [RL] at h ⊢
    obtain ⟨x, r, e, hx, hr⟩ := h
    exact ⟨x, r, e, hf v x h1 hx, RL.cl hf h2 hr⟩
theorem cl1_ok {v : GV} (h : cl1 v = true) {E E' : Env} {x : Value} (hr : R E v x) : R E' v x := by
  cases v
  case agg l =>
    simp only [R] at hr ⊢
    obtain ⟨y, e, hl⟩ := hr
    exact ⟨y, e, RL.cl (fun v x hv hx => cl0_ok hv hx) (show allB cl0 l = true from h) hl⟩
  all_goals refine cl0_ok ?_ hr; exact h
theorem cl2_ok {v : GV} (h : cl2 v = true) {E E' : Env} {x : Value} (hr : R E v x) : R E' v x := by
  cases v
  case tup l =>
    simp only [R] at hr ⊢
    obtain ⟨y, e, hl⟩ := hr
    exact ⟨y, e, RL.cl (fun v x hv hx => cl1_ok hv hx) (show allB cl1 l = true from h) hl⟩
  all_goals refine cl1_ok ?_ hr; exact h

/-- An argument of a call that is kept: a value; or a row of cells that a slice is over. -/
inductive PK where
  | lit (v : GV)
  | row (sz len : Nat) (l : List GV)
/-- are these the cells from a place on? -/
noncomputable def isRow (t : T GV) (d : GV) (l : List GV) : Nat → Bool :=
  List.rec (motive := fun _ => Nat → Bool) (fun _ => true) (fun x _ ih k => band (gsame (Option.rec d (fun y => y) (t.get k)) x) (ih (Nat.succ k))) l
noncomputable def isRowAt (h : T GO) (b o : Nat) (l : List GV) : Bool :=
  Option.rec false (fun q => GO.casesOn q (fun t lo n d _ => band (Nat.ble (Nat.add o l.length) n) (isRow t d l (Nat.add lo o))) (fun _ _ => false) (fun _ _ => false) (fun _ _ _ _ => false) (fun _ _ _ _ _ _ => false) false) (h.get b)
/-- the argument's block, if it is a row -/
noncomputable def pkB (h : T GO) (k : PK) (g : GV) : Option (Option (Nat × Nat)) :=
  PK.casesOn k (fun v => okIf (gsame v g) (some none))
    (fun sz len l => onSl none g none fun b o n _ _ z => Bool.rec none (some (some (b, o))) (band (Nat.beq n len) (band (Nat.beq z sz) (band (Nat.beq l.length (Nat.mul len sz)) (isRowAt h b o l)))))
noncomputable def pkBs (h : T GO) (ks : List PK) : List GV → Option (List (Nat × Nat)) :=
  List.rec (motive := fun _ => List GV → Option (List (Nat × Nat))) (fun gs => List.casesOn gs (some []) (fun _ _ => none))
    (fun k _ ih gs => List.casesOn gs none (fun g gs => Option.rec none (fun o => Option.rec none (fun r => some (Option.rec r (fun b => b :: r) o)) (ih gs)) (pkB h k g))) ks
noncomputable def rowsOf (ks : List PK) : List (List GV) := List.rec [] (fun k _ ih => PK.casesOn k (fun _ => ih) (fun _ _ l => l :: ih)) ks
/-- the arguments of the run by itself -/
noncomputable def pkArgs (ks : List PK) : Nat → List GV :=
  List.rec (motive := fun _ => Nat → List GV) (fun _ => []) (fun k _ ih j => PK.casesOn k (fun v => v :: ih j) (fun sz len _ => .sl j 0 len len false sz :: ih (Nat.succ j))) ks
/-- its memory -/
noncomputable def rowHeap (rows : List (List GV)) : Nat → T GO → T GO :=
  List.rec (motive := fun _ => Nat → T GO → T GO) (fun _ t => t) (fun l _ ih j t => ih (Nat.succ j) (T.set t j (.cells (T.lay l 0 .nil) 0 l.length .bad true))) rows
noncomputable def pkHeap (ng : Nat) (gs : List (Nat × List GV)) (ks : List PK) : T GO := rowHeap (rowsOf ks) ng (heap0 gs)
noncomputable def gsAt (h : T GO) (gs : List (Nat × List GV)) : Bool := allB (fun x => isRowAt h x.1 0 x.2) gs
noncomputable def freshN (x : Nat) (l : List Nat) : Bool := allB (fun y => bnot (Nat.beq x y)) l
noncomputable def nodupN (l : List Nat) : Bool := List.rec true (fun x r ih => band (freshN x r) ih) l
/-- What is known of a call with such arguments: its answer; the memory stays. -/
noncomputable def keptCall (gs : List (Nat × List GV)) (ks : List PK) (v : GV) (args : List GV) (h : T GO) (nx : Nat) : Option MS :=
  Option.rec none (fun bs => okIf (band (gsAt h gs) (nodupN (gs.map (·.1) ++ bs.map (·.1)))) (some ⟨v, h, nx⟩)) (pkBs h ks args)
noncomputable def orCall (f g : List GV → T GO → Nat → Option MS) (args : List GV) (h : T GO) (nx : Nat) : Option MS := Option.rec (g args h nx) (fun s => some s) (f args h nx)
/-- what is asked of a kept call's row by itself: that what lies there means no memory -/
noncomputable def keptOk (ng : Nat) (gs : List (Nat × List GV)) (ks : List PK) (v : GV) : Bool :=
  band (cl2 v) (band (allB (fun x : Nat × List GV => band (Nat.ble (Nat.succ x.1) ng) (allB cl0 x.2)) gs) (allB (fun k => PK.casesOn k cl1 (fun _ _ l => allB cl0 l)) ks))

theorem bnot_t {b : Bool} (h : bnot b = true) : b = false := by cases b <;> first | rfl | cases h
theorem freshN_ok {x : Nat} {l : List Nat} (h : freshN x l = true) : x ∉ l := fun hx => by
  have := bnot_t (allB_t h x hx)
  simp at this
theorem nodupN_ok : ∀ {l : List Nat}, nodupN l = true → l.Nodup
  | [], _ => List.nodup_nil
  | x :: l, h => by
    obtain ⟨h1, h2⟩ := band_t (show band (freshN x l) (nodupN l) = true from h)
    exact List.nodup_cons.2 ⟨freshN_ok h1, nodupN_ok h2⟩
theorem isRow_ok {t : T GV} {d : GV} : ∀ (l : List GV) (k : Nat), isRow t d l k = true → ∀ i x, l[i]? = some x → (t.get (k + i)).getD d = x
  | [], k, _, i, x, hx => by simp at hx
  | y :: l, k, h, i, x, hx => by
    obtain ⟨h1, h2⟩ := band_t (show band (gsame (Option.rec d (fun y => y) (t.get k)) y) (isRow t d l (Nat.succ k)) = true from h)
    cases i with
    | zero =>
      cases hx
      have := gsame_eq h1
      rw [Nat.add_zero]
      cases ht : t.get k <;> rw [ht] at this <;> simpa using this
    | succ i =>
      have := isRow_ok l (Nat.succ k) h2 i x (by simpa using hx)
      rw [show k + (i + 1) = Nat.succ k + i by omega]; exact this
theorem isRowAt_ok {h : T GO} {b o : Nat} {l : List GV} (hr : isRowAt h b o l = true) : ∃ t lo n d ro, h.get b = some (.cells t lo n d ro) ∧ o + l.length ≤ n ∧ ∀ i x, l[i]? = some x → (t.get (lo + o + i)).getD d = x := by
  unfold isRowAt at hr
  cases hb : h.get b with
  | none => rw [hb] at hr; cases hr
  | some q =>
    rw [hb] at hr
    cases q <;> first | (cases hr; done) | skip
    rename_i t lo n d ro
    obtain ⟨h1, h2⟩ := band_t (show band (Nat.ble (Nat.add o l.length) n) (isRow t d l (Nat.add lo o)) = true from hr)
    exact ⟨t, lo, n, d, ro, rfl, ble_t h1, isRow_ok l _ h2⟩
theorem pkB_ok {h : T GO} {k : PK} {g : GV} {r : Option (Nat × Nat)} (hk : pkB h k g = some r) :
    (∃ v, k = .lit v ∧ g = v ∧ r = none) ∨ ∃ sz len l b o c ex, k = .row sz len l ∧ g = .sl b o len c ex sz ∧ r = some (b, o) ∧ l.length = len * sz ∧ isRowAt h b o l = true := by
  cases k with
  | lit v =>
    obtain ⟨h1, h2⟩ := okIf_some (show okIf (gsame v g) (some none) = some r from hk)
    cases h2
    exact .inl ⟨v, rfl, (gsame_eq h1).symm, rfl⟩
  | row sz len l =>
    rcases onSl_some (show onSl none g none (fun b o n _ _ z => Bool.rec none (some (some (b, o))) (band (Nat.beq n len) (band (Nat.beq z sz) (band (Nat.beq l.length (Nat.mul len sz)) (isRowAt h b o l))))) = some r from hk) with ⟨_, h0⟩ | ⟨b, o, n, c, ex, z, e, h0⟩
    · cases h0
    · cases hb : band (Nat.beq n len) (band (Nat.beq z sz) (band (Nat.beq l.length (Nat.mul len sz)) (isRowAt h b o l))) with
      | false => rw [hb] at h0; cases h0
      | true =>
        rw [hb] at h0; cases h0
        obtain ⟨h1, h2⟩ := band_t hb
        obtain ⟨h2, h3⟩ := band_t h2
        obtain ⟨h3, h4⟩ := band_t h3
        have e1 : n = len := beq_t h1
        have e2 : z = sz := beq_t h2
        rw [e1, e2] at e
        exact .inr ⟨sz, len, l, b, o, c, ex, rfl, e, rfl, beq_t h3, h4⟩

theorem pkBs_cons {h : T GO} {k : PK} {ks : List PK} {args : List GV} {r : List (Nat × Nat)} (hr : pkBs h (k :: ks) args = some r) :
    ∃ g gs o r', args = g :: gs ∧ pkB h k g = some o ∧ pkBs h ks gs = some r' ∧ r = (match o with | none => r' | some b => b :: r') := by
  cases args with
  | nil => cases hr
  | cons g gs =>
    obtain ⟨o, h1, h2⟩ := orec_some (show Option.rec none (fun o => Option.rec none (fun r => some (Option.rec r (fun b => b :: r) o)) (pkBs h ks gs)) (pkB h k g) = some r from hr)
    obtain ⟨r', h3, h4⟩ := orec_some h2
    cases h4
    exact ⟨g, gs, o, r', rfl, h1, h3, by cases o <;> rfl⟩
theorem pkBs_rows {h : T GO} : ∀ {ks : List PK} {args : List GV} {bs : List (Nat × Nat)}, pkBs h ks args = some bs → bs.length = (rowsOf ks).length ∧ ∀ (j : Nat) (l : List GV) (b : Nat × Nat), (rowsOf ks)[j]? = some l → bs[j]? = some b → isRowAt h b.1 b.2 l = true
  | [], args, bs, hb => by
    cases args with
    | nil => cases hb; exact ⟨rfl, fun j l b h1 => by simp [rowsOf] at h1⟩
    | cons g gs => cases hb
  | k :: ks, args, bs, hb => by
    obtain ⟨g, gs, o, r', rfl, h1, h2, h3⟩ := pkBs_cons hb
    obtain ⟨i1, i2⟩ := pkBs_rows h2
    rcases pkB_ok h1 with ⟨v, rfl, rfl, rfl⟩ | ⟨sz, len, l, b, oo, c, ex, rfl, rfl, rfl, hl, hr⟩
    · subst h3; exact ⟨i1, i2⟩
    · subst h3
      refine ⟨by show r'.length + 1 = (rowsOf ks).length + 1; rw [i1], fun j l' b' h3 h4 => ?_⟩
      cases j with
      | zero => cases h3; cases h4; exact hr
      | succ j => exact i2 j l' b' h3 h4

theorem rowHeap_get : ∀ (rows : List (List GV)) (j : Nat) (t : T GO) (g : Nat) (o : GO), (rowHeap rows j t).get g = some o →
    (∃ i l, g = j + i ∧ rows[i]? = some l ∧ o = .cells (T.lay l 0 .nil) 0 l.length .bad true) ∨ t.get g = some o
  | [], j, t, g, o, h => .inr h
  | l :: rows, j, t, g, o, h => by
    rcases rowHeap_get rows (Nat.succ j) _ g o h with ⟨i, l', h1, h2, h3⟩ | h1
    · exact .inl ⟨i + 1, l', by omega, h2, h3⟩
    · rw [T.get_set] at h1
      by_cases e : g = j
      · rw [if_pos e] at h1; cases h1; exact .inl ⟨0, l, by omega, rfl, rfl⟩
      · rw [if_neg e] at h1; exact .inr h1

/-- where the run by itself has its blocks -/
def kenv (ng : Nat) (bs : List (Nat × Nat)) (E : Env) : Env where
  m g := if g < ng then some (g, 0) else match bs[g - ng]? with
    | none => none
    | some b => (E.m b.1).map fun c => (c.1, c.2 + b.2)
  sz := E.sz
theorem kenv_row {ng : Nat} {bs : List (Nat × Nat)} {E : Env} {j b o cb co : Nat} (hj : bs[j]? = some (b, o)) (hm : E.m b = some (cb, co)) : (kenv ng bs E).m (ng + j) = some (cb, co + o) := by
  simp only [kenv]
  rw [if_neg (by omega), show ng + j - ng = j by omega, hj]
  simp only [hm, Option.map_some]

theorem pkArgs_ok {ng : Nat} {h : T GO} {E : Env} {bs : List (Nat × Nat)} : ∀ (ks : List PK) (args : List GV) (vals : List Value) (bs' : List (Nat × Nat)) (j : Nat), pkBs h ks args = some bs' → (∀ i, bs'[i]? = bs[j + i]?) →
    allB (fun k => PK.casesOn k cl1 (fun _ _ l => allB cl0 l)) ks = true → RL E args vals → RL (kenv ng bs E) (pkArgs ks (ng + j)) vals
  | [], args, vals, bs', j, hb, he, hc, hr => by
    cases args with
    | nil => simp only [RL] at hr; subst hr; show RL _ [] []; simp only [RL]
    | cons g gs => cases hb
  | k :: ks, args, vals, bs', j, hb, he, hc, hr => by
    obtain ⟨g, gs, o, r', rfl, h1, h2, h3⟩ := pkBs_cons hb
    obtain ⟨c1, c2⟩ := band_t (show band (PK.casesOn k cl1 (fun _ _ l => allB cl0 l)) (allB (fun k => PK.casesOn k cl1 (fun _ _ l => allB cl0 l)) ks) = true from hc)
    simp only [RL] at hr
    obtain ⟨x, r, rfl, hx, hr⟩ := hr
    rcases pkB_ok h1 with ⟨v, rfl, rfl, rfl⟩ | ⟨sz, len, l, b, oo, c, ex, rfl, rfl, rfl, hl, hrow⟩
    · subst h3
      show RL (kenv ng bs E) (g :: pkArgs ks (ng + j)) (x :: r)
      simp only [RL]
      exact ⟨x, r, rfl, cl1_ok c1 hx, pkArgs_ok ks gs r _ j h2 he c2 hr⟩
    · subst h3
      show RL (kenv ng bs E) (.sl (ng + j) 0 len len false sz :: pkArgs ks (Nat.succ (ng + j))) (x :: r)
      simp only [RL]
      refine ⟨x, r, rfl, ?_, ?_⟩
      · simp only [R] at hx ⊢
        obtain ⟨cb, co, a, cp, q1, q2, q3, q4, q5, q6, q7⟩ := hx
        have hj : bs[j]? = some (b, oo) := by have := he 0; simpa using this.symm
        refine ⟨cb, co + oo, a, cp, kenv_row hj q1, q2, Nat.le_refl _, Nat.le_trans q3 q4, (fun e => by cases e), ?_, ?_⟩
        · simpa using q6
        · simpa [kenv] using q7
      · have := pkArgs_ok (ng := ng) ks gs r r' (j + 1) h2 (fun i => by have := he (i + 1); rw [show j + 1 + i = j + (i + 1) by omega, ← this]; simp) c2 hr
        exact this

theorem allB_map {α : Type} {f : α → Bool} {l : List α} (h : ∀ x ∈ l, f x = true) : allB f l = true := by
  induction l with
  | nil => rfl
  | cons x l ih =>
    show band (f x) (allB f l) = true
    rw [h x (by simp), ih fun y hy => h y (List.mem_cons_of_mem _ hy)]; rfl
theorem ks_rows {ks : List PK} (hc : allB (fun k => PK.casesOn k cl1 (fun _ _ l => allB cl0 l)) ks = true) : ∀ {j : Nat} {l : List GV}, (rowsOf ks)[j]? = some l → allB cl0 l = true := by
  induction ks with
  | nil => intro j l h; simp [rowsOf] at h
  | cons k ks ih =>
    intro j l h
    obtain ⟨c1, c2⟩ := band_t (show band (PK.casesOn k cl1 (fun _ _ l => allB cl0 l)) (allB (fun k => PK.casesOn k cl1 (fun _ _ l => allB cl0 l)) ks) = true from hc)
    cases k with
    | lit v => exact ih c2 h
    | row sz len l' =>
      cases j with
      | zero => cases h; exact c1
      | succ j => exact ih c2 (j := j) h

theorem rowsOf_le : ∀ ks : List PK, (rowsOf ks).length ≤ ks.length
  | [] => Nat.le_refl _
  | .lit _ :: ks => Nat.le_succ_of_le (rowsOf_le ks)
  | .row _ _ _ :: ks => Nat.succ_le_succ (rowsOf_le ks)
section
variable {P : Program} {X : Cx} {fs : T GFn}
/-- the cells of a row, as they lie -/
theorem row_cells {CR : Nat → Code → GC → Prop} {w0 : World} {E E' : Env} {h : T GO} {nx : Nat} {w : World} (hW : WR CR E w0 h nx w) {b o : Nat} {l : List GV} (hr : isRowAt h b o l = true) (hc : allB cl0 l = true) :
    ∃ cb co c el fz, E.m b = some (cb, co) ∧ (∃ q, h.get b = some q) ∧ w.heap[cb]? = some (.cells c el fz) ∧ co + o + l.length ≤ E.sz cb ∧ E.sz cb ≤ c.size ∧ (∀ i, fz.1 ≤ i → i < fz.2 → c.size ≤ i) ∧
      ∀ i, i < l.length → ∃ x, c[co + o + i]? = some x ∧ R E' (((T.lay l 0 .nil).get (0 + i)).getD .bad) x := by
  obtain ⟨t, lo, n, d, ro, h1, h2, h3⟩ := isRowAt_ok hr
  have := hW.obj b _ h1
  simp only [OR] at this
  obtain ⟨cb, co, c, el, fz, q1, q2, q3, q4, q5, q6, q7⟩ := this
  refine ⟨cb, co, c, el, fz, q1, ⟨_, h1⟩, q2, by omega, q4, q5, fun i hi => ?_⟩
  obtain ⟨x, hx, hrx⟩ := q7 (o + i) (by omega)
  have hli : l[i]? = some l[i] := List.getElem?_eq_getElem hi
  refine ⟨x, by rw [show co + o + i = co + (o + i) by omega]; exact hx, ?_⟩
  rw [T.get_lay, if_pos (by omega), Nat.zero_add, Nat.sub_zero, hli]
  rw [show lo + (o + i) = lo + o + i by omega, h3 i _ hli] at hrx
  exact cl0_ok (allB_t hc _ (List.getElem_mem hi)) hrx

/-- where the run by itself starts -/
theorem kept_start {w0 : World} {gs : List (Nat × List GV)} {ks : List PK} {args : List GV} {vals : List Value} {h : T GO} {nx : Nat} {E : Env} {w : World} {bs : List (Nat × Nat)} (hb : pkBs h ks args = some bs) (hgs : gsAt h gs = true) (hnd : (gs.map (·.1) ++ bs.map (·.1)).Nodup)
    (k2 : allB (fun x : Nat × List GV => band (Nat.ble (Nat.succ x.1) X.ng) (allB cl0 x.2)) gs = true) (k3 : allB (fun k => PK.casesOn k cl1 (fun _ _ l => allB cl0 l)) ks = true) (ha : RL E args vals) (hg : GL E X.ng) (hW : WR (CRX X P) E w0 h nx w) :
    GL (kenv X.ng bs E) X.ng ∧ WR (CRX X P) (kenv X.ng bs E) w (pkHeap X.ng gs ks) (Nat.add X.ng ks.length) w ∧ RL (kenv X.ng bs E) (pkArgs ks X.ng) vals := by
  obtain ⟨b1, b2⟩ := pkBs_rows hb
  -- the run's start
  have hrows := rowsOf_le ks
  have hinj : ∀ g o, (pkHeap X.ng gs ks).get g = some o → ∃ (b oo : Nat) (l : List GV), isRowAt h b oo l = true ∧ allB cl0 l = true ∧ o = .cells (T.lay l 0 .nil) 0 l.length .bad true ∧ (∀ cb co, E.m b = some (cb, co) → (kenv X.ng bs E).m g = some (cb, co + oo)) ∧
      ((g < X.ng ∧ b = g ∧ b ∈ gs.map (·.1)) ∨ ∃ j, g = X.ng + j ∧ bs[j]? = some (b, oo)) := by
    intro g o hgo
    rcases rowHeap_get _ _ _ _ _ hgo with ⟨i, l, rfl, h2, rfl⟩ | h1
    · have hi : i < bs.length := by rw [b1]; exact (List.getElem?_eq_some_iff.1 h2).1
      have hbi : bs[i]? = some bs[i] := List.getElem?_eq_getElem hi
      exact ⟨(bs[i]).1, (bs[i]).2, l, b2 i l _ h2 hbi, ks_rows k3 h2, rfl, fun cb co hm => kenv_row hbi hm, .inr ⟨i, rfl, hbi⟩⟩
    · obtain ⟨l, hm, rfl⟩ := heap0_get _ _ _ h1
      have hgl := allB_t k2 _ hm
      obtain ⟨g1, g2⟩ := band_t hgl
      have g1 : g < X.ng := ble_t g1
      refine ⟨g, 0, l, allB_t hgs _ hm, g2, rfl, fun cb co hm' => ?_, .inl ⟨g1, rfl, List.mem_map_of_mem (f := (·.1)) hm⟩⟩
      rw [hg g g1] at hm'; cases hm'
      simp only [kenv]
      rw [if_pos g1]
  have hgl0 : GL (kenv X.ng bs E) X.ng := fun g hlt => by simp only [kenv]; rw [if_pos hlt]
  have hW0 : WR (CRX X P) (kenv X.ng bs E) w (pkHeap X.ng gs ks) (Nat.add X.ng ks.length) w := by
    refine ⟨fun g o hgo => ?_, ?_, ?_, ?_, Fr.refl w⟩
    · obtain ⟨b, oo, l, h1, h2, rfl, h3, _⟩ := hinj g o hgo
      obtain ⟨cb, co, c, el, fz, q1, _, q2, q3, q4, q5, q6⟩ := row_cells (E' := kenv X.ng bs E) hW h1 h2
      simp only [OR]
      exact ⟨cb, co + oo, c, el, fz, h3 _ _ q1, q2, q3, q4, q5, (fun e => by cases e), q6⟩
    · intro g g' o o' cb co co' h1 h2 h3 h4
      obtain ⟨b, oo, l, p1, p2, _, p3, p4⟩ := hinj g o h1
      obtain ⟨b', oo', l', r1, r2, _, r3, r4⟩ := hinj g' o' h2
      obtain ⟨cb1, co1, c1, el1, fz1, q1, ⟨o1, q2⟩, _⟩ := row_cells (E' := E) hW p1 p2
      obtain ⟨cb2, co2, c2, el2, fz2, s1, ⟨o2, s2⟩, _⟩ := row_cells (E' := E) hW r1 r2
      have e1 := p3 _ _ q1
      have e2 := r3 _ _ s1
      rw [h3] at e1; rw [h4] at e2
      cases e1; cases e2
      have hbb : b = b' := hW.inj b b' _ _ _ _ _ q2 s2 q1 s1
      subst hbb
      rw [List.nodup_append] at hnd
      obtain ⟨n1, n2, n3⟩ := hnd
      rcases p4 with ⟨_, e, hm⟩ | ⟨j, e, hj⟩ <;> rcases r4 with ⟨_, e', hm'⟩ | ⟨j', e', hj'⟩
      · rw [← e, ← e']
      · exact absurd rfl (n3 b hm b (List.mem_map.2 ⟨_, List.mem_of_getElem? hj', rfl⟩))
      · exact absurd rfl (n3 b hm' b (List.mem_map.2 ⟨_, List.mem_of_getElem? hj, rfl⟩))
      · have hjl : j < (bs.map (·.1)).length := by rw [List.length_map]; exact (List.getElem?_eq_some_iff.1 hj).1
        have : j = j' := (List.getElem?_inj hjl n2).1 (by rw [List.getElem?_map, List.getElem?_map, hj, hj']; rfl)
        rw [e, e', this]
    · intro g x hgx
      simp only [kenv] at hgx
      show g < X.ng + ks.length
      split at hgx
      · omega
      · split at hgx
        · cases hgx
        · rename_i bb hbb
          have := (List.getElem?_eq_some_iff.1 hbb).1
          omega
    · exact hW.sz
  exact ⟨hgl0, hW0, pkArgs_ok (ng := X.ng) (bs := bs) ks args vals bs 0 hb (fun i => by rw [Nat.zero_add]) k3 ha⟩

/-- A call that the run by itself finds to answer so, on such contents, answers so wherever they lie; what was there is left. -/
theorem kept_ok (H : ∀ w, FOk P X w fs) {f fuel : Nat} {gs : List (Nat × List GV)} {ks : List PK} {v : GV} (hok : keptOk X.ng gs ks v = true)
    (hrun : Option.rec false (fun s => MS.casesOn s fun u _ _ => gsame u v) (xcall (run fs fuel) fs f (pkArgs ks X.ng) (pkHeap X.ng gs ks) (Nat.add X.ng ks.length)) = true) (w0 : World) : SumOk P X w0 f (keptCall gs ks v) := by
  intro args vals h nx s E w hx ha hg hW n
  obtain ⟨bs, hb, hx⟩ := orec_some (show Option.rec none (fun bs => okIf (band (gsAt h gs) (nodupN (gs.map (·.1) ++ bs.map (·.1)))) (some ⟨v, h, nx⟩)) (pkBs h ks args) = some s from hx)
  obtain ⟨hcd, hx⟩ := okIf_some hx
  cases hx
  obtain ⟨hgs, hnd⟩ := band_t hcd
  have hnd := nodupN_ok hnd
  obtain ⟨k1, k2⟩ := band_t hok
  obtain ⟨k2, k3⟩ := band_t k2
  obtain ⟨hgl0, hW0, hargs⟩ := kept_start hb hgs hnd k2 k3 ha hg hW
  cases hxc : xcall (run fs fuel) fs f (pkArgs ks X.ng) (pkHeap X.ng gs ks) (Nat.add X.ng ks.length) with
  | none => rw [hxc] at hrun; cases hrun
  | some s =>
    rw [hxc] at hrun
    obtain ⟨u, hh, nn⟩ := s
    have hu : u = v := gsame_eq (show gsame u v = true from hrun)
    subst hu
    obtain ⟨h1, _⟩ := xcall_ok (w0 := w) (H w) (run_ok (H w) fuel) hxc hargs hgl0 hW0
    refine (h1 n).mono fun e w' he => ?_
    obtain ⟨x, E', rfl, hE, hr, hW'⟩ := he
    refine ⟨x, E, rfl, Env.le_refl E, cl2_ok k1 hr, ?_⟩
    have hfr := hW'.fr
    have hold : ∀ g o, h.get g = some o → ∀ cb co, E.m g = some (cb, co) → w'.heap[cb]? = w.heap[cb]? := fun g o hgo cb co hm => by
      obtain ⟨cb', co', e1, e2⟩ := (hW.obj g o hgo).block
      rw [hm] at e1; cases e1
      exact hfr.old _ e2
    refine ⟨fun g o hgo => OR.mono _ (Env.le_refl E) (hW.obj g o hgo) (hold g o hgo) (fun _ _ _ _ _ _ _ h => h), hW.inj, hW.lt, fun cb hc => ?_, hW.fr.trans hfr⟩
    obtain ⟨c, el, fz, q1, q2⟩ := hW.sz cb hc
    exact ⟨c, el, fz, by rw [hfr.old cb (Array.getElem?_eq_some_iff.1 q1).1]; exact q1, q2⟩
theorem or_ok {w0 : World} {f : Nat} {σ τ : List GV → T GO → Nat → Option MS} (h1 : SumOk P X w0 f σ) (h2 : SumOk P X w0 f τ) : SumOk P X w0 f (orCall σ τ) := by
  intro args vals h nx s E w hx
  cases hs : σ args h nx with
  | none =>
    have : τ args h nx = some s := by
      have e : (Option.rec (τ args h nx) (fun s => some s) (σ args h nx) : Option MS) = some s := hx
      rw [hs] at e; exact e
    exact h2 args vals h nx s E w this
  | some s' =>
    have : some s' = some s := by
      have e : (Option.rec (τ args h nx) (fun s => some s) (σ args h nx) : Option MS) = some s := hx
      rw [hs] at e; exact e
    cases this
    exact h1 args vals h nx _ E w hs
end
end Go.Gh

/- A call that was run once by itself, whose results may be rows of new memory. -/
namespace Go.Gh
set_option linter.unusedVariables false

/-- A result that is kept: a value; or a slice over a row of new memory. -/
inductive PR where
  | lit (v : GV)
  | new (len cap : Nat) (ex : Bool) (sz : Nat) (l : List GV)
/-- the results, new blocks numbered from a number on -/
noncomputable def prVals (rs : List PR) : Nat → List GV :=
  List.rec (motive := fun _ => Nat → List GV) (fun _ => []) (fun r _ ih j => PR.casesOn r (fun v => v :: ih j) (fun len cap ex sz _ => .sl j 0 len cap ex sz :: ih (Nat.succ j))) rs
noncomputable def newRows (rs : List PR) : List (List GV) := List.rec [] (fun r _ ih => PR.casesOn r (fun _ => ih) (fun _ _ _ _ l => l :: ih)) rs
noncomputable def freshHeap (rows : List (List GV)) : Nat → T GO → T GO :=
  List.rec (motive := fun _ => Nat → T GO → T GO) (fun _ t => t) (fun l _ ih j t => ih (Nat.succ j) (T.set t j (.cells (T.lay l 0 .nil) 0 l.length .bad false))) rows
noncomputable def keptCallF (gs : List (Nat × List GV)) (ks : List PK) (rs : List PR) (args : List GV) (h : T GO) (nx : Nat) : Option MS :=
  Option.rec none (fun bs => okIf (band (gsAt h gs) (nodupN (gs.map (·.1) ++ bs.map (·.1)))) (some ⟨xresv (prVals rs nx), freshHeap (newRows rs) nx h, Nat.add nx (newRows rs).length⟩)) (pkBs h ks args)
/-- does a run's result fit? the blocks of its new rows -/
noncomputable def fitR (h : T GO) (lo : Nat) (r : PR) (u : GV) : Option (Option (Nat × Nat)) :=
  PR.casesOn r (fun v => okIf (band (cl1 v) (gsame v u)) (some none))
    (fun len cap ex sz l => onSl none u none fun b o n c x z => okIf (band (Nat.beq n len) (band (Nat.ble len cap) (band (Nat.ble cap c) (band (Bool.rec true (band x (Nat.beq cap c)) ex) (band (Nat.beq z sz) (band (Nat.beq l.length (Nat.mul cap sz)) (band (allB cl0 l) (band (Nat.ble lo b) (isRowAt h b o l))))))))) (some (some (b, o))))
noncomputable def fitRs (h : T GO) (lo : Nat) (rs : List PR) : List GV → Option (List (Nat × Nat)) :=
  List.rec (motive := fun _ => List GV → Option (List (Nat × Nat))) (fun us => List.casesOn us (some []) (fun _ _ => none))
    (fun r _ ih us => List.casesOn us none (fun u us => Option.rec none (fun o => Option.rec none (fun q => some (Option.rec q (fun b => b :: q) o)) (ih us)) (fitR h lo r u))) rs
noncomputable def resList (k : Nat) (v : GV) : Option (List GV) := Nat.casesOn k (onTup none v fun l => some l) (fun k => Nat.casesOn k (some [v]) (fun _ => onTup none v fun l => some l))
noncomputable def fitRun (ng lo : Nat) (rs : List PR) (s : MS) : Bool :=
  MS.casesOn s fun v h nx => Option.rec false (fun us => Option.rec false (fun bs => band (nodupN (bs.map (·.1))) (allB (fun b : Nat × Nat => Option.rec false (fun q => GO.casesOn q (fun _ _ _ _ ro => bnot ro) (fun _ _ => false) (fun _ _ => false) (fun _ _ _ _ => false) (fun _ _ _ _ _ _ => false) false) (h.get b.1)) bs)) (fitRs h lo rs us)) (resList rs.length v)
noncomputable def keptOkF (ng : Nat) (gs : List (Nat × List GV)) (ks : List PK) : Bool :=
  band (allB (fun x : Nat × List GV => band (Nat.ble (Nat.succ x.1) ng) (allB cl0 x.2)) gs) (allB (fun k => PK.casesOn k cl1 (fun _ _ l => allB cl0 l)) ks)

theorem orecB {α : Type} {o : Option α} {f : α → Bool} (h : Option.rec false (fun x => f x) o = true) : ∃ x, o = some x ∧ f x = true := by
  cases o with
  | none => cases h
  | some x => exact ⟨x, rfl, h⟩
theorem prVals_rel {E : Env} {h : T GO} {lo nx : Nat} {bs : List (Nat × Nat)} {m : Nat → Option (Nat × Nat)} {szs : Nat → Nat} : ∀ (rs : List PR) (us : List GV) (xs : List Value) (qs : List (Nat × Nat)) (j : Nat), fitRs h lo rs us = some qs → (∀ i, qs[i]? = bs[j + i]?) → RL E us xs →
    (∀ (i b o cb co : Nat), bs[i]? = some (b, o) → E.m b = some (cb, co) → m (nx + i) = some (cb, co + o) ∧ E.sz cb ≤ szs cb) → RL { m := m, sz := szs } (prVals rs (nx + j)) xs
  | [], us, xs, qs, j, hf, hq, hr, hm => by
    cases us with
    | nil => simp only [RL] at hr; subst hr; show RL _ [] []; simp only [RL]
    | cons u us => cases hf
  | r :: rs, us, xs, qs, j, hf, hq, hr, hm => by
    cases us with
    | nil => cases hf
    | cons u us =>
      obtain ⟨o, h1, h2⟩ := orec_some (show Option.rec none (fun o => Option.rec none (fun q => some (Option.rec q (fun b => b :: q) o)) (fitRs h lo rs us)) (fitR h lo r u) = some qs from hf)
      obtain ⟨q, h3, h4⟩ := orec_some h2
      simp only [RL] at hr
      obtain ⟨x, ys, rfl, hx, hr⟩ := hr
      cases r with
      | lit v =>
        obtain ⟨g1, g2⟩ := okIf_some (show okIf (band (cl1 v) (gsame v u)) (some none) = some o from h1)
        cases g2
        obtain ⟨g3, g4⟩ := band_t g1
        have e := gsame_eq g4; subst e
        cases h4
        show RL _ (v :: prVals rs (nx + j)) (x :: ys)
        simp only [RL]
        exact ⟨x, ys, rfl, cl1_ok g3 hx, prVals_rel rs us ys q j h3 hq hr hm⟩
      | new len cap ex sz l =>
        rcases onSl_some (show onSl none u none (fun b o n c x z => okIf (band (Nat.beq n len) (band (Nat.ble len cap) (band (Nat.ble cap c) (band (Bool.rec true (band x (Nat.beq cap c)) ex) (band (Nat.beq z sz) (band (Nat.beq l.length (Nat.mul cap sz)) (band (allB cl0 l) (band (Nat.ble lo b) (isRowAt h b o l))))))))) (some (some (b, o)))) = some o from h1) with ⟨_, h0⟩ | ⟨b, oo, n, c, x', z, e, h0⟩
        · cases h0
        · obtain ⟨g1, g2⟩ := okIf_some h0
          cases g2
          obtain ⟨e1, g1⟩ := band_t g1
          obtain ⟨e2, g1⟩ := band_t g1
          obtain ⟨e3, g1⟩ := band_t g1
          obtain ⟨e4, g1⟩ := band_t g1
          obtain ⟨e5, g1⟩ := band_t g1
          have e1 : n = len := beq_t e1
          have e2 : len ≤ cap := ble_t e2
          have e3 : cap ≤ c := ble_t e3
          have e5 : z = sz := beq_t e5
          cases h4
          show RL _ (.sl (nx + j) 0 len cap ex sz :: prVals rs (Nat.succ (nx + j))) (x :: ys)
          simp only [RL]
          refine ⟨x, ys, rfl, ?_, ?_⟩
          · rw [e] at hx
            simp only [R] at hx ⊢
            obtain ⟨cb, co, a, cp, q1, q2, q3, q4, q5, q6, q7⟩ := hx
            have hj : bs[j]? = some (b, oo) := by have := hq 0; simpa using this.symm
            obtain ⟨m1, m2⟩ := hm j b oo cb co hj q1
            rw [e1] at q2; rw [e5] at q7
            refine ⟨cb, co + oo, a, cp, m1, q2, e2, Nat.le_trans e3 q4, fun hex => ?_, by simpa using q6, ?_⟩
            · subst hex
              obtain ⟨f1, f2⟩ := band_t (show band x' (Nat.beq cap c) = true from e4)
              rw [q5 f1, beq_t f2]
            · rcases q7 with q7 | q7
              · exact .inl q7
              · right; omega
          · have := prVals_rel rs us ys q (j + 1) h3 (fun i => by have := hq (i + 1); rw [show j + 1 + i = j + (i + 1) by omega, ← this]; simp) hr hm
            exact this
theorem fitRs_rows {h : T GO} {lo : Nat} : ∀ {rs : List PR} {us : List GV} {bs : List (Nat × Nat)}, fitRs h lo rs us = some bs → bs.length = (newRows rs).length ∧ ∀ (j : Nat) (l : List GV) (b : Nat × Nat), (newRows rs)[j]? = some l → bs[j]? = some b → isRowAt h b.1 b.2 l = true ∧ allB cl0 l = true ∧ lo ≤ b.1
  | [], us, bs, hf => by
    cases us with
    | nil => cases hf; exact ⟨rfl, fun j l b h1 => by simp [newRows] at h1⟩
    | cons u us => cases hf
  | r :: rs, us, bs, hf => by
    cases us with
    | nil => cases hf
    | cons u us =>
      obtain ⟨o, h1, h2⟩ := orec_some (show Option.rec none (fun o => Option.rec none (fun q => some (Option.rec q (fun b => b :: q) o)) (fitRs h lo rs us)) (fitR h lo r u) = some bs from hf)
      obtain ⟨q, h3, h4⟩ := orec_some h2
      obtain ⟨i1, i2⟩ := fitRs_rows h3
      cases r with
      | lit v =>
        obtain ⟨g1, g2⟩ := okIf_some (show okIf (band (cl1 v) (gsame v u)) (some none) = some o from h1)
        cases g2; cases h4
        exact ⟨i1, i2⟩
      | new len cap ex sz l =>
        rcases onSl_some (show onSl none u none (fun b o n c x z => okIf (band (Nat.beq n len) (band (Nat.ble len cap) (band (Nat.ble cap c) (band (Bool.rec true (band x (Nat.beq cap c)) ex) (band (Nat.beq z sz) (band (Nat.beq l.length (Nat.mul cap sz)) (band (allB cl0 l) (band (Nat.ble lo b) (isRowAt h b o l))))))))) (some (some (b, o)))) = some o from h1) with ⟨_, h0⟩ | ⟨b, oo, n, c, x', z, e, h0⟩
        · cases h0
        · obtain ⟨g1, g2⟩ := okIf_some h0
          cases g2; cases h4
          obtain ⟨_, g1⟩ := band_t g1
          obtain ⟨_, g1⟩ := band_t g1
          obtain ⟨_, g1⟩ := band_t g1
          obtain ⟨_, g1⟩ := band_t g1
          obtain ⟨_, g1⟩ := band_t g1
          obtain ⟨_, g1⟩ := band_t g1
          obtain ⟨g5, g1⟩ := band_t g1
          obtain ⟨g6, g7⟩ := band_t g1
          refine ⟨by show q.length + 1 = (newRows rs).length + 1; rw [i1], fun j l' b' k1 k2 => ?_⟩
          cases j with
          | zero => cases k1; cases k2; exact ⟨g7, g5, ble_t g6⟩
          | succ j => exact i2 j l' b' k1 k2
theorem freshHeap_get : ∀ (rows : List (List GV)) (j : Nat) (t : T GO) (g : Nat) (o : GO), (freshHeap rows j t).get g = some o →
    (∃ i l, g = j + i ∧ rows[i]? = some l ∧ o = .cells (T.lay l 0 .nil) 0 l.length .bad false) ∨ t.get g = some o ∧ ∀ i, i < rows.length → g ≠ j + i
  | [], j, t, g, o, h => .inr ⟨h, fun i hi => by simp at hi⟩
  | l :: rows, j, t, g, o, h => by
    rcases freshHeap_get rows (Nat.succ j) _ g o h with ⟨i, l', h1, h2, h3⟩ | ⟨h1, h2⟩
    · exact .inl ⟨i + 1, l', by omega, h2, h3⟩
    · rw [T.get_set] at h1
      by_cases e : g = j
      · rw [if_pos e] at h1; cases h1; exact .inl ⟨0, l, by omega, rfl, rfl⟩
      · rw [if_neg e] at h1
        refine .inr ⟨h1, fun i hi => ?_⟩
        cases i with
        | zero => omega
        | succ i => have := h2 i (by simpa using hi); omega
theorem resList_ok {k : Nat} {v : GV} {us : List GV} (h : resList k v = some us) {E : Env} {x : Value} (hr : R E v x) : (us.length = k → ∃ xs, RL E us xs ∧ ∀ (E' : Env) (vs : List GV), vs.length = k → RL E' vs xs → R E' (xresv vs) x) := by
  intro hk
  match k, h, hk with
  | 0, h, hk =>
    obtain ⟨l, rfl, hl⟩ := onTup_some (show onTup none v (fun l => some l) = some us from h)
    cases hl
    obtain ⟨y, rfl, hy⟩ := R.tupv hr
    refine ⟨y.toList, hy, fun E' vs hv hvs => ?_⟩
    have : vs = [] := List.eq_nil_of_length_eq_zero hv
    subst this
    show R E' (.tup []) _
    simp only [R]; exact ⟨_, rfl, hvs⟩
  | 1, h, hk =>
    cases h
    refine ⟨[x], by simp only [RL]; exact ⟨x, [], rfl, hr, rfl⟩, fun E' vs hv hvs => ?_⟩
    match vs, hv, hvs with
    | [u], _, hvs =>
      simp only [RL] at hvs
      obtain ⟨y, r, e, hy, _⟩ := hvs
      cases e; exact hy
  | k + 2, h, hk =>
    obtain ⟨l, rfl, hl⟩ := onTup_some (show onTup none v (fun l => some l) = some us from h)
    cases hl
    obtain ⟨y, rfl, hy⟩ := R.tupv hr
    refine ⟨y.toList, hy, fun E' vs hv hvs => ?_⟩
    match vs, hv, hvs with
    | a :: b :: r, _, hvs => show R E' (.tup (a :: b :: r)) _; simp only [R]; exact ⟨_, rfl, hvs⟩
theorem fitRs_len {h : T GO} {lo : Nat} : ∀ {rs : List PR} {us : List GV} {bs : List (Nat × Nat)}, fitRs h lo rs us = some bs → us.length = rs.length
  | [], us, bs, hf => by cases us with
    | nil => rfl
    | cons u us => cases hf
  | r :: rs, us, bs, hf => by
    cases us with
    | nil => cases hf
    | cons u us =>
      obtain ⟨o, h1, h2⟩ := orec_some (show Option.rec none (fun o => Option.rec none (fun q => some (Option.rec q (fun b => b :: q) o)) (fitRs h lo rs us)) (fitR h lo r u) = some bs from hf)
      obtain ⟨q, h3, h4⟩ := orec_some h2
      simp [fitRs_len h3]
theorem prVals_len : ∀ (rs : List PR) (j : Nat), (prVals rs j).length = rs.length
  | [], j => rfl
  | .lit v :: rs, j => by show (prVals rs j).length + 1 = _; rw [prVals_len rs j]; rfl
  | .new len cap ex sz l :: rs, j => by show (prVals rs (Nat.succ j)).length + 1 = _; rw [prVals_len rs _]; rfl

section
variable {P : Program} {X : Cx} {fs : T GFn}
theorem keptF_ok (H : ∀ w, FOk P X w fs) {f fuel : Nat} {gs : List (Nat × List GV)} {ks : List PK} {rs : List PR} (hok : keptOkF X.ng gs ks = true)
    (hrun : Option.rec false (fun s => fitRun X.ng (Nat.add X.ng ks.length) rs s) (xcall (run fs fuel) fs f (pkArgs ks X.ng) (pkHeap X.ng gs ks) (Nat.add X.ng ks.length)) = true) (w0 : World) : SumOk P X w0 f (keptCallF gs ks rs) := by
  intro args vals h nx s E w hx ha hg hW n
  obtain ⟨bs, hb, hx⟩ := orec_some (show Option.rec none (fun bs => okIf (band (gsAt h gs) (nodupN (gs.map (·.1) ++ bs.map (·.1)))) (some ⟨xresv (prVals rs nx), freshHeap (newRows rs) nx h, Nat.add nx (newRows rs).length⟩)) (pkBs h ks args) = some s from hx)
  obtain ⟨hcd, hx⟩ := okIf_some hx
  cases hx
  obtain ⟨hgs, hnd⟩ := band_t hcd
  have hnd := nodupN_ok hnd
  obtain ⟨k2, k3⟩ := band_t hok
  obtain ⟨hgl0, hW0, hargs⟩ := kept_start hb hgs hnd k2 k3 ha hg hW
  cases hxc : xcall (run fs fuel) fs f (pkArgs ks X.ng) (pkHeap X.ng gs ks) (Nat.add X.ng ks.length) with
  | none => rw [hxc] at hrun; cases hrun
  | some s =>
    rw [hxc] at hrun
    obtain ⟨v, hh, nn⟩ := s
    obtain ⟨us, hus, hrun⟩ := orecB (show Option.rec false (fun us => Option.rec false (fun bs => band (nodupN (bs.map (·.1))) (allB (fun b : Nat × Nat => Option.rec false (fun q => GO.casesOn q (fun _ _ _ _ ro => bnot ro) (fun _ _ => false) (fun _ _ => false) (fun _ _ _ _ => false) (fun _ _ _ _ _ _ => false) false) (hh.get b.1)) bs)) (fitRs hh (Nat.add X.ng ks.length) rs us)) (resList rs.length v) = true from hrun)
    obtain ⟨qs, hqs, hrun⟩ := orecB hrun
    obtain ⟨hq1, hq2⟩ := band_t hrun
    have hq1 := nodupN_ok hq1
    obtain ⟨h1, _⟩ := xcall_ok (w0 := w) (H w) (run_ok (H w) fuel) hxc hargs hgl0 hW0
    refine (h1 n).mono fun e w' he => ?_
    obtain ⟨x, E', rfl, hE, hr, hW'⟩ := he
    have hfr := hW'.fr
    obtain ⟨xs, hxs, hfin⟩ := resList_ok hus hr (fitRs_len hqs)
    obtain ⟨c1, c2⟩ := fitRs_rows hqs
    -- the new blocks
    have hnew : ∀ (i b o : Nat), qs[i]? = some (b, o) → ∃ l cb co c el fz, (newRows rs)[i]? = some l ∧ allB cl0 l = true ∧ isRowAt hh b o l = true ∧ E'.m b = some (cb, co) ∧ (∃ q, hh.get b = some q) ∧ w'.heap[cb]? = some (.cells c el fz) ∧ co + o + l.length ≤ E'.sz cb ∧ E'.sz cb ≤ c.size ∧ (∀ i, fz.1 ≤ i → i < fz.2 → c.size ≤ i) ∧ w.heap.size ≤ cb ∧
        (∀ E2 i, i < l.length → ∃ x, c[co + o + i]? = some x ∧ R E2 (((T.lay l 0 .nil).get (0 + i)).getD .bad) x) := by
      intro i b o hi
      have hlt : i < (newRows rs).length := by rw [← c1]; exact (List.getElem?_eq_some_iff.1 hi).1
      have hl : (newRows rs)[i]? = some (newRows rs)[i] := List.getElem?_eq_getElem hlt
      obtain ⟨d1, d2, d3⟩ := c2 i _ _ hl hi
      obtain ⟨cb, co, c, el, fz, q1, ⟨q, q2⟩, q3, q4, q5, q6, _⟩ := row_cells (E' := E') hW' d1 d2
      have hro := allB_t hq2 _ (List.mem_of_getElem? hi)
      change Option.rec false (fun q => GO.casesOn q (fun _ _ _ _ ro => bnot ro) (fun _ _ => false) (fun _ _ => false) (fun _ _ _ _ => false) (fun _ _ _ _ _ _ => false) false) (hh.get b) = true at hro
      rw [q2] at hro
      have hob := hW'.obj b q q2
      have hn0 : w.heap.size ≤ cb := by
        cases q <;> first | (cases hro; done) | skip
        rename_i t lo k d ro
        have hro := bnot_t (show bnot ro = true from hro)
        simp only [OR] at hob
        obtain ⟨cb', co', c', el', fz', r1, r2, r3, r4, r5, r6, r7⟩ := hob
        rw [q1] at r1; cases r1
        exact r6 hro
      refine ⟨_, cb, co, c, el, fz, hl, d2, d1, q1, ⟨q, q2⟩, q3, q4, q5, q6, hn0, fun E2 i hi => ?_⟩
      obtain ⟨cb2, co2, cc, el2, fz2, p1, _, p3, p4, p5, p6, p7⟩ := row_cells (E' := E2) hW' d1 d2
      rw [q1] at p1; cases p1
      rw [q3] at p3; cases p3
      exact p7 i hi
    let isNew : Nat → Bool := fun cb => qs.any fun b => match E'.m b.1 with | some c => c.1 == cb | none => false
    let E2 : Env := { m := fun g => if g < nx then E.m g else match qs[g - nx]? with
        | none => none
        | some b => (E'.m b.1).map fun c => (c.1, c.2 + b.2), sz := fun cb => if isNew cb = true then E'.sz cb else E.sz cb }
    have hisNew : ∀ i b o cb co, qs[i]? = some (b, o) → E'.m b = some (cb, co) → isNew cb = true := fun i b o cb co h1 h2 => List.any_eq_true.2 ⟨(b, o), List.mem_of_getElem? h1, by simp [h2]⟩
    have hE2new : ∀ i b o cb co, qs[i]? = some (b, o) → E'.m b = some (cb, co) → E2.m (nx + i) = some (cb, co + o) := fun i b o cb co h1 h2 => by
      show (if nx + i < nx then _ else _) = _
      rw [if_neg (by omega), show nx + i - nx = i by omega, h1]
      simp only [h2, Option.map_some]
    have hnewlt : ∀ cb, isNew cb = true → w.heap.size ≤ cb ∧ ∃ c el fz, w'.heap[cb]? = some (.cells c el fz) ∧ E'.sz cb ≤ c.size := fun cb hc => by
      obtain ⟨b, hb1, hb2⟩ := List.any_eq_true.1 hc
      obtain ⟨i, hi⟩ := List.getElem?_of_mem hb1
      obtain ⟨l, cb', co, c, el, fz, n1, n2, n3, n4, n5, n6, n7, n8, n9, n10, n11⟩ := hnew i b.1 b.2 hi
      rw [n4] at hb2
      have : cb' = cb := by simpa using hb2
      subst this
      exact ⟨n10, c, el, fz, n6, n8⟩
    have hszE : ∀ cb, w.heap.size ≤ cb → E.sz cb = 0 := fun cb hc => by
      rcases Nat.eq_zero_or_pos (E.sz cb) with h0 | h0
      · exact h0
      · obtain ⟨c, el, fz, q1, q2⟩ := hW.sz cb h0
        have := (Array.getElem?_eq_some_iff.1 q1).1; omega
    have hle : E.le E2 := by
      refine ⟨fun g y hgy => ?_, fun b => ?_⟩
      · have := hW.lt g y hgy
        show (if g < nx then _ else _) = _
        rw [if_pos this]; exact hgy
      · show E.sz b ≤ if isNew b = true then _ else _
        by_cases hc : isNew b = true
        · rw [if_pos hc, hszE b (hnewlt b hc).1]; exact Nat.zero_le _
        · rw [if_neg hc]; exact Nat.le_refl _
    have hold : ∀ g o, h.get g = some o → ∀ cb co, E.m g = some (cb, co) → cb < w.heap.size ∧ w'.heap[cb]? = w.heap[cb]? := fun g o hgo cb co hm => by
      obtain ⟨cb', co', e1, e2⟩ := (hW.obj g o hgo).block
      rw [hm] at e1; cases e1
      exact ⟨e2, hfr.old _ e2⟩
    refine ⟨x, E2, rfl, hle, ?_, ?_⟩
    · refine hfin E2 _ (prVals_len rs nx) ?_
      have := prVals_rel (m := E2.m) (szs := E2.sz) (bs := qs) (nx := nx) rs us xs qs 0 hqs (fun i => by rw [Nat.zero_add]) hxs (fun i b o cb co h1 h2 => ⟨hE2new i b o cb co h1 h2, by
        show E'.sz cb ≤ if isNew cb = true then _ else _
        rw [if_pos (hisNew i b o cb co h1 h2)]; exact Nat.le_refl _⟩)
      exact this
    · have hget : ∀ g o, (freshHeap (newRows rs) nx h).get g = some o → (∃ i l b oo, g = nx + i ∧ (newRows rs)[i]? = some l ∧ qs[i]? = some (b, oo) ∧ o = .cells (T.lay l 0 .nil) 0 l.length .bad false) ∨ h.get g = some o ∧ g < nx := by
        intro g o hgo
        rcases freshHeap_get _ _ _ _ _ hgo with ⟨i, l, h1, h2, h3⟩ | ⟨h1, h2⟩
        · have hlt : i < qs.length := by rw [c1]; exact (List.getElem?_eq_some_iff.1 h2).1
          exact .inl ⟨i, l, (qs[i]).1, (qs[i]).2, h1, h2, List.getElem?_eq_getElem hlt, h3⟩
        · exact .inr ⟨h1, hW.live h1⟩
      refine ⟨fun g o hgo => ?_, fun g g' o o' cb co co' h1 h2 h3 h4 => ?_, fun g y hgy => ?_, fun cb hc => ?_, hW.fr.trans hfr⟩
      · rcases hget g o hgo with ⟨i, l, b, oo, rfl, hl, hq, rfl⟩ | ⟨h1, h2⟩
        · obtain ⟨l', cb, co, c, el, fz, n1, n2, n3, n4, n5, n6, n7, n8, n9, n10, n11⟩ := hnew i b oo hq
          rw [hl] at n1; cases n1
          have hsz : E2.sz cb = E'.sz cb := by show (if isNew cb = true then _ else _) = _; rw [if_pos (hisNew i b oo cb co hq n4)]
          simp only [OR]
          exact ⟨cb, co + oo, c, el, fz, hE2new i b oo cb co hq n4, n6, by rw [hsz]; exact n7, by rw [hsz]; exact n8, n9, fun _ => Nat.le_trans hW.fr.size n10, n11 E2⟩
        · refine OR.mono _ hle (hW.obj g o h1) (fun cb co hm => (hold g o h1 cb co hm).2) (fun cb co c el fz hm hc hs => ?_)
          have hlt := (hold g o h1 cb co hm).1
          show (if isNew cb = true then _ else _) ≤ _
          rw [if_neg (fun hc => by have := (hnewlt cb hc).1; omega)]; exact hs
      · have hm1 : ∀ g o, (freshHeap (newRows rs) nx h).get g = some o → ∀ cb co, E2.m g = some (cb, co) → (g < nx ∧ h.get g = some o ∧ E.m g = some (cb, co) ∧ cb < w.heap.size) ∨ ∃ i b oo co0, g = nx + i ∧ qs[i]? = some (b, oo) ∧ E'.m b = some (cb, co0) ∧ w.heap.size ≤ cb ∧ ∃ q, hh.get b = some q := by
          intro g o hgo cb co hm
          rcases hget g o hgo with ⟨i, l, b, oo, rfl, hl, hq, rfl⟩ | ⟨k1, k2⟩
          · obtain ⟨l', cb', co', c, el, fz, n1, n2, n3, n4, n5, n6, n7, n8, n9, n10, n11⟩ := hnew i b oo hq
            rw [hE2new i b oo cb' co' hq n4] at hm; cases hm
            exact .inr ⟨i, b, oo, co', rfl, hq, n4, n10, n5⟩
          · have hm' : E.m g = some (cb, co) := by
              have : (if g < nx then E.m g else _) = some (cb, co) := hm
              rwa [if_pos k2] at this
            exact .inl ⟨k2, k1, hm', (hold g o k1 cb co hm').1⟩
        rcases hm1 g o h1 cb co h3 with ⟨a1, a2, a3, a4⟩ | ⟨i, b, oo, c0, a1, a2, a3, a4, q, a5⟩ <;> rcases hm1 g' o' h2 cb co' h4 with ⟨b1, b2, b3, b4⟩ | ⟨i', b', oo', c0', b1, b2, b3, b4, q', b5⟩
        · exact hW.inj g g' o o' cb co co' a2 b2 a3 b3
        · omega
        · omega
        · have hbb : b = b' := hW'.inj b b' q q' cb c0 c0' a5 b5 a3 b3
          subst hbb
          have hil : i < (qs.map (·.1)).length := by rw [List.length_map]; exact (List.getElem?_eq_some_iff.1 a2).1
          have : i = i' := (List.getElem?_inj hil hq1).1 (by rw [List.getElem?_map, List.getElem?_map, a2, b2]; rfl)
          rw [a1, b1, this]
      · show g < nx + (newRows rs).length
        have hgy : (if g < nx then E.m g else match qs[g - nx]? with
          | none => none
          | some b => (E'.m b.1).map fun c => (c.1, c.2 + b.2)) = some y := hgy
        split at hgy
        · omega
        · split at hgy
          · cases hgy
          · rename_i b hb'
            have := (List.getElem?_eq_some_iff.1 hb').1
            omega
      · have hc : 0 < (if isNew cb = true then E'.sz cb else E.sz cb) := hc
        show ∃ c el fz, w'.heap[cb]? = some (.cells c el fz) ∧ (if isNew cb = true then E'.sz cb else E.sz cb) ≤ c.size
        by_cases hn : isNew cb = true
        · rw [if_pos hn]; exact (hnewlt cb hn).2
        · rw [if_neg hn] at hc ⊢
          obtain ⟨c, el, fz, q1, q2⟩ := hW.sz cb hc
          exact ⟨c, el, fz, by rw [hfr.old cb (Array.getElem?_eq_some_iff.1 q1).1]; exact q1, q2⟩
end
end Go.Gh

/- Kept calls in numbers: rows one after the other, and rows found by a key. -/
namespace Go.Gh
set_option linter.unusedVariables false

/-- A kept call's row is right: the run by itself fits it. -/
noncomputable def rowOk (fs : T GFn) (fuel ng f : Nat) (gs : List (Nat × List GV)) (r : List PK × List PR) : Bool :=
  band (keptOkF ng gs r.1) (Option.rec false (fun s => fitRun ng (Nat.add ng r.1.length) r.2 s) (xcall (run fs fuel) fs f (pkArgs r.1 ng) (pkHeap ng gs r.1) (Nat.add ng r.1.length)))
/-- what is known of a function of which some calls are kept -/
noncomputable def rowsCall (gs : List (Nat × List GV)) (rows : List (List PK × List PR)) : List GV → T GO → Nat → Option MS :=
  List.rec (motive := fun _ => List GV → T GO → Nat → Option MS) (fun _ _ _ => none) (fun r _ ih => orCall (keptCallF gs r.1 r.2) ih) rows
/-- the same, the row found by a key -/
noncomputable def tabOf (rows : List (Nat × List PK × List PR)) : T (List PK × List PR) := List.rec .nil (fun r _ t => T.set t r.1 r.2) rows
noncomputable def tabCall (gs : List (Nat × List GV)) (tb : T (List PK × List PR)) (key : List GV → Nat) (args : List GV) (h : T GO) (nx : Nat) : Option MS :=
  Option.rec none (fun r => keptCallF gs r.1 r.2 args h nx) (tb.get (key args))
noncomputable def key2 (args : List GV) : Nat :=
  List.casesOn args 0 fun a r => List.casesOn r 0 fun b _ => Nat.add (Nat.mul 64 (Option.rec 0 (fun n => n) (natOf a))) (Option.rec 0 (fun n => n) (natOf b))
/-- a row of a function of two numbers -/
noncomputable def row2 (j k l : IntKind) (r : Nat × Nat × Nat) : Nat × List PK × List PR :=
  (Nat.add (Nat.mul 64 r.1) r.2.1, [.lit (.int j (Int.ofNat r.1)), .lit (.int k (Int.ofNat r.2.1))], [.lit (.int l (Int.ofNat r.2.2))])
noncomputable def rows2 (j k l : IntKind) (rs : List (Nat × Nat × Nat)) : List (Nat × List PK × List PR) := List.rec [] (fun r _ ih => row2 j k l r :: ih) rs
noncomputable def rowsOk (fs : T GFn) (fuel ng f : Nat) (gs : List (Nat × List GV)) (rows : List (Nat × List PK × List PR)) : Bool := allB (fun r => rowOk fs fuel ng f gs r.2) rows

theorem tabOf_mem : ∀ {rows : List (Nat × List PK × List PR)} {k : Nat} {r : List PK × List PR}, (tabOf rows).get k = some r → ∃ x ∈ rows, x.2 = r
  | [], k, r, h => by cases h
  | x :: rows, k, r, h => by
    rw [show tabOf (x :: rows) = T.set (tabOf rows) x.1 x.2 from rfl, T.get_set] at h
    by_cases e : k = x.1
    · rw [if_pos e] at h; exact ⟨x, by simp, by simpa using h⟩
    · rw [if_neg e] at h
      obtain ⟨y, h1, h2⟩ := tabOf_mem h
      exact ⟨y, List.mem_cons_of_mem _ h1, h2⟩
section
variable {P : Program} {X : Cx} {fs : T GFn}
theorem keptRow_ok (H : ∀ w, FOk P X w fs) {f fuel : Nat} {gs : List (Nat × List GV)} {r : List PK × List PR} (h : rowOk fs fuel X.ng f gs r = true) (w0 : World) : SumOk P X w0 f (keptCallF gs r.1 r.2) := by
  obtain ⟨h1, h2⟩ := band_t h
  exact keptF_ok H h1 h2 w0
theorem none_ok {w0 : World} {f : Nat} : SumOk P X w0 f (fun _ _ _ => none) := by
  intro args vals h nx s E w hx
  cases hx
theorem rowsCall_ok {w0 : World} {f : Nat} {gs : List (Nat × List GV)} : ∀ {rows : List (List PK × List PR)}, (∀ r ∈ rows, SumOk P X w0 f (keptCallF gs r.1 r.2)) → SumOk P X w0 f (rowsCall gs rows)
  | [], _ => none_ok
  | r :: rows, h => or_ok (h r (by simp)) (rowsCall_ok fun r hr => h r (List.mem_cons_of_mem _ hr))
theorem rowsOk_mem (H : ∀ w, FOk P X w fs) {f fuel : Nat} {gs : List (Nat × List GV)} {rows : List (Nat × List PK × List PR)} (h : rowsOk fs fuel X.ng f gs rows = true) (w0 : World) : ∀ r ∈ rows, SumOk P X w0 f (keptCallF gs r.2.1 r.2.2) :=
  fun r hr => keptRow_ok H (allB_t h r hr) w0
theorem tabCall_ok {w0 : World} {f : Nat} {gs : List (Nat × List GV)} {rows : List (Nat × List PK × List PR)} (hr : ∀ r ∈ rows, SumOk P X w0 f (keptCallF gs r.2.1 r.2.2)) {key : List GV → Nat} : SumOk P X w0 f (tabCall gs (tabOf rows) key) := by
  intro args vals h nx s E w hx
  obtain ⟨r, h1, h2⟩ := orec_some (show Option.rec none (fun r => keptCallF gs r.1 r.2 args h nx) ((tabOf rows).get (key args)) = some s from hx)
  obtain ⟨x, hm, rfl⟩ := tabOf_mem h1
  exact hr x hm args vals h nx s E w h2
end
end Go.Gh
