/- The run is sound: a region that draws its order, all orders. -/
import Derived.Test.YtoekfbfgilbgoaaGreatDoorG28
namespace Go.Gh
set_option linter.unusedVariables false

section
variable {P : Program} {X : Cx} {fs : T GFn} {w0 : World} {self : Option Nat → GC → GS → GR}

theorem cDraw_at {ops : Array Oper} {j : Nat} {g : GD} (hj : (cDraw X P ops)[j]? = some g) : ∃ o, ops[j]? = some o ∧ g.o = cOper X P ops o ∧ g.eff = effOf g.o.op := by
  unfold cDraw at hj
  simp only [List.getElem?_map, List.getElem?_zipIdx, Option.map_map, Array.getElem?_toList, Option.map_eq_some_iff] at hj
  obtain ⟨o, ho, rfl⟩ := hj
  exact ⟨o, ho, rfl, rfl⟩
theorem cDraw_length {ops : Array Oper} : (cDraw X P ops).length = ops.size := by simp [cDraw]

theorem drawOk_at {ds : List (List Nat)} {gs : List GD} (hd : drawOk ds gs = true) {j : Nat} {y : GD} (hj : gs[j]? = some y) :
    (∀ d ∈ (ds[j]?).getD [], d < j) ∧ (∀ x ∈ y.an, x ∈ (ds[j]?).getD [] ∨ ∃ d ∈ (ds[j]?).getD [], ∃ gd, gs[d]? = some gd ∧ x ∈ gd.an) ∧
    (∀ i x, i < j → gs[i]? = some x → i ∈ y.an ∨ (clash x y = false ∧ ¬ (x.eff = true ∧ y.eff = true))) ∧
    (readM y.o.op = true → ∀ c, c ≤ gs.length → mayCut (gs.map (·.eff)) (gs.map (·.an)) j c = true → c ∈ y.cs ∨ ownCut (gs.map (·.eff)) j c = true) := by
  have h := List.all_eq_true.1 hd (y, j) (List.mem_zipIdx_iff_getElem?.2 hj)
  unfold drawOk1 at h
  simp only [Bool.and_eq_true] at h
  obtain ⟨⟨⟨h1, h2⟩, h3⟩, h4⟩ := h
  refine ⟨fun d hd => by simpa using List.all_eq_true.1 h1 d hd, fun x hx => ?_, fun i x hi hx => ?_, fun hr c hc hm => ?_⟩
  · have := List.all_eq_true.1 h2 x hx
    rw [Bool.or_eq_true] at this
    rcases this with h | h
    · exact .inl (by simpa using h)
    · obtain ⟨d, hd, hx'⟩ := List.any_eq_true.1 h
      refine .inr ⟨d, hd, ?_⟩
      cases hg : gs[d]? with
      | none => rw [hg] at hx'; simp at hx'
      | some gd => rw [hg] at hx'; exact ⟨gd, rfl, by simpa using hx'⟩
  · have := List.all_eq_true.1 h3 (x, i) (List.mem_zipIdx_iff_getElem?.2 (by rw [List.getElem?_take_of_lt hi]; exact hx))
    simp only [Bool.or_eq_true, Bool.and_eq_true, Bool.not_eq_true'] at this
    rcases this with h | ⟨h, h'⟩
    · exact .inl (by simpa using h)
    · exact .inr ⟨h, fun ⟨e1, e2⟩ => by rw [e1, e2] at h'; cases h'⟩
  · rw [Bool.or_eq_true] at h4
    rcases h4 with h | h
    · rw [hr] at h; cases h
    · have := List.all_eq_true.1 h c (List.mem_range.2 (by omega))
      rw [hm] at this
      simpa using this

theorem clash_l {x y : GD} (h : clash x y = false) {d : Nat} (hd : x.o.dst = some d) : d ∉ y.sl ∧ y.o.dst ≠ some d := by
  unfold clash at h
  rw [Bool.or_eq_false_iff] at h
  obtain ⟨h1, _⟩ := h
  rw [hd] at h1
  simp only [Bool.or_eq_false_iff] at h1
  refine ⟨by simpa using h1.1, fun e => ?_⟩
  rw [e] at h1
  simp at h1
theorem clash_r {x y : GD} (h : clash x y = false) {d : Nat} (hd : y.o.dst = some d) : d ∉ x.sl := by
  unfold clash at h
  rw [Bool.or_eq_false_iff] at h
  obtain ⟨_, h1⟩ := h
  rw [hd] at h1
  simpa using h1

section state
variable {l : List GD} {t : T GV} {h : T GO} {nx : Nat} {Tm : Nat → T GV} {Hf : Nat → T GO × Nat} {V : Nat → GV} {r : DRes}

theorem Tr.const (ht : Tr self fs l t h nx Tm Hf V r) (he : ∀ (j : Nat) (g : GD), l[j]? = some g → g.eff = effOf g.o.op) (c : Nat) : ∀ k, c + k ≤ l.length → (∀ (i : Nat) (g : GD), c ≤ i → i < c + k → l[i]? = some g → g.eff = false) → Hf (c + k) = Hf c
  | 0, _, _ => rfl
  | k + 1, hk, hn => by
    have ih := Tr.const ht he c k (by omega) (fun i g h1 h2 h3 => hn i g h1 (by omega) h3)
    have hlt : c + k < l.length := by omega
    have hg : l[c + k]? = some l[c + k] := List.getElem?_eq_getElem hlt
    obtain ⟨h1, _⟩ := ht.st _ _ hg
    have hf := hn (c + k) _ (by omega) (by omega) hg
    rw [he _ _ hg] at hf
    obtain ⟨e1, e2⟩ := dstep_keeps hf h1
    rw [← ih]
    show Hf (c + k + 1) = _
    exact Prod.ext e1 e2

theorem Tr.char (ht : Tr self fs l t h nx Tm Hf V r) (d : Nat) : ∀ j, j ≤ l.length →
    (∃ i g, i < j ∧ l[i]? = some g ∧ g.o.dst = some d ∧ (∀ i' g', i' < j → l[i']? = some g' → g'.o.dst = some d → i' ≤ i) ∧ (Tm j).get d = some (V i)) ∨
    ((∀ i g, i < j → l[i]? = some g → g.o.dst ≠ some d) ∧ (Tm j).get d = t.get d)
  | 0, _ => .inr ⟨fun i g hi => by omega, by rw [ht.t0]⟩
  | j + 1, hj => by
    have hlt : j < l.length := by omega
    have hg : l[j]? = some l[j] := List.getElem?_eq_getElem hlt
    obtain ⟨_, h2⟩ := ht.st _ _ hg
    rw [h2]
    have ih := Tr.char ht d j (by omega)
    by_cases hd : (l[j]).o.dst = some d
    · refine .inl ⟨j, _, by omega, hg, hd, fun i' g' hi' _ _ => by omega, ?_⟩
      rw [hd]
      show (T.set (Tm j) d (V j)).get d = _
      rw [T.get_set, if_pos rfl]
    · have hsame : (tput (Tm j) (l[j]).o.dst (V j)).get d = (Tm j).get d := by
        cases hdd : (l[j]).o.dst with
        | none => rfl
        | some x =>
          show (T.set (Tm j) x (V j)).get d = _
          rw [T.get_set, if_neg (fun e => hd (by rw [hdd, e]))]
      rw [hsame]
      rcases ih with ⟨i, g, h1, h2, h3, h4, h5⟩ | ⟨h1, h2⟩
      · refine .inl ⟨i, g, by omega, h2, h3, fun i' g' hi' hg' hd' => ?_, h5⟩
        by_cases e : i' = j
        · subst e; rw [hg] at hg'; cases hg'; exact absurd hd' hd
        · exact h4 i' g' (by omega) hg' hd'
      · refine .inr ⟨fun i g hi hg' hd' => ?_, h2⟩
        by_cases e : i = j
        · subst e; rw [hg] at hg'; cases hg'; exact hd hd'
        · exact h1 i g (by omega) hg' hd'

/-- the slots, when the operations L are done -/
def Slots (E : Env) (N : Nat) (l : List GD) (t : T GV) (V : Nat → GV) (L : Nat → Prop) (tm : Array Value) : Prop :=
  N ≤ tm.size ∧ ∀ d, (∃ i g, l[i]? = some g ∧ L i ∧ g.o.dst = some d ∧ (∀ i' g', l[i']? = some g' → L i' → g'.o.dst = some d → i' ≤ i) ∧ d < N ∧ ∃ x, tm[d]? = some x ∧ R E (V i) x) ∨
    ((∀ i g, l[i]? = some g → L i → g.o.dst ≠ some d) ∧ ∀ v, t.get d = some v → d < N ∧ ∃ x, tm[d]? = some x ∧ R E v x)
theorem Slots.mono {E E' : Env} (hE : E.le E') {N : Nat} {L : Nat → Prop} {tm : Array Value} (hs : Slots E N l t V L tm) : Slots E' N l t V L tm := by
  refine ⟨hs.1, fun d => ?_⟩
  rcases hs.2 d with ⟨i, g, h1, h2, h3, h4, h5, x, h6, h7⟩ | ⟨h1, h2⟩
  · exact .inl ⟨i, g, h1, h2, h3, h4, h5, x, h6, R.mono hE _ _ h7⟩
  · refine .inr ⟨h1, fun v hv => ?_⟩
    obtain ⟨h5, x, h6, h7⟩ := h2 v hv
    exact ⟨h5, x, h6, R.mono hE _ _ h7⟩
theorem Slots.get (ht : Tr self fs l t h nx Tm Hf V r) {E : Env} {N : Nat} {L : Nat → Prop} {tm : Array Value} (hs : Slots E N l t V L tm) {j d : Nat} (hj : j ≤ l.length) (hL : ∀ i g, l[i]? = some g → g.o.dst = some d → (L i ↔ i < j)) {v : GV} (hv : (Tm j).get d = some v) :
    d < N ∧ ∃ x, tm[d]? = some x ∧ R E v x := by
  rcases ht.char d j hj with ⟨i, g, h1, h2, h3, h4, h5⟩ | ⟨h1, h2⟩ <;> rcases hs.2 d with ⟨i0, g0, k1, k2, k3, k4, k5, x, k6, k7⟩ | ⟨k1, k2⟩
  · have e1 := k4 i g h2 ((hL i g h2 h3).2 h1) h3
    have e2 := h4 i0 g0 ((hL i0 g0 k1 k3).1 k2) k1 k3
    have : i = i0 := by omega
    subst this
    rw [h5] at hv; cases hv
    exact ⟨k5, x, k6, k7⟩
  · exact absurd h3 (k1 i g h2 ((hL i g h2 h3).2 h1))
  · exact absurd k3 (h1 i0 g0 ((hL i0 g0 k1 k3).1 k2) k1)
  · exact k2 v (by rw [← h2]; exact hv)
theorem put_other {a : Act} {dst : Option Nat} {d : Nat} {v : Value} (h : dst ≠ some d) : (a.put dst v).tmps[d]? = a.tmps[d]? := by
  cases dst with
  | none => rfl
  | some x =>
    show (a.tmps.setIfInBounds x v)[d]? = _
    rw [Array.getElem?_setIfInBounds_ne (fun e => h (by rw [e]))]
theorem Slots.put {E : Env} {N : Nat} {L L' : Nat → Prop} {a : Act} (hs : Slots E N l t V L a.tmps) {j : Nat} {g : GD} {dst : Option Nat} (hg : l[j]? = some g) (hd : g.o.dst = Gh.sl N dst) (hL' : ∀ i, L' i ↔ L i ∨ i = j)
    (hlast : ∀ i g', l[i]? = some g' → L i → (∀ d, g.o.dst = some d → g'.o.dst = some d → i ≤ j)) {v : Value} (hr : R E (V j) v) : Slots E N l t V L' (a.put dst v).tmps := by
  have hsz : (a.put dst v).tmps.size = a.tmps.size := by cases dst <;> simp [Act.put]
  refine ⟨by rw [hsz]; exact hs.1, fun d => ?_⟩
  by_cases hgd : g.o.dst = some d
  · have hdst : dst = some d ∧ d < N := by
      rw [hd] at hgd
      unfold Gh.sl at hgd
      cases dst with
      | none => cases hgd
      | some x =>
        simp only at hgd
        split at hgd
        · rename_i hlt; cases hgd; exact ⟨rfl, hlt⟩
        · cases hgd
    refine .inl ⟨j, g, hg, (hL' j).2 (.inr rfl), hgd, fun i' g' h1 h2 h3 => ?_, hdst.2, v, ?_, hr⟩
    · rcases (hL' i').1 h2 with h2 | rfl
      · exact hlast i' g' h1 h2 d hgd h3
      · exact Nat.le_refl _
    · rw [hdst.1]
      show (a.tmps.setIfInBounds d v)[d]? = some v
      have := hs.1
      rw [Array.getElem?_setIfInBounds_self_of_lt (by omega)]
  · have hkeep : d < N → (a.put dst v).tmps[d]? = a.tmps[d]? := fun hlt => put_other (fun e => hgd (by rw [hd, e]; unfold Gh.sl; simp only; rw [if_pos hlt]))
    rcases hs.2 d with ⟨i, gi, h1, h2, h3, h4, h5, x, h6, h7⟩ | ⟨h1, h2⟩
    · refine .inl ⟨i, gi, h1, (hL' i).2 (.inl h2), h3, fun i' g' e1 e2 e3 => ?_, h5, x, by rw [hkeep h5]; exact h6, h7⟩
      rcases (hL' i').1 e2 with e2 | rfl
      · exact h4 i' g' e1 e2 e3
      · rw [hg] at e1; cases e1; exact absurd e3 hgd
    · refine .inr ⟨fun i gi e1 e2 e3 => ?_, fun u hu => ?_⟩
      · rcases (hL' i).1 e2 with e2 | rfl
        · exact h1 i gi e1 e2 e3
        · rw [hg] at e1; cases e1; exact hgd e3
      · obtain ⟨h5, x, h6, h7⟩ := h2 u hu
        exact ⟨h5, x, by rw [hkeep h5]; exact h6, h7⟩
end state
end
end Go.Gh
