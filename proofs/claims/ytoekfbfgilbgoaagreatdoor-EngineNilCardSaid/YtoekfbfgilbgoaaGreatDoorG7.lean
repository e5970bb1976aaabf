/- Pure operations: what is laid together out of parts; bounds of slices. -/
import Derived.Test.YtoekfbfgilbgoaaGreatDoorG6
namespace Go.Gh
set_option linter.unusedVariables false

section
variable {P : Program} {w : World} {E : Env}

/-! ### parts into a whole -/
noncomputable def cellsOf (v : GV) : Option (List GV) := GV.casesOn v none (fun b => some [.bool b]) (fun k n => some [.int k n]) (fun s => some [.str s]) (some [.nilp]) (fun b o => some [.ptr b o]) (some [.nils])
  (fun b o l c e z => some [.sl b o l c e z]) (some [.nilm]) (fun r => some [.mp r]) (fun f a b => some [.fn f a b]) (fun l => some [.yl l]) (some [.nilf]) (fun t x => some [.iface t x]) (some [.nili]) (fun l => some l) (fun _ => none) (fun k => some [.un k])
theorem RL.one {E : Env} {g : GV} {v : Value} (h : R E g v) : RL E [g] [v] := by simp only [RL]; exact ⟨v, [], rfl, h, rfl⟩
theorem cellsOf_ok {v : GV} {a : Value} {l : List GV} (h : cellsOf v = some l) (hr : R E v a) : RL E l a.cells.toList := by
  cases v
  case bad => cases h
  case tup => cases h
  case agg l' =>
    cases h
    simp only [R] at hr
    obtain ⟨x, rfl, hx⟩ := hr
    exact hx
  case un k =>
    cases h
    have h1 := hr
    simp only [R] at h1
    rw [(UR.one h1).1]
    exact RL.one hr
  all_goals
    cases h
    have hc : a.cells = #[a] := by
      simp only [R] at hr
      first
        | (subst hr; rfl)
        | (obtain ⟨_, _, _, rfl⟩ := hr; rfl)
        | (obtain ⟨rfl, _⟩ := hr; rfl)
        | (obtain ⟨_, _, _, _, _, rfl, _⟩ := hr; rfl)
        | (obtain ⟨_, _, rfl⟩ := hr; rfl)
        | (obtain ⟨_, _, rfl, _⟩ := hr; rfl)
        | (obtain ⟨_, rfl, _⟩ := hr; rfl)
    rw [hc]
    exact RL.one hr

noncomputable def gsplice (cells : List GV) (off : Nat) (l : List GV) : List GV := cells.take off ++ l ++ cells.drop (Nat.add off l.length)
noncomputable def gfill (l : List (Nat × Nat × GV)) : List GV → Option (List GV) :=
  List.rec (motive := fun _ => List GV → Option (List GV)) (fun cells => some cells)
    (fun p _ ih cells => Option.rec none (fun c => okIf (band (Nat.beq c.length p.2.1) (Nat.ble (Nat.add p.1 c.length) cells.length)) (ih (gsplice cells p.1 c))) (cellsOf p.2.2)) l

theorem foldl_set_list : ∀ (l : List Value) (off k : Nat) (cells : Array Value) (i : Nat),
    ((l.zipIdx k).foldl (fun (cs : Array Value) (x : Value × Nat) => cs.setIfInBounds (off + x.2) x.1) cells)[i]? =
      if off + k ≤ i ∧ i < off + k + l.length ∧ i < cells.size then l[i - (off + k)]? else cells[i]?
  | [], off, k, cells, i => by rw [if_neg (by simp; omega)]; rfl
  | x :: l, off, k, cells, i => by
    rw [List.zipIdx_cons, List.foldl_cons, foldl_set_list l off (k + 1)]
    simp only [Array.size_setIfInBounds, List.length_cons]
    by_cases h : off + (k + 1) ≤ i ∧ i < off + (k + 1) + l.length ∧ i < cells.size
    · rw [if_pos h, if_pos (by omega)]
      obtain ⟨d, hd⟩ : ∃ d, i - (off + k) = d + 1 := ⟨i - (off + k) - 1, by omega⟩
      rw [hd, show i - (off + (k + 1)) = d by omega]; rfl
    · rw [if_neg h]
      by_cases e : i = off + k
      · subst e
        by_cases hs : off + k < cells.size
        · rw [if_pos (by omega)]; simp [hs]
        · rw [if_neg (by omega)]
          rw [Array.getElem?_eq_none (by simp; omega), Array.getElem?_eq_none (by omega)]
      · rw [if_neg (by omega), Array.getElem?_setIfInBounds_ne (by omega)]

theorem gsplice_get (cells l : List GV) (off i : Nat) (h : off + l.length ≤ cells.length) :
    (gsplice cells off l)[i]? = if off ≤ i ∧ i < off + l.length then l[i - off]? else cells[i]? := by
  unfold gsplice
  rw [List.append_assoc]
  by_cases h1 : i < off
  · rw [List.getElem?_append_left (by simp; omega), List.getElem?_take_of_lt h1, if_neg (by omega)]
  · rw [List.getElem?_append_right (by simp; omega)]
    have e1 : i - (cells.take off).length = i - off := by simp; omega
    rw [e1]
    by_cases h2 : i < off + l.length
    · rw [List.getElem?_append_left (by omega), if_pos (by omega)]
    · rw [List.getElem?_append_right (by omega), if_neg (by omega), List.getElem?_drop]
      congr 1
      show off + l.length + (i - off - l.length) = i
      omega
theorem gsplice_length (cells l : List GV) (off : Nat) (h : off + l.length ≤ cells.length) : (gsplice cells off l).length = cells.length := by
  unfold gsplice
  simp only [List.length_append, List.length_take, List.length_drop]
  show min off cells.length + l.length + (cells.length - (off + l.length)) = cells.length
  omega

theorem gfill_ok (place : Nat → Option (Nat × Nat)) : ∀ (gp : List (Nat × Nat × GV)) (cp : List (Nat × Value)) (cells : List GV) (cc : Array Value) (out : List GV),
    gp.length = cp.length → (∀ (i : Nat) (x : Nat × Nat × GV) (y : Nat × Value), gp[i]? = some x → cp[i]? = some y → place y.1 = some (x.1, x.2.1) ∧ R E x.2.2 y.2) →
    RL E cells cc.toList → gfill gp cells = some out → ∃ o, Instr.fill place cc cp = some o ∧ RL E out o.toList
  | [], cp, cells, cc, out, hl, hp, hc, h => by
    have : cp = [] := List.eq_nil_of_length_eq_zero hl.symm
    subst this
    cases h
    exact ⟨cc, rfl, hc⟩
  | x :: gp, cp, cells, cc, out, hl, hp, hc, h => by
    cases cp with
    | nil => simp at hl
    | cons y cp =>
      obtain ⟨off, size, gv⟩ := x
      obtain ⟨i, v⟩ := y
      obtain ⟨hpl, hr⟩ := hp 0 _ _ rfl rfl
      change Option.rec none (fun c => okIf (band (Nat.beq c.length size) (Nat.ble (Nat.add off c.length) cells.length)) (gfill gp (gsplice cells off c))) (cellsOf gv) = some out at h
      cases hcl : cellsOf gv with
      | none => rw [hcl] at h; cases h
      | some l =>
        rw [hcl] at h
        obtain ⟨hb, h⟩ := okIf_some h
        obtain ⟨hb1, hb2⟩ := band_t hb
        have hb1 := beq_t hb1
        have hb2 : off + l.length ≤ cells.length := ble_t hb2
        have hv : RL E l v.cells.toList := cellsOf_ok hcl hr
        have hvl := hv.length
        have hcl' := hc.length
        have hgs : RL E (gsplice cells off l) ((v.cells.toList.zipIdx.foldl (fun (cs : Array Value) (x : Value × Nat) => cs.setIfInBounds (off + x.2) x.1) cc).toList) := by
          have hsz : ∀ (l : List Value) (k : Nat) (cs : Array Value), ((l.zipIdx k).foldl (fun (cs : Array Value) (x : Value × Nat) => cs.setIfInBounds (off + x.2) x.1) cs).size = cs.size := by
            intro l
            induction l with
            | nil => intro k cs; rfl
            | cons a l ih => intro k cs; rw [List.zipIdx_cons, List.foldl_cons, ih]; simp
          refine RL.of_get ?_ fun j a b ha hb => ?_
          · rw [gsplice_length _ _ _ hb2, Array.length_toList, hsz]; simpa using hcl'
          · rw [gsplice_get _ _ _ _ hb2] at ha
            rw [Array.getElem?_toList, foldl_set_list] at hb
            have hcs : cc.size = cells.length := by simpa using hcl'
            by_cases hj : off ≤ j ∧ j < off + l.length
            · rw [if_pos hj] at ha
              rw [if_pos (by omega)] at hb
              obtain ⟨z, hz, hrz⟩ := hv.get ha
              rw [show j - (off + 0) = j - off by omega, hz] at hb; cases hb; exact hrz
            · rw [if_neg hj] at ha
              rw [if_neg (by omega)] at hb
              obtain ⟨z, hz, hrz⟩ := hc.get ha
              rw [Array.getElem?_toList] at hz
              rw [hz] at hb; cases hb; exact hrz
        obtain ⟨o, ho1, ho2⟩ := gfill_ok place gp cp _ _ out (by simpa using hl) (fun i x y hx hy => hp (i + 1) x y (by simpa using hx) (by simpa using hy)) hgs h
        refine ⟨o, ?_, ho2⟩
        rw [Instr.fill]
        simp only [hpl]
        rw [if_neg]
        · rw [← Array.foldl_toList, Array.toList_zipIdx] at *
          exact ho1
        · have e1 : v.cells.size = l.length := by rw [← Array.length_toList]; exact hvl
          have e2 : cc.size = cells.length := by rw [← Array.length_toList]; exact hcl'
          simp only [e1, e2, hb1, ne_eq, not_true_eq_false, decide_false, Bool.false_or]
          simp; omega

/-! ### bounds -/
theorem run_bounds {isS : Bool} {len cap : Nat} {low high max : Option Value} {l h m : Nat}
    (hm : (max = none ∧ m = cap) ∨ ∃ k, max = some (.int k (m : Int)) ∧ m ≤ cap)
    (hh : (high = none ∧ max = none ∧ h = len) ∨ ∃ k, high = some (.int k (h : Int)) ∧ h ≤ m)
    (hl : (low = none ∧ l = 0) ∨ ∃ k, low = some (.int k (l : Int)) ∧ l ≤ h) :
    (Instr.sliceBounds isS len cap low high max).run P w = .ok (l, h, m) w := by
  rcases hm with ⟨rfl, rfl⟩ | ⟨k1, rfl, h1⟩
  · rcases hh with ⟨rfl, -, rfl⟩ | ⟨k2, rfl, h2⟩
    · rcases hl with ⟨rfl, rfl⟩ | ⟨k3, rfl, h3⟩
      · simp [Instr.sliceBounds]
      · simp [Instr.sliceBounds, run_sliceBound, h3]
    · rcases hl with ⟨rfl, rfl⟩ | ⟨k3, rfl, h3⟩
      · simp [Instr.sliceBounds, run_sliceBound, h2]
      · simp [Instr.sliceBounds, run_sliceBound, h2, h3]
  · rcases hh with ⟨rfl, h0, rfl⟩ | ⟨k2, rfl, h2⟩
    · cases h0
    · rcases hl with ⟨rfl, rfl⟩ | ⟨k3, rfl, h3⟩
      · simp [Instr.sliceBounds, run_sliceBound, h1, h2]
      · simp [Instr.sliceBounds, run_sliceBound, h1, h2, h3]
end
end Go.Gh
