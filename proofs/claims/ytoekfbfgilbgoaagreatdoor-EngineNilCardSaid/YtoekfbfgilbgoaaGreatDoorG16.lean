/- Operations on memory: slices made, appended to, copied; texts and bytes. -/
import Derived.Test.YtoekfbfgilbgoaaGreatDoorG15
namespace Go.Gh
set_option linter.unusedVariables false

theorem growBy_le (newLen : Nat) : ∀ (r c : Nat), c < newLen → Builtin.growBy newLen r c ≤ newLen + (newLen + 768) / 4
  | 0, c, h => by simp only [Builtin.growBy]; omega
  | r + 1, c, h => by
    simp only [Builtin.growBy]
    split
    · omega
    · by_cases h2 : c + (c + 768) / 4 < newLen
      · exact growBy_le newLen r _ h2
      · cases r with
        | zero => simp only [Builtin.growBy]; omega
        | succ r => simp only [Builtin.growBy]; rw [if_pos (by omega)]; omega
theorem nextcap_le {need c : Nat} (h : c < need) : Builtin.nextslicecap need c ≤ 2 * need + 192 := by
  unfold Builtin.nextslicecap
  split
  · omega
  · split
    · omega
    · have := growBy_le need 4 c h; omega

section
variable {P : Program} {w : World}
theorem run_askRoom (n : Nat) : (askRoom n).run P w = .ok () w := by
  unfold askRoom; split <;> rfl
/-- What is appended or copied: n elements, their cells. -/
def Src (P : Program) (w : World) (size : Nat) (x : Value) (n : Nat) (cs : List Value) : Prop :=
  cs.length = n * size ∧ (∀ w', (Builtin.lenOf x).run P w' = .ok n w') ∧ ∀ m w', m ≤ n → w'.heap = w.heap → (Builtin.firstCells size m x).run P w' = .ok (cs.take (m * size)).toArray w'

theorem run_append_in {st xt ty e : TypeId} {i : TypeInfo} {d : TypeDesc} {base : Option Addr} {len c n : Nat} {x : Value} {cs : List Value} {w' : World} (hs : P.underlying st = some (.slice e)) (hx : P.underlying xt = some d) (hd : ∀ k, d ≠ .int k)
    (hi : P.info? e = some i) (hsrc : Src P w i.size x n cs) (hc : len + n ≤ c)
    (hst : (match base with | some a => storeCells (a.add (len * i.size)) cs | none => pure ()).run P w = .ok () w') :
    (Builtin.append_ #[st, xt] ty #[.slice base len c, x]).run P w = .ok (.slice base (len + n) c) w' := by
  obtain ⟨h1, h2, h3⟩ := hsrc
  have hz : (sizeOf e).run P w = .ok i.size w := by simp [sizeOf, typeInfo, hi]
  have hcs := h3 n w (Nat.le_refl _) rfl
  rw [← h1, List.take_length] at hcs
  have hzz : (match d with | .int _ => true | _ => false) = false := by cases d <;> first | rfl | exact absurd rfl (hd _)
  unfold Builtin.append_
  simp only [List.getElem?_toArray, List.getElem?_cons_zero, List.getElem?_cons_succ, Sem.run_bind, run_underlying hs, run_underlying hx, Result.andThen_ok, hz, Sem.run_pure, Bool.false_eq_true, if_false, h2, Bool.not_false, if_true]
  rw [if_pos hc]
  simp only [Sem.run_bind, hcs, Result.andThen_ok]
  cases base with
  | none => simp only [Sem.run_pure] at hst ⊢; cases hst; simp
  | some a => simp only at hst ⊢; simp [hst]

theorem run_append_grow' {st xt ty e : TypeId} {i : TypeInfo} {z : Value} {d : TypeDesc} {base : Option Addr} {len c n : Nat} {x : Value} {cs old : List Value} (hs : P.underlying st = some (.slice e)) (hx : P.underlying xt = some d) (hd : ∀ k, d ≠ .int k)
    (hi : P.info? e = some i) (hiz : i.zero = some z) (hsrc : Src P w i.size x n cs) (hc : c < len + n) (hn : len + n ≤ 1073741824) (hb : i.bytes ≤ 1024)
    (hold : ∀ w', w'.heap = w.heap → (Builtin.firstCells i.size len (.slice base len c)).run P w' = .ok old.toArray w') :
    ∃ nc, len + n ≤ nc ∧ (Builtin.append_ #[st, xt] ty #[.slice base len c, x]).run P w =
      .ok (.slice (some ⟨w.heap.size, 0, none⟩) (len + n) nc) (w.drew.alloc (.cells (old.toArray ++ cs.toArray ++ Builtin.zeroCells z.cells (nc - (len + n))) e)) := by
  obtain ⟨h1, h2, h3⟩ := hsrc
  have hz : ∀ w, (sizeOf e).run P w = .ok i.size w := fun w => by simp [sizeOf, typeInfo, hi]
  have hti : ∀ w, (typeInfo e).run P w = .ok i w := fun w => by simp [typeInfo, hi]
  have hzv : ∀ w, (zeroValue e).run P w = .ok z w := fun w => by simp [zeroValue, typeInfo, hi, hiz]
  have hcs : ∀ w', w'.heap = w.heap → (Builtin.firstCells i.size n x).run P w' = .ok cs.toArray w' := fun w' hw => by
    have := h3 n w' (Nat.le_refl _) hw
    rwa [← h1, List.take_length] at this
  have hzz : (match d with | .int _ => true | _ => false) = false := by cases d <;> first | rfl | exact absurd rfl (hd _)
  have hcap : ¬ Builtin.nextslicecap (len + n) c * i.bytes > 2 ^ 48 := by
    have h4 := nextcap_le hc
    have : Builtin.nextslicecap (len + n) c * i.bytes ≤ (2 * 1073741824 + 192) * 1024 := Nat.mul_le_mul (by omega) hb
    omega
  have hmax : ¬ (((len + n : Nat) : Int) > IntKind.i64.max ∧ ((false = true) ∨ i.bytes = 0)) := by
    rintro ⟨h5, _⟩
    have : IntKind.i64.max = 9223372036854775807 := by decide
    rw [this] at h5
    omega
  refine ⟨(Question.appendCap (len + n) c e).cut (w.tape w.drawn (.appendCap (len + n) c e)), by simp [Question.cut], ?_⟩
  unfold Builtin.append_
  simp only [List.getElem?_toArray, List.getElem?_cons_zero, List.getElem?_cons_succ, Sem.run_bind, run_underlying hs, run_underlying hx, Result.andThen_ok, hz, Sem.run_pure, Bool.false_eq_true, if_false, h2, Bool.not_false, if_true]
  rw [if_neg (by omega)]
  simp only [Sem.run_bind, hti, Result.andThen_ok]
  rw [if_neg (by simpa using hmax)]
  simp only [Sem.run_bind, hti, Result.andThen_ok]
  rw [if_neg hcap]
  simp only [Sem.run_bind, Sem.run_pure, Result.andThen_ok, run_choose_drew, Question.forced, Bool.false_eq_true, if_false, hti, run_askRoom]
  rw [hold w.drew rfl]
  simp only [Result.andThen_ok]
  rw [hcs w.drew rfl]
  simp only [Result.andThen_ok, hzv, newRow, Sem.run_bind, run_newObj_alloc, Sem.run_pure]
  rfl
end
end Go.Gh
