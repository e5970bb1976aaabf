/- Tries keyed by numbers, for a run in the kernel: what is read behind a store is what was stored. -/
import Derived.RangeFuncLeaves
import Derived.RangeFuncRecord
namespace Go.Gh
set_option linter.unusedVariables false

inductive T (α : Type) where
  | nil
  | node (l : T α) (v : Option α) (r : T α)

namespace T
variable {α : Type}

noncomputable def get (t : T α) : Nat → Option α :=
  T.rec (motive := fun _ => Nat → Option α) (fun _ => none)
    (fun _ v _ gl gr n => Bool.rec (Bool.rec (gr (Nat.pred (Nat.div n 2))) (gl (Nat.div n 2)) (Nat.beq (Nat.mod n 2) 1)) v (Nat.beq n 0)) t

noncomputable def one (x : Option α) (fuel : Nat) : Nat → T α :=
  Nat.rec (motive := fun _ => Nat → T α) (fun _ => .nil)
    (fun _ ih n => Bool.rec (Bool.rec (.node .nil none (ih (Nat.pred (Nat.div n 2)))) (.node (ih (Nat.div n 2)) none .nil) (Nat.beq (Nat.mod n 2) 1)) (.node .nil x .nil) (Nat.beq n 0)) fuel

noncomputable def put (x : Option α) (t : T α) : Nat → T α :=
  T.rec (motive := fun _ => Nat → T α) (fun n => one x (Nat.succ n) n)
    (fun l v r sl sr n => Bool.rec (Bool.rec (.node l v (sr (Nat.pred (Nat.div n 2)))) (.node (sl (Nat.div n 2)) v r) (Nat.beq (Nat.mod n 2) 1)) (.node l x r) (Nat.beq n 0)) t

noncomputable def set (t : T α) (n : Nat) (x : α) : T α := put (some x) t n
noncomputable def del (t : T α) (n : Nat) : T α := put none t n

theorem get_nil (n : Nat) : (T.nil : T α).get n = none := rfl
theorem get_zero (l : T α) (v : Option α) (r : T α) : (T.node l v r).get 0 = v := rfl
theorem get_node (l : T α) (v : Option α) (r : T α) (n : Nat) :
    (T.node l v r).get n = if n = 0 then v else if n % 2 = 1 then l.get (n / 2) else r.get (n / 2 - 1) := by
  show (Bool.rec (Bool.rec (r.get (Nat.pred (Nat.div n 2))) (l.get (Nat.div n 2)) (Nat.beq (Nat.mod n 2) 1)) v (Nat.beq n 0) : Option α) = _
  by_cases h : n = 0
  · subst h; rfl
  · have h0 : Nat.beq n 0 = false := by cases e : Nat.beq n 0 with
      | false => rfl
      | true => exact absurd (Nat.eq_of_beq_eq_true e) h
    rw [h0, if_neg h]
    by_cases h1 : n % 2 = 1
    · have : Nat.beq (Nat.mod n 2) 1 = true := by show Nat.beq (n % 2) 1 = true; rw [h1]; rfl
      rw [this, if_pos h1]; rfl
    · have : Nat.beq (Nat.mod n 2) 1 = false := by
        cases e : Nat.beq (Nat.mod n 2) 1 with
        | false => rfl
        | true => exact absurd (Nat.eq_of_beq_eq_true e) h1
      rw [this, if_neg h1]; rfl

theorem put_node (x : Option α) (l : T α) (v : Option α) (r : T α) (n : Nat) :
    put x (T.node l v r) n = if n = 0 then .node l x r else if n % 2 = 1 then .node (put x l (n / 2)) v r else .node l v (put x r (n / 2 - 1)) := by
  show (Bool.rec (Bool.rec (.node l v (put x r (Nat.pred (Nat.div n 2)))) (.node (put x l (Nat.div n 2)) v r) (Nat.beq (Nat.mod n 2) 1)) (.node l x r) (Nat.beq n 0) : T α) = _
  by_cases h : n = 0
  · subst h; rfl
  · have h0 : Nat.beq n 0 = false := by cases e : Nat.beq n 0 with
      | false => rfl
      | true => exact absurd (Nat.eq_of_beq_eq_true e) h
    rw [h0, if_neg h]
    by_cases h1 : n % 2 = 1
    · have : Nat.beq (Nat.mod n 2) 1 = true := by show Nat.beq (n % 2) 1 = true; rw [h1]; rfl
      rw [this, if_pos h1]; rfl
    · have : Nat.beq (Nat.mod n 2) 1 = false := by
        cases e : Nat.beq (Nat.mod n 2) 1 with
        | false => rfl
        | true => exact absurd (Nat.eq_of_beq_eq_true e) h1
      rw [this, if_neg h1]; rfl

theorem one_succ (x : Option α) (f n : Nat) :
    one x (f + 1) n = if n = 0 then .node .nil x .nil else if n % 2 = 1 then .node (one x f (n / 2)) none .nil else .node .nil none (one x f (n / 2 - 1)) := by
  show (Bool.rec (Bool.rec (.node .nil none (one x f (Nat.pred (Nat.div n 2)))) (.node (one x f (Nat.div n 2)) none .nil) (Nat.beq (Nat.mod n 2) 1)) (.node .nil x .nil) (Nat.beq n 0) : T α) = _
  by_cases h : n = 0
  · subst h; rfl
  · have h0 : Nat.beq n 0 = false := by cases e : Nat.beq n 0 with
      | false => rfl
      | true => exact absurd (Nat.eq_of_beq_eq_true e) h
    rw [h0, if_neg h]
    by_cases h1 : n % 2 = 1
    · have : Nat.beq (Nat.mod n 2) 1 = true := by show Nat.beq (n % 2) 1 = true; rw [h1]; rfl
      rw [this, if_pos h1]; rfl
    · have : Nat.beq (Nat.mod n 2) 1 = false := by
        cases e : Nat.beq (Nat.mod n 2) 1 with
        | false => rfl
        | true => exact absurd (Nat.eq_of_beq_eq_true e) h1
      rw [this, if_neg h1]; rfl

theorem get_one (x : Option α) : ∀ (f n m : Nat), n < f → (one x f n).get m = if m = n then x else none
  | 0, n, m, h => by omega
  | f + 1, n, m, h => by
    rw [one_succ]
    by_cases h0 : n = 0
    · rw [if_pos h0, get_node]; subst h0
      by_cases hm : m = 0
      · simp [hm]
      · simp [hm, get_nil]
    · rw [if_neg h0]
      by_cases h1 : n % 2 = 1
      · rw [if_pos h1, get_node]
        by_cases hm : m = 0
        · have : ¬ m = n := by omega
          rw [if_pos hm, if_neg this]
        · rw [if_neg hm]
          by_cases hm1 : m % 2 = 1
          · rw [if_pos hm1, get_one x f _ _ (by omega)]
            by_cases e : m = n
            · rw [if_pos (by omega), if_pos e]
            · rw [if_neg (by omega), if_neg e]
          · rw [if_neg hm1, get_nil, if_neg (by omega)]
      · rw [if_neg h1, get_node]
        by_cases hm : m = 0
        · have : ¬ m = n := by omega
          rw [if_pos hm, if_neg this]
        · rw [if_neg hm]
          by_cases hm1 : m % 2 = 1
          · rw [if_pos hm1, get_nil, if_neg (by omega)]
          · rw [if_neg hm1, get_one x f _ _ (by omega)]
            by_cases e : m = n
            · rw [if_pos (by omega), if_pos e]
            · rw [if_neg (by omega), if_neg e]

theorem get_put (x : Option α) : ∀ (t : T α) (n m : Nat), (put x t n).get m = if m = n then x else t.get m
  | .nil, n, m => by
    show (one x (Nat.succ n) n).get m = _
    rw [get_one x _ _ _ (by omega), get_nil]
  | .node l v r, n, m => by
    rw [put_node]
    by_cases h0 : n = 0
    · rw [if_pos h0, get_node, get_node]; subst h0
      by_cases hm : m = 0
      · simp [hm]
      · simp [hm]
    · rw [if_neg h0]
      by_cases h1 : n % 2 = 1
      · rw [if_pos h1, get_node, get_node]
        by_cases hm : m = 0
        · have : ¬ m = n := by omega
          rw [if_pos hm, if_neg this, if_pos hm]
        · rw [if_neg hm, if_neg hm]
          by_cases hm1 : m % 2 = 1
          · rw [if_pos hm1, if_pos hm1, get_put x l]
            by_cases e : m = n
            · rw [if_pos (by omega), if_pos e]
            · rw [if_neg (by omega), if_neg e]
          · rw [if_neg hm1, if_neg hm1, if_neg (by omega)]
      · rw [if_neg h1, get_node, get_node]
        by_cases hm : m = 0
        · have : ¬ m = n := by omega
          rw [if_pos hm, if_neg this, if_pos hm]
        · rw [if_neg hm, if_neg hm]
          by_cases hm1 : m % 2 = 1
          · rw [if_pos hm1, if_pos hm1, if_neg (by omega)]
          · rw [if_neg hm1, if_neg hm1, get_put x r]
            by_cases e : m = n
            · rw [if_pos (by omega), if_pos e]
            · rw [if_neg (by omega), if_neg e]

theorem get_set (t : T α) (n m : Nat) (x : α) : (t.set n x).get m = if m = n then some x else t.get m := get_put _ _ _ _
theorem get_del (t : T α) (n m : Nat) : (t.del n).get m = if m = n then none else t.get m := get_put _ _ _ _
theorem get_set_same (t : T α) (n : Nat) (x : α) : (t.set n x).get n = some x := by rw [get_set, if_pos rfl]
theorem get_set_ne (t : T α) {n m : Nat} (x : α) (h : m ≠ n) : (t.set n x).get m = t.get m := by rw [get_set, if_neg h]

/-- A list laid from a place on. -/
noncomputable def lay (l : List α) : Nat → T α → T α :=
  List.rec (motive := fun _ => Nat → T α → T α) (fun _ t => t) (fun x _ ih n t => ih (Nat.succ n) (set t n x)) l
theorem lay_nil (n : Nat) (t : T α) : lay [] n t = t := rfl
theorem lay_cons (x : α) (l : List α) (n : Nat) (t : T α) : lay (x :: l) n t = lay l (n + 1) (t.set n x) := rfl
theorem get_lay : ∀ (l : List α) (n : Nat) (t : T α) (m : Nat), (lay l n t).get m = if n ≤ m ∧ m < n + l.length then l[m - n]? else t.get m
  | [], n, t, m => by rw [lay_nil, if_neg (by simp)]
  | x :: l, n, t, m => by
    rw [lay_cons, get_lay l, get_set]
    simp only [List.length_cons]
    by_cases h : n + 1 ≤ m ∧ m < n + 1 + l.length
    · rw [if_pos h, if_pos (by omega)]
      obtain ⟨d, hd⟩ : ∃ d, m - n = d + 1 := ⟨m - n - 1, by omega⟩
      have : m - (n + 1) = d := by omega
      rw [hd, this]; rfl
    · rw [if_neg h]
      by_cases e : m = n
      · rw [if_pos e, if_pos (by omega)]; subst e; simp
      · rw [if_neg e, if_neg (by omega)]

noncomputable def ofList (l : List α) : T α := lay l 0 .nil
theorem get_ofList (l : List α) (m : Nat) : (ofList l).get m = l[m]? := by
  unfold ofList
  rw [get_lay]
  by_cases h : m < l.length
  · rw [if_pos (by omega)]; simp
  · rw [if_neg (by omega), get_nil]; simp at h; simp [h]

/-- n places from lo on, what is not there as d. -/
noncomputable def read (t : T α) (d : α) (n : Nat) : Nat → List α :=
  Nat.rec (motive := fun _ => Nat → List α) (fun _ => []) (fun _ ih lo => (Option.rec d (fun x => x) (t.get lo) : α) :: ih (Nat.succ lo)) n
theorem read_zero (t : T α) (d : α) (lo : Nat) : read t d 0 lo = [] := rfl
theorem read_succ (t : T α) (d : α) (n lo : Nat) : read t d (n + 1) lo = (t.get lo).getD d :: read t d n (lo + 1) := by
  show (Option.rec d (fun x => x) (t.get lo) : α) :: _ = _
  cases t.get lo <;> rfl
theorem length_read (t : T α) (d : α) : ∀ (n lo : Nat), (read t d n lo).length = n
  | 0, lo => rfl
  | n + 1, lo => by rw [read_succ, List.length_cons, length_read t d n]
theorem getElem_read (t : T α) (d : α) : ∀ (n lo i : Nat), i < n → (read t d n lo)[i]? = some ((t.get (lo + i)).getD d)
  | 0, lo, i, h => by omega
  | n + 1, lo, 0, h => by rw [read_succ]; rfl
  | n + 1, lo, i + 1, h => by
    rw [read_succ, List.getElem?_cons_succ, getElem_read t d n _ _ (by omega)]
    rw [show lo + 1 + i = lo + (i + 1) by omega]
end T
end Go.Gh
