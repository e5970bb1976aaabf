/- What is seen to be the same is the same; what two memories have in common. -/
import Derived.Test.YtoekfbfgilbgoaaGreatDoorG25
namespace Go.Gh
set_option linter.unusedVariables false

theorem gsame0_eq {a b : GV} (h : gsame0 a b = true) : a = b := by
  cases a <;> cases b <;> first | rfl | (cases h; done) | skip
  case bool.bool x y =>
    have h : (Bool.rec (bnot y) y x : Bool) = true := h
    cases x <;> cases y <;> first | rfl | cases h
  case int.int k n k' n' =>
    obtain ⟨h1, h2⟩ := band_t (show band (kq k k') (ieq n n') = true from h)
    rw [ieq_eq, beq_iff_eq] at h2
    rw [kq_eq h1, h2]
  case str.str s s' =>
    have h : leq s s' = true := h
    rw [leq_eq, decide_eq_true_eq] at h; rw [h]
  case ptr.ptr p q p' q' =>
    obtain ⟨h1, h2⟩ := band_t (show band (Nat.beq p p') (Nat.beq q q') = true from h)
    rw [beq_t h1, beq_t h2]
  case sl.sl p o l c e z p' o' l' c' e' z' =>
    obtain ⟨h1, h2⟩ := band_t (show band (Nat.beq p p') (band (Nat.beq o o') (band (Nat.beq l l') (band (Nat.beq c c') (band (Bool.rec (bnot e') e' e) (Nat.beq z z'))))) = true from h)
    obtain ⟨h2, h3⟩ := band_t h2
    obtain ⟨h3, h4⟩ := band_t h3
    obtain ⟨h4, h5⟩ := band_t h4
    obtain ⟨h5, h6⟩ := band_t h5
    have he : e = e' := by cases e <;> cases e' <;> first | rfl | cases h5
    rw [beq_t h1, beq_t h2, beq_t h3, beq_t h4, he, beq_t h6]
  case mp.mp p p' => rw [beq_t (show Nat.beq p p' = true from h)]
  case un.un k k' => rw [uq_eq (show uq k k' = true from h)]

theorem gall_eq {f : GV → GV → Bool} (hf : ∀ x y, f x y = true → x = y) : ∀ (l m : List GV), gall f l m = true → l = m
  | [], [], _ => rfl
  | [], y :: m, h => by cases h
  | x :: l, [], h => by cases h
  | x :: l, y :: m, h => by
    obtain ⟨h1, h2⟩ := band_t (show band (f x y) (gall f l m) = true from h)
    rw [hf x y h1, gall_eq hf l m h2]
theorem gsameN_eq {f : GV → GV → Bool} (hf : ∀ x y, f x y = true → x = y) (a b : GV) (h : gsameN f a b = true) : a = b := by
  cases a <;> first | exact gsame0_eq h | skip
  case fn g x c =>
    cases b <;> first | (cases h; done) | skip
    rename_i g' x' c'
    cases g <;> first | (cases h; done) | skip
    cases g' <;> first | (cases h; done) | skip
    rename_i n n'
    obtain ⟨h1, h2⟩ := band_t (show band (Nat.beq n n') (band (gall f x x') (gall f c c')) = true from h)
    obtain ⟨h2, h3⟩ := band_t h2
    rw [beq_t h1, gall_eq hf _ _ h2, gall_eq hf _ _ h3]
  case iface t x =>
    cases b <;> first | (cases h; done) | skip
    rename_i t' x'
    obtain ⟨h1, h2⟩ := band_t (show band (Nat.beq t t') (f x x') = true from h)
    rw [beq_t h1, hf _ _ h2]
  case agg l =>
    cases b <;> first | (cases h; done) | skip
    rw [gall_eq hf _ _ h]
  case tup l =>
    cases b <;> first | (cases h; done) | skip
    rw [gall_eq hf _ _ h]
theorem gsame_eq {a b : GV} (h : gsame a b = true) : a = b := gsameN_eq (fun x y => gsameN_eq (fun x y => gsame0_eq) x y) a b h

theorem kindB_ok {E : Env} {v : GV} {x : Value} (h : kindB v = true) (hr : R E v x) : R E (.un .b) x := by
  cases v <;> first | (cases h; done) | skip
  case bool b => simp only [R] at hr ⊢; exact ⟨b, hr⟩
  case un u =>
    have hu := uq_eq (show uq u .b = true from h)
    subst hu; exact hr
theorem vjoin_ok {a b u : GV} (h : vjoin a b = some u) : ∀ (E : Env) (x : Value), (R E a x → R E u x) ∧ (R E b x → R E u x) := by
  intro E x
  unfold vjoin at h
  cases hg : gsame a b with
  | true =>
    rw [hg] at h; cases h
    have := gsame_eq hg
    subst this
    exact ⟨id, id⟩
  | false =>
    rw [hg] at h
    obtain ⟨hb, h⟩ := okIf_some (show okIf (band (kindB a) (kindB b)) (some (.un .b)) = some u from h)
    cases h
    obtain ⟨h1, h2⟩ := band_t hb
    exact ⟨kindB_ok h1, kindB_ok h2⟩
theorem bsame_eq {a b : Bool} (h : bsame a b = true) : a = b := by cases a <;> cases b <;> first | rfl | cases h
theorem osame_eq {α : Type} {f : α → α → Bool} (hf : ∀ x y, f x y = true → x = y) {a b : Option α} (h : osame f a b = true) : a = b := by
  cases a <;> cases b <;> first | rfl | (cases h; done) | skip
  rename_i x y
  rw [hf x y (show f x y = true from h)]
theorem tsame_eq {α : Type} {f : α → α → Bool} (hf : ∀ x y, f x y = true → x = y) : ∀ (a b : T α), tsame f a b = true → a = b
  | .nil, .nil, _ => rfl
  | .nil, .node _ _ _, h => by cases h
  | .node l v r, .nil, h => by cases h
  | .node l v r, .node l' v' r', h => by
    obtain ⟨h1, h2⟩ := band_t (show band (osame f v v') (band (tsame f l l') (tsame f r r')) = true from h)
    obtain ⟨h2, h3⟩ := band_t h2
    rw [osame_eq hf h1, tsame_eq hf l l' h2, tsame_eq hf r r' h3]
theorem lsame_eq {α : Type} {f : α → α → Bool} (hf : ∀ x y, f x y = true → x = y) : ∀ (l m : List α), lsame f l m = true → l = m
  | [], [], _ => rfl
  | [], y :: m, h => by cases h
  | x :: l, [], h => by cases h
  | x :: l, y :: m, h => by
    obtain ⟨h1, h2⟩ := band_t (show band (f x y) (lsame f l m) = true from h)
    rw [hf x y h1, lsame_eq hf l m h2]
theorem gosame_eq {a b : GO} (h : gosame a b = true) : a = b := by
  cases a <;> cases b <;> first | rfl | (cases h; done) | skip
  case cells.cells t lo n d ro t' lo' n' d' ro' =>
    obtain ⟨h1, h2⟩ := band_t (show band (Nat.beq lo lo') (band (Nat.beq n n') (band (gsame d d') (band (bsame ro ro') (tsame gsame t t')))) = true from h)
    obtain ⟨h2, h3⟩ := band_t h2
    obtain ⟨h3, h4⟩ := band_t h3
    obtain ⟨h4, h5⟩ := band_t h4
    rw [beq_t h1, beq_t h2, gsame_eq h3, bsame_eq h4, tsame_eq (fun _ _ => gsame_eq) _ _ h5]
  case map.map es cl es' cl' =>
    obtain ⟨h1, h2⟩ := band_t (show band (Nat.beq cl cl') (lsame (fun x y => band (gsame x.1 y.1) (band (gsame x.2.1 y.2.1) (Nat.beq x.2.2 y.2.2))) es es') = true from h)
    rw [beq_t h1, lsame_eq (fun x y hxy => ?_) _ _ h2]
    obtain ⟨h3, h4⟩ := band_t hxy
    obtain ⟨h4, h5⟩ := band_t h4
    exact Prod.ext (gsame_eq h3) (Prod.ext (gsame_eq h4) (beq_t h5))
theorem omeet_some {a b : Option GO} {o : GO} (h : omeet a b = some o) : a = some o ∧ b = some o := by
  cases a <;> cases b <;> first | (cases h; done) | skip
  rename_i x y
  change (Bool.rec none (some x) (gosame x y) : Option GO) = some o at h
  cases hg : gosame x y with
  | false => rw [hg] at h; cases h
  | true => rw [hg] at h; cases h; exact ⟨rfl, by rw [gosame_eq hg]⟩
theorem meet_get : ∀ (a b : T GO) (n : Nat) (o : GO), (meet a b).get n = some o → a.get n = some o ∧ b.get n = some o
  | .nil, b, n, o, h => by rw [show meet .nil b = .nil from rfl, T.get_nil] at h; cases h
  | .node l v r, .nil, n, o, h => by rw [show meet (.node l v r) .nil = .nil from rfl, T.get_nil] at h; cases h
  | .node l v r, .node l' v' r', n, o, h => by
    rw [show meet (.node l v r) (.node l' v' r') = .node (meet l l') (omeet v v') (meet r r') from rfl, T.get_node] at h
    rw [T.get_node, T.get_node]
    by_cases h0 : n = 0
    · rw [if_pos h0] at h ⊢; rw [if_pos h0]; exact omeet_some h
    · rw [if_neg h0] at h ⊢; rw [if_neg h0]
      by_cases h1 : n % 2 = 1
      · rw [if_pos h1] at h ⊢; rw [if_pos h1]; exact meet_get l l' _ o h
      · rw [if_neg h1] at h ⊢; rw [if_neg h1]; exact meet_get r r' _ o h
end Go.Gh
