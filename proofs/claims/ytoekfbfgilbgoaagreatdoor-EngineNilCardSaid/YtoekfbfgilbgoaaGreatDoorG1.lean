/- Values and memory of a run that asks nobody: what they say of the machine's values and memory. -/
import Derived.Test.YtoekfbfgilbgoaaGreatDoorG0
namespace Go.Gh
set_option linter.unusedVariables false

/-- what is known of a value that is not: its kind -/
inductive UK where
  | b
  | i (k : IntKind)
  | s
  | l

/-- A value as the run has it: 'bad' says nothing; a block's number is the run's own; a slice's capacity may be more ('ex' false). -/
inductive GV where
  | bad
  | bool (b : Bool)
  | int (k : IntKind) (n : Int)
  | str (s : List Nat)
  | nilp
  | ptr (b o : Nat)
  | nils
  | sl (b o len cap : Nat) (ex : Bool) (sz : Nat)
  | nilm
  | mp (r : Nat)
  | fn (f : Fn) (first cap : List GV)
  | yl (l : Nat)
  | nilf
  | iface (t : Nat) (v : GV)
  | nili
  | agg (l : List GV)
  | tup (l : List GV)
  | un (k : UK)

/-- Where the run's blocks lie; how many cells are known to lie in a block. -/
structure Env where
  m : Nat → Option (Nat × Nat)
  sz : Nat → Nat

def Env.le (E E' : Env) : Prop := (∀ g x, E.m g = some x → E'.m g = some x) ∧ ∀ b, E.sz b ≤ E'.sz b
theorem Env.le_refl (E : Env) : E.le E := ⟨fun _ _ h => h, fun _ => Nat.le_refl _⟩
theorem Env.le_trans {A B C : Env} (h : A.le B) (k : B.le C) : A.le C := ⟨fun g x hx => k.1 g x (h.1 g x hx), fun b => Nat.le_trans (h.2 b) (k.2 b)⟩

def bs (s : List Nat) : ByteArray := ⟨(s.map UInt8.ofNat).toArray⟩

def UR (k : UK) (v : Value) : Prop := match k with
  | .b => ∃ b, v = .bool b
  | .i k => ∃ n, v = .int k n
  | .s => ∃ b, v = .string b
  | .l => ∃ a n c, v = .slice a n c
mutual
def R (E : Env) : GV → Value → Prop
  | .bad, _ => True
  | .bool b, v => v = .bool b
  | .int k n, v => v = .int k n
  | .str s, v => v = .string (bs s) ∧ ∀ x ∈ s, x < 256
  | .nilp, v => v = .pointer none
  | .ptr b o, v => ∃ cb co, E.m b = some (cb, co) ∧ v = .pointer (some ⟨cb, co + o, none⟩)
  | .nils, v => v = .slice none 0 0
  | .sl b o len cap ex sz, v => ∃ cb co a c, E.m b = some (cb, co) ∧ v = .slice (some a) len c ∧ len ≤ cap ∧ cap ≤ c ∧ (ex = true → c = cap) ∧
      (c = 0 ∨ a = ⟨cb, co + o, none⟩) ∧ (c = 0 ∨ co + o + c * sz ≤ E.sz cb)
  | .nilm, v => v = .map none
  | .mp r, v => ∃ cb, E.m r = some (cb, 0) ∧ v = .map (some cb)
  | .fn f first cap, v => ∃ x y, v = .func f x y ∧ RL E first x.toList ∧ RL E cap y.toList
  | .yl l, v => ∃ cb, E.m l = some (cb, 0) ∧ v = .func (.yield cb) #[] #[]
  | .nilf, v => v = .nilFunc
  | .iface t x, v => ∃ y, v = .iface t y ∧ R E x y
  | .nili, v => v = .nilIface
  | .agg l, v => ∃ x, v = .agg x ∧ RL E l x.toList
  | .tup l, v => ∃ x, v = .tuple x ∧ RL E l x.toList
  | .un k, v => UR k v
def RL (E : Env) : List GV → List Value → Prop
  | [], vs => vs = []
  | g :: gs, vs => ∃ v r, vs = v :: r ∧ R E g v ∧ RL E gs r
end

theorem UR.one {k : UK} {v : Value} (h : UR k v) : v.cells = #[v] ∧ v.oneCell' = true := by
  cases k with
  | b => obtain ⟨_, rfl⟩ := h; exact ⟨rfl, rfl⟩
  | i k => obtain ⟨_, rfl⟩ := h; exact ⟨rfl, rfl⟩
  | s => obtain ⟨_, rfl⟩ := h; exact ⟨rfl, rfl⟩
  | l => obtain ⟨_, _, _, rfl⟩ := h; exact ⟨rfl, rfl⟩
mutual
theorem R.mono {E E' : Env} (h : E.le E') : ∀ (g : GV) (v : Value), R E g v → R E' g v
  | .bad, _, _ => by simp only [R]
  | .bool b, v, hv => by simpa only [R] using hv
  | .int k n, v, hv => by simpa only [R] using hv
  | .str s, v, hv => by simpa only [R] using hv
  | .nilp, v, hv => by simpa only [R] using hv
  | .ptr b o, v, hv => by
    simp only [R] at hv ⊢
    obtain ⟨cb, co, h1, h2⟩ := hv
    exact ⟨cb, co, h.1 _ _ h1, h2⟩
  | .nils, v, hv => by simpa only [R] using hv
  | .sl b o len cap ex sz, v, hv => by
    simp only [R] at hv ⊢
    obtain ⟨cb, co, a, c, h1, h2, h3, h4, h5, h6, h7⟩ := hv
    exact ⟨cb, co, a, c, h.1 _ _ h1, h2, h3, h4, h5, h6, h7.imp id fun x => Nat.le_trans x (h.2 _)⟩
  | .nilm, v, hv => by simpa only [R] using hv
  | .mp r, v, hv => by
    simp only [R] at hv ⊢
    obtain ⟨cb, h1, h2⟩ := hv
    exact ⟨cb, h.1 _ _ h1, h2⟩
  | .fn f a b, v, hv => by
    simp only [R] at hv ⊢
    obtain ⟨x, y, h1, h2, h3⟩ := hv
    exact ⟨x, y, h1, RL.mono h a _ h2, RL.mono h b _ h3⟩
  | .yl l, v, hv => by
    simp only [R] at hv ⊢
    obtain ⟨cb, h1, h2⟩ := hv
    exact ⟨cb, h.1 _ _ h1, h2⟩
  | .nilf, v, hv => by simpa only [R] using hv
  | .iface t x, v, hv => by
    simp only [R] at hv ⊢
    obtain ⟨y, h1, h2⟩ := hv
    exact ⟨y, h1, R.mono h x _ h2⟩
  | .nili, v, hv => by simpa only [R] using hv
  | .agg l, v, hv => by
    simp only [R] at hv ⊢
    obtain ⟨x, h1, h2⟩ := hv
    exact ⟨x, h1, RL.mono h l _ h2⟩
  | .tup l, v, hv => by
    simp only [R] at hv ⊢
    obtain ⟨x, h1, h2⟩ := hv
    exact ⟨x, h1, RL.mono h l _ h2⟩
  | .un k, v, hv => by simpa only [R] using hv
theorem RL.mono {E E' : Env} (h : E.le E') : ∀ (g : List GV) (v : List Value), RL E g v → RL E' g v
  | [], v, hv => by simpa only [RL] using hv
  | g :: gs, v, hv => by
    simp only [RL] at hv ⊢
    obtain ⟨x, r, h1, h2, h3⟩ := hv
    exact ⟨x, r, h1, R.mono h g _ h2, RL.mono h gs _ h3⟩
end

theorem RL.length {E : Env} : ∀ {g : List GV} {v : List Value}, RL E g v → v.length = g.length
  | [], v, h => by simp only [RL] at h; simp [h]
  | g :: gs, v, h => by
    simp only [RL] at h
    obtain ⟨x, r, rfl, _, h3⟩ := h
    simp [RL.length h3]
theorem RL.get {E : Env} : ∀ {g : List GV} {v : List Value} {i : Nat} {x : GV}, RL E g v → g[i]? = some x → ∃ y, v[i]? = some y ∧ R E x y
  | [], v, i, x, h, hx => by simp at hx
  | g :: gs, v, i, x, h, hx => by
    simp only [RL] at h
    obtain ⟨y, r, rfl, h2, h3⟩ := h
    cases i with
    | zero => simp at hx; subst hx; exact ⟨y, by simp, h2⟩
    | succ i => simp at hx; simpa using RL.get h3 hx
theorem RL.append {E : Env} : ∀ {g g' : List GV} {v v' : List Value}, RL E g v → RL E g' v' → RL E (g ++ g') (v ++ v')
  | [], g', v, v', h, h' => by simp only [RL] at h; subst h; simpa using h'
  | g :: gs, g', v, v', h, h' => by
    simp only [RL] at h
    obtain ⟨y, r, rfl, h2, h3⟩ := h
    simp only [List.cons_append, RL]
    exact ⟨y, _, rfl, h2, RL.append h3 h'⟩
theorem RL.of_get {E : Env} : ∀ {g : List GV} {v : List Value}, v.length = g.length → (∀ (i : Nat) (x : GV) (y : Value), g[i]? = some x → v[i]? = some y → R E x y) → RL E g v
  | [], v, hl, h => by simp only [RL]; exact List.eq_nil_of_length_eq_zero (by simpa using hl)
  | g :: gs, v, hl, h => by
    cases v with
    | nil => simp at hl
    | cons y r =>
      simp only [RL]
      refine ⟨y, r, rfl, h 0 g y (by simp) (by simp), RL.of_get (by simpa using hl) fun i x z hx hz => h (i + 1) x z (by simpa using hx) (by simpa using hz)⟩
theorem RL.drop {E : Env} {g : List GV} {v : List Value} (n : Nat) (h : RL E g v) : RL E (g.drop n) (v.drop n) := by
  refine RL.of_get (by simp [h.length]) fun i x y hx hy => ?_
  rw [List.getElem?_drop] at hx hy
  obtain ⟨z, hz, hr⟩ := h.get hx
  rw [hz] at hy; cases hy; exact hr
theorem RL.take {E : Env} {g : List GV} {v : List Value} (n : Nat) (h : RL E g v) : RL E (g.take n) (v.take n) := by
  refine RL.of_get (by simp [h.length]) fun i x y hx hy => ?_
  have hi : i < n := by
    rcases Nat.lt_or_ge i n with hi | hi
    · exact hi
    · rw [List.getElem?_eq_none (by simp; omega)] at hx; cases hx
  rw [List.getElem?_take_of_lt hi] at hx hy
  obtain ⟨z, hz, hr⟩ := h.get hx
  rw [hz] at hy; cases hy; exact hr

theorem bs_size (s : List Nat) : (bs s).size = s.length := by simp [bs, ByteArray.size]
theorem ofNat_inj {a b : Nat} (ha : a < 256) (hb : b < 256) (h : UInt8.ofNat a = UInt8.ofNat b) : a = b := by
  have := congrArg UInt8.toNat h
  simpa [UInt8.toNat_ofNat_of_lt' ha, UInt8.toNat_ofNat_of_lt' hb] using this
theorem bs_inj {s t : List Nat} (hs : ∀ x ∈ s, x < 256) (ht : ∀ x ∈ t, x < 256) (h : bs s = bs t) : s = t := by
  have h1 : s.map UInt8.ofNat = t.map UInt8.ofNat := by
    have := congrArg (fun b : ByteArray => b.data.toList) h
    simpa [bs] using this
  clear h
  induction s generalizing t with
  | nil => cases t with
    | nil => rfl
    | cons y t => simp at h1
  | cons x s ih =>
    cases t with
    | nil => simp at h1
    | cons y t =>
      simp only [List.map_cons, List.cons.injEq] at h1
      rw [ofNat_inj (hs x (by simp)) (ht y (by simp)) h1.1, ih (fun z hz => hs z (by simp [hz])) (fun z hz => ht z (by simp [hz])) h1.2]
end Go.Gh
