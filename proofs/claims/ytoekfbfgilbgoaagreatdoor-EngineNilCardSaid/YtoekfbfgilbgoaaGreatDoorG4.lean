/- Pure operations on numbers, texts, and against nil. -/
import Derived.Test.YtoekfbfgilbgoaaGreatDoorG3
import Derived.Laws.Concat
import Derived.Laws.Strings
namespace Go.Gh
set_option linter.unusedVariables false

section inv
variable {β : Type} {v : GV} {r : β}
theorem onBool_some {f : Bool → Option β} (h : onBool none v f = some r) : ∃ b, v = .bool b ∧ f b = some r := by cases v <;> first | exact ⟨_, rfl, h⟩ | cases h
theorem onInt_some {f : IntKind → Int → Option β} (h : onInt none v f = some r) : ∃ k n, v = .int k n ∧ f k n = some r := by cases v <;> first | exact ⟨_, _, rfl, h⟩ | cases h
theorem onStr_some {f : List Nat → Option β} (h : onStr none v f = some r) : ∃ s, v = .str s ∧ f s = some r := by cases v <;> first | exact ⟨_, rfl, h⟩ | cases h
theorem onPtr_some {f : Nat → Nat → Option β} (h : onPtr none v f = some r) : ∃ b o, v = .ptr b o ∧ f b o = some r := by cases v <;> first | exact ⟨_, _, rfl, h⟩ | cases h
theorem onSl_some {n : Option β} {f : Nat → Nat → Nat → Nat → Bool → Nat → Option β} (h : onSl none v n f = some r) :
    (v = .nils ∧ n = some r) ∨ ∃ b o l c e z, v = .sl b o l c e z ∧ f b o l c e z = some r := by cases v <;> first | exact .inl ⟨rfl, h⟩ | exact .inr ⟨_, _, _, _, _, _, rfl, h⟩ | cases h
theorem onMap_some {n : Option β} {f : Nat → Option β} (h : onMap none v n f = some r) : (v = .nilm ∧ n = some r) ∨ ∃ m, v = .mp m ∧ f m = some r := by cases v <;> first | exact .inl ⟨rfl, h⟩ | exact .inr ⟨_, rfl, h⟩ | cases h
theorem onFn_some {f : Fn → List GV → List GV → Option β} {y : Nat → Option β} (h : onFn none v f y = some r) :
    (∃ a b c, v = .fn a b c ∧ f a b c = some r) ∨ ∃ l, v = .yl l ∧ y l = some r := by cases v <;> first | exact .inl ⟨_, _, _, rfl, h⟩ | exact .inr ⟨_, rfl, h⟩ | cases h
theorem onIf_some {n : Option β} {f : Nat → GV → Option β} (h : onIf none v n f = some r) : (v = .nili ∧ n = some r) ∨ ∃ t x, v = .iface t x ∧ f t x = some r := by cases v <;> first | exact .inl ⟨rfl, h⟩ | exact .inr ⟨_, _, rfl, h⟩ | cases h
theorem onAgg_some {f : List GV → Option β} (h : onAgg none v f = some r) : ∃ l, v = .agg l ∧ f l = some r := by cases v <;> first | exact ⟨_, rfl, h⟩ | cases h
theorem onTup_some {f : List GV → Option β} (h : onTup none v f = some r) : ∃ l, v = .tup l ∧ f l = some r := by cases v <;> first | exact ⟨_, rfl, h⟩ | cases h
theorem onUn_some {f : UK → Option β} (h : onUn none v f = some r) : ∃ k, v = .un k ∧ f k = some r := by cases v <;> first | exact ⟨_, rfl, h⟩ | cases h
theorem onInt_or {d : Option β} {f : IntKind → Int → Option β} (h : onInt d v f = some r) : (∃ k n, v = .int k n ∧ f k n = some r) ∨ d = some r := by cases v <;> first | exact .inl ⟨_, _, rfl, h⟩ | exact .inr h
theorem onStr_or {d : Option β} {f : List Nat → Option β} (h : onStr d v f = some r) : (∃ s, v = .str s ∧ f s = some r) ∨ d = some r := by cases v <;> first | exact .inl ⟨_, rfl, h⟩ | exact .inr h
theorem onBool_or {d : Option β} {f : Bool → Option β} (h : onBool d v f = some r) : (∃ b, v = .bool b ∧ f b = some r) ∨ d = some r := by cases v <;> first | exact .inl ⟨_, rfl, h⟩ | exact .inr h
theorem onSl_or {d n : Option β} {f : Nat → Nat → Nat → Nat → Bool → Nat → Option β} (h : onSl d v n f = some r) :
    (v = .nils ∧ n = some r) ∨ (∃ b o l c e z, v = .sl b o l c e z ∧ f b o l c e z = some r) ∨ d = some r := by cases v <;> first | exact .inl ⟨rfl, h⟩ | exact .inr (.inl ⟨_, _, _, _, _, _, rfl, h⟩) | exact .inr (.inr h)
end inv

theorem R.int {E : Env} {k : IntKind} {n : Int} {v : Value} (h : R E (.int k n) v) : v = .int k n := by simpa only [R] using h
theorem R.boolv {E : Env} {b : Bool} {v : Value} (h : R E (.bool b) v) : v = .bool b := by simpa only [R] using h
theorem R.str {E : Env} {s : List Nat} {v : Value} (h : R E (.str s) v) : v = .string (bs s) ∧ ∀ x ∈ s, x < 256 := by simpa only [R] using h
theorem R.mkInt (E : Env) (k : IntKind) (n : Int) : R E (.int k n) (.int k n) := by simp only [R]
theorem R.mkBool (E : Env) (b : Bool) : R E (.bool b) (.bool b) := by simp only [R]

noncomputable def okIf {α : Type} (b : Bool) (x : Option α) : Option α := Bool.rec none x b
theorem okIf_some {α : Type} {b : Bool} {x : Option α} {r : α} (h : okIf b x = some r) : b = true ∧ x = some r := by
  cases b with
  | false => cases h
  | true => exact ⟨rfl, h⟩
noncomputable def band (a b : Bool) : Bool := Bool.rec false b a
theorem band_t {a b : Bool} (h : band a b = true) : a = true ∧ b = true := by
  cases a with
  | false => cases h
  | true => exact ⟨rfl, h⟩
noncomputable def bnot (a : Bool) : Bool := Bool.rec true false a
theorem bnot_eq (a : Bool) : bnot a = !a := by cases a <;> rfl

/-! ### two numbers -/
noncomputable def fShift (l : Bool) (k : IntKind) (a b : Int) : Option GV :=
  Int.casesOn b (fun m => some (.int k (Bool.rec (gshr a (nmin m k.bits)) (gshl k a (nmin m k.bits)) l))) (fun _ => none)
noncomputable def fInt (op : BinOp) (k k' : IntKind) (a b : Int) : Option GV :=
  match op with
  | .shl => fShift true k a b
  | .shr => fShift false k a b
  | .add => okIf (kq k k') (some (.int k (wr k (Int.add a b))))
  | .sub => okIf (kq k k') (some (.int k (wr k (Int.sub a b))))
  | .mul => okIf (kq k k') (some (.int k (wr k (Int.mul a b))))
  | .quo => okIf (band (kq k k') (bnot (ieq b 0))) (some (.int k (wr k (Int.tdiv a b))))
  | .rem => okIf (band (kq k k') (bnot (ieq b 0))) (some (.int k (Int.tmod a b)))
  | .and => okIf (kq k k') (some (.int k (natBits Nat.land .and k a b)))
  | .or => okIf (kq k k') (some (.int k (natBits Nat.lor .or k a b)))
  | .xor => okIf (kq k k') (some (.int k (natBits Nat.xor .xor k a b)))
  | .andNot => okIf (kq k k') (some (.int k (slowBits .andNot k a b)))
  | .eql => okIf (kq k k') (some (.bool (ieq a b)))
  | .neq => okIf (kq k k') (some (.bool (bnot (ieq a b))))
  | .lss => okIf (kq k k') (some (.bool (ilt a b)))
  | .leq => okIf (kq k k') (some (.bool (bnot (ilt b a))))
  | .gtr => okIf (kq k k') (some (.bool (ilt b a)))
  | .geq => okIf (kq k k') (some (.bool (bnot (ilt a b))))

section
variable {P : Program} {w : World}
theorem fInt_ok {op : BinOp} {k k' : IntKind} {a b : Int} {v : GV} (xt : TypeId) (h : fInt op k k' a b = some v) :
    ∃ v', (binOp op xt (.int k a) (.int k' b)).run P w = .ok v' w ∧ ∀ E, R E v v' := by
  cases op
  case shl =>
    cases b with
    | negSucc m => cases h
    | ofNat m =>
      have h : some (GV.int k (gshl k a (nmin m k.bits))) = some v := h
      cases h
      refine ⟨.int k (k.wrap (a * 2 ^ min m k.bits)), ?_, fun E => by rw [gshl_eq, nmin_eq]; exact R.mkInt _ _ _⟩
      have h0 : ¬ ((Int.ofNat m : Int) < 0) := Int.not_lt.2 (Int.natCast_nonneg m)
      simp only [binOp, Op.shift]
      rw [if_neg h0]
      rfl
  case shr =>
    cases b with
    | negSucc m => cases h
    | ofNat m =>
      have h : some (GV.int k (gshr a (nmin m k.bits))) = some v := h
      cases h
      refine ⟨.int k (a.fdiv (2 ^ min m k.bits)), ?_, fun E => by rw [gshr_eq, nmin_eq]; exact R.mkInt _ _ _⟩
      have h0 : ¬ ((Int.ofNat m : Int) < 0) := Int.not_lt.2 (Int.natCast_nonneg m)
      simp only [binOp, Op.shift]
      rw [if_neg h0]
      rfl
  case quo =>
    obtain ⟨hk, h⟩ := okIf_some h; cases h
    obtain ⟨hk, h0⟩ := band_t hk
    cases kq_eq hk
    have h0 : ¬ b = 0 := by rw [bnot_eq, ieq_eq] at h0; simpa using h0
    exact ⟨.int k (k.wrap (a.tdiv b)), by simp only [binOp]; rw [if_neg (by simp)]; simp only [Op.intDiv]; rw [if_neg h0]; rfl, fun E => by rw [wr_eq]; exact R.mkInt _ _ _⟩
  case rem =>
    obtain ⟨hk, h⟩ := okIf_some h; cases h
    obtain ⟨hk, h0⟩ := band_t hk
    cases kq_eq hk
    have h0 : ¬ b = 0 := by rw [bnot_eq, ieq_eq] at h0; simpa using h0
    exact ⟨.int k (a.tmod b), by simp only [binOp]; rw [if_neg (by simp)]; simp only [Op.intDiv]; rw [if_neg h0]; rfl, fun E => R.mkInt _ _ _⟩
  all_goals
    obtain ⟨hk, h⟩ := okIf_some h; cases h
    cases kq_eq hk
  case add => exact ⟨_, by simp [binOp, Op.intArith, pure]; rfl, fun E => by rw [wr_eq]; exact R.mkInt _ _ _⟩
  case sub => exact ⟨_, by simp [binOp, Op.intArith, pure]; rfl, fun E => by rw [wr_eq]; exact R.mkInt _ _ _⟩
  case mul => exact ⟨_, by simp [binOp, Op.intArith, pure]; rfl, fun E => by rw [wr_eq]; exact R.mkInt _ _ _⟩
  case and => exact ⟨.int k (slowBits .and k a b), by simp only [binOp]; rw [if_neg (by simp)]; rfl, fun E => by rw [land_eq]; exact R.mkInt _ _ _⟩
  case or => exact ⟨.int k (slowBits .or k a b), by simp only [binOp]; rw [if_neg (by simp)]; rfl, fun E => by rw [lor_eq]; exact R.mkInt _ _ _⟩
  case xor => exact ⟨.int k (slowBits .xor k a b), by simp only [binOp]; rw [if_neg (by simp)]; rfl, fun E => by rw [lxor_eq]; exact R.mkInt _ _ _⟩
  case andNot => exact ⟨.int k (slowBits .andNot k a b), by simp only [binOp]; rw [if_neg (by simp)]; rfl, fun E => R.mkInt _ _ _⟩
  case eql => exact ⟨_, by simp [binOp, Op.intCmp, pure]; rfl, fun E => by rw [ieq_eq]; exact R.mkBool _ _⟩
  case neq => exact ⟨_, by simp [binOp, Op.intCmp, pure]; rfl, fun E => by rw [bnot_eq, ieq_eq]; exact R.mkBool _ _⟩
  case lss => exact ⟨_, by simp [binOp, Op.intCmp, pure]; rfl, fun E => by rw [ilt_eq]; exact R.mkBool _ _⟩
  case leq => exact ⟨.bool (decide (a ≤ b)), by simp [binOp, Op.intCmp, pure], fun E => by rw [bnot_eq, ilt_eq, show (!decide (b < a)) = decide (a ≤ b) by rw [Bool.eq_iff_iff]; simp]; exact R.mkBool _ _⟩
  case gtr => exact ⟨.bool (decide (a > b)), by simp [binOp, Op.intCmp, pure], fun E => by rw [ilt_eq]; exact R.mkBool _ _⟩
  case geq => exact ⟨.bool (decide (a ≥ b)), by simp [binOp, Op.intCmp, pure], fun E => by rw [bnot_eq, ilt_eq, show (!decide (a < b)) = decide (a ≥ b) by rw [Bool.eq_iff_iff]; simp]; exact R.mkBool _ _⟩

theorem eqGuard_int (op : BinOp) (t : TypeId) (x y : Operand) (k k' : IntKind) (a b : Int) : (eqGuard op t x y (.int k a) (.int k' b)).run P w = .ok () w := by
  unfold eqGuard; cases op <;> simp [pure]
theorem eqGuard_str (op : BinOp) (t : TypeId) (x y : Operand) (a b : ByteArray) : (eqGuard op t x y (.string a) (.string b)).run P w = .ok () w := by
  unfold eqGuard; cases op <;> simp [pure]

/-! ### two texts -/
noncomputable def leq (a : List Nat) : List Nat → Bool :=
  List.rec (motive := fun _ => List Nat → Bool) (fun b => List.casesOn b true (fun _ _ => false)) (fun x _ ih b => List.casesOn b false (fun y r => Bool.rec false (ih r) (Nat.beq x y))) a
theorem leq_eq : ∀ a b : List Nat, leq a b = decide (a = b)
  | [], [] => rfl
  | [], y :: r => by simp [leq]
  | x :: a, [] => by simp [leq]
  | x :: a, y :: r => by
    show (Bool.rec false (leq a r) (Nat.beq x y) : Bool) = _
    cases h : Nat.beq x y with
    | true =>
      have := beq_t h; subst this
      show leq a r = _
      rw [leq_eq a r]; simp
    | false => have := beq_f h; show false = _; simp [this]
noncomputable def llt (a : List Nat) : List Nat → Bool :=
  List.rec (motive := fun _ => List Nat → Bool) (fun b => List.casesOn b false (fun _ _ => true))
    (fun x _ ih b => List.casesOn b false (fun y r => Bool.rec (Bool.rec false (ih r) (Nat.beq x y)) true (Nat.ble (Nat.succ x) y))) a
theorem u8lt {x y : Nat} (hx : x < 256) (hy : y < 256) : (UInt8.ofNat x < UInt8.ofNat y) ↔ x < y := by
  rw [UInt8.lt_iff_toNat_lt, UInt8.toNat_ofNat_of_lt' hx, UInt8.toNat_ofNat_of_lt' hy]
theorem u8eq {x y : Nat} (hx : x < 256) (hy : y < 256) : (UInt8.ofNat x = UInt8.ofNat y) ↔ x = y := ⟨ofNat_inj hx hy, fun h => by rw [h]⟩
theorem llt_eq : ∀ a b : List Nat, (∀ x ∈ a, x < 256) → (∀ x ∈ b, x < 256) → llt a b = Op.bytesLess (a.map UInt8.ofNat) (b.map UInt8.ofNat)
  | [], [], _, _ => rfl
  | [], y :: r, _, _ => rfl
  | x :: a, [], _, _ => rfl
  | x :: a, y :: r, ha, hb => by
    have hx := ha x (by simp)
    have hy := hb y (by simp)
    show (Bool.rec (Bool.rec false (llt a r) (Nat.beq x y)) true (Nat.ble (Nat.succ x) y) : Bool) = _
    rw [llt_eq a r (fun z hz => ha z (by simp [hz])) (fun z hz => hb z (by simp [hz]))]
    simp only [List.map_cons, Op.bytesLess]
    cases h : Nat.ble (Nat.succ x) y with
    | true => have := ble_t h; have h' := (u8lt hx hy).2 this; simp [h']
    | false =>
      have h1 : ¬ UInt8.ofNat x < UInt8.ofNat y := fun h' => by have := (u8lt hx hy).1 h'; have := ble_f h; omega
      cases h2 : Nat.beq x y with
      | true => have := beq_t h2; subst this; simp
      | false => have h3 := mt (u8eq hx hy).1 (beq_f h2); simp [h1, h3]
theorem bs_toList (s : List Nat) : (bs s).toList = s.map UInt8.ofNat := by
  rw [ByteArray.toList_eq]
  simp [bs]

theorem small_append {s t : List Nat} (hs : ∀ x ∈ s, x < 256) (ht : ∀ x ∈ t, x < 256) : ∀ x ∈ s ++ t, x < 256 := fun x hx => (List.mem_append.1 hx).elim (hs x) (ht x)
noncomputable def fStr (op : BinOp) (a b : List Nat) : Option GV :=
  match op with
  | .add => okIf (Nat.ble (Nat.add a.length b.length) 1099511627776) (some (.str (a ++ b)))
  | .eql => some (.bool (leq a b))
  | .neq => some (.bool (bnot (leq a b)))
  | .lss => some (.bool (llt a b))
  | .leq => some (.bool (bnot (llt b a)))
  | .gtr => some (.bool (llt b a))
  | .geq => some (.bool (bnot (llt a b)))
  | _ => none
theorem bytesLess_total : ∀ a b : List UInt8, (Op.bytesLess a b || a == b) = !Op.bytesLess b a
  | [], [] => rfl
  | [], y :: r => rfl
  | x :: a, [] => rfl
  | x :: a, y :: r => by
    have ih := bytesLess_total a r
    simp only [Op.bytesLess]
    rcases Nat.lt_trichotomy x.toNat y.toNat with h | h | h
    · have h1 : x < y := UInt8.lt_iff_toNat_lt.2 h
      have h2 : ¬ y < x := fun h' => by have := UInt8.lt_iff_toNat_lt.1 h'; omega
      have h3 : ¬ y = x := fun e => by subst e; omega
      simp [h1, h2, h3]
    · have e : x = y := UInt8.toNat_inj.1 h
      subst e
      have h2 : ¬ x < x := fun h' => by have := UInt8.lt_iff_toNat_lt.1 h'; omega
      simp only [h2, decide_false, beq_self_eq_true, Bool.true_and, Bool.false_or, List.cons_beq_cons]
      exact ih
    · have h1 : y < x := UInt8.lt_iff_toNat_lt.2 h
      have h2 : ¬ x < y := fun h' => by have := UInt8.lt_iff_toNat_lt.1 h'; omega
      have h3 : ¬ x = y := fun e => by subst e; omega
      simp [h1, h2, h3]
theorem bs_append (a b : List Nat) : bs (a ++ b) = bs a ++ bs b := by
  apply ByteArray.ext
  simp [bs, ByteArray.data_append]
theorem fStr_ok {op : BinOp} {a b : List Nat} {v : GV} (xt : TypeId) (ha : ∀ x ∈ a, x < 256) (hb : ∀ x ∈ b, x < 256) (h : fStr op a b = some v) :
    ∃ v', (binOp op xt (.string (bs a)) (.string (bs b))).run P w = .ok v' w ∧ ∀ E, R E v v' := by
  have heq : ((bs a).toList == (bs b).toList) = leq a b := by
    rw [bs_toList, bs_toList, leq_eq, Bool.eq_iff_iff, beq_iff_eq, decide_eq_true_eq]
    refine ⟨fun e => bs_inj ha hb (by simp only [bs, e]), fun e => by rw [e]⟩
  have hlt : Op.bytesLess (bs a).toList (bs b).toList = llt a b := by rw [bs_toList, bs_toList, llt_eq a b ha hb]
  have hgt : Op.bytesLess (bs b).toList (bs a).toList = llt b a := by rw [bs_toList, bs_toList, llt_eq b a hb ha]
  have htot := bytesLess_total (bs a).toList (bs b).toList
  rw [heq, hlt, hgt] at htot
  cases op <;> simp only [fStr] at h
  case add =>
    obtain ⟨hk, h⟩ := okIf_some h; cases h
    have hk' : a.length + b.length ≤ 1099511627776 := ble_t hk
    refine ⟨.string (bs a ++ bs b), ?_, fun E => by simp only [R]; exact ⟨by rw [bs_append], small_append ha hb⟩⟩
    simp only [binOp]
    exact run_string_add_sum w (bs a) (bs b) (by rw [bs_size, bs_size]; omega)
  case eql => cases h; exact ⟨_, by simp [binOp, Op.stringOp, pure]; rfl, fun E => by rw [← heq]; exact R.mkBool _ _⟩
  case neq => cases h; exact ⟨_, by simp [binOp, Op.stringOp, pure]; rfl, fun E => by rw [bnot_eq, ← heq]; exact R.mkBool _ _⟩
  case lss => cases h; exact ⟨_, by simp [binOp, Op.stringOp, pure]; rfl, fun E => by rw [← hlt]; exact R.mkBool _ _⟩
  case leq => cases h; exact ⟨.bool (Op.bytesLess (bs a).toList (bs b).toList || (bs a).toList == (bs b).toList), by simp [binOp, Op.stringOp, pure], fun E => by rw [heq, hlt, htot, bnot_eq]; exact R.mkBool _ _⟩
  case gtr => cases h; exact ⟨.bool (!(Op.bytesLess (bs a).toList (bs b).toList || (bs a).toList == (bs b).toList)), by simp [binOp, Op.stringOp, pure], fun E => by rw [heq, hlt, htot, Bool.not_not]; exact R.mkBool _ _⟩
  case geq => cases h; exact ⟨_, by simp [binOp, Op.stringOp, pure]; rfl, fun E => by rw [bnot_eq, ← hlt]; exact R.mkBool _ _⟩
  all_goals cases h
end
end Go.Gh
