/- Pure operations on numbers, texts, and against nil. -/
import Derived.Test.YtpdaickealgnhaaGreatDoorHA
import Derived.Laws.Concat
import Derived.Laws.Strings
import Derived.Laws.StructEq
import Derived.Laws.Tables
import Derived.Laws.Slices
namespace Go.Gh
set_option linter.unusedVariables false

section inv
variable {β : Type} {v : GV} {r : β}
theorem onBool_some {f : Bool → Option β} (h : onBool none v f = some r) : ∃ b, v = .bool b ∧ f b = some r := by cases v <;> first | exact ⟨_, rfl, h⟩ | cases h
theorem onInt_some {f : IntKind → Int → Option β} (h : onInt none v f = some r) : ∃ k n, v = .int k n ∧ f k n = some r := by cases v <;> first | exact ⟨_, _, rfl, h⟩ | cases h
theorem onStr_some {f : List Nat → Option β} (h : onStr none v f = some r) : ∃ s, v = .str s ∧ f s = some r := by cases v <;> first | exact ⟨_, rfl, h⟩ | cases h
theorem onPtr_some {f : Nat → Nat → Option β} (h : onPtr none v f = some r) : ∃ b o, v = .ptr b o ∧ f b o = some r := by cases v <;> first | exact ⟨_, _, rfl, h⟩ | cases h
theorem onSl_some {n : Option β} {f : Nat → Nat → Nat → Nat → Bool → Nat → Option β} (h : onSl none v n f = some r) :
    (v = .nils ∧ n = some r) ∨ ∃ b o l c e z, v = .sl b o l c e z ∧ f b o l c e z = some r := by cases v <;> first | exact .inl ⟨rfl, h⟩ | exact .inr ⟨_, _, _, _, _, _, rfl, h⟩ | cases h
theorem onMap_some {n : Option β} {f : Nat → Option β} (h : onMap none v n f = some r) : (v = .nilm ∧ n = some r) ∨ ∃ m, v = .mp m ∧ f m = some r := by cases v <;> first | exact .inl ⟨rfl, h⟩ | exact .inr ⟨_, rfl, h⟩ | cases h
theorem onFn_some {f : Fn → List GV → List GV → Option β} {y : Nat → Option β} (h : onFn none v f y = some r) :
    (∃ a b c, v = .fn a b c ∧ f a b c = some r) ∨ ∃ l, v = .yl l ∧ y l = some r := by cases v <;> first | exact .inl ⟨_, _, _, rfl, h⟩ | exact .inr ⟨_, rfl, h⟩ | cases h
theorem onIf_some {n : Option β} {f : Nat → GV → Option β} (h : onIf none v n f = some r) : (v = .nili ∧ n = some r) ∨ ∃ t x, v = .iface t x ∧ f t x = some r := by cases v <;> first | exact .inl ⟨rfl, h⟩ | exact .inr ⟨_, _, rfl, h⟩ | cases h
theorem onAgg_some {f : List GV → Option β} (h : onAgg none v f = some r) : ∃ l, v = .agg l ∧ f l = some r := by cases v <;> first | exact ⟨_, rfl, h⟩ | cases h
theorem onTup_some {f : List GV → Option β} (h : onTup none v f = some r) : ∃ l, v = .tup l ∧ f l = some r := by cases v <;> first | exact ⟨_, rfl, h⟩ | cases h
theorem onUn_some {f : UK → Option β} (h : onUn none v f = some r) : ∃ k, v = .un k ∧ f k = some r := by cases v <;> first | exact ⟨_, rfl, h⟩ | cases h
theorem onInt_or {d : Option β} {f : IntKind → Int → Option β} (h : onInt d v f = some r) : (∃ k n, v = .int k n ∧ f k n = some r) ∨ d = some r := by cases v <;> first | exact .inl ⟨_, _, rfl, h⟩ | exact .inr h
theorem onStr_or {d : Option β} {f : List Nat → Option β} (h : onStr d v f = some r) : (∃ s, v = .str s ∧ f s = some r) ∨ d = some r := by cases v <;> first | exact .inl ⟨_, rfl, h⟩ | exact .inr h
theorem onBool_or {d : Option β} {f : Bool → Option β} (h : onBool d v f = some r) : (∃ b, v = .bool b ∧ f b = some r) ∨ d = some r := by cases v <;> first | exact .inl ⟨_, rfl, h⟩ | exact .inr h
theorem onSl_or {d n : Option β} {f : Nat → Nat → Nat → Nat → Bool → Nat → Option β} (h : onSl d v n f = some r) :
    (v = .nils ∧ n = some r) ∨ (∃ b o l c e z, v = .sl b o l c e z ∧ f b o l c e z = some r) ∨ d = some r := by cases v <;> first | exact .inl ⟨rfl, h⟩ | exact .inr (.inl ⟨_, _, _, _, _, _, rfl, h⟩) | exact .inr (.inr h)
end inv

theorem R.int {E : Env} {k : IntKind} {n : Int} {v : Value} (h : R E (.int k n) v) : v = .int k n := by simpa only [R] using h
theorem R.boolv {E : Env} {b : Bool} {v : Value} (h : R E (.bool b) v) : v = .bool b := by simpa only [R] using h
theorem R.str {E : Env} {s : List Nat} {v : Value} (h : R E (.str s) v) : v = .string (bs s) ∧ ∀ x ∈ s, x < 256 := by simpa only [R] using h
theorem R.mkInt (E : Env) (k : IntKind) (n : Int) : R E (.int k n) (.int k n) := by simp only [R]
theorem R.mkBool (E : Env) (b : Bool) : R E (.bool b) (.bool b) := by simp only [R]

noncomputable def okIf {α : Type} (b : Bool) (x : Option α) : Option α := Bool.rec none x b
theorem okIf_some {α : Type} {b : Bool} {x : Option α} {r : α} (h : okIf b x = some r) : b = true ∧ x = some r := by
  cases b with
  | false => cases h
  | true => exact ⟨rfl, h⟩
noncomputable def band (a b : Bool) : Bool := Bool.rec false b a
theorem band_t {a b : Bool} (h : band a b = true) : a = true ∧ b = true := by
  cases a with
  | false => cases h
  | true => exact ⟨rfl, h⟩
noncomputable def bnot (a : Bool) : Bool := Bool.rec true false a
theorem bnot_eq (a : Bool) : bnot a = !a := by cases a <;> rfl

/-! ### two numbers -/
noncomputable def fShift (l : Bool) (k : IntKind) (a b : Int) : Option GV :=
  Int.casesOn b (fun m => some (.int k (Bool.rec (gshr a (nmin m k.bits)) (gshl k a (nmin m k.bits)) l))) (fun _ => none)
noncomputable def fInt (op : BinOp) (k k' : IntKind) (a b : Int) : Option GV :=
  match op with
  | .shl => fShift true k a b
  | .shr => fShift false k a b
  | .add => okIf (kq k k') (some (.int k (wr k (Int.add a b))))
  | .sub => okIf (kq k k') (some (.int k (wr k (Int.sub a b))))
  | .mul => okIf (kq k k') (some (.int k (wr k (Int.mul a b))))
  | .quo => okIf (band (kq k k') (bnot (ieq b 0))) (some (.int k (wr k (Int.tdiv a b))))
  | .rem => okIf (band (kq k k') (bnot (ieq b 0))) (some (.int k (Int.tmod a b)))
  | .and => okIf (kq k k') (some (.int k (natBits Nat.land .and k a b)))
  | .or => okIf (kq k k') (some (.int k (natBits Nat.lor .or k a b)))
  | .xor => okIf (kq k k') (some (.int k (natBits Nat.xor .xor k a b)))
  | .andNot => okIf (kq k k') (some (.int k (slowBits .andNot k a b)))
  | .eql => okIf (kq k k') (some (.bool (ieq a b)))
  | .neq => okIf (kq k k') (some (.bool (bnot (ieq a b))))
  | .lss => okIf (kq k k') (some (.bool (ilt a b)))
  | .leq => okIf (kq k k') (some (.bool (bnot (ilt b a))))
  | .gtr => okIf (kq k k') (some (.bool (ilt b a)))
  | .geq => okIf (kq k k') (some (.bool (bnot (ilt a b))))

section
variable {P : Program} {w : World}
theorem fInt_ok {op : BinOp} {k k' : IntKind} {a b : Int} {v : GV} (xt : TypeId) (h : fInt op k k' a b = some v) :
    ∃ v', (binOp op xt (.int k a) (.int k' b)).run P w = .ok v' w ∧ ∀ E, R E v v' := by
  cases op
  case shl =>
    cases b with
    | negSucc m => cases h
    | ofNat m =>
      have h : some (GV.int k (gshl k a (nmin m k.bits))) = some v := h
      cases h
      refine ⟨.int k (k.wrap (a * 2 ^ min m k.bits)), ?_, fun E => by rw [gshl_eq, nmin_eq]; exact R.mkInt _ _ _⟩
      have h0 : ¬ ((Int.ofNat m : Int) < 0) := Int.not_lt.2 (Int.natCast_nonneg m)
      simp only [binOp, Op.shift]
      rw [if_neg h0]
      rfl
  case shr =>
    cases b with
    | negSucc m => cases h
    | ofNat m =>
      have h : some (GV.int k (gshr a (nmin m k.bits))) = some v := h
      cases h
      refine ⟨.int k (a.fdiv (2 ^ min m k.bits)), ?_, fun E => by rw [gshr_eq, nmin_eq]; exact R.mkInt _ _ _⟩
      have h0 : ¬ ((Int.ofNat m : Int) < 0) := Int.not_lt.2 (Int.natCast_nonneg m)
      simp only [binOp, Op.shift]
      rw [if_neg h0]
      rfl
  case quo =>
    obtain ⟨hk, h⟩ := okIf_some h; cases h
    obtain ⟨hk, h0⟩ := band_t hk
    cases kq_eq hk
    have h0 : ¬ b = 0 := by rw [bnot_eq, ieq_eq] at h0; simpa using h0
    exact ⟨.int k (k.wrap (a.tdiv b)), by simp only [binOp]; rw [if_neg (by simp)]; simp only [Op.intDiv]; rw [if_neg h0]; rfl, fun E => by rw [wr_eq]; exact R.mkInt _ _ _⟩
  case rem =>
    obtain ⟨hk, h⟩ := okIf_some h; cases h
    obtain ⟨hk, h0⟩ := band_t hk
    cases kq_eq hk
    have h0 : ¬ b = 0 := by rw [bnot_eq, ieq_eq] at h0; simpa using h0
    exact ⟨.int k (a.tmod b), by simp only [binOp]; rw [if_neg (by simp)]; simp only [Op.intDiv]; rw [if_neg h0]; rfl, fun E => R.mkInt _ _ _⟩
  all_goals
    obtain ⟨hk, h⟩ := okIf_some h; cases h
    cases kq_eq hk
  case add => exact ⟨_, by simp [binOp, Op.intArith, pure]; rfl, fun E => by rw [wr_eq]; exact R.mkInt _ _ _⟩
  case sub => exact ⟨_, by simp [binOp, Op.intArith, pure]; rfl, fun E => by rw [wr_eq]; exact R.mkInt _ _ _⟩
  case mul => exact ⟨_, by simp [binOp, Op.intArith, pure]; rfl, fun E => by rw [wr_eq]; exact R.mkInt _ _ _⟩
  case and => exact ⟨.int k (slowBits .and k a b), by simp only [binOp]; rw [if_neg (by simp)]; rfl, fun E => by rw [land_eq]; exact R.mkInt _ _ _⟩
  case or => exact ⟨.int k (slowBits .or k a b), by simp only [binOp]; rw [if_neg (by simp)]; rfl, fun E => by rw [lor_eq]; exact R.mkInt _ _ _⟩
  case xor => exact ⟨.int k (slowBits .xor k a b), by simp only [binOp]; rw [if_neg (by simp)]; rfl, fun E => by rw [lxor_eq]; exact R.mkInt _ _ _⟩
  case andNot => exact ⟨.int k (slowBits .andNot k a b), by simp only [binOp]; rw [if_neg (by simp)]; rfl, fun E => R.mkInt _ _ _⟩
  case eql => exact ⟨_, by simp [binOp, Op.intCmp, pure]; rfl, fun E => by rw [ieq_eq]; exact R.mkBool _ _⟩
  case neq => exact ⟨_, by simp [binOp, Op.intCmp, pure]; rfl, fun E => by rw [bnot_eq, ieq_eq]; exact R.mkBool _ _⟩
  case lss => exact ⟨_, by simp [binOp, Op.intCmp, pure]; rfl, fun E => by rw [ilt_eq]; exact R.mkBool _ _⟩
  case leq => exact ⟨.bool (decide (a ≤ b)), by simp [binOp, Op.intCmp, pure], fun E => by rw [bnot_eq, ilt_eq, show (!decide (b < a)) = decide (a ≤ b) by rw [Bool.eq_iff_iff]; simp]; exact R.mkBool _ _⟩
  case gtr => exact ⟨.bool (decide (a > b)), by simp [binOp, Op.intCmp, pure], fun E => by rw [ilt_eq]; exact R.mkBool _ _⟩
  case geq => exact ⟨.bool (decide (a ≥ b)), by simp [binOp, Op.intCmp, pure], fun E => by rw [bnot_eq, ilt_eq, show (!decide (a < b)) = decide (a ≥ b) by rw [Bool.eq_iff_iff]; simp]; exact R.mkBool _ _⟩

theorem eqGuard_int (op : BinOp) (t : TypeId) (x y : Operand) (k k' : IntKind) (a b : Int) : (eqGuard op t x y (.int k a) (.int k' b)).run P w = .ok () w := by
  unfold eqGuard; cases op <;> simp [pure]
theorem eqGuard_str (op : BinOp) (t : TypeId) (x y : Operand) (a b : ByteArray) : (eqGuard op t x y (.string a) (.string b)).run P w = .ok () w := by
  unfold eqGuard; cases op <;> simp [pure]

/-! ### two texts -/
noncomputable def leq (a : List Nat) : List Nat → Bool :=
  List.rec (motive := fun _ => List Nat → Bool) (fun b => List.casesOn b true (fun _ _ => false)) (fun x _ ih b => List.casesOn b false (fun y r => Bool.rec false (ih r) (Nat.beq x y))) a
theorem leq_eq : ∀ a b : List Nat, leq a b = decide (a = b)
  | [], [] => rfl
  | [], y :: r => by simp [leq]
  | x :: a, [] => by simp [leq]
  | x :: a, y :: r => by
    show (Bool.rec false (leq a r) (Nat.beq x y) : Bool) = _
    cases h : Nat.beq x y with
    | true =>
      have := beq_t h; subst this
      show leq a r = _
      rw [leq_eq a r]; simp
    | false => have := beq_f h; show false = _; simp [this]
noncomputable def llt (a : List Nat) : List Nat → Bool :=
  List.rec (motive := fun _ => List Nat → Bool) (fun b => List.casesOn b false (fun _ _ => true))
    (fun x _ ih b => List.casesOn b false (fun y r => Bool.rec (Bool.rec false (ih r) (Nat.beq x y)) true (Nat.ble (Nat.succ x) y))) a
theorem u8lt {x y : Nat} (hx : x < 256) (hy : y < 256) : (UInt8.ofNat x < UInt8.ofNat y) ↔ x < y := by
  rw [UInt8.lt_iff_toNat_lt, UInt8.toNat_ofNat_of_lt' hx, UInt8.toNat_ofNat_of_lt' hy]
theorem u8eq {x y : Nat} (hx : x < 256) (hy : y < 256) : (UInt8.ofNat x = UInt8.ofNat y) ↔ x = y := ⟨ofNat_inj hx hy, fun h => by rw [h]⟩
theorem llt_eq : ∀ a b : List Nat, (∀ x ∈ a, x < 256) → (∀ x ∈ b, x < 256) → llt a b = Op.bytesLess (a.map UInt8.ofNat) (b.map UInt8.ofNat)
  | [], [], _, _ => rfl
  | [], y :: r, _, _ => rfl
  | x :: a, [], _, _ => rfl
  | x :: a, y :: r, ha, hb => by
    have hx := ha x (by simp)
    have hy := hb y (by simp)
    show (Bool.rec (Bool.rec false (llt a r) (Nat.beq x y)) true (Nat.ble (Nat.succ x) y) : Bool) = _
    rw [llt_eq a r (fun z hz => ha z (by simp [hz])) (fun z hz => hb z (by simp [hz]))]
    simp only [List.map_cons, Op.bytesLess]
    cases h : Nat.ble (Nat.succ x) y with
    | true => have := ble_t h; have h' := (u8lt hx hy).2 this; simp [h']
    | false =>
      have h1 : ¬ UInt8.ofNat x < UInt8.ofNat y := fun h' => by have := (u8lt hx hy).1 h'; have := ble_f h; omega
      cases h2 : Nat.beq x y with
      | true => have := beq_t h2; subst this; simp
      | false => have h3 := mt (u8eq hx hy).1 (beq_f h2); simp [h1, h3]
theorem bs_toList (s : List Nat) : (bs s).toList = s.map UInt8.ofNat := by
  rw [ByteArray.toList_eq]
  simp [bs]

theorem small_append {s t : List Nat} (hs : ∀ x ∈ s, x < 256) (ht : ∀ x ∈ t, x < 256) : ∀ x ∈ s ++ t, x < 256 := fun x hx => (List.mem_append.1 hx).elim (hs x) (ht x)
noncomputable def fStr (op : BinOp) (a b : List Nat) : Option GV :=
  match op with
  | .add => okIf (Nat.ble (Nat.add a.length b.length) 1099511627776) (some (.str (a ++ b)))
  | .eql => some (.bool (leq a b))
  | .neq => some (.bool (bnot (leq a b)))
  | .lss => some (.bool (llt a b))
  | .leq => some (.bool (bnot (llt b a)))
  | .gtr => some (.bool (llt b a))
  | .geq => some (.bool (bnot (llt a b)))
  | _ => none
theorem bytesLess_total : ∀ a b : List UInt8, (Op.bytesLess a b || a == b) = !Op.bytesLess b a
  | [], [] => rfl
  | [], y :: r => rfl
  | x :: a, [] => rfl
  | x :: a, y :: r => by
    have ih := bytesLess_total a r
    simp only [Op.bytesLess]
    rcases Nat.lt_trichotomy x.toNat y.toNat with h | h | h
    · have h1 : x < y := UInt8.lt_iff_toNat_lt.2 h
      have h2 : ¬ y < x := fun h' => by have := UInt8.lt_iff_toNat_lt.1 h'; omega
      have h3 : ¬ y = x := fun e => by subst e; omega
      simp [h1, h2, h3]
    · have e : x = y := UInt8.toNat_inj.1 h
      subst e
      have h2 : ¬ x < x := fun h' => by have := UInt8.lt_iff_toNat_lt.1 h'; omega
      simp only [h2, decide_false, beq_self_eq_true, Bool.true_and, Bool.false_or, List.cons_beq_cons]
      exact ih
    · have h1 : y < x := UInt8.lt_iff_toNat_lt.2 h
      have h2 : ¬ x < y := fun h' => by have := UInt8.lt_iff_toNat_lt.1 h'; omega
      have h3 : ¬ x = y := fun e => by subst e; omega
      simp [h1, h2, h3]
theorem bs_append (a b : List Nat) : bs (a ++ b) = bs a ++ bs b := by
  apply ByteArray.ext
  simp [bs, ByteArray.data_append]
theorem fStr_ok {op : BinOp} {a b : List Nat} {v : GV} (xt : TypeId) (ha : ∀ x ∈ a, x < 256) (hb : ∀ x ∈ b, x < 256) (h : fStr op a b = some v) :
    ∃ v', (binOp op xt (.string (bs a)) (.string (bs b))).run P w = .ok v' w ∧ ∀ E, R E v v' := by
  have heq : ((bs a).toList == (bs b).toList) = leq a b := by
    rw [bs_toList, bs_toList, leq_eq, Bool.eq_iff_iff, beq_iff_eq, decide_eq_true_eq]
    refine ⟨fun e => bs_inj ha hb (by simp only [bs, e]), fun e => by rw [e]⟩
  have hlt : Op.bytesLess (bs a).toList (bs b).toList = llt a b := by rw [bs_toList, bs_toList, llt_eq a b ha hb]
  have hgt : Op.bytesLess (bs b).toList (bs a).toList = llt b a := by rw [bs_toList, bs_toList, llt_eq b a hb ha]
  have htot := bytesLess_total (bs a).toList (bs b).toList
  rw [heq, hlt, hgt] at htot
  cases op <;> simp only [fStr] at h
  case add =>
    obtain ⟨hk, h⟩ := okIf_some h; cases h
    have hk' : a.length + b.length ≤ 1099511627776 := ble_t hk
    refine ⟨.string (bs a ++ bs b), ?_, fun E => by simp only [R]; exact ⟨by rw [bs_append], small_append ha hb⟩⟩
    simp only [binOp]
    exact run_string_add_sum w (bs a) (bs b) (by rw [bs_size, bs_size]; omega)
  case eql => cases h; exact ⟨_, by simp [binOp, Op.stringOp, pure]; rfl, fun E => by rw [← heq]; exact R.mkBool _ _⟩
  case neq => cases h; exact ⟨_, by simp [binOp, Op.stringOp, pure]; rfl, fun E => by rw [bnot_eq, ← heq]; exact R.mkBool _ _⟩
  case lss => cases h; exact ⟨_, by simp [binOp, Op.stringOp, pure]; rfl, fun E => by rw [← hlt]; exact R.mkBool _ _⟩
  case leq => cases h; exact ⟨.bool (Op.bytesLess (bs a).toList (bs b).toList || (bs a).toList == (bs b).toList), by simp [binOp, Op.stringOp, pure], fun E => by rw [heq, hlt, htot, bnot_eq]; exact R.mkBool _ _⟩
  case gtr => cases h; exact ⟨.bool (!(Op.bytesLess (bs a).toList (bs b).toList || (bs a).toList == (bs b).toList)), by simp [binOp, Op.stringOp, pure], fun E => by rw [heq, hlt, htot, Bool.not_not]; exact R.mkBool _ _⟩
  case geq => cases h; exact ⟨_, by simp [binOp, Op.stringOp, pure]; rfl, fun E => by rw [bnot_eq, ← hlt]; exact R.mkBool _ _⟩
  all_goals cases h
end
end Go.Gh

/- Pure operations: equality, parts of structs and texts, places, lengths. -/
namespace Go.Gh
set_option linter.unusedVariables false

/-! ### equality of one cell, of a row of cells -/
inductive ST where | b | i | st
def stOf : TypeDesc → Option ST
  | .bool => some .b
  | .int _ => some .i
  | .string => some .st
  | _ => none
noncomputable def sEq (s : ST) (x y : GV) : Option Bool :=
  ST.casesOn s (onBool none x fun a => onBool none y fun b => some (Bool.rec (bnot b) b a))
    (onInt none x fun k a => onInt none y fun k' b => okIf (kq k k') (some (ieq a b)))
    (onStr none x fun a => onStr none y fun b => some (leq a b))
noncomputable def sEqs (l : List ST) : List GV → List GV → Option Bool :=
  List.rec (motive := fun _ => List GV → List GV → Option Bool) (fun xs ys => List.casesOn xs (List.casesOn ys (some true) (fun _ _ => none)) (fun _ _ => none))
    (fun s _ ih xs ys => List.casesOn xs none (fun x xs => List.casesOn ys none (fun y ys => Option.rec none (fun b => Bool.rec (some false) (ih xs ys) b) (sEq s x y)))) l

section
variable {P : Program} {w : World} {E : Env}
theorem sEq_ok {s : ST} {x y : GV} {a b : Value} {r : Bool} {t : TypeId} {d : TypeDesc} (h : sEq s x y = some r) (hx : R E x a) (hy : R E y b)
    (ht : P.underlying t = some d) (hs : stOf d = some s) (n : Nat) : (Op.equalIn (n + 1) t a b).run P w = .ok r w ∧ (r = true → a = b) := by
  cases s with
  | b =>
    obtain ⟨p, rfl, h⟩ := onBool_some (show onBool none x _ = some r from h)
    obtain ⟨q, rfl, h⟩ := onBool_some h
    cases R.boolv hx; cases R.boolv hy
    have hd : d = .bool := by cases d <;> simp [stOf] at hs; rfl
    subst hd
    have e : (p == q) = r := by cases p <;> cases q <;> (cases h; rfl)
    refine ⟨by simp [Op.equalIn, run_underlying ht, e], fun hr => ?_⟩
    rw [hr, beq_iff_eq] at e; rw [e]
  | i =>
    obtain ⟨k, p, rfl, h⟩ := onInt_some (show onInt none x _ = some r from h)
    obtain ⟨k', q, rfl, h⟩ := onInt_some h
    obtain ⟨hk, h⟩ := okIf_some h; cases h
    cases kq_eq hk
    cases R.int hx; cases R.int hy
    obtain ⟨k0, hd⟩ : ∃ k0, d = .int k0 := by cases d <;> simp [stOf] at hs; exact ⟨_, rfl⟩
    subst hd
    rw [ieq_eq]
    refine ⟨by simp [Op.equalIn, run_underlying ht], fun hr => ?_⟩
    rw [beq_iff_eq] at hr; rw [hr]
  | st =>
    obtain ⟨p, rfl, h⟩ := onStr_some (show onStr none x _ = some r from h)
    obtain ⟨q, rfl, h⟩ := onStr_some h
    cases h
    obtain ⟨rfl, hp⟩ := R.str hx
    obtain ⟨rfl, hq⟩ := R.str hy
    have hd : d = .string := by cases d <;> simp [stOf] at hs; rfl
    subst hd
    have e : (bs p == bs q) = leq p q := by
      rw [beq_toListBytes, bs_toList, bs_toList, leq_eq, Bool.eq_iff_iff, beq_iff_eq, decide_eq_true_eq]
      exact ⟨fun e => bs_inj hp hq (by simp only [bs, e]), fun e => by rw [e]⟩
    refine ⟨by simp [Op.equalIn, run_underlying ht, e], fun hr => ?_⟩
    rw [leq_eq, decide_eq_true_eq] at hr; rw [hr]

/-- fields that lie one behind the other, a cell each -/
noncomputable def flat (tb : T TypeInfo) : List Field → Nat → Option (List ST)
  | [], _ => some []
  | f :: fs, n =>
    match (und tb f.type).bind stOf, flat tb fs (n + 1) with
    | some s, some l => if f.offset = n ∧ f.name ≠ "_" then some (s :: l) else none
    | _, _ => none
theorem run_part_cell {tb : T TypeInfo} (hT : Tb P tb) {t : TypeId} {d : TypeDesc} (ht : und tb t = some d) (ha : aggD d = false) {cs : Array Value} {off : Nat} {v : Value} (h : cs[off]? = some v) :
    (part t cs off).run P w = .ok v w := by
  unfold part
  rw [Sem.run_bind, run_isAgg hT ht]
  simp [ha, h]
theorem stOf_agg {d : TypeDesc} {s : ST} (h : stOf d = some s) : aggD d = false := by cases d <;> simp [stOf] at h <;> rfl
theorem sEqs_fields {tb : T TypeInfo} (hT : Tb P tb) (d : Nat) : ∀ (fs : List Field) (n : Nat) (l : List ST) (xs ys : List GV) (cx cy : Array Value) (r : Bool), flat tb fs n = some l →
    RL E xs (cx.toList.drop n) → RL E ys (cy.toList.drop n) → sEqs l xs ys = some r → (Op.eqFields (d + 1) cx cy fs).run P w = .ok r w ∧ (r = true → cx.toList.drop n = cy.toList.drop n)
  | [], n, l, xs, ys, cx, cy, r, hl, hx, hy, h => by
    simp only [flat, Option.some.injEq] at hl; subst hl
    cases xs with
    | cons x xs => cases h
    | nil =>
      cases ys with
      | cons y ys => cases h
      | nil =>
        cases h
        simp only [RL] at hx hy
        exact ⟨by simp [Op.eqFields], fun _ => by rw [hx, hy]⟩
  | f :: fs, n, l, xs, ys, cx, cy, r, hl, hx, hy, h => by
    simp only [flat] at hl
    split at hl
    · rename_i s l' h1 h2
      split at hl
      · rename_i hf
        cases hl
        obtain ⟨dd, hd, hs⟩ := Option.bind_eq_some_iff.1 h1
        cases xs with
        | nil => cases h
        | cons x xs =>
          cases ys with
          | nil => cases h
          | cons y ys =>
            simp only [RL] at hx hy
            obtain ⟨a, ra, ea, hxa, hxs⟩ := hx
            obtain ⟨b, rb, eb, hyb, hys⟩ := hy
            have ga : cx[n]? = some a := by
              rw [← Array.getElem?_toList]
              have := congrArg (fun z : List Value => z[0]?) ea
              simpa [List.getElem?_drop] using this
            have gb : cy[n]? = some b := by
              rw [← Array.getElem?_toList]
              have := congrArg (fun z : List Value => z[0]?) eb
              simpa [List.getElem?_drop] using this
            have da : cx.toList.drop (n + 1) = ra := by rw [← List.drop_drop, ea]; rfl
            have db : cy.toList.drop (n + 1) = rb := by rw [← List.drop_drop, eb]; rfl
            change Option.rec none (fun b => Bool.rec (some false) (sEqs l' xs ys) b) (sEq s x y) = some r at h
            cases hq : sEq s x y with
            | none => rw [hq] at h; cases h
            | some q =>
              rw [hq] at h
              obtain ⟨hrun, heq⟩ := sEq_ok (w := w) hq hxa hyb (und_ok hT hd) hs d
              have pa : (part f.type cx f.offset).run P w = .ok a w := run_part_cell hT hd (stOf_agg hs) (by rw [hf.1]; exact ga)
              have pb : (part f.type cy f.offset).run P w = .ok b w := run_part_cell hT hd (stOf_agg hs) (by rw [hf.1]; exact gb)
              cases q with
              | false =>
                cases h
                exact ⟨by simp [Op.eqFields, hf.2, pa, pb, hrun], fun h => by cases h⟩
              | true =>
                change sEqs l' xs ys = some r at h
                obtain ⟨ih1, ih2⟩ := sEqs_fields hT d fs (n + 1) l' xs ys cx cy r h2 (by rw [da]; exact hxs) (by rw [db]; exact hys) h
                refine ⟨by simp [Op.eqFields, hf.2, pa, pb, hrun, ih1], fun hr => ?_⟩
                have := ih2 hr
                rw [da, db] at this
                rw [ea, eb, heq rfl, this]
      · cases hl
    · cases hl

/-- what kind of key a type is: one cell, or a struct of such cells -/
inductive KT where | one (s : ST) | many (l : List ST)
noncomputable def keq (k : KT) (x y : GV) : Option Bool :=
  KT.casesOn k (fun s => sEq s x y) (fun l => onAgg none x fun a => onAgg none y fun b => sEqs l a b)
noncomputable def ktOf (P : Program) (tb : T TypeInfo) (t : TypeId) : Option KT :=
  match und tb t with
  | some (.struct fs) => if P.stoodInHeld t = true then none else (flat tb fs.toList 0).map .many
  | some d => (stOf d).map .one
  | none => none
theorem keq_ok {tb : T TypeInfo} (hT : Tb P tb) {t : TypeId} {k : KT} (hk : ktOf P tb t = some k) {x y : GV} {a b : Value} {r : Bool} (h : keq k x y = some r) (hx : R E x a) (hy : R E y b) :
    (Op.equal t a b).run P w = .ok r w ∧ (r = true → a = b) := by
  unfold ktOf at hk
  split at hk
  · rename_i fs hu
    split at hk
    · cases hk
    · rename_i hst
      obtain ⟨l, hl, rfl⟩ := Option.map_eq_some_iff.1 hk
      obtain ⟨xs, rfl, h⟩ := onAgg_some (show onAgg none x _ = some r from h)
      obtain ⟨ys, rfl, h⟩ := onAgg_some h
      simp only [R] at hx hy
      obtain ⟨cx, rfl, hx⟩ := hx
      obtain ⟨cy, rfl, hy⟩ := hy
      have hu' := und_ok hT hu
      have hfo : P.fieldsOf t = fs := by simp [Program.fieldsOf, hu']
      obtain ⟨h1, h2⟩ := sEqs_fields (w := w) hT 9998 fs.toList 0 l xs ys cx cy r hl (by simpa using hx) (by simpa using hy) h
      refine ⟨?_, fun hr => ?_⟩
      · show (Op.equalIn (9999 + 1) t (.agg cx) (.agg cy)).run P w = _
        rw [run_equalIn_struct w 9999 t cx cy (by rw [hfo]; exact hu') (by simpa using hst), hfo]
        exact h1
      · have := h2 hr
        rw [List.drop_zero, List.drop_zero] at this
        rw [Array.toList_inj.1 this]
  · rename_i d hn hu
    obtain ⟨s, hs, rfl⟩ := Option.map_eq_some_iff.1 hk
    exact sEq_ok h hx hy (und_ok hT hu) hs 9999
  · cases hk
end
end Go.Gh

/- Pure operations, all of them: one function, one law. -/
namespace Go.Gh
set_option linter.unusedVariables false

section
variable {β : Type}
noncomputable def onP (d : β) (v : GV) (n : β) (f : Nat → Nat → β) : β := GV.casesOn v d (fun _ => d) (fun _ _ => d) (fun _ => d) n f d (fun _ _ _ _ _ _ => d) d (fun _ => d) (fun _ _ _ => d) (fun _ => d) d (fun _ _ => d) d (fun _ => d) (fun _ => d) (fun _ => d) (fun _ => d)
noncomputable def onFN (d : β) (v : GV) (n f : β) : β := GV.casesOn v d (fun _ => d) (fun _ _ => d) (fun _ => d) d (fun _ _ => d) d (fun _ _ _ _ _ _ => d) d (fun _ => d) (fun _ _ _ => f) (fun _ => f) n (fun _ _ => d) d (fun _ => d) (fun _ => d) (fun _ => d) (fun _ => d)
variable {v : GV} {r : β}
theorem onP_some {n : Option β} {f : Nat → Nat → Option β} (h : onP none v n f = some r) : (v = .nilp ∧ n = some r) ∨ ∃ b o, v = .ptr b o ∧ f b o = some r := by cases v <;> first | exact .inl ⟨rfl, h⟩ | exact .inr ⟨_, _, rfl, h⟩ | cases h
theorem onFN_some {n f : Option β} (h : onFN none v n f = some r) : (v = .nilf ∧ n = some r) ∨ (((∃ a b c, v = .fn a b c) ∨ ∃ l, v = .yl l) ∧ f = some r) := by
  cases v <;> first | exact .inl ⟨rfl, h⟩ | exact .inr ⟨.inl ⟨_, _, _, rfl⟩, h⟩ | exact .inr ⟨.inr ⟨_, rfl⟩, h⟩ | cases h
end

inductive EK where | bool | ptr | slice | map | func | iface | key (k : KT)
noncomputable def fEq (k : EK) (x y : GV) : Option Bool :=
  EK.casesOn k
    (sEq .b x y)
    (onP none x (onP none y (some true) (fun _ _ => some false)) (fun b o => onP none y (some false) (fun b' o' => okIf (Nat.beq b b') (some (Nat.beq o o')))))
    (onSl none x (onSl none y (some true) (fun _ _ _ _ _ _ => some false)) (fun _ _ _ _ _ _ => onSl none y (some false) (fun _ _ _ _ _ _ => none)))
    (onMap none x (onMap none y (some true) (fun _ => some false)) (fun _ => onMap none y (some false) (fun _ => none)))
    (onFN none x (onFN none y (some true) (some false)) (onFN none y (some false) none))
    (onIf none x (onIf none y (some true) (fun _ _ => some false)) (fun _ _ => onIf none y (some false) (fun _ _ => none)))
    (fun k => keq k x y)
/-- The kinds of equality, by the type. -/
noncomputable def ekOf (P : Program) (tb : T TypeInfo) (t : TypeId) : Option EK :=
  match und tb t with
  | some .bool => some .bool
  | some (.pointer e) => match szOf tb e with
    | some (n + 1) => some .ptr
    | _ => none
  | some (.slice _) => some .slice
  | some (.map _ _) => some .map
  | some (.func _ _ _) => some .func
  | some (.interface _) => some .iface
  | some (.struct _) => if P.eqGuardType P.depth t = true then none else (ktOf P tb t).map .key
  | _ => none

section
variable {P : Program} {w : World} {E : Env}
theorem nat_beq_dec (a b : Nat) : Nat.beq a b = decide (a = b) := by
  by_cases h : a = b
  · subst h; simp
  · cases e : Nat.beq a b with
    | false => simp [h]
    | true => exact absurd (beq_t e) h
theorem fEq_ok {tb : T TypeInfo} (hT : Tb P tb) {t : TypeId} {k : EK} (hk : ekOf P tb t = some k) {x y : GV} {a b : Value} {r : Bool} (h : fEq k x y = some r) (hx : R E x a) (hy : R E y b) :
    (Op.equal t a b).run P w = .ok r w := by
  unfold ekOf at hk
  split at hk
  · rename_i hu
    cases hk
    exact (sEq_ok (s := .b) (show sEq .b x y = some r from h) hx hy (und_ok hT hu) rfl 9999).1
  · rename_i e hu
    split at hk
    · rename_i n hn
      cases hk
      have hu' := und_ok hT hu
      rcases onP_some (show onP none x _ _ = some r from h) with ⟨rfl, h⟩ | ⟨b1, o1, rfl, h⟩
      · simp only [R] at hx; subst hx
        rcases onP_some h with ⟨rfl, h⟩ | ⟨b2, o2, rfl, h⟩
        · simp only [R] at hy; subst hy; cases h
          exact (fun n => by simp [Op.equalIn, run_underlying hu'] : ∀ n, (Op.equalIn (n + 1) t _ _).run P w = _) 9999
        · simp only [R] at hy; obtain ⟨cb, co, _, rfl⟩ := hy; cases h
          exact (fun n => by simp [Op.equalIn, run_underlying hu'] : ∀ n, (Op.equalIn (n + 1) t _ _).run P w = _) 9999
      · simp only [R] at hx; obtain ⟨cb, co, hm, rfl⟩ := hx
        rcases onP_some h with ⟨rfl, h⟩ | ⟨b2, o2, rfl, h⟩
        · simp only [R] at hy; subst hy; cases h
          exact (fun n => by simp [Op.equalIn, run_underlying hu'] : ∀ n, (Op.equalIn (n + 1) t _ _).run P w = _) 9999
        · simp only [R] at hy; obtain ⟨cb', co', hm', rfl⟩ := hy
          obtain ⟨hb, h⟩ := okIf_some h; cases h
          cases beq_t hb
          rw [hm] at hm'; cases hm'
          have hz : (sizeOf e).run P w = .ok (n + 1) w := run_sizeOf' hT hn w
          have e1 : ((⟨cb, co + o1, none⟩ : Addr) == ⟨cb, co + o2, none⟩) = Nat.beq o1 o2 := by
            rw [nat_beq_dec, Bool.eq_iff_iff, beq_iff_eq, decide_eq_true_eq, Addr.mk.injEq]
            exact ⟨fun h => by omega, fun h => ⟨rfl, by omega, rfl⟩⟩
          exact (fun n => by simp [Op.equalIn, run_underlying hu', hz, sameAddr, ← e1] : ∀ n, (Op.equalIn (n + 1) t _ _).run P w = _) 9999
    · cases hk
  · rename_i e hu
    cases hk
    have hu' := und_ok hT hu
    rcases onSl_some (show onSl none x _ _ = some r from h) with ⟨rfl, h⟩ | ⟨_, _, _, _, _, _, rfl, h⟩
    · simp only [R] at hx; subst hx
      rcases onSl_some h with ⟨rfl, h⟩ | ⟨_, _, _, _, _, _, rfl, h⟩
      · simp only [R] at hy; subst hy; cases h
        exact (fun n => by simp [Op.equalIn, run_underlying hu'] : ∀ n, (Op.equalIn (n + 1) t _ _).run P w = _) 9999
      · simp only [R] at hy; obtain ⟨_, _, _, _, _, rfl, _⟩ := hy; cases h
        exact (fun n => by simp [Op.equalIn, run_underlying hu'] : ∀ n, (Op.equalIn (n + 1) t _ _).run P w = _) 9999
    · simp only [R] at hx; obtain ⟨_, _, _, _, _, rfl, _⟩ := hx
      rcases onSl_some h with ⟨rfl, h⟩ | ⟨_, _, _, _, _, _, rfl, h⟩
      · simp only [R] at hy; subst hy; cases h
        exact (fun n => by simp [Op.equalIn, run_underlying hu'] : ∀ n, (Op.equalIn (n + 1) t _ _).run P w = _) 9999
      · cases h
  · rename_i e1 e2 hu
    cases hk
    have hu' := und_ok hT hu
    rcases onMap_some (show onMap none x _ _ = some r from h) with ⟨rfl, h⟩ | ⟨_, rfl, h⟩
    · simp only [R] at hx; subst hx
      rcases onMap_some h with ⟨rfl, h⟩ | ⟨_, rfl, h⟩
      · simp only [R] at hy; subst hy; cases h
        exact (fun n => by simp [Op.equalIn, run_underlying hu'] : ∀ n, (Op.equalIn (n + 1) t _ _).run P w = _) 9999
      · simp only [R] at hy; obtain ⟨_, _, rfl⟩ := hy; cases h
        exact (fun n => by simp [Op.equalIn, run_underlying hu'] : ∀ n, (Op.equalIn (n + 1) t _ _).run P w = _) 9999
    · simp only [R] at hx; obtain ⟨_, _, rfl⟩ := hx
      rcases onMap_some h with ⟨rfl, h⟩ | ⟨_, rfl, h⟩
      · simp only [R] at hy; subst hy; cases h
        exact (fun n => by simp [Op.equalIn, run_underlying hu'] : ∀ n, (Op.equalIn (n + 1) t _ _).run P w = _) 9999
      · cases h
  · rename_i e1 e2 e3 hu
    cases hk
    have hu' := und_ok hT hu
    have fnv : ∀ {z : GV} {c : Value}, ((∃ p q s, z = .fn p q s) ∨ ∃ l, z = .yl l) → R E z c → ∃ f u v, c = .func f u v := by
      rintro z c (⟨p, q, s, rfl⟩ | ⟨l, rfl⟩) hz
      · simp only [R] at hz; obtain ⟨u, v, rfl, _⟩ := hz; exact ⟨_, _, _, rfl⟩
      · simp only [R] at hz; obtain ⟨cb, _, rfl⟩ := hz; exact ⟨_, _, _, rfl⟩
    rcases onFN_some (show onFN none x _ _ = some r from h) with ⟨rfl, h⟩ | ⟨hf, h⟩
    · simp only [R] at hx; subst hx
      rcases onFN_some h with ⟨rfl, h⟩ | ⟨hg, h⟩
      · simp only [R] at hy; subst hy; cases h
        exact (fun n => by simp [Op.equalIn, run_underlying hu'] : ∀ n, (Op.equalIn (n + 1) t _ _).run P w = _) 9999
      · obtain ⟨_, _, _, rfl⟩ := fnv hg hy; cases h
        exact (fun n => by simp [Op.equalIn, run_underlying hu'] : ∀ n, (Op.equalIn (n + 1) t _ _).run P w = _) 9999
    · obtain ⟨_, _, _, rfl⟩ := fnv hf hx
      rcases onFN_some h with ⟨rfl, h⟩ | ⟨hg, h⟩
      · simp only [R] at hy; subst hy; cases h
        exact (fun n => by simp [Op.equalIn, run_underlying hu'] : ∀ n, (Op.equalIn (n + 1) t _ _).run P w = _) 9999
      · cases h
  · rename_i e hu
    cases hk
    have hu' := und_ok hT hu
    rcases onIf_some (show onIf none x _ _ = some r from h) with ⟨rfl, h⟩ | ⟨_, _, rfl, h⟩
    · simp only [R] at hx; subst hx
      rcases onIf_some h with ⟨rfl, h⟩ | ⟨_, _, rfl, h⟩
      · simp only [R] at hy; subst hy; cases h
        exact (fun n => by simp [Op.equalIn, run_underlying hu'] : ∀ n, (Op.equalIn (n + 1) t _ _).run P w = _) 9999
      · simp only [R] at hy; obtain ⟨_, rfl, _⟩ := hy; cases h
        exact (fun n => by simp [Op.equalIn, run_underlying hu'] : ∀ n, (Op.equalIn (n + 1) t _ _).run P w = _) 9999
    · simp only [R] at hx; obtain ⟨_, rfl, _⟩ := hx
      rcases onIf_some h with ⟨rfl, h⟩ | ⟨_, _, rfl, h⟩
      · simp only [R] at hy; subst hy; cases h
        exact (fun n => by simp [Op.equalIn, run_underlying hu'] : ∀ n, (Op.equalIn (n + 1) t _ _).run P w = _) 9999
      · cases h
  · rename_i fs hu
    split at hk
    · cases hk
    · obtain ⟨kt, hkt, rfl⟩ := Option.map_eq_some_iff.1 hk
      exact (keq_ok hT hkt h hx hy).1
  · cases hk

/-- The guard ahead of == and != goes through: not two nil interface values, or one of them a constant. -/
theorem eqGuard_ok {op : BinOp} {t : TypeId} {x y : Operand} {a b : Value} (h1 : ¬ (a = .nilIface ∧ b = .nilIface) ∨ (∃ c, x = .const c) ∨ ∃ c, y = .const c)
    (h2 : (∃ p q, a = .agg p ∧ b = .agg q) → P.eqGuardType P.depth t = false) : (eqGuard op t x y a b).run P w = .ok () w := by
  have key : ∀ op : BinOp, op = .eql ∨ op = .neq → (eqGuard op t x y a b).run P w = .ok () w := by
    intro op hop
    rcases hop with rfl | rfl
    all_goals
      simp only [eqGuard, Bool.not_true, Bool.false_eq_true, if_false]
      split
      · rcases h1 with h1 | ⟨c, rfl⟩ | ⟨c, rfl⟩
        · exact absurd ⟨rfl, rfl⟩ h1
        · simp
        · cases x <;> simp
      · rename_i p q
        simp [h2 ⟨p, q, rfl, rfl⟩]
      · simp
  cases op <;> first | exact key _ (.inl rfl) | exact key _ (.inr rfl) | rfl
end
end Go.Gh
