/- Pure operations: what is laid together out of parts; bounds of slices. -/
import Derived.Test.YtpdaickealgnhaaGreatDoorHB
namespace Go.Gh
set_option linter.unusedVariables false

section
variable {P : Program} {w : World} {E : Env}

/-! ### parts into a whole -/
noncomputable def cellsOf (v : GV) : Option (List GV) := GV.casesOn v none (fun b => some [.bool b]) (fun k n => some [.int k n]) (fun s => some [.str s]) (some [.nilp]) (fun b o => some [.ptr b o]) (some [.nils])
  (fun b o l c e z => some [.sl b o l c e z]) (some [.nilm]) (fun r => some [.mp r]) (fun f a b => some [.fn f a b]) (fun l => some [.yl l]) (some [.nilf]) (fun t x => some [.iface t x]) (some [.nili]) (fun l => some l) (fun _ => none) (fun k => some [.un k]) (fun v => some [.k v])
theorem RL.one {E : Env} {g : GV} {v : Value} (h : R E g v) : RL E [g] [v] := by simp only [RL]; exact ⟨v, [], rfl, h, rfl⟩
theorem cellsOf_ok {v : GV} {a : Value} {l : List GV} (h : cellsOf v = some l) (hr : R E v a) : RL E l a.cells.toList := by
  cases v
  case bad => cases h
  case tup => cases h
  case agg l' =>
    cases h
    simp only [R] at hr
    obtain ⟨x, rfl, hx⟩ := hr
    exact hx
  case un k =>
    cases h
    have h1 := hr
    simp only [R] at h1
    rw [(UR.one h1).1]
    exact RL.one hr
  case k v0 =>
    cases h
    have h1 := hr
    simp only [R] at h1
    obtain ⟨rfl, h2, _⟩ := h1
    rw [h2]
    exact RL.one hr
  all_goals
    cases h
    have hc : a.cells = #[a] := by
      simp only [R] at hr
      first
        | (subst hr; rfl)
        | (obtain ⟨_, _, _, rfl⟩ := hr; rfl)
        | (obtain ⟨rfl, _⟩ := hr; rfl)
        | (obtain ⟨_, _, _, _, _, rfl, _⟩ := hr; rfl)
        | (obtain ⟨_, _, rfl⟩ := hr; rfl)
        | (obtain ⟨_, _, rfl, _⟩ := hr; rfl)
        | (obtain ⟨_, rfl, _⟩ := hr; rfl)
    rw [hc]
    exact RL.one hr

noncomputable def gsplice (cells : List GV) (off : Nat) (l : List GV) : List GV := cells.take off ++ l ++ cells.drop (Nat.add off l.length)
noncomputable def gfill (l : List (Nat × Nat × GV)) : List GV → Option (List GV) :=
  List.rec (motive := fun _ => List GV → Option (List GV)) (fun cells => some cells)
    (fun p _ ih cells => Option.rec none (fun c => okIf (band (Nat.beq c.length p.2.1) (Nat.ble (Nat.add p.1 c.length) cells.length)) (ih (gsplice cells p.1 c))) (cellsOf p.2.2)) l

theorem foldl_set_list : ∀ (l : List Value) (off k : Nat) (cells : Array Value) (i : Nat),
    ((l.zipIdx k).foldl (fun (cs : Array Value) (x : Value × Nat) => cs.setIfInBounds (off + x.2) x.1) cells)[i]? =
      if off + k ≤ i ∧ i < off + k + l.length ∧ i < cells.size then l[i - (off + k)]? else cells[i]?
  | [], off, k, cells, i => by rw [if_neg (by simp; omega)]; rfl
  | x :: l, off, k, cells, i => by
    rw [List.zipIdx_cons, List.foldl_cons, foldl_set_list l off (k + 1)]
    simp only [Array.size_setIfInBounds, List.length_cons]
    by_cases h : off + (k + 1) ≤ i ∧ i < off + (k + 1) + l.length ∧ i < cells.size
    · rw [if_pos h, if_pos (by omega)]
      obtain ⟨d, hd⟩ : ∃ d, i - (off + k) = d + 1 := ⟨i - (off + k) - 1, by omega⟩
      rw [hd, show i - (off + (k + 1)) = d by omega]; rfl
    · rw [if_neg h]
      by_cases e : i = off + k
      · subst e
        by_cases hs : off + k < cells.size
        · rw [if_pos (by omega)]; simp [hs]
        · rw [if_neg (by omega)]
          rw [Array.getElem?_eq_none (by simp; omega), Array.getElem?_eq_none (by omega)]
      · rw [if_neg (by omega), Array.getElem?_setIfInBounds_ne (by omega)]

theorem gsplice_get (cells l : List GV) (off i : Nat) (h : off + l.length ≤ cells.length) :
    (gsplice cells off l)[i]? = if off ≤ i ∧ i < off + l.length then l[i - off]? else cells[i]? := by
  unfold gsplice
  rw [List.append_assoc]
  by_cases h1 : i < off
  · rw [List.getElem?_append_left (by simp; omega), List.getElem?_take_of_lt h1, if_neg (by omega)]
  · rw [List.getElem?_append_right (by simp; omega)]
    have e1 : i - (cells.take off).length = i - off := by simp; omega
    rw [e1]
    by_cases h2 : i < off + l.length
    · rw [List.getElem?_append_left (by omega), if_pos (by omega)]
    · rw [List.getElem?_append_right (by omega), if_neg (by omega), List.getElem?_drop]
      congr 1
      show off + l.length + (i - off - l.length) = i
      omega
theorem gsplice_length (cells l : List GV) (off : Nat) (h : off + l.length ≤ cells.length) : (gsplice cells off l).length = cells.length := by
  unfold gsplice
  simp only [List.length_append, List.length_take, List.length_drop]
  show min off cells.length + l.length + (cells.length - (off + l.length)) = cells.length
  omega

theorem gfill_ok (place : Nat → Option (Nat × Nat)) : ∀ (gp : List (Nat × Nat × GV)) (cp : List (Nat × Value)) (cells : List GV) (cc : Array Value) (out : List GV),
    gp.length = cp.length → (∀ (i : Nat) (x : Nat × Nat × GV) (y : Nat × Value), gp[i]? = some x → cp[i]? = some y → place y.1 = some (x.1, x.2.1) ∧ R E x.2.2 y.2) →
    RL E cells cc.toList → gfill gp cells = some out → ∃ o, Instr.fill place cc cp = some o ∧ RL E out o.toList
  | [], cp, cells, cc, out, hl, hp, hc, h => by
    have : cp = [] := List.eq_nil_of_length_eq_zero hl.symm
    subst this
    cases h
    exact ⟨cc, rfl, hc⟩
  | x :: gp, cp, cells, cc, out, hl, hp, hc, h => by
    cases cp with
    | nil => simp at hl
    | cons y cp =>
      obtain ⟨off, size, gv⟩ := x
      obtain ⟨i, v⟩ := y
      obtain ⟨hpl, hr⟩ := hp 0 _ _ rfl rfl
      change Option.rec none (fun c => okIf (band (Nat.beq c.length size) (Nat.ble (Nat.add off c.length) cells.length)) (gfill gp (gsplice cells off c))) (cellsOf gv) = some out at h
      cases hcl : cellsOf gv with
      | none => rw [hcl] at h; cases h
      | some l =>
        rw [hcl] at h
        obtain ⟨hb, h⟩ := okIf_some h
        obtain ⟨hb1, hb2⟩ := band_t hb
        have hb1 := beq_t hb1
        have hb2 : off + l.length ≤ cells.length := ble_t hb2
        have hv : RL E l v.cells.toList := cellsOf_ok hcl hr
        have hvl := hv.length
        have hcl' := hc.length
        have hgs : RL E (gsplice cells off l) ((v.cells.toList.zipIdx.foldl (fun (cs : Array Value) (x : Value × Nat) => cs.setIfInBounds (off + x.2) x.1) cc).toList) := by
          have hsz : ∀ (l : List Value) (k : Nat) (cs : Array Value), ((l.zipIdx k).foldl (fun (cs : Array Value) (x : Value × Nat) => cs.setIfInBounds (off + x.2) x.1) cs).size = cs.size := by
            intro l
            induction l with
            | nil => intro k cs; rfl
            | cons a l ih => intro k cs; rw [List.zipIdx_cons, List.foldl_cons, ih]; simp
          refine RL.of_get ?_ fun j a b ha hb => ?_
          · rw [gsplice_length _ _ _ hb2, Array.length_toList, hsz]; simpa using hcl'
          · rw [gsplice_get _ _ _ _ hb2] at ha
            rw [Array.getElem?_toList, foldl_set_list] at hb
            have hcs : cc.size = cells.length := by simpa using hcl'
            by_cases hj : off ≤ j ∧ j < off + l.length
            · rw [if_pos hj] at ha
              rw [if_pos (by omega)] at hb
              obtain ⟨z, hz, hrz⟩ := hv.get ha
              rw [show j - (off + 0) = j - off by omega, hz] at hb; cases hb; exact hrz
            · rw [if_neg hj] at ha
              rw [if_neg (by omega)] at hb
              obtain ⟨z, hz, hrz⟩ := hc.get ha
              rw [Array.getElem?_toList] at hz
              rw [hz] at hb; cases hb; exact hrz
        obtain ⟨o, ho1, ho2⟩ := gfill_ok place gp cp _ _ out (by simpa using hl) (fun i x y hx hy => hp (i + 1) x y (by simpa using hx) (by simpa using hy)) hgs h
        refine ⟨o, ?_, ho2⟩
        rw [Instr.fill]
        simp only [hpl]
        rw [if_neg]
        · rw [← Array.foldl_toList, Array.toList_zipIdx] at *
          exact ho1
        · have e1 : v.cells.size = l.length := by rw [← Array.length_toList]; exact hvl
          have e2 : cc.size = cells.length := by rw [← Array.length_toList]; exact hcl'
          simp only [e1, e2, hb1, ne_eq, not_true_eq_false, decide_false, Bool.false_or]
          simp; omega

/-! ### bounds -/
theorem run_bounds {isS : Bool} {len cap : Nat} {low high max : Option Value} {l h m : Nat}
    (hm : (max = none ∧ m = cap) ∨ ∃ k, max = some (.int k (m : Int)) ∧ m ≤ cap)
    (hh : (high = none ∧ max = none ∧ h = len) ∨ ∃ k, high = some (.int k (h : Int)) ∧ h ≤ m)
    (hl : (low = none ∧ l = 0) ∨ ∃ k, low = some (.int k (l : Int)) ∧ l ≤ h) :
    (Instr.sliceBounds isS len cap low high max).run P w = .ok (l, h, m) w := by
  rcases hm with ⟨rfl, rfl⟩ | ⟨k1, rfl, h1⟩
  · rcases hh with ⟨rfl, -, rfl⟩ | ⟨k2, rfl, h2⟩
    · rcases hl with ⟨rfl, rfl⟩ | ⟨k3, rfl, h3⟩
      · simp [Instr.sliceBounds]
      · simp [Instr.sliceBounds, run_sliceBound, h3]
    · rcases hl with ⟨rfl, rfl⟩ | ⟨k3, rfl, h3⟩
      · simp [Instr.sliceBounds, run_sliceBound, h2]
      · simp [Instr.sliceBounds, run_sliceBound, h2, h3]
  · rcases hh with ⟨rfl, h0, rfl⟩ | ⟨k2, rfl, h2⟩
    · cases h0
    · rcases hl with ⟨rfl, rfl⟩ | ⟨k3, rfl, h3⟩
      · simp [Instr.sliceBounds, run_sliceBound, h1, h2]
      · simp [Instr.sliceBounds, run_sliceBound, h1, h2, h3]
end
end Go.Gh

/- Pure operations: the list of them, what they come to, how they are read off the program; the one law. -/
namespace Go.Gh
set_option linter.unusedVariables false

inductive Pf where
  | mov (x : Od)
  | pick (c a b : Od)
  | nilck (x : Od)
  | bin (op : BinOp) (x y : Od)
  | sbin (op : BinOp) (x y : Od)
  | eqx (neg : Bool) (k : EK) (x y : Od)
  | neg (x : Od)
  | not (x : Od)
  | xorc (x : Od)
  | conv (k : IntKind) (x : Od)
  | cstr (x : Od)
  | mkif (t : Nat) (x : Od)
  | mkfn (f : Fn) (a b : List Od)
  | ext (i : Nat) (x : Od)
  | fld (off : Nat) (n : Option Nat) (x : Od)
  | ixs (x i : Od)
  | ixa (len sz : Nat) (agg : Bool) (x i : Od)
  | fa (off : Nat) (x : Od)
  | iaa (len sz : Nat) (x i : Od)
  | ias (sz : Nat) (x i : Od)
  | sls (x : Od) (lo hi : Option Od)
  | sll (sz : Nat) (x : Od) (lo hi mx : Option Od)
  | lens (x : Od)
  | lenl (x : Od)
  | cst (v : GV)
  | cap (x : Od)
  | mm (mx : Bool) (x y : Od)
  | bld (z : List GV) (ps : List (Nat × Nat × Od))
  | tas (t : Nat) (ok : Bool) (z : GV) (x : Od)

noncomputable def fNil (v : GV) : Option GV := GV.casesOn v none (fun _ => none) (fun _ _ => none) (fun _ => none) none (fun b o => some (.ptr b o)) none (fun _ _ _ _ _ _ => none) none (fun _ => none)
  (fun f a b => Fn.casesOn f (fun g => some (.fn (.func g) a b)) (fun _ => none) (fun _ _ => none) (fun _ _ _ _ => none) (fun _ => none)) (fun _ => none) none (fun t x => some (.iface t x)) none (fun _ => none) (fun _ => none) (fun _ => none) (fun _ => none)
noncomputable def natOf (v : GV) : Option Nat := onInt none v fun _ n => Int.casesOn n (fun m => some m) (fun _ => none)
noncomputable def bnd (t : T GV) (o : Option Od) (d : Nat) : Option Nat := Option.rec (some d) (fun x => natOf (ev t x)) o
noncomputable def fPart (l : List GV) (off : Nat) (n : Option Nat) : Option GV := Option.rec (l[off]?) (fun n => okIf (Nat.ble (Nat.add off n) l.length) (some (.agg ((l.drop off).take n)))) n
noncomputable def fSls (s : List Nat) (lo hi : Nat) : Option GV := okIf (band (Nat.ble lo hi) (Nat.ble hi s.length)) (some (.str ((s.drop lo).take (Nat.sub hi lo))))
noncomputable def fSll (sz b o len cap : Nat) (ex : Bool) (lo hi m : Nat) (three : Bool) : Option GV :=
  okIf (band (Nat.ble lo hi) (band (Nat.ble hi m) (Nat.ble m cap))) (some (.sl b (Nat.add o (Nat.mul lo sz)) (Nat.sub hi lo) (Nat.sub m lo) (Bool.rec ex true three) sz))
noncomputable def isS (o : Option Od) : Bool := Option.rec false (fun _ => true) o
noncomputable def bldEv (t : T GV) (ps : List (Nat × Nat × Od)) : List (Nat × Nat × GV) := List.rec [] (fun p _ ih => (p.1, p.2.1, ev t p.2.2) :: ih) ps

noncomputable def pfPick (t : T GV) (c a b : Od) : Option GV := onBool none (ev t c) fun x => some (Bool.rec (ev t b) (ev t a) x)
/-- of a number that is not known, or is: what kind it is of -/
noncomputable def kindI (v : GV) (f : IntKind → Option GV) : Option GV := onInt (onUn none v fun u => UK.casesOn u none f none none) v fun k _ => f k
/-- what is known of an operation on numbers of one kind -/
def uop (op : BinOp) (k : IntKind) : Option GV := match op with
  | .add | .sub | .mul | .and | .or | .xor | .andNot => some (.un (.i k))
  | .eql | .neq | .lss | .leq | .gtr | .geq => some (.un .b)
  | _ => none
noncomputable def uBin (op : BinOp) (x y : GV) : Option GV := kindI x fun k => kindI y fun k' => okIf (kq k k') (uop op k)
noncomputable def pfBin (t : T GV) (op : BinOp) (x y : Od) : Option GV := onInt (uBin op (ev t x) (ev t y)) (ev t x) fun k a => onInt (uBin op (ev t x) (ev t y)) (ev t y) fun k' b => fInt op k k' a b
noncomputable def pfSbin (t : T GV) (op : BinOp) (x y : Od) : Option GV := onStr none (ev t x) fun a => onStr none (ev t y) fun b => fStr op a b
noncomputable def pfEqx (t : T GV) (neg : Bool) (k : EK) (x y : Od) : Option GV := Option.rec none (fun r => some (.bool (Bool.rec r (bnot r) neg))) (fEq k (ev t x) (ev t y))
noncomputable def pfNeg (t : T GV) (x : Od) : Option GV := onInt none (ev t x) fun k n => some (.int k (wr k (Int.sub 0 n)))
noncomputable def pfNot (t : T GV) (x : Od) : Option GV := onBool (onUn none (ev t x) fun u => okIf (uq u .b) (some (.un .b))) (ev t x) fun b => some (.bool (bnot b))
noncomputable def pfXorc (t : T GV) (x : Od) : Option GV := onInt none (ev t x) fun k n => some (.int k (natBits Nat.xor .xor k (if k.signed then -1 else k.max) n))
noncomputable def pfConv (t : T GV) (k : IntKind) (x : Od) : Option GV := onInt none (ev t x) fun _ n => some (.int k (wr k n))
noncomputable def pfCstr (t : T GV) (x : Od) : Option GV := onStr none (ev t x) fun s => some (.str s)
noncomputable def pfExt (t : T GV) (i : Nat) (x : Od) : Option GV := onTup none (ev t x) fun l => l[i]?
noncomputable def pfFld (t : T GV) (off : Nat) (n : Option Nat) (x : Od) : Option GV := onAgg none (ev t x) fun l => fPart l off n
noncomputable def pfIxs (t : T GV) (x i : Od) : Option GV := onStr none (ev t x) fun s => Option.rec none (fun n => Option.rec none (fun c => some (.int .u8 (Int.ofNat c))) (s[n]?)) (natOf (ev t i))
noncomputable def pfIxa (t : T GV) (len sz : Nat) (agg : Bool) (x i : Od) : Option GV :=
  onAgg none (ev t x) fun l => Option.rec none (fun n => okIf (Nat.ble (Nat.succ n) len) (fPart l (Nat.mul n sz) (Bool.rec none (some sz) agg))) (natOf (ev t i))
noncomputable def pfFa (t : T GV) (off : Nat) (x : Od) : Option GV := onPtr none (ev t x) fun b o => some (.ptr b (Nat.add o off))
noncomputable def pfIaa (t : T GV) (len sz : Nat) (x i : Od) : Option GV := onPtr none (ev t x) fun b o => Option.rec none (fun n => okIf (Nat.ble (Nat.succ n) len) (some (.ptr b (Nat.add o (Nat.mul n sz))))) (natOf (ev t i))
noncomputable def pfIas (t : T GV) (sz : Nat) (x i : Od) : Option GV := onSl none (ev t x) none fun b o len _ _ _ => Option.rec none (fun n => okIf (Nat.ble (Nat.succ n) len) (some (.ptr b (Nat.add o (Nat.mul n sz))))) (natOf (ev t i))
noncomputable def pfSls (t : T GV) (x : Od) (lo hi : Option Od) : Option GV := onStr none (ev t x) fun s => Option.rec none (fun l => Option.rec none (fun h => fSls s l h) (bnd t hi s.length)) (bnd t lo 0)
noncomputable def pfSll (t : T GV) (sz : Nat) (x : Od) (lo hi mx : Option Od) : Option GV :=
  onSl none (ev t x)
    (Option.rec none (fun l => Option.rec none (fun h => Option.rec none (fun m => okIf (band (Nat.beq l 0) (band (Nat.beq h 0) (Nat.beq m 0))) (some .nils)) (bnd t mx 0)) (bnd t hi 0)) (bnd t lo 0))
    (fun b o len cap ex z => okIf (Nat.beq z sz) (Option.rec none (fun l => Option.rec none (fun h => Option.rec none (fun m => fSll sz b o len cap ex l h m (isS mx)) (bnd t mx cap)) (bnd t hi len)) (bnd t lo 0)))
noncomputable def pfLens (t : T GV) (x : Od) : Option GV := onStr (onUn none (ev t x) fun u => okIf (uq u .s) (some (.un (.i .i64)))) (ev t x) fun s => some (.int .i64 (Int.ofNat s.length))
noncomputable def pfLenl (t : T GV) (x : Od) : Option GV := onSl (onUn none (ev t x) fun u => okIf (uq u .l) (some (.un (.i .i64)))) (ev t x) (some (.int .i64 (Int.ofNat 0))) fun _ _ l _ _ _ => some (.int .i64 (Int.ofNat l))
noncomputable def pfCap (t : T GV) (x : Od) : Option GV := onSl none (ev t x) (some (.int .i64 (Int.ofNat 0))) fun _ _ _ c ex _ => okIf ex (some (.int .i64 (Int.ofNat c)))
noncomputable def pfMm (t : T GV) (mx : Bool) (x y : Od) : Option GV := onInt none (ev t x) fun k a => onInt none (ev t y) fun _ b => some (.int k (Bool.rec (Bool.rec a b (ilt b a)) (Bool.rec a b (ilt a b)) mx))
noncomputable def pfBld (t : T GV) (z : List GV) (ps : List (Nat × Nat × Od)) : Option GV := Option.rec none (fun l => some (.agg l)) (gfill (bldEv t ps) z)
noncomputable def pfTas (t : T GV) (ty : Nat) (ok : Bool) (z : GV) (x : Od) : Option GV :=
  onIf none (ev t x) (okIf ok (some (.tup [z, .bool false])))
    (fun u v => Bool.rec (okIf ok (some (.tup [z, .bool false]))) (some (Bool.rec v (.tup [v, .bool true]) ok)) (Nat.beq u ty))

noncomputable def pf (t : T GV) (p : Pf) : Option GV :=
  Pf.casesOn p (fun x => some (ev t x)) (fun c a b => pfPick t c a b) (fun x => fNil (ev t x)) (fun op x y => pfBin t op x y) (fun op x y => pfSbin t op x y) (fun n k x y => pfEqx t n k x y) (fun x => pfNeg t x) (fun x => pfNot t x)
    (fun x => pfXorc t x) (fun k x => pfConv t k x) (fun x => pfCstr t x) (fun ty x => some (.iface ty (ev t x))) (fun f a b => some (.fn f (evs t a) (evs t b))) (fun i x => pfExt t i x) (fun off n x => pfFld t off n x) (fun x i => pfIxs t x i)
    (fun len sz agg x i => pfIxa t len sz agg x i) (fun off x => pfFa t off x) (fun len sz x i => pfIaa t len sz x i) (fun sz x i => pfIas t sz x i) (fun x lo hi => pfSls t x lo hi) (fun sz x lo hi mx => pfSll t sz x lo hi mx) (fun x => pfLens t x) (fun x => pfLenl t x) (fun v => some v)
    (fun x => pfCap t x) (fun m x y => pfMm t m x y) (fun z ps => pfBld t z ps) (fun ty ok z x => pfTas t ty ok z x)

/-! ### read off the program -/
def isConstO : Operand → Bool
  | .const _ => true
  | _ => false
def codO (ng : Nat) : Option Operand → Option (Option Od)
  | none => some none
  | some x => (cod ng x).map some
noncomputable def cParts (ng : Nat) (place : Nat → Option (Nat × Nat)) : List (Nat × Operand) → Option (List (Nat × Nat × Od))
  | [] => some []
  | (i, x) :: r => match place i, cod ng x, cParts ng place r with
    | some (a, b), some o, some l => some ((a, b, o) :: l)
    | _, _, _ => none
noncomputable def places (tb : T TypeInfo) (fs : List Field) : Option (List (Nat × Nat)) :=
  match fs with
  | [] => some []
  | f :: fs => match szOf tb f.type, places tb fs with
    | some n, some l => some ((f.offset, n) :: l)
    | _, _ => none
noncomputable def zeroOf (tb : T TypeInfo) (t : TypeId) : Option GV := ((tb.get t).bind (·.zero)).bind cv
noncomputable def zeroCellsOf (tb : T TypeInfo) (t : TypeId) : Option (List GV) := ((tb.get t).bind (·.zero)).bind fun z => csl z.cells.toList

def ekIface : EK → Bool
  | .iface => true
  | _ => false
noncomputable def cBin (P : Program) (tb : T TypeInfo) (ng : Nat) (op : BinOp) (xt : TypeId) (x y : Operand) : Option Pf :=
  match cod ng x, cod ng y, und tb xt with
  | some a, some b, some (.int _) => some (.bin op a b)
  | some a, some b, some .string => some (.sbin op a b)
  | some a, some b, some d =>
    match ekOf P tb xt with
    | some k =>
      if ekIface k = true ∧ (isConstO x || isConstO y) = false then none else
        (match op with
        | .eql => some (.eqx false k a b)
        | .neq => some (.eqx true k a b)
        | _ => none)
    | none => none
  | _, _, _ => none
noncomputable def cField (tb : T TypeInfo) (s : TypeId) (f : Nat) : Option Field :=
  match und tb s with
  | some (.struct fs) => fs[f]?
  | _ => none
noncomputable def cPart (tb : T TypeInfo) (t : TypeId) : Option (Option Nat) :=
  match und tb t, szOf tb t with
  | some d, some n => some (if aggD d then some n else none)
  | _, _ => none

noncomputable def cPf (P : Program) (tb : T TypeInfo) (ng : Nat) (op : Op) : Option Pf :=
  match op with
  | .move x => (cod ng x).map .mov
  | .assign x => (cod ng x).map .mov
  | .pick c a b => match cod ng c, cod ng a, cod ng b with
    | some c, some a, some b => some (.pick c a b)
    | _, _, _ => none
  | .nilCheck x => (cod ng x).map .nilck
  | .binOp op xt x y _ => cBin P tb ng op xt x y
  | .unOp .neg _ x => (cod ng x).map .neg
  | .unOp .not _ x => (cod ng x).map .not
  | .unOp .xor _ x => (cod ng x).map .xorc
  | .convert s d x => match und tb s, und tb d, cod ng x with
    | some _, some (.int k), some o => some (.conv k o)
    | some _, some .string, some o => (match und tb s with
      | some .string => some (.cstr o)
      | _ => none)
    | _, _, _ => none
  | .makeInterface t x => match und tb t, cod ng x with
    | some (.interface _), _ => none
    | some _, some o => some (.mkif t o)
    | _, _ => none
  | .makeFunc f a b => match cods ng a.toList, cods ng b.toList with
    | some a, some b => some (.mkfn f a b)
    | _, _ => none
  | .extract x i => (cod ng x).map (.ext i)
  | .field t x f => match cField tb t f, cod ng x with
    | some fd, some o => (cPart tb fd.type).map fun n => .fld fd.offset n o
    | _, _ => none
  | .index t x i => match und tb t, cod ng x, cod ng i with
    | some .string, some a, some b => some (.ixs a b)
    | some (.array n e), some a, some b => (match cPart tb e, szOf tb e with
      | some q, some z => some (.ixa n z q.isSome a b)
      | _, _ => none)
    | _, _, _ => none
  | .fieldAddr t x f => match cField tb t f, cod ng x with
    | some fd, some o => (match szOf tb fd.type with
      | some (_ + 1) => some (.fa fd.offset o)
      | _ => none)
    | _, _ => none
  | .indexAddr t x i => match und tb t, cod ng x, cod ng i with
    | some (.array n e), some a, some b => (szOf tb e).map fun z => .iaa n z a b
    | some (.slice e), some a, some b => (szOf tb e).map fun z => .ias z a b
    | _, _, _ => none
  | .slice t x lo hi mx => match und tb t, cod ng x, codO ng lo, codO ng hi, codO ng mx with
    | some .string, some a, some l, some h, some none => some (.sls a l h)
    | some (.slice e), some a, some l, some h, some m =>
      if (m.isSome && h.isNone) then none else (szOf tb e).map fun z => .sll z a l h m
    | _, _, _, _, _ => none
  | .call { callee := .builtin .len, args, argTypes } => match argTypes[0]?, args.toList with
    | some t, [x] => (match und tb t, cod ng x with
      | some .string, some o => some (.lens o)
      | some (.slice _), some o => some (.lenl o)
      | some (.array n _), _ => some (.cst (.int .i64 n))
      | some (.pointer a), _ => (match und tb a with
        | some (.array n _) => some (.cst (.int .i64 n))
        | _ => none)
      | _, _ => none)
    | _, _ => none
  | .call { callee := .builtin .cap, args, argTypes } => match argTypes[0]?, args.toList with
    | some t, [x] => (match und tb t, cod ng x with
      | some (.slice _), some o => some (.cap o)
      | some (.array n _), _ => some (.cst (.int .i64 n))
      | _, _ => none)
    | _, _ => none
  | .call { callee := .builtin .max, args, .. } => match args.toList with
    | [x, y] => (match cod ng x, cod ng y with
      | some a, some b => some (.mm true a b)
      | _, _ => none)
    | _ => none
  | .call { callee := .builtin .min, args, .. } => match args.toList with
    | [x, y] => (match cod ng x, cod ng y with
      | some a, some b => some (.mm false a b)
      | _, _ => none)
    | _ => none
  | .build t parts => match und tb t, zeroCellsOf tb t with
    | some (.struct fs), some z => (match places tb fs.toList with
      | some pl => (cParts ng (pl[·]?) parts.toList).map (.bld z)
      | none => none)
    | some (.array _ e), some z => (match szOf tb e with
      | some n => (cParts ng (fun i => some (i * n, n)) parts.toList).map (.bld z)
      | none => none)
    | _, _ => none
  | .typeAssert x _ ty ok => match und tb ty, cod ng x, zeroOf tb ty with
    | some (.interface _), _, _ => none
    | some _, some o, some z => some (.tas ty ok z o)
    | _, _, _ => none
  | _ => none
end Go.Gh

/- Pure operations: the machine's operation comes to what the run's does, in whatever world. -/
namespace Go.Gh
set_option linter.unusedVariables false

theorem ekOf_und {P : Program} {tb : T TypeInfo} {t : TypeId} {k : EK} (hk : ekOf P tb t = some k) :
    ∃ d, und tb t = some d ∧ (∀ q, d ≠ .int q) ∧ (∀ q, d ≠ .float q) ∧ (∀ q, d ≠ .complex q) ∧ d ≠ .string ∧ (ekIface k = false → ∀ q, d ≠ .interface q) ∧ ((∃ fs, d = .struct fs) → P.eqGuardType P.depth t = false) ∧ (∀ n e, d ≠ .array n e) := by
  unfold ekOf at hk
  split at hk
  case h_1 hu => exact ⟨_, hu, by simp, by simp, by simp, by simp, by simp, by simp, by simp⟩
  case h_2 hu => exact ⟨_, hu, by simp, by simp, by simp, by simp, by simp, by simp, by simp⟩
  case h_3 hu => exact ⟨_, hu, by simp, by simp, by simp, by simp, by simp, by simp, by simp⟩
  case h_4 hu => exact ⟨_, hu, by simp, by simp, by simp, by simp, by simp, by simp, by simp⟩
  case h_5 hu => exact ⟨_, hu, by simp, by simp, by simp, by simp, by simp, by simp, by simp⟩
  case h_6 hu => cases hk; exact ⟨_, hu, by simp, by simp, by simp, by simp, by simp [ekIface], by simp, by simp⟩
  case h_7 hu =>
    split at hk
    · cases hk
    · rename_i hq
      exact ⟨_, hu, by simp, by simp, by simp, by simp, by simp, fun _ => by simpa using hq, by simp⟩
  case h_8 => cases hk
theorem stuckNe {α : Type} {P : Program} {w : World} {r : α} {why : String} : (stuck why : Sem α).run P w ≠ .ok r w := by simp [stuck]
theorem equal_fits {P : Program} {w : World} {t : TypeId} {d : TypeDesc} {A B : Value} {r : Bool} (hu : P.underlying t = some d)
    (h1 : ∀ q, d ≠ .int q) (h2 : ∀ q, d ≠ .float q) (h3 : ∀ q, d ≠ .complex q) (h4 : d ≠ .string) (he : (Op.equal t A B).run P w = .ok r w) :
    (∀ k n k' n', ¬ (A = .int k n ∧ B = .int k' n')) ∧ (∀ k n k' n', ¬ (A = .float k n ∧ B = .float k' n')) ∧ (∀ k n m k' n' m', ¬ (A = .complex k n m ∧ B = .complex k' n' m')) ∧ (∀ s s', ¬ (A = .string s ∧ B = .string s')) := by
  have go : ∀ (A B : Value), (∀ m, (Op.equalIn (m + 1) t A B).run P w = .ok r w → False) → (Op.equal t A B).run P w = .ok r w → False := fun A B h he => h 9999 he
  refine ⟨?_, ?_, ?_, ?_⟩
  all_goals
    intros
    rintro ⟨rfl, rfl⟩
    refine go _ _ (fun m hm => ?_) he
    rw [Op.equalIn, Sem.run_bind, run_underlying hu, Result.andThen_ok] at hm
    cases d <;> first | exact absurd rfl (h1 _) | exact absurd rfl (h2 _) | exact absurd rfl (h3 _) | exact absurd rfl h4 | exact stuckNe hm
theorem run_binop_eq {P : Program} {w : World} {t : TypeId} {d : TypeDesc} {A B : Value} {r : Bool} (hu : P.underlying t = some d)
    (h1 : ∀ q, d ≠ .int q) (h2 : ∀ q, d ≠ .float q) (h3 : ∀ q, d ≠ .complex q) (h4 : d ≠ .string) (he : (Op.equal t A B).run P w = .ok r w) :
    (binOp .eql t A B).run P w = .ok (.bool r) w ∧ (binOp .neq t A B).run P w = .ok (.bool (!r)) w := by
  obtain ⟨g1, g2, g3, g4⟩ := equal_fits hu h1 h2 h3 h4 he
  have e1 : binOp .eql t A B = (do pure (.bool (← Op.equal t A B))) := by
    unfold binOp
    split <;> first | rfl | exact absurd ⟨rfl, rfl⟩ (g1 _ _ _ _) | exact absurd ⟨rfl, rfl⟩ (g2 _ _ _ _) | exact absurd ⟨rfl, rfl⟩ (g3 _ _ _ _ _ _) | exact absurd ⟨rfl, rfl⟩ (g4 _ _) | contradiction | exact (‹BinOp.eql = BinOp.eql → False› rfl).elim
  have e2 : binOp .neq t A B = (do pure (.bool (!(← Op.equal t A B)))) := by
    unfold binOp
    split <;> first | rfl | exact absurd ⟨rfl, rfl⟩ (g1 _ _ _ _) | exact absurd ⟨rfl, rfl⟩ (g2 _ _ _ _) | exact absurd ⟨rfl, rfl⟩ (g3 _ _ _ _ _ _) | exact absurd ⟨rfl, rfl⟩ (g4 _ _) | contradiction | exact (‹BinOp.neq = BinOp.neq → False› rfl).elim
  rw [e1, e2]
  simp [he]

section
variable {P : Program} {tb : T TypeInfo} {ng N : Nat} {E : Env} {t : T GV} {a : Act}

theorem orec_some {α β : Type} {o : Option α} {f : α → Option β} {r : β} (h : (Option.rec none f o : Option β) = some r) : ∃ x, o = some x ∧ f x = some r := by
  cases o with
  | none => cases h
  | some x => exact ⟨x, rfl, h⟩
theorem natOf_some {v : GV} {n : Nat} (h : natOf v = some n) : ∃ k, v = .int k (n : Int) := by
  obtain ⟨k, m, rfl, h⟩ := onInt_some h
  cases m with
  | ofNat m => cases h; exact ⟨k, rfl⟩
  | negSucc m => cases h
theorem natOf_val {v : GV} {n : Nat} {x : Value} (h : natOf v = some n) (hr : R E v x) : ∃ k, x = .int k (n : Int) := by
  obtain ⟨k, rfl⟩ := natOf_some h
  exact ⟨k, R.int hr⟩

/-- What a pure operation must show. -/
def POk (P : Program) (E : Env) (o : Oper) (a : Act) (v : GV) : Prop := ∀ w, ∃ v', (execOp a.eval o).run P w = .ok (.value v') w ∧ R E v v'

theorem kindI_some {x : GV} {f : IntKind → Option GV} {v : GV} (h : kindI x f = some v) {X : Value} (hx : R E x X) : ∃ k n, X = .int k n ∧ f k = some v := by
  rcases onInt_or h with ⟨k, n, rfl, h1⟩ | h1
  · exact ⟨k, n, R.int hx, h1⟩
  · obtain ⟨u, rfl, h2⟩ := onUn_some h1
    clear h h1
    cases u with
    | i k =>
      simp only [R] at hx
      obtain ⟨n, rfl⟩ := hx
      exact ⟨k, n, rfl, h2⟩
    | _ => cases h2
theorem uop_ok {op : BinOp} {k : IntKind} {v : GV} (h : uop op k = some v) (a b : Int) : ∃ v', fInt op k k a b = some v' ∧ ∀ (E : Env) (x : Value), R E v' x → R E v x := by
  have hk : kq k k = true := kq_self k
  cases op <;> simp only [uop] at h <;> first | (cases h; done) | skip
  all_goals
    cases h
    refine ⟨_, by simp only [fInt, hk, okIf]; rfl, fun E x hx => ?_⟩
    simp only [R] at hx ⊢
    exact ⟨_, hx⟩
variable (hT : Tb P tb) (ht : TR E N t a.tmps) (hg : GL E ng) {o : Oper} {v : GV}
include hT ht hg

omit hT in
theorem p_ubin {op : BinOp} {xt yt : TypeId} {x y : Operand} {ox oy : Od} (ho : o.op = .binOp op xt x y yt) (hx : cod ng x = some ox) (hy : cod ng y = some oy) (h : uBin op (ev t ox) (ev t oy) = some v) : POk P E o a v := by
  intro w
  obtain ⟨k, n, r1, h⟩ := kindI_some h (ev_ok ht hg hx)
  obtain ⟨k', n', r2, h⟩ := kindI_some h (ev_ok ht hg hy)
  obtain ⟨hk, h3⟩ := okIf_some h
  have hk := kq_eq hk; subst hk
  obtain ⟨v1, h1, h2⟩ := uop_ok h3 n n'
  obtain ⟨v', hr, hv⟩ := fInt_ok (P := P) (w := w) xt h1
  refine ⟨v', ?_, h2 E _ (hv E)⟩
  simp only [execOp, ho, Sem.run_bind, r1, r2, eqGuard_int, Result.andThen_ok, hr, Sem.run_pure]

theorem p_bin {op : BinOp} {xt yt : TypeId} {x y : Operand} {p : Pf} (ho : o.op = .binOp op xt x y yt) (hc : cBin P tb ng op xt x y = some p) (h : pf t p = some v) : POk P E o a v := by
  intro w
  unfold cBin at hc
  split at hc
  · rename_i ox oy k hx hy hu
    cases hc
    rcases onInt_or (show pfBin t op ox oy = some v from h) with ⟨k1, n1, e1, h⟩ | h
    rotate_left
    · exact p_ubin ht hg ho hx hy h w
    rcases onInt_or h with ⟨k2, n2, e2, h⟩ | h
    rotate_left
    · exact p_ubin ht hg ho hx hy h w
    have r1 := ev_ok ht hg hx
    have r2 := ev_ok ht hg hy
    rw [e1] at r1; rw [e2] at r2
    have r1 := R.int r1; have r2 := R.int r2
    obtain ⟨v', hr, hv⟩ := fInt_ok (P := P) (w := w) xt h
    refine ⟨v', ?_, hv E⟩
    simp only [execOp, ho, Sem.run_bind, r1, r2, eqGuard_int, Result.andThen_ok, hr, Sem.run_pure]
  · rename_i ox oy hx hy hu
    cases hc
    obtain ⟨s1, e1, h⟩ := onStr_some (show pfSbin t op ox oy = some v from h)
    obtain ⟨s2, e2, h⟩ := onStr_some h
    have r1 := ev_ok ht hg hx
    have r2 := ev_ok ht hg hy
    rw [e1] at r1; rw [e2] at r2
    obtain ⟨r1, q1⟩ := R.str r1; obtain ⟨r2, q2⟩ := R.str r2
    obtain ⟨v', hr, hv⟩ := fStr_ok (P := P) (w := w) xt q1 q2 h
    refine ⟨v', ?_, hv E⟩
    simp only [execOp, ho, Sem.run_bind, r1, r2, eqGuard_str, Result.andThen_ok, hr, Sem.run_pure]
  · rename_i ox oy d hni hns hx hy hu
    split at hc
    · rename_i k hk
      split at hc
      · cases hc
      · rename_i hcond
        have r1 := ev_ok ht hg hx
        have r2 := ev_ok ht hg hy
        obtain ⟨d', hd', n1, n2, n3, n4, n5, n6, n7⟩ := ekOf_und hk
        rw [hu] at hd'; cases hd'
        have hu' := und_ok hT hu
        have key : ∀ (r : Bool), fEq k (ev t ox) (ev t oy) = some r →
            (eqGuard op xt x y (a.eval x) (a.eval y)).run P w = .ok () w ∧ (binOp .eql xt (a.eval x) (a.eval y)).run P w = .ok (.bool r) w ∧ (binOp .neq xt (a.eval x) (a.eval y)).run P w = .ok (.bool (!r)) w := by
          intro r hr
          have he := fEq_ok (w := w) hT hk hr r1 r2
          refine ⟨eqGuard_ok ?_ ?_, run_binop_eq hu' n1 n2 n3 n4 he⟩
          · by_cases hi : ekIface k = true
            · right
              have hcc : (isConstO x || isConstO y) = true := by
                cases hq : (isConstO x || isConstO y) with
                | true => rfl
                | false => exact absurd ⟨hi, hq⟩ hcond
              simp only [Bool.or_eq_true] at hcc
              rcases hcc with hcc | hcc
              · left; cases x <;> simp [isConstO] at hcc; exact ⟨_, rfl⟩
              · right; cases y <;> simp [isConstO] at hcc; exact ⟨_, rfl⟩
            · left
              rintro ⟨e1, e2⟩
              rw [e1, e2] at he
              have n5' := n5 (by simpa using hi)
              have h : ∀ m, ((Op.equalIn (m + 1) xt .nilIface .nilIface).run P w = .ok r w) → False := fun m hm => by
                rw [Op.equalIn, Sem.run_bind, run_underlying hu', Result.andThen_ok] at hm
                cases d <;> first | exact absurd rfl (n1 _) | exact absurd rfl (n2 _) | exact absurd rfl (n3 _) | exact absurd rfl n4 | exact absurd rfl (n5' _) | exact stuckNe hm
              exact h 9999 he
          · rintro ⟨p', q', e1, e2⟩
            rw [e1, e2] at he
            have hst : ∃ fs, d = .struct fs := by
              have h : ∀ m, ((Op.equalIn (m + 1) xt (.agg p') (.agg q')).run P w = .ok r w) → ∃ fs, d = .struct fs := fun m hm => by
                cases d
                case struct fs => exact ⟨fs, rfl⟩
                case array n e => exact absurd rfl (n7 n e)
                all_goals
                  rw [Op.equalIn, Sem.run_bind, run_underlying hu', Result.andThen_ok] at hm
                  exact absurd hm stuckNe
              exact h 9999 he
            exact n6 hst
        split at hc
        · cases hc
          obtain ⟨r, hr, h⟩ := orec_some (show pfEqx t false k ox oy = some v from h)
          cases h
          obtain ⟨q1, q2, q3⟩ := key r hr
          exact ⟨.bool r, by simp only [execOp, ho, Sem.run_bind, q1, q2, Result.andThen_ok, Sem.run_pure], R.mkBool _ _⟩
        · cases hc
          obtain ⟨r, hr, h⟩ := orec_some (show pfEqx t true k ox oy = some v from h)
          cases h
          obtain ⟨q1, q2, q3⟩ := key r hr
          exact ⟨.bool (!r), by simp only [execOp, ho, Sem.run_bind, q1, q3, Result.andThen_ok, Sem.run_pure], by show R E (.bool (bnot r)) _; rw [bnot_eq]; exact R.mkBool _ _⟩
        · cases hc
    · cases hc
  · cases hc

omit hT ht hg in
theorem R.agg {E : Env} {l : List GV} {v : Value} (h : R E (.agg l) v) : ∃ x, v = .agg x ∧ RL E l x.toList := by simpa only [R] using h
omit hT ht hg in
theorem R.tupv {E : Env} {l : List GV} {v : Value} (h : R E (.tup l) v) : ∃ x, v = .tuple x ∧ RL E l x.toList := by simpa only [R] using h
omit hT ht hg in
theorem run_part' {tb : T TypeInfo} (hT : Tb P tb) {ty : TypeId} {q : Option Nat} (hq : cPart tb ty = some q) {l : List GV} {cs : Array Value} (hl : RL E l cs.toList) {off : Nat} {v : GV} (h : fPart l off q = some v) (w : World) :
    ∃ x, (part ty cs off).run P w = .ok x w ∧ R E v x := by
  unfold cPart at hq
  split at hq
  · rename_i d n hd hn
    simp only [Option.some.injEq] at hq
    by_cases ha : aggD d = true
    · rw [if_pos ha] at hq; subst hq
      obtain ⟨hb, h⟩ := okIf_some (show okIf _ _ = some v from h); cases h
      refine ⟨.agg (cs.extract off (off + n)), ?_, ?_⟩
      · unfold part
        rw [Sem.run_bind, run_isAgg hT hd]
        simp [ha, run_sizeOf' hT hn]
      · simp only [R]
        refine ⟨_, rfl, ?_⟩
        rw [Array.toList_extract, List.extract_eq_take_drop]
        have := (hl.drop off).take n
        rwa [show off + n - off = n by omega]
    · rw [if_neg ha] at hq; subst hq
      have h : l[off]? = some v := h
      obtain ⟨x, hx, hr⟩ := hl.get h
      exact ⟨x, run_part_cell hT hd (by simpa using ha) (by rw [← Array.getElem?_toList]; exact hx), hr⟩
  · cases hq
omit hT ht hg in
theorem bs_extract (s : List Nat) (l h : Nat) (hh : h ≤ s.length) : (bs s).extract l h = bs ((s.drop l).take (h - l)) := by
  apply ByteArray.ext
  simp only [bs, ByteArray.data_extract]
  apply Array.toList_inj.1
  rw [Array.toList_extract, List.extract_eq_take_drop]
  simp
omit hT in
theorem bnd_ok {x : Option Operand} {ox : Option Od} (hx : codO ng x = some ox) {d n : Nat} (h : bnd t ox d = some n) :
    (x = none ∧ ox = none ∧ n = d) ∨ ∃ k y, x = some y ∧ (∃ z, ox = some z) ∧ a.eval y = .int k (n : Int) := by
  cases x with
  | none => simp only [codO, Option.some.injEq] at hx; subst hx; cases h; exact .inl ⟨rfl, rfl, rfl⟩
  | some y =>
    obtain ⟨z, hz, rfl⟩ := Option.map_eq_some_iff.1 (show (cod ng y).map some = some ox from hx)
    obtain ⟨k, hk⟩ := natOf_val (show natOf (ev t z) = some n from h) (ev_ok ht hg hz)
    exact .inr ⟨k, y, rfl, ⟨z, rfl⟩, hk⟩
omit hT in
theorem bldEv_get : ∀ {ps : List (Nat × Operand)} {place : Nat → Option (Nat × Nat)} {qs : List (Nat × Nat × Od)}, cParts ng place ps = some qs →
    (bldEv t qs).length = (ps.map fun x => (x.1, a.eval x.2)).length ∧
    ∀ (i : Nat) (x : Nat × Nat × GV) (y : Nat × Value), (bldEv t qs)[i]? = some x → (ps.map fun x => (x.1, a.eval x.2))[i]? = some y → place y.1 = some (x.1, x.2.1) ∧ R E x.2.2 y.2
  | [], place, qs, h => by
    simp only [cParts, Option.some.injEq] at h; subst h
    exact ⟨rfl, fun i x y hx hy => by simp at hy⟩
  | (j, z) :: ps, place, qs, h => by
    simp only [cParts] at h
    split at h
    · rename_i p q o l h1 h2 h3
      cases h
      obtain ⟨g1, g2⟩ := bldEv_get h3
      refine ⟨by show (bldEv t l).length + 1 = _; simp [g1], fun i x y hx hy => ?_⟩
      cases i with
      | zero =>
        change some (p, q, ev t o) = some x at hx; cases hx
        simp only [List.map_cons, List.getElem?_cons_zero, Option.some.injEq] at hy; subst hy
        exact ⟨h1, ev_ok ht hg h2⟩
      | succ i => exact g2 i x y hx (by simpa using hy)
    · cases h
end
end Go.Gh
