/- Pure operations: the list of them, what they come to, how they are read off the program; the one law. -/
import Derived.Test.YtoekfbfgilbgoaaGreatDoorG7
namespace Go.Gh
set_option linter.unusedVariables false

inductive Pf where
  | mov (x : Od)
  | pick (c a b : Od)
  | nilck (x : Od)
  | bin (op : BinOp) (x y : Od)
  | sbin (op : BinOp) (x y : Od)
  | eqx (neg : Bool) (k : EK) (x y : Od)
  | neg (x : Od)
  | not (x : Od)
  | xorc (x : Od)
  | conv (k : IntKind) (x : Od)
  | cstr (x : Od)
  | mkif (t : Nat) (x : Od)
  | mkfn (f : Fn) (a b : List Od)
  | ext (i : Nat) (x : Od)
  | fld (off : Nat) (n : Option Nat) (x : Od)
  | ixs (x i : Od)
  | ixa (len sz : Nat) (agg : Bool) (x i : Od)
  | fa (off : Nat) (x : Od)
  | iaa (len sz : Nat) (x i : Od)
  | ias (sz : Nat) (x i : Od)
  | sls (x : Od) (lo hi : Option Od)
  | sll (sz : Nat) (x : Od) (lo hi mx : Option Od)
  | lens (x : Od)
  | lenl (x : Od)
  | cst (v : GV)
  | cap (x : Od)
  | mm (mx : Bool) (x y : Od)
  | bld (z : List GV) (ps : List (Nat × Nat × Od))
  | tas (t : Nat) (ok : Bool) (z : GV) (x : Od)

noncomputable def fNil (v : GV) : Option GV := GV.casesOn v none (fun _ => none) (fun _ _ => none) (fun _ => none) none (fun b o => some (.ptr b o)) none (fun _ _ _ _ _ _ => none) none (fun _ => none)
  (fun f a b => Fn.casesOn f (fun g => some (.fn (.func g) a b)) (fun _ => none) (fun _ _ => none) (fun _ _ _ _ => none) (fun _ => none)) (fun _ => none) none (fun t x => some (.iface t x)) none (fun _ => none) (fun _ => none) (fun _ => none)
noncomputable def natOf (v : GV) : Option Nat := onInt none v fun _ n => Int.casesOn n (fun m => some m) (fun _ => none)
noncomputable def bnd (t : T GV) (o : Option Od) (d : Nat) : Option Nat := Option.rec (some d) (fun x => natOf (ev t x)) o
noncomputable def fPart (l : List GV) (off : Nat) (n : Option Nat) : Option GV := Option.rec (l[off]?) (fun n => okIf (Nat.ble (Nat.add off n) l.length) (some (.agg ((l.drop off).take n)))) n
noncomputable def fSls (s : List Nat) (lo hi : Nat) : Option GV := okIf (band (Nat.ble lo hi) (Nat.ble hi s.length)) (some (.str ((s.drop lo).take (Nat.sub hi lo))))
noncomputable def fSll (sz b o len cap : Nat) (ex : Bool) (lo hi m : Nat) (three : Bool) : Option GV :=
  okIf (band (Nat.ble lo hi) (band (Nat.ble hi m) (Nat.ble m cap))) (some (.sl b (Nat.add o (Nat.mul lo sz)) (Nat.sub hi lo) (Nat.sub m lo) (Bool.rec ex true three) sz))
noncomputable def isS (o : Option Od) : Bool := Option.rec false (fun _ => true) o
noncomputable def bldEv (t : T GV) (ps : List (Nat × Nat × Od)) : List (Nat × Nat × GV) := List.rec [] (fun p _ ih => (p.1, p.2.1, ev t p.2.2) :: ih) ps

noncomputable def pfPick (t : T GV) (c a b : Od) : Option GV := onBool none (ev t c) fun x => some (Bool.rec (ev t b) (ev t a) x)
/-- of a number that is not known, or is: what kind it is of -/
noncomputable def kindI (v : GV) (f : IntKind → Option GV) : Option GV := onInt (onUn none v fun u => UK.casesOn u none f none none) v fun k _ => f k
/-- what is known of an operation on numbers of one kind -/
def uop (op : BinOp) (k : IntKind) : Option GV := match op with
  | .add | .sub | .mul | .and | .or | .xor | .andNot => some (.un (.i k))
  | .eql | .neq | .lss | .leq | .gtr | .geq => some (.un .b)
  | _ => none
noncomputable def uBin (op : BinOp) (x y : GV) : Option GV := kindI x fun k => kindI y fun k' => okIf (kq k k') (uop op k)
noncomputable def pfBin (t : T GV) (op : BinOp) (x y : Od) : Option GV := onInt (uBin op (ev t x) (ev t y)) (ev t x) fun k a => onInt (uBin op (ev t x) (ev t y)) (ev t y) fun k' b => fInt op k k' a b
noncomputable def pfSbin (t : T GV) (op : BinOp) (x y : Od) : Option GV := onStr none (ev t x) fun a => onStr none (ev t y) fun b => fStr op a b
noncomputable def pfEqx (t : T GV) (neg : Bool) (k : EK) (x y : Od) : Option GV := Option.rec none (fun r => some (.bool (Bool.rec r (bnot r) neg))) (fEq k (ev t x) (ev t y))
noncomputable def pfNeg (t : T GV) (x : Od) : Option GV := onInt none (ev t x) fun k n => some (.int k (wr k (Int.sub 0 n)))
noncomputable def pfNot (t : T GV) (x : Od) : Option GV := onBool (onUn none (ev t x) fun u => okIf (uq u .b) (some (.un .b))) (ev t x) fun b => some (.bool (bnot b))
noncomputable def pfXorc (t : T GV) (x : Od) : Option GV := onInt none (ev t x) fun k n => some (.int k (natBits Nat.xor .xor k (if k.signed then -1 else k.max) n))
noncomputable def pfConv (t : T GV) (k : IntKind) (x : Od) : Option GV := onInt none (ev t x) fun _ n => some (.int k (wr k n))
noncomputable def pfCstr (t : T GV) (x : Od) : Option GV := onStr none (ev t x) fun s => some (.str s)
noncomputable def pfExt (t : T GV) (i : Nat) (x : Od) : Option GV := onTup none (ev t x) fun l => l[i]?
noncomputable def pfFld (t : T GV) (off : Nat) (n : Option Nat) (x : Od) : Option GV := onAgg none (ev t x) fun l => fPart l off n
noncomputable def pfIxs (t : T GV) (x i : Od) : Option GV := onStr none (ev t x) fun s => Option.rec none (fun n => Option.rec none (fun c => some (.int .u8 (Int.ofNat c))) (s[n]?)) (natOf (ev t i))
noncomputable def pfIxa (t : T GV) (len sz : Nat) (agg : Bool) (x i : Od) : Option GV :=
  onAgg none (ev t x) fun l => Option.rec none (fun n => okIf (Nat.ble (Nat.succ n) len) (fPart l (Nat.mul n sz) (Bool.rec none (some sz) agg))) (natOf (ev t i))
noncomputable def pfFa (t : T GV) (off : Nat) (x : Od) : Option GV := onPtr none (ev t x) fun b o => some (.ptr b (Nat.add o off))
noncomputable def pfIaa (t : T GV) (len sz : Nat) (x i : Od) : Option GV := onPtr none (ev t x) fun b o => Option.rec none (fun n => okIf (Nat.ble (Nat.succ n) len) (some (.ptr b (Nat.add o (Nat.mul n sz))))) (natOf (ev t i))
noncomputable def pfIas (t : T GV) (sz : Nat) (x i : Od) : Option GV := onSl none (ev t x) none fun b o len _ _ _ => Option.rec none (fun n => okIf (Nat.ble (Nat.succ n) len) (some (.ptr b (Nat.add o (Nat.mul n sz))))) (natOf (ev t i))
noncomputable def pfSls (t : T GV) (x : Od) (lo hi : Option Od) : Option GV := onStr none (ev t x) fun s => Option.rec none (fun l => Option.rec none (fun h => fSls s l h) (bnd t hi s.length)) (bnd t lo 0)
noncomputable def pfSll (t : T GV) (sz : Nat) (x : Od) (lo hi mx : Option Od) : Option GV :=
  onSl none (ev t x)
    (Option.rec none (fun l => Option.rec none (fun h => Option.rec none (fun m => okIf (band (Nat.beq l 0) (band (Nat.beq h 0) (Nat.beq m 0))) (some .nils)) (bnd t mx 0)) (bnd t hi 0)) (bnd t lo 0))
    (fun b o len cap ex z => okIf (Nat.beq z sz) (Option.rec none (fun l => Option.rec none (fun h => Option.rec none (fun m => fSll sz b o len cap ex l h m (isS mx)) (bnd t mx cap)) (bnd t hi len)) (bnd t lo 0)))
noncomputable def pfLens (t : T GV) (x : Od) : Option GV := onStr (onUn none (ev t x) fun u => okIf (uq u .s) (some (.un (.i .i64)))) (ev t x) fun s => some (.int .i64 (Int.ofNat s.length))
noncomputable def pfLenl (t : T GV) (x : Od) : Option GV := onSl (onUn none (ev t x) fun u => okIf (uq u .l) (some (.un (.i .i64)))) (ev t x) (some (.int .i64 (Int.ofNat 0))) fun _ _ l _ _ _ => some (.int .i64 (Int.ofNat l))
noncomputable def pfCap (t : T GV) (x : Od) : Option GV := onSl none (ev t x) (some (.int .i64 (Int.ofNat 0))) fun _ _ _ c ex _ => okIf ex (some (.int .i64 (Int.ofNat c)))
noncomputable def pfMm (t : T GV) (mx : Bool) (x y : Od) : Option GV := onInt none (ev t x) fun k a => onInt none (ev t y) fun _ b => some (.int k (Bool.rec (Bool.rec a b (ilt b a)) (Bool.rec a b (ilt a b)) mx))
noncomputable def pfBld (t : T GV) (z : List GV) (ps : List (Nat × Nat × Od)) : Option GV := Option.rec none (fun l => some (.agg l)) (gfill (bldEv t ps) z)
noncomputable def pfTas (t : T GV) (ty : Nat) (ok : Bool) (z : GV) (x : Od) : Option GV :=
  onIf none (ev t x) (okIf ok (some (.tup [z, .bool false])))
    (fun u v => Bool.rec (okIf ok (some (.tup [z, .bool false]))) (some (Bool.rec v (.tup [v, .bool true]) ok)) (Nat.beq u ty))

noncomputable def pf (t : T GV) (p : Pf) : Option GV :=
  Pf.casesOn p (fun x => some (ev t x)) (fun c a b => pfPick t c a b) (fun x => fNil (ev t x)) (fun op x y => pfBin t op x y) (fun op x y => pfSbin t op x y) (fun n k x y => pfEqx t n k x y) (fun x => pfNeg t x) (fun x => pfNot t x)
    (fun x => pfXorc t x) (fun k x => pfConv t k x) (fun x => pfCstr t x) (fun ty x => some (.iface ty (ev t x))) (fun f a b => some (.fn f (evs t a) (evs t b))) (fun i x => pfExt t i x) (fun off n x => pfFld t off n x) (fun x i => pfIxs t x i)
    (fun len sz agg x i => pfIxa t len sz agg x i) (fun off x => pfFa t off x) (fun len sz x i => pfIaa t len sz x i) (fun sz x i => pfIas t sz x i) (fun x lo hi => pfSls t x lo hi) (fun sz x lo hi mx => pfSll t sz x lo hi mx) (fun x => pfLens t x) (fun x => pfLenl t x) (fun v => some v)
    (fun x => pfCap t x) (fun m x y => pfMm t m x y) (fun z ps => pfBld t z ps) (fun ty ok z x => pfTas t ty ok z x)

/-! ### read off the program -/
def isConstO : Operand → Bool
  | .const _ => true
  | _ => false
def codO (ng : Nat) : Option Operand → Option (Option Od)
  | none => some none
  | some x => (cod ng x).map some
noncomputable def cParts (ng : Nat) (place : Nat → Option (Nat × Nat)) : List (Nat × Operand) → Option (List (Nat × Nat × Od))
  | [] => some []
  | (i, x) :: r => match place i, cod ng x, cParts ng place r with
    | some (a, b), some o, some l => some ((a, b, o) :: l)
    | _, _, _ => none
noncomputable def places (tb : T TypeInfo) (fs : List Field) : Option (List (Nat × Nat)) :=
  match fs with
  | [] => some []
  | f :: fs => match szOf tb f.type, places tb fs with
    | some n, some l => some ((f.offset, n) :: l)
    | _, _ => none
noncomputable def zeroOf (tb : T TypeInfo) (t : TypeId) : Option GV := ((tb.get t).bind (·.zero)).bind cv
noncomputable def zeroCellsOf (tb : T TypeInfo) (t : TypeId) : Option (List GV) := ((tb.get t).bind (·.zero)).bind fun z => csl z.cells.toList

def ekIface : EK → Bool
  | .iface => true
  | _ => false
noncomputable def cBin (P : Program) (tb : T TypeInfo) (ng : Nat) (op : BinOp) (xt : TypeId) (x y : Operand) : Option Pf :=
  match cod ng x, cod ng y, und tb xt with
  | some a, some b, some (.int _) => some (.bin op a b)
  | some a, some b, some .string => some (.sbin op a b)
  | some a, some b, some d =>
    match ekOf P tb xt with
    | some k =>
      if ekIface k = true ∧ (isConstO x || isConstO y) = false then none else
        (match op with
        | .eql => some (.eqx false k a b)
        | .neq => some (.eqx true k a b)
        | _ => none)
    | none => none
  | _, _, _ => none
noncomputable def cField (tb : T TypeInfo) (s : TypeId) (f : Nat) : Option Field :=
  match und tb s with
  | some (.struct fs) => fs[f]?
  | _ => none
noncomputable def cPart (tb : T TypeInfo) (t : TypeId) : Option (Option Nat) :=
  match und tb t, szOf tb t with
  | some d, some n => some (if aggD d then some n else none)
  | _, _ => none

noncomputable def cPf (P : Program) (tb : T TypeInfo) (ng : Nat) (op : Op) : Option Pf :=
  match op with
  | .move x => (cod ng x).map .mov
  | .assign x => (cod ng x).map .mov
  | .pick c a b => match cod ng c, cod ng a, cod ng b with
    | some c, some a, some b => some (.pick c a b)
    | _, _, _ => none
  | .nilCheck x => (cod ng x).map .nilck
  | .binOp op xt x y _ => cBin P tb ng op xt x y
  | .unOp .neg _ x => (cod ng x).map .neg
  | .unOp .not _ x => (cod ng x).map .not
  | .unOp .xor _ x => (cod ng x).map .xorc
  | .convert s d x => match und tb s, und tb d, cod ng x with
    | some _, some (.int k), some o => some (.conv k o)
    | some _, some .string, some o => (match und tb s with
      | some .string => some (.cstr o)
      | _ => none)
    | _, _, _ => none
  | .makeInterface t x => match und tb t, cod ng x with
    | some (.interface _), _ => none
    | some _, some o => some (.mkif t o)
    | _, _ => none
  | .makeFunc f a b => match cods ng a.toList, cods ng b.toList with
    | some a, some b => some (.mkfn f a b)
    | _, _ => none
  | .extract x i => (cod ng x).map (.ext i)
  | .field t x f => match cField tb t f, cod ng x with
    | some fd, some o => (cPart tb fd.type).map fun n => .fld fd.offset n o
    | _, _ => none
  | .index t x i => match und tb t, cod ng x, cod ng i with
    | some .string, some a, some b => some (.ixs a b)
    | some (.array n e), some a, some b => (match cPart tb e, szOf tb e with
      | some q, some z => some (.ixa n z q.isSome a b)
      | _, _ => none)
    | _, _, _ => none
  | .fieldAddr t x f => match cField tb t f, cod ng x with
    | some fd, some o => (match szOf tb fd.type with
      | some (_ + 1) => some (.fa fd.offset o)
      | _ => none)
    | _, _ => none
  | .indexAddr t x i => match und tb t, cod ng x, cod ng i with
    | some (.array n e), some a, some b => (szOf tb e).map fun z => .iaa n z a b
    | some (.slice e), some a, some b => (szOf tb e).map fun z => .ias z a b
    | _, _, _ => none
  | .slice t x lo hi mx => match und tb t, cod ng x, codO ng lo, codO ng hi, codO ng mx with
    | some .string, some a, some l, some h, some none => some (.sls a l h)
    | some (.slice e), some a, some l, some h, some m =>
      if (m.isSome && h.isNone) then none else (szOf tb e).map fun z => .sll z a l h m
    | _, _, _, _, _ => none
  | .call { callee := .builtin .len, args, argTypes } => match argTypes[0]?, args.toList with
    | some t, [x] => (match und tb t, cod ng x with
      | some .string, some o => some (.lens o)
      | some (.slice _), some o => some (.lenl o)
      | some (.array n _), _ => some (.cst (.int .i64 n))
      | some (.pointer a), _ => (match und tb a with
        | some (.array n _) => some (.cst (.int .i64 n))
        | _ => none)
      | _, _ => none)
    | _, _ => none
  | .call { callee := .builtin .cap, args, argTypes } => match argTypes[0]?, args.toList with
    | some t, [x] => (match und tb t, cod ng x with
      | some (.slice _), some o => some (.cap o)
      | some (.array n _), _ => some (.cst (.int .i64 n))
      | _, _ => none)
    | _, _ => none
  | .call { callee := .builtin .max, args, .. } => match args.toList with
    | [x, y] => (match cod ng x, cod ng y with
      | some a, some b => some (.mm true a b)
      | _, _ => none)
    | _ => none
  | .call { callee := .builtin .min, args, .. } => match args.toList with
    | [x, y] => (match cod ng x, cod ng y with
      | some a, some b => some (.mm false a b)
      | _, _ => none)
    | _ => none
  | .build t parts => match und tb t, zeroCellsOf tb t with
    | some (.struct fs), some z => (match places tb fs.toList with
      | some pl => (cParts ng (pl[·]?) parts.toList).map (.bld z)
      | none => none)
    | some (.array _ e), some z => (match szOf tb e with
      | some n => (cParts ng (fun i => some (i * n, n)) parts.toList).map (.bld z)
      | none => none)
    | _, _ => none
  | .typeAssert x _ ty ok => match und tb ty, cod ng x, zeroOf tb ty with
    | some (.interface _), _, _ => none
    | some _, some o, some z => some (.tas ty ok z o)
    | _, _, _ => none
  | _ => none
end Go.Gh
