/- Operations on memory, calls and code: how they are read off the program. -/
import Derived.Test.YtoekfbfgilbgoaaGreatDoorG12
import Derived.OrdersIn
namespace Go.Gh
set_option linter.unusedVariables false

inductive EX where | clone | ixb
/-- What the reading of the program leans on. -/
structure Cx where
  tb : T TypeInfo
  ng : Nat
  ex : T EX
  nt : Nat

def sameZ (a b : GV) : Bool :=
  match a, b with
  | .int k n, .int k' n' => decide (k = k') && decide (n = n')
  | .bool x, .bool y => x == y
  | .nilp, .nilp => true
  | .nils, .nils => true
  | .nilm, .nilm => true
  | .nilf, .nilf => true
  | .nili, .nili => true
  | _, _ => false
theorem sameZ_eq {a b : GV} (h : sameZ a b = true) : a = b := by
  unfold sameZ at h
  split at h <;> first | rfl | (cases h; done) | skip
  · simp only [Bool.and_eq_true, decide_eq_true_eq] at h; rw [h.1, h.2]
  · rw [beq_iff_eq] at h; rw [h]
noncomputable def cAlloc (zs : List GV) : Mf :=
  match zs with
  | d :: r => if 4 < r.length ∧ r.all (sameZ d) = true then .allocr (r.length + 1) d else .alloc zs
  | [] => .alloc []
noncomputable def cAppend (X : Cx) (P : Program) (st xt : TypeId) (s x : Operand) : Option Mf :=
  match und X.tb st, und X.tb xt, cod X.ng s, cod X.ng x with
  | some (.slice e), some .string, some a, some b => (match szOf X.tb e, und X.tb e, (X.tb.get e).bind (·.zero) with
    | some 1, some (.int .u8), some (.int .u8 0) => if ((X.tb.get e).map (·.bytes)) = some 1 then some (.apps a b) else none
    | _, _, _ => none)
  | some (.slice e), some (.slice _), some a, some b => (match szOf X.tb e, (X.tb.get e).map (·.bytes), zeroCellsOf X.tb e with
    | some z, some by_, some zs => if by_ ≤ 1024 ∧ zs.length = z then some (.app z by_ a b) else none
    | _, _, _ => none)
  | _, _, _, _ => none

noncomputable def cMf (X : Cx) (P : Program) (op : Op) : Option Mf :=
  match op with
  | .alloc t => (zeroCellsOf X.tb t).map cAlloc
  | .box _ x => (cod X.ng x).map .box
  | .buildSlice t len parts => match und X.tb t with
    | some (.slice e) => (match szOf X.tb e, zeroCellsOf X.tb e with
      | some z, some zs => if len * z ≤ 4096 ∧ zs.length = z then (cParts X.ng (fun i => some (i * z, z)) parts.toList).map (.bsl z len (reps zs len)) else none
      | _, _ => none)
    | _ => none
  | .load t x => match und X.tb t, szOf X.tb t, cod X.ng x with
    | some d, some n, some o => some (if aggD d then .ldn n o else .ld1 o)
    | _, _, _ => none
  | .store t a x => match und X.tb t, szOf X.tb t, cod X.ng a, cod X.ng x with
    | some d, some n, some o, some v => if aggD d then some (.stn n o v) else if n = 1 then some (.st1 o v) else none
    | _, _, _, _ => none
  | .makeSlice t l c => match und X.tb t, cod X.ng l, cod X.ng c with
    | some (.slice e), some a, some b => (match szOf X.tb e, (X.tb.get e).map (·.bytes), zeroCellsOf X.tb e with
      | some z, some by_, some zs => if zs.length = z ∧ 0 < z then some (.mksl z by_ zs a b) else none
      | _, _, _ => none)
    | _, _, _ => none
  | .slice t x lo hi mx => match und X.tb t, cod X.ng x, codO X.ng lo, codO X.ng hi, codO X.ng mx with
    | some (.array n e), some a, some l, some h, some m => if (m.isSome && h.isNone) then none else (szOf X.tb e).map fun z => .slarr n z a l h m
    | _, _, _, _, _ => none
  | .makeMap t h => match und X.tb t, codO X.ng h with
    | some (.map _ _), some o => some (.mkmap o)
    | _, _ => none
  | .lookup t m k ok => match und X.tb t, cod X.ng m, cod X.ng k with
    | some (.map kt e), some a, some b => (match ktOf P X.tb kt, zeroOf X.tb e with
      | some q, some z => some (.look q ok z a b)
      | _, _ => none)
    | _, _, _ => none
  | .mapUpdate t m k v => match und X.tb t, cod X.ng m, cod X.ng k, cod X.ng v with
    | some (.map kt _), some a, some b, some c => (ktOf P X.tb kt).map fun q => .mupd q a b c
    | _, _, _, _ => none
  | .insert t m k v => match und X.tb t, cod X.ng m, cod X.ng k, cod X.ng v with
    | some (.map kt _), some a, some b, some c => (ktOf P X.tb kt).map fun q => .mupd q a b c
    | _, _, _, _ => none
  | .mapEntry t m k => match und X.tb t, cod X.ng m, cod X.ng k with
    | some (.map kt e), some a, some b => (match ktOf P X.tb kt, zeroOf X.tb e with
      | some q, some z => some (.ment q z a b)
      | _, _ => none)
    | _, _, _ => none
  | .entryStore _ m s v => match cod X.ng m, cod X.ng s, cod X.ng v with
    | some a, some b, some c => some (.est a b c)
    | _, _, _ => none
  | .range t x => match und X.tb t, cod X.ng x with
    | some (.map _ _), some o => some (.rngm o)
    | some .string, some o => some (.rngs o)
    | _, _ => none
  | .next x s => (cod X.ng x).map fun o => if s then .nxts o else .nxtm o
  | .entry x => (cod X.ng x).map .entry
  | .convert s d x => match und X.tb s, und X.tb d, cod X.ng x with
    | some .string, some (.slice e), some o => (match und X.tb e with
      | some (.int .u8) => some (.s2b o)
      | _ => none)
    | some (.slice e), some .string, some o => (match und X.tb e with
      | some (.int .u8) => some (.b2s o)
      | _ => none)
    | _, _, _ => none
  | .call { callee := .builtin .append, args, argTypes } => match args.toList, argTypes.toList with
    | [s, x], [st, xt] => cAppend X P st xt s x
    | _, _ => none
  | .call { callee := .builtin .copy, args, argTypes } => match args.toList, argTypes.toList with
    | [d, s], [dt, st] => (match und X.tb dt, und X.tb st, cod X.ng d, cod X.ng s with
      | some (.slice e), some .string, some a, some b => (match szOf X.tb e with
        | some 1 => some (.copys a b)
        | _ => none)
      | some (.slice e), some (.slice _), some a, some b => (szOf X.tb e).map fun z => .copy z a b
      | _, _, _, _ => none)
    | _, _ => none
  | .call { callee := .builtin .delete, args, argTypes } => match args.toList, argTypes.toList with
    | [m, k], mt :: _ => (match und X.tb mt, cod X.ng m, cod X.ng k with
      | some (.map kt _), some a, some b => (ktOf P X.tb kt).map fun q => .mdel q a b
      | _, _, _ => none)
    | _, _ => none
  | .call { callee := .builtin .clear, args, argTypes } => match args.toList, argTypes.toList with
    | [x], t :: _ => (match und X.tb t, cod X.ng x with
      | some (.map _ _), some o => some (.mclr o)
      | some (.slice e), some o => (match szOf X.tb e, zeroCellsOf X.tb e with
        | some z, some zs => if zs.length = z then some (.sclr zs o) else none
        | _, _ => none)
      | _, _ => none)
    | _, _ => none
  | .call { callee := .builtin .len, args, argTypes } => match args.toList, argTypes.toList with
    | [x], t :: _ => (match und X.tb t, cod X.ng x with
      | some (.map _ _), some o => some (.mlen o)
      | _, _ => none)
    | _, _ => none
  | .call { callee := .value (.func f), args, .. } => match X.ex.get f, args.toList with
    | some .clone, [x] => (cod X.ng x).map .mclone
    | some .ixb, [x, c] => (match cod X.ng x, cod X.ng c with
      | some a, some b => some (.ixb a b)
      | _, _ => none)
    | _, _ => none
  | _ => none

noncomputable def cOp1 (X : Cx) (P : Program) (op : Op) : GOp :=
  match cPf P X.tb X.ng op with
  | some p => .p p
  | none => match cMf X P op with
    | some m => .m m
    | none => match op with
      | .call { callee := .value (.func f), args, .. } => (match X.ex.get f, cods X.ng args.toList with
        | none, some l => .call f l
        | _, _ => .no)
      | .call { callee := .value x, args, .. } => (match cod X.ng x, cods X.ng args.toList with
        | some o, some l => .dyn o l
        | _, _ => .no)
      | .defer { callee := .value x, args, .. } => (match cod X.ng x, cods X.ng args.toList with
        | some o, some l => .dfr o l
        | _, _ => .no)
      | .call { callee := .builtin .recover, .. } => .rcv
      | .panic x => (match cod X.ng x with
        | some o => .pan o
        | none => .no)
      | _ => .no
noncomputable def cOp (X : Cx) (P : Program) (op : Op) : GOp :=
  match op with
  | .next x false => (match cod X.ng x with
    | some o => .nx o
    | none => .no)
  | _ => cOp1 X P op

noncomputable def cOper (X : Cx) (P : Program) (ops : Array Oper) (o : Oper) : GOper :=
  { dst := (match o.dst with
      | some d => if d < X.nt then some d else none
      | none => none), op := (match o.dst with
      | some d => if d < X.nt then cOp X P o.op else .no
      | none => cOp X P o.op),
    guard := match o.guard with
      | none => none
      | some (j, w) => some ((((ops[j]?).bind (·.dst)).getD X.nt), w) }

/-- Which operations must be ahead. -/
def depsOf (o : Oper) : List Nat := o.after.toList.filterMap fun e => if Region.binds .any e then some e.on else none
/-- With those ahead of them. -/
def ancs (ds : List (List Nat)) : List (List Nat) :=
  ds.foldl (fun acc d => acc ++ [(d.foldl (fun r x => r ++ (acc[x]?).getD []) d).eraseDups]) []
noncomputable def effOf (op : GOp) : Bool :=
  match op with
  | .p _ => false
  | .m (.ld1 _) => false
  | .m (.ldn _ _) => false
  | .m (.look _ _ _ _ _) => false
  | .m (.mlen _) => false
  | .m (.slarr _ _ _ _ _ _) => false
  | _ => true
noncomputable def readM (op : GOp) : Bool := match op with | .m m => !effOf (.m m) | _ => false
/-- may the state of memory c be the one in which operation j comes up? -/
def mayCut (effs : List Bool) (an : List (List Nat)) (j c : Nat) : Bool :=
  (c == 0 || (effs[c - 1]?).getD false) &&
  !((List.range c).any fun i => (effs[i]?).getD false && ((an[i]?).getD []).contains j) &&
  !(((an[j]?).getD []).any fun i => (effs[i]?).getD false && decide (c ≤ i))
/-- is it the one in which it comes up in the text's order? -/
def ownCut (effs : List Bool) (j c : Nat) : Bool := decide (c ≤ j) && (List.range j).all fun i => decide (i < c) || !((effs[i]?).getD false)
noncomputable def cDraw (X : Cx) (P : Program) (ops : Array Oper) : List GD :=
  let gs := ops.toList.map (cOper X P ops)
  let an := ancs (ops.toList.map depsOf)
  let effs := gs.map fun g => effOf g.op
  gs.zipIdx.map fun x =>
    { o := x.1, sl := ((ops[x.2]?).map (·.looksAt ops)).getD [], an := (an[x.2]?).getD [], eff := effOf x.1.op,
      cs := if readM x.1.op = true then (List.range (gs.length + 1)).filter (fun c => mayCut effs an x.2 c && !ownCut effs x.2 c) else [] }

def clash (x y : GD) : Bool :=
  (match x.o.dst with | some d => y.sl.contains d || (match y.o.dst with | some e => decide (d = e) | none => false) | none => false) ||
  (match y.o.dst with | some d => x.sl.contains d | none => false)
/-- what a drawn region must be for its run in the text's order to speak of every order -/
noncomputable def drawOk1 (ds : List (List Nat)) (gs : List GD) (y : GD) (j : Nat) : Bool :=
  (((ds[j]?).getD []).all fun d => decide (d < j)) &&
  (y.an.all fun x => ((ds[j]?).getD []).contains x || ((ds[j]?).getD []).any fun d => (((gs[d]?).map (·.an)).getD []).contains x) &&
  ((gs.take j).zipIdx.all fun x => y.an.contains x.2 || (!clash x.1 y && !(x.1.eff && y.eff))) &&
  (!readM y.o.op || (List.range (gs.length + 1)).all fun c => y.cs.contains c || !mayCut (gs.map (·.eff)) (gs.map (·.an)) j c || ownCut (gs.map (·.eff)) j c)
noncomputable def drawOk (ds : List (List Nat)) (gs : List GD) : Bool := gs.zipIdx.all fun x => drawOk1 ds gs x.1 x.2

noncomputable def cCode (X : Cx) (P : Program) : Code → GC
  | .skip => .skip
  | .region _ ops false => .reg (ops.toList.map (cOper X P ops))
  | .region _ ops true => if drawOk (ops.toList.map depsOf) (cDraw X P ops) = true then .dreg (cDraw X P ops) else .no
  | .seq a b => .seq (cCode X P a) (cCode X P b)
  | .cond c a b => match cod X.ng c with
    | some o => .cond o (cCode X P a) (cCode X P b)
    | none => .no
  | .block id b => .block id (cCode X P b)
  | .loop b => .loop (cCode X P b)
  | .rangeFunc f ps assign body => match cod X.ng f with
    | some o => if ps.toList.all (· < X.nt) then .rf o ps.toList (cCode X P assign) (cCode X P body) else .no
    | none => .no
  | .exit id => .exit id
  | .scope b => .scope (cCode X P b)
  | .label l => .label l
  | .goto l => .goto l
  | .ret => .ret
  | .refuse _ => .no
end Go.Gh
