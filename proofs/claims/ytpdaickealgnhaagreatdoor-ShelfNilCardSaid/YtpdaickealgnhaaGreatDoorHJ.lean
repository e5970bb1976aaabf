/- The run: code in the run's memory. -/
import Derived.Test.YtpdaickealgnhaaGreatDoorHI
import Derived.LoopNIn
import Derived.TacticsIn
import Derived.RangeFuncCalls
namespace Go.Gh
set_option linter.unusedVariables false

/-- what is done at the end: a mark is taken; a function is called -/
inductive Dq where
  | col (g : Nat)
  | fn (f : Nat) (args : List GV)
structure GS where
  t : T GV
  ds : List Dq
  h : T GO
  nx : Nat
inductive GR where
  | norm (s : GS)
  | exit (id : Nat) (s : GS)
  | goto (l : Nat) (s : GS)
  | ret (s : GS)
  | fail
  | alt (a b : GR)
inductive GRes where
  | tmp (n : Nat)
  | c1 (n : Nat)
  | cn (n k : Nat)
/-- A function as the run has it: its code; or what it is known to do; or that it does nothing, called at the end of one that does not panic. -/
inductive GFn where
  | code (body : GC) (res : List GRes) (nt : Nat)
  | sm (σ : List GV → T GO → Nat → Option MS)
  | quiet

section
variable {β : Type}
noncomputable def onLoop (d : β) (o : Option GO) (f : LoopState → Option GC → T GV → List Nat → GC → GC → β) : β :=
  Option.rec d (fun o => GO.casesOn o (fun _ _ _ _ _ => d) (fun _ _ => d) (fun _ _ => d) (fun _ _ _ _ => d) f d) o
noncomputable def onDefs (d : β) (o : Option GO) (k : β) : β :=
  Option.rec d (fun o => GO.casesOn o (fun _ _ _ _ _ => d) (fun _ _ => d) (fun _ _ => d) (fun _ _ _ _ => d) (fun _ _ _ _ _ _ => d) k) o
noncomputable def onFunc (d : β) (f : Fn) (k : Nat → β) : β := Fn.casesOn f k (fun _ => d) (fun _ _ => d) (fun _ _ _ _ => d) (fun _ => d)
end
noncomputable def isReady (s : LoopState) : Bool := LoopState.casesOn s true false false false
noncomputable def isBusy (s : LoopState) : Bool := LoopState.casesOn s false true false false
noncomputable def tput (t : T GV) (d : Option Nat) (v : GV) : T GV := Option.rec t (fun d => T.set t d v) d
noncomputable def tget (t : T GV) (n : Nat) : GV := Option.rec .bad (fun v => v) (t.get n)
noncomputable def setps (ps : List Nat) : List GV → T GV → T GV :=
  List.rec (motive := fun _ => List GV → T GV → T GV) (fun _ t => t) (fun p _ ih vs t => List.casesOn vs t (fun v vs => ih vs (T.set t p v))) ps
/-- is the operation wanted? -/
noncomputable def gwant (t : T GV) (g : Option (Nat × Bool)) : Option Bool :=
  Option.rec (some true) (fun p => onBool (onTup none (tget t p.1) (fun l => List.casesOn l (some false) (fun _ _ => none))) (tget t p.1) (fun b => some (Bool.rec (bnot p.2) p.2 b))) g

noncomputable def xres1 (t : T GV) (h : T GO) (r : GRes) : Option GV :=
  GRes.casesOn r (fun n => some (tget t n)) (fun n => Option.rec none (fun s => some s.v) (mLd1 h 0 (tget t n))) (fun n k => Option.rec none (fun s => some s.v) (mLdn h 0 k (tget t n)))
noncomputable def xress (t : T GV) (h : T GO) (l : List GRes) : Option (List GV) := List.rec (some []) (fun r _ ih => Option.rec none (fun v => Option.rec none (fun vs => some (v :: vs)) ih) (xres1 t h r)) l
noncomputable def xresv (vs : List GV) : GV := List.casesOn vs (.tup []) (fun v r => List.casesOn r v (fun _ _ => .tup vs))
noncomputable def gall (f : GV → GV → Bool) (l : List GV) : List GV → Bool :=
  List.rec (motive := fun _ => List GV → Bool) (fun m => List.casesOn m true (fun _ _ => false)) (fun x _ ih m => List.casesOn m false (fun y m => band (f x y) (ih m))) l
noncomputable def gsame0 (a b : GV) : Bool :=
  GV.casesOn a (GV.casesOn b true (fun _ => false) (fun _ _ => false) (fun _ => false) false (fun _ _ => false) false (fun _ _ _ _ _ _ => false) false (fun _ => false) (fun _ _ _ => false) (fun _ => false) false (fun _ _ => false) false (fun _ => false) (fun _ => false) (fun _ => false) (fun _ => false))
    (fun x => onBool false b fun y => Bool.rec (bnot y) y x) (fun k n => onInt false b fun k' n' => band (kq k k') (ieq n n')) (fun s => onStr false b fun s' => leq s s')
    (onP false b true (fun _ _ => false)) (fun p q => onP false b false (fun p' q' => band (Nat.beq p p') (Nat.beq q q')))
    (onSl false b true (fun _ _ _ _ _ _ => false)) (fun p o l c e z => onSl false b false fun p' o' l' c' e' z' => band (Nat.beq p p') (band (Nat.beq o o') (band (Nat.beq l l') (band (Nat.beq c c') (band (Bool.rec (bnot e') e' e) (Nat.beq z z'))))))
    (onMap false b true (fun _ => false)) (fun p => onMap false b false (fun p' => Nat.beq p p')) (fun _ _ _ => false) (fun _ => false) (onFN false b true false) (fun _ _ => false) (onIf false b true (fun _ _ => false)) (fun _ => false) (fun _ => false) (fun k => onUn false b fun k' => uq k k') (fun _ => false)
noncomputable def gsameN (f : GV → GV → Bool) (a b : GV) : Bool :=
  GV.casesOn a (gsame0 a b) (fun _ => gsame0 a b) (fun _ _ => gsame0 a b) (fun _ => gsame0 a b) (gsame0 a b) (fun _ _ => gsame0 a b) (gsame0 a b) (fun _ _ _ _ _ _ => gsame0 a b) (gsame0 a b) (fun _ => gsame0 a b) (fun g x c => onFn false b (fun g' x' c' => onFunc false g fun n => onFunc false g' fun n' => band (Nat.beq n n') (band (gall f x x') (gall f c c'))) (fun _ => false)) (fun _ => gsame0 a b) (gsame0 a b)
    (fun t x => onIf false b false (fun t' x' => band (Nat.beq t t') (f x x'))) (gsame0 a b) (fun l => onAgg false b fun l' => gall f l l') (fun l => onTup false b fun l' => gall f l l') (fun _ => gsame0 a b) (fun _ => gsame0 a b)
noncomputable def gsame : GV → GV → Bool := gsameN (gsameN gsame0)
noncomputable def osame {α : Type} (f : α → α → Bool) (a b : Option α) : Bool := Option.rec (Option.rec true (fun _ => false) b) (fun x => Option.rec false (fun y => f x y) b) a
noncomputable def tsame {α : Type} (f : α → α → Bool) (a : T α) : T α → Bool :=
  T.rec (motive := fun _ => T α → Bool) (fun b => T.casesOn b true (fun _ _ _ => false)) (fun _ v _ il ir b => T.casesOn b false (fun l' v' r' => band (osame f v v') (band (il l') (ir r')))) a
noncomputable def lsame {α : Type} (f : α → α → Bool) (l : List α) : List α → Bool :=
  List.rec (motive := fun _ => List α → Bool) (fun m => List.casesOn m true (fun _ _ => false)) (fun x _ ih m => List.casesOn m false (fun y m => band (f x y) (ih m))) l
noncomputable def bsame (a b : Bool) : Bool := Bool.rec (bnot b) b a
/-- the same block, seen to be so; a loop's record is not looked at -/
noncomputable def gosame (a b : GO) : Bool :=
  GO.casesOn a (fun t lo n d ro => GO.casesOn b (fun t' lo' n' d' ro' => band (Nat.beq lo lo') (band (Nat.beq n n') (band (gsame d d') (band (bsame ro ro') (tsame gsame t t'))))) (fun _ _ => false) (fun _ _ => false) (fun _ _ _ _ => false) (fun _ _ _ _ _ _ => false) false)
    (fun es cl => GO.casesOn b (fun _ _ _ _ _ => false) (fun es' cl' => band (Nat.beq cl cl') (lsame (fun x y => band (gsame x.1 y.1) (band (gsame x.2.1 y.2.1) (Nat.beq x.2.2 y.2.2))) es es')) (fun _ _ => false) (fun _ _ _ _ => false) (fun _ _ _ _ _ _ => false) false)
    (fun _ _ => false) (fun _ _ _ _ => false) (fun _ _ _ _ _ _ => false) (GO.casesOn b (fun _ _ _ _ _ => false) (fun _ _ => false) (fun _ _ => false) (fun _ _ _ _ => false) (fun _ _ _ _ _ _ => false) true)
noncomputable def omeet (a b : Option GO) : Option GO := Option.rec none (fun x => Option.rec none (fun y => Bool.rec none (some x) (gosame x y)) b) a
/-- what two memories have in common -/
noncomputable def meet (a : T GO) : T GO → T GO :=
  T.rec (motive := fun _ => T GO → T GO) (fun _ => .nil) (fun _ v _ il ir b => T.casesOn b .nil (fun l' v' r' => .node (il l') (omeet v v') (ir r'))) a
noncomputable def kindB (v : GV) : Bool := onBool (onUn false v fun u => uq u .b) v fun _ => true
/-- what two values have in common: the value, or that they are bools -/
noncomputable def vjoin (v v' : GV) : Option GV := Bool.rec (okIf (band (kindB v) (kindB v')) (some (.un .b))) (some v) (gsame v v')
noncomputable def xjoin (x y : MS) : Option MS := MS.casesOn x fun v h nx => MS.casesOn y fun v' h' nx' => Option.rec none (fun u => some ⟨u, meet h h', Bool.rec nx nx' (Nat.ble nx nx')⟩) (vjoin v v')
/-- a function called at the end of another -/
noncomputable def xfinD (r : GR) : Option MS :=
  GR.casesOn r (fun s => GS.casesOn s fun _ ds h nx => List.casesOn ds (some ⟨.tup [], h, nx⟩) (fun _ _ => none)) (fun _ _ => none) (fun _ _ => none) (fun s => GS.casesOn s fun _ ds h nx => List.casesOn ds (some ⟨.tup [], h, nx⟩) (fun _ _ => none)) none (fun _ _ => none)
noncomputable def xcallD (self : Option Nat → GC → GS → GR) (fs : T GFn) (f : Nat) (args : List GV) (h : T GO) (nx : Nat) : Option MS :=
  Option.rec none (fun fn => GFn.casesOn fn (fun body res nt => List.casesOn res (okIf (Nat.ble args.length nt) (xfinD (self none body ⟨T.lay args 0 .nil, [], h, nx⟩))) (fun _ _ => none)) (fun _ => none) (some ⟨.tup [], h, nx⟩)) (fs.get f)
noncomputable def xleave (self : Option Nat → GC → GS → GR) (fs : T GFn) (ds : List Dq) : T GO → Nat → Option MS :=
  List.rec (motive := fun _ => T GO → Nat → Option MS) (fun h nx => some ⟨.tup [], h, nx⟩)
    (fun d _ ih h nx => Dq.casesOn d (fun g => onDefs none (h.get g) (ih (T.del h g) nx)) (fun f args => Option.rec none (fun s => MS.casesOn s fun _ h nx => ih h nx) (xcallD self fs f args h nx))) ds
noncomputable def xout (self : Option Nat → GC → GS → GR) (fs : T GFn) (res : List GRes) (s : GS) : Option MS :=
  GS.casesOn s fun t ds h nx => Option.rec none (fun s' => MS.casesOn s' fun _ h' nx' => Option.rec none (fun vs => some ⟨xresv vs, h', nx'⟩) (xress t h' res)) (xleave self fs ds h nx)
noncomputable def xfin (self : Option Nat → GC → GS → GR) (fs : T GFn) (res : List GRes) (r : GR) : Option MS :=
  GR.rec (fun s => xout self fs res s) (fun _ _ => none) (fun _ _ => none) (fun s => xout self fs res s) none (fun _ _ a b => Option.rec none (fun x => Option.rec none (fun y => xjoin x y) b) a) r
noncomputable def xcall (self : Option Nat → GC → GS → GR) (fs : T GFn) (f : Nat) (args : List GV) (h : T GO) (nx : Nat) : Option MS :=
  Option.rec none (fun fn => GFn.casesOn fn (fun body res nt => okIf (Nat.ble args.length nt) (xfin self fs res (self none body ⟨T.lay args 0 .nil, [], h, nx⟩))) (fun σ => σ args h nx) none) (fs.get f)
/-- the round's end -/
noncomputable def xend (l : Nat) (jump : Option GC) (s : GS) : Option MS :=
  GS.casesOn s fun _ _ h nx => onLoop none (h.get l) fun _ _ t ps as bd =>
    some ⟨.bool (Option.rec true (fun _ => false) jump), h.set l (.loop (Option.rec .ready (fun _ => .done) jump) jump t ps as bd), nx⟩
noncomputable def xround (self : Option Nat → GC → GS → GR) (l : Nat) (args : List GV) (h : T GO) (nx : Nat) : Option MS :=
  onLoop none (h.get l) fun st _ t ps as bd => okIf (band (isReady st) (Nat.beq args.length ps.length))
    (GR.casesOn (self (some l) as ⟨setps ps args t, [], h, nx⟩)
      (fun s => GS.casesOn s fun t1 ds1 h1 nx1 => onLoop none (h1.get l) fun st1 pe1 t' ps' as' bd' => okIf (isReady st1)
        (GR.casesOn (self (some l) bd ⟨t1, ds1, h1.set l (.loop .busy pe1 t' ps' as' bd'), nx1⟩)
          (fun s => xend l none s) (fun id s => xend l (some (.exit id)) s) (fun g s => xend l (some (.goto g)) s) (fun s => xend l (some .ret) s) none (fun _ _ => none)))
      (fun _ _ => none) (fun _ _ => none) (fun _ => none) none (fun _ _ => none))
noncomputable def xop (self : Option Nat → GC → GS → GR) (fs : T GFn) (t : T GV) (h : T GO) (nx : Nat) (op : GOp) : Option MS :=
  GOp.casesOn op (fun p => Option.rec none (fun v => some ⟨v, h, nx⟩) (pf t p)) (fun m => mf t h nx m) (fun f args => xcall self fs f (evs t args) h nx)
    (fun fo args => onFn none (ev t fo) (fun f a c => onFunc none f fun f => xcall self fs f (a ++ (evs t args ++ c)) h nx) (fun l => xround self l (evs t args) h nx))
    (fun x => mNxtm h nx (ev t x)) (fun _ _ => none) none (fun _ => none) none
/-- the steps that a walk over a map may take next -/
noncomputable def mNxtAll (h : T GO) (nx : Nat) (x : GV) : List MS :=
  onPtr [] x fun i o => Bool.rec [] (onMiter [] (h.get i) fun m since seen last => Option.rec [] (fun r => onMapO [] (h.get r) fun es cl =>
    Bool.rec [] ((leftOf seen es).map fun e => ⟨.tup [.bool true, e.1, e.2.1], h.set i (.miter (some r) since (seen ++ [e.2.2]) cl), nx⟩)
      (band (bnot (band (bnot seen.isEmpty) (band (bnot es.isEmpty) (noneBelow last es)))) ((leftOf seen es).all fun e => Nat.ble (Nat.succ e.2.2) since))) m) (Nat.beq o 0)
def nxtOf (op : GOp) : Option Od := match op with
  | .nx x => some x
  | _ => none
noncomputable def altAll (k : MS → GR) (l : List MS) : GR := List.rec .fail (fun s rest ih => List.casesOn rest (k s) (fun _ _ => .alt (k s) ih)) l
/-- a slot with a bool that is not known: both -/
noncomputable def splitU (t : T GV) (n : Nat) (k : T GV → GR) : GR := onUn .fail (tget t n) fun u => Bool.rec .fail (.alt (k (T.set t n (.bool true))) (k (T.set t n (.bool false)))) (uq u .b)
def pickOf (op : GOp) : Option Nat := match op with
  | .p (.pick (.t n) _ _) => some n
  | _ => none
noncomputable def stepO (self : Option Nat → GC → GS → GR) (fs : T GFn) (ih : T GV → T GO → Nat → GR) (o : GOper) (fb : T GV → T GO → Nat → GR) (t : T GV) (h : T GO) (nx : Nat) : GR :=
  GOper.casesOn o fun dst op g => Option.rec (Option.rec .fail (fun p => splitU t p.1 (fun t' => fb t' h nx)) g) (fun wanted => Bool.rec (ih (tput t dst (.tup [])) h nx)
      (Option.rec (Option.rec (Option.rec .fail (fun n => splitU t n (fun t' => fb t' h nx)) (pickOf op)) (fun x => altAll (fun s => MS.casesOn s fun v h nx => ih (tput t dst v) h nx) (mNxtAll h nx (ev t x))) (nxtOf op)) (fun s => MS.casesOn s fun v h nx => ih (tput t dst v) h nx) (xop self fs t h nx op)) wanted) (gwant t g)
noncomputable def xops (self : Option Nat → GC → GS → GR) (fs : T GFn) (fin : T GV → T GO → Nat → GR) (l : List GOper) : T GV → T GO → Nat → GR :=
  List.rec (motive := fun _ => T GV → T GO → Nat → GR) fin
    (fun o _ ih => stepO self fs ih o (stepO self fs ih o (fun _ _ _ => .fail))) l

noncomputable def finN (ds : List Dq) (t : T GV) (h : T GO) (nx : Nat) : GR := .norm ⟨t, ds, h, nx⟩
/-- a defer statement -/
noncomputable def finD (rd : Option Nat) (ds : List Dq) (fo : Od) (args : List Od) (t : T GV) (h : T GO) (nx : Nat) : GR :=
  Option.rec (onFn .fail (ev t fo) (fun f a c => onFunc .fail f fun f => .norm ⟨t, .fn f (a ++ (evs t args ++ c)) :: ds, h, nx⟩) (fun _ => .fail)) (fun _ => .fail) rd

/-! ### a region that draws its order -/
/-- some slots alone -/
noncomputable def rs (t : T GV) (l : List Nat) : T GV := List.rec .nil (fun n _ ih => Option.rec ih (fun v => T.set ih n v) (t.get n)) l
/-- what an operation that does not act yields in a state of memory -/
noncomputable def xread (t : T GV) (h : T GO) (nx : Nat) (o : GOper) : Option GV :=
  GOper.casesOn o fun _ op g => Option.rec none (fun wanted => Bool.rec (some (.tup [])) (GOp.casesOn op (fun p => pf t p) (fun m => Option.rec none (fun s => some s.v) (mf t h nx m)) (fun _ _ => none) (fun _ _ => none) (fun _ => none) (fun _ _ => none) none (fun _ => none) none) wanted) (gwant t g)
structure DRes where
  t : T GV
  h : T GO
  nx : Nat
  hs : List (T GO × Nat)
  rc : List (GD × T GV × GV)
noncomputable def dstep (self : Option Nat → GC → GS → GR) (fs : T GFn) (g : GD) (t : T GV) (h : T GO) (nx : Nat) : Option MS :=
  GOper.casesOn g.o fun _ op gd => Option.rec none (fun wanted => Bool.rec (some ⟨.tup [], h, nx⟩) (xop self fs t h nx op) wanted) (gwant t gd)
noncomputable def xd (self : Option Nat → GC → GS → GR) (fs : T GFn) (l : List GD) : T GV → T GO → Nat → Option DRes :=
  List.rec (motive := fun _ => T GV → T GO → Nat → Option DRes) (fun t h nx => some ⟨t, h, nx, [(h, nx)], []⟩)
    (fun g _ ih t h nx => Option.rec none (fun s => MS.casesOn s fun v h' nx' => Option.rec none (fun r => DRes.casesOn r fun tf hf nf hs rc =>
      some ⟨tf, hf, nf, (h, nx) :: hs, (g, rs t g.sl, v) :: rc⟩) (ih (tput t g.o.dst v) h' nx')) (dstep self fs g (rs t g.sl) h nx)) l
noncomputable def dchk1 (o : GOper) (t : T GV) (v : GV) (hs : List (T GO × Nat)) (cs : List Nat) : Bool :=
  List.rec true (fun c _ ih => band (Option.rec false (fun x => Option.rec false (fun v' => gsame v' v) (xread t x.1 x.2 o)) (hs[c]?)) ih) cs
noncomputable def dchk (hs : List (T GO × Nat)) (rc : List (GD × T GV × GV)) : Bool :=
  List.rec true (fun x _ ih => band (dchk1 x.1.o x.2.1 x.2.2 hs x.1.cs) ih) rc
noncomputable def xdreg (self : Option Nat → GC → GS → GR) (fs : T GFn) (ds : List Dq) (l : List GD) (t : T GV) (h : T GO) (nx : Nat) : GR :=
  Option.rec .fail (fun r => DRes.casesOn r fun tf hf nf hs rc => Bool.rec .fail (.norm ⟨tf, ds, hf, nf⟩) (dchk hs rc)) (xd self fs l t h nx)

/-! ### a region that draws its order, and in which some blocks are made in any order: these are made ahead -/
structure AR where
  h : T GO
  nx : Nat
  vs : List (Nat × Nat × GV)
noncomputable def xals (l : List GD) (al : List Nat) : T GO → Nat → Option AR :=
  List.rec (motive := fun _ => T GO → Nat → Option AR) (fun h nx => some ⟨h, nx, []⟩)
    (fun j _ ih h nx => Option.rec none (fun g => GOp.casesOn g.o.op (fun _ => none) (fun m => Option.rec none (fun s => MS.casesOn s fun v h' nx' => Option.rec none (fun r => AR.casesOn r fun h'' nx'' vs => some ⟨h'', nx'', (j, nx, v) :: vs⟩) (ih h' nx')) (mf .nil h nx m))
      (fun _ _ => none) (fun _ _ => none) (fun _ => none) (fun _ _ => none) none (fun _ => none) none) (l[j]?)) al
noncomputable def vsAt (vs : List (Nat × Nat × GV)) (j : Nat) : Option GV := List.rec none (fun x _ ih => Bool.rec ih (some x.2.2) (Nat.beq x.1 j)) vs
noncomputable def cst1 (vs : List (Nat × Nat × GV)) (g : GD) (j : Nat) : GD := Option.rec g (fun v => GD.casesOn g fun o sl an eff cs => GOper.casesOn o fun dst _ gd => ⟨⟨dst, .p (.cst v), gd⟩, sl, an, eff, cs⟩) (vsAt vs j)
noncomputable def cstAt (vs : List (Nat × Nat × GV)) (l : List GD) : Nat → List GD := List.rec (motive := fun _ => Nat → List GD) (fun _ => []) (fun g _ ih j => cst1 vs g j :: ih (Nat.succ j)) l
noncomputable def memL (j : Nat) (l : List Nat) : Bool := List.rec false (fun x _ ih => Bool.rec ih true (Nat.beq x j)) l
noncomputable def delB (vs : List (Nat × Nat × GV)) (an : List Nat) (h : T GO) : T GO := List.rec h (fun x _ ih => Bool.rec (T.del ih x.2.1) ih (memL x.1 an)) vs
noncomputable def dchkA1 (vs : List (Nat × Nat × GV)) (an : List Nat) (o : GOper) (t : T GV) (v : GV) (hs : List (T GO × Nat)) (cs : List Nat) : Bool :=
  List.rec true (fun c _ ih => band (Option.rec false (fun x => Option.rec false (fun v' => gsame v' v) (xread t (delB vs an x.1) x.2 o)) (hs[c]?)) ih) cs
noncomputable def dchkA (vs : List (Nat × Nat × GV)) (hs : List (T GO × Nat)) (rc : List (GD × T GV × GV)) : Bool :=
  List.rec true (fun x _ ih => band (dchkA1 vs x.1.an x.1.o x.2.1 x.2.2 hs x.1.cs) ih) rc
noncomputable def xdregA (self : Option Nat → GC → GS → GR) (fs : T GFn) (ds : List Dq) (al : List Nat) (l : List GD) (t : T GV) (h : T GO) (nx : Nat) : GR :=
  Option.rec .fail (fun p => AR.casesOn p fun h' nx' vs => Option.rec .fail (fun r => DRes.casesOn r fun tf hf nf hs rc => Bool.rec .fail (.norm ⟨tf, ds, hf, nf⟩) (dchkA vs hs rc)) (xd self fs (cstAt vs l 0) t h' nx')) (xals l al h nx)

/-! ### code -/
noncomputable def xthen (r : GR) (k : GS → GR) : GR := GR.rec k (fun id s => .exit id s) (fun l s => .goto l s) (fun s => .ret s) .fail (fun _ _ a b => .alt a b) r
noncomputable def xblock (id : Nat) (r : GR) : GR := GR.rec (fun s => .norm s) (fun m s => Bool.rec (.exit m s) (.norm s) (Nat.beq m id)) (fun l s => .goto l s) (fun s => .ret s) .fail (fun _ _ a b => .alt a b) r
/-- a scope through which the run goes without a jump -/
noncomputable def xscope (r : GR) : GR := GR.rec (fun s => .norm s) (fun m s => .exit m s) (fun _ _ => .fail) (fun s => .ret s) .fail (fun _ _ a b => .alt a b) r
noncomputable def xjump (self : Option Nat → GC → GS → GR) (rd : Option Nat) (lid : Nat) (t : T GV) (ds : List Dq) (s : MS) : GR :=
  MS.casesOn s fun _ h nx => onLoop .fail (h.get lid) fun st pe t' ps as bd => Bool.rec
    (Option.rec (.norm ⟨t, ds, h.set lid (.loop .exhausted pe t' ps as bd), nx⟩) (fun c => self rd c ⟨t, ds, h.set lid (.loop .exhausted pe t' ps as bd), nx⟩) pe) .fail (isBusy st)
noncomputable def xrf (self : Option Nat → GC → GS → GR) (fs : T GFn) (rd : Option Nat) (f : Od) (ps : List Nat) (as bd : GC) (t : T GV) (ds : List Dq) (h : T GO) (nx : Nat) : GR :=
  onFn .fail (ev t f) (fun f a c => onFunc .fail f fun f =>
    Option.rec
      (Option.rec .fail (fun s => xjump self rd (Nat.succ nx) t (.col nx :: ds) s) (xcall self fs f (a ++ (.yl (Nat.succ nx) :: c)) ((h.set nx .defs).set (Nat.succ nx) (.loop .ready none t ps as bd)) (Nat.succ (Nat.succ nx))))
      (fun l => onLoop .fail (h.get l) fun _ _ _ _ _ _ => Option.rec .fail (fun s => xjump self rd nx t ds s) (xcall self fs f (a ++ (.yl nx :: c)) (h.set nx (.loop .ready none t ps as bd)) (Nat.succ nx))) rd) (fun _ => .fail)
noncomputable def condU (t : T GV) (c : Od) (x y : T GV → GR) : GR :=
  Od.casesOn c (fun n => onUn .fail (tget t n) fun u => Bool.rec .fail (.alt (x (T.set t n (.bool true))) (y (T.set t n (.bool false)))) (uq u .b)) (fun _ => .fail) (fun _ => .fail) (fun _ => .fail)
noncomputable def xstep (fs : T GFn) (self : Option Nat → GC → GS → GR) (rd : Option Nat) (c : GC) (s : GS) : GR :=
  GS.casesOn s fun t ds h nx => GC.casesOn c (.norm ⟨t, ds, h, nx⟩) (fun ops => xops self fs (finN ds) ops t h nx) (fun ops fo args => xops self fs (finD rd ds fo args) ops t h nx) (fun l => xdreg self fs ds l t h nx) (fun al l => xdregA self fs ds al l t h nx)
    (fun a b => xthen (self rd a ⟨t, ds, h, nx⟩) (fun s => self rd b s))
    (fun c a b => onBool (condU t c (fun t' => self rd a ⟨t', ds, h, nx⟩) (fun t' => self rd b ⟨t', ds, h, nx⟩)) (ev t c) fun x => Bool.rec (self rd b ⟨t, ds, h, nx⟩) (self rd a ⟨t, ds, h, nx⟩) x)
    (fun id b => xblock id (self rd b ⟨t, ds, h, nx⟩))
    (fun b => xthen (self rd b ⟨t, ds, h, nx⟩) (fun s => self rd (.loop b) s))
    (fun f ps as bd => xrf self fs rd f ps as bd t ds h nx) (fun id => .exit id ⟨t, ds, h, nx⟩) (fun b => xscope (self rd b ⟨t, ds, h, nx⟩)) (fun _ => .norm ⟨t, ds, h, nx⟩) (fun l => .goto l ⟨t, ds, h, nx⟩) (.ret ⟨t, ds, h, nx⟩) .fail
noncomputable def run (fs : T GFn) (fuel : Nat) : Option Nat → GC → GS → GR := Nat.rec (motive := fun _ => Option Nat → GC → GS → GR) (fun _ _ _ => .fail) (fun _ ih => xstep fs ih) fuel
end Go.Gh

/- The run is sound: states, what is left behind, results. -/
namespace Go.Gh
set_option linter.unusedVariables false

def CRX (X : Cx) (P : Program) : Nat → Code → GC → Prop := fun N c g => g = cCode { X with nt := N } P c
def Wd (F : Fence) : Prop := F = Fence.wide ∨ ∃ l, F = Fence.wide.inRound l
theorem Wd.fn {F : Fence} (h : Wd F) (f : FuncId) : F.fn f := by rcases h with rfl | ⟨l, rfl⟩ <;> trivial
theorem Wd.depth {F : Fence} (h : Wd F) : F.depth = none := by rcases h with rfl | ⟨l, rfl⟩ <;> rfl
theorem Wd.calls {F : Fence} (h : Wd F) {n : Nat} {P : Program} {f : FuncId} {args : Array Value} {w : World} {Q : Ending → World → Prop} (hc : CallsIn Fence.wide n P f args w Q) : CallsIn F n P f args w Q := by
  rcases h with rfl | ⟨l, rfl⟩ <;> exact hc
theorem Wd.round {F : Fence} (h : Wd F) {n l : Nat} {P : Program} {f : FuncId} {tm : Array Value} {a b : Code} {w : World} {Q : Ending → World → Prop} (hc : RoundIn Fence.wide n P l f tm a b w Q) : RoundIn F n P l f tm a b w Q := by
  rcases h with rfl | ⟨l, rfl⟩ <;> exact hc

def DR (E : Env) : List Dq → List Deferred → Prop
  | [], l => l = []
  | .col g :: r, l => ∃ cb l', l = { target := .collected cb, args := #[] } :: l' ∧ E.m g = some (cb, 0) ∧ DR E r l'
  | .fn f as :: r, l => ∃ cap dargs l', l = { target := .fn (.func f) cap, args := dargs } :: l' ∧ RL E as (dargs.toList ++ cap.toList) ∧ DR E r l'
theorem DR.mono {E E' : Env} (h : E.le E') : ∀ {l : List Dq} {d : List Deferred}, DR E l d → DR E' l d
  | [], d, hd => hd
  | .col g :: r, d, hd => by
    obtain ⟨cb, l', h1, h2, h3⟩ := hd
    exact ⟨cb, l', h1, h.1 _ _ h2, DR.mono h h3⟩
  | .fn f as :: r, d, hd => by
    obtain ⟨cap, dargs, l', h1, h2, h3⟩ := hd
    exact ⟨cap, dargs, l', h1, RL.mono h _ _ h2, DR.mono h h3⟩
def RdOk (E : Env) (rd ro : Option Nat) : Prop := match rd, ro with | none, none => True | some l, some c => E.m l = some (c, 0) | _, _ => False
theorem RdOk.mono {E E' : Env} (h : E.le E') {rd ro : Option Nat} (hr : RdOk E rd ro) : RdOk E' rd ro := by
  cases rd <;> cases ro <;> first | exact hr | exact h.1 _ _ hr

noncomputable def cRess (tb : T TypeInfo) : List ResultVar → Option (List GRes)
  | [] => some []
  | r :: l => match (match r with
      | .tmp n => some (GRes.tmp n)
      | .cell a ty => (match und tb ty, szOf tb ty with
        | some d, some n => some (if aggD d = true then GRes.cn a n else GRes.c1 a)
        | _, _ => none)), cRess tb l with
    | some x, some y => some (x :: y)
    | _, _ => none

/-- what a call hands back -/
def CPost (X : Cx) (P : Program) (w0 : World) (E : Env) (s : MS) (e : Ending) (w : World) : Prop := ∃ v E', e = .returned v ∧ E.le E' ∧ R E' s.v v ∧ WR (CRX X P) E' w0 s.h s.nx w
/-- A function does what is known of it. -/
def SumOk (P : Program) (X : Cx) (w0 : World) (f : Nat) (σ : List GV → T GO → Nat → Option MS) : Prop :=
  ∀ (args : List GV) (vals : List Value) (h : T GO) (nx : Nat) (s : MS) (E : Env) (w : World), σ args h nx = some s → RL E args vals → GL E X.ng → WR (CRX X P) E w0 h nx w →
    ∀ n, CallsIn Fence.wide n P f vals.toArray w (CPost X P w0 E s)
/-- A function that does nothing, called at the end of one that does not panic. -/
def QuietOk (P : Program) (f : Nat) : Prop := ∀ (n : Nat) (args : Array Value) (w : World), CallsDIn Fence.wide n P f args .returning w fun e u w' => (∃ v, e = .returned v) ∧ u = .returning ∧ w' = w
def GFnOk (P : Program) (X : Cx) (w0 : World) (f : Nat) (fn : Func) (c : Code) : GFn → Prop
  | .code body res nt => body = cCode { X with nt := fn.ntmps } P c ∧ nt = fn.ntmps ∧ cRess X.tb fn.results.toList = some res
  | .sm σ => SumOk P X w0 f σ
  | .quiet => QuietOk P f
structure FOk (P : Program) (X : Cx) (w0 : World) (fs : T GFn) : Prop where
  tb : Tb P X.tb
  ex : ExOk P X
  mx : P.follows .mixedOrders = true
  fn : ∀ f g, fs.get f = some g → ∃ fn c, P.funcs[f]? = some fn ∧ (fn.name == "runtime.NumGoroutine") = false ∧ fn.body = some c ∧ GFnOk P X w0 f fn c g

section
variable {P : Program} {X : Cx} {fs : T GFn} {w0 : World}

structure Rel (X : Cx) (P : Program) (N : Nat) (w0 : World) (s : GS) (a : Act) (w : World) (E : Env) : Prop where
  t : TR E N s.t a.tmps
  d : DR E s.ds a.defers
  w : WR (CRX X P) E w0 s.h s.nx w
def Good : GR → Prop
  | .fail => False
  | .alt x y => Good x ∧ Good y
  | _ => True
def Post (X : Cx) (P : Program) (N : Nat) (w0 : World) (E0 : Env) : GR → Exit → Act → World → Prop
  | .alt x y, e, a, w => Post X P N w0 E0 x e a w ∨ Post X P N w0 E0 y e a w
  | .norm s, .normal, a, w => ∃ E, E0.le E ∧ Rel X P N w0 s a w E
  | .ret s, .ret, a, w => ∃ E, E0.le E ∧ Rel X P N w0 s a w E
  | .exit id s, .exit id', a, w => id = id' ∧ ∃ E, E0.le E ∧ Rel X P N w0 s a w E
  | .goto l s, .goto l', a, w => l = l' ∧ ∃ E, E0.le E ∧ Rel X P N w0 s a w E
  | _, _, _, _ => False
theorem Post.mono {N : Nat} {E0 E1 : Env} (h : E0.le E1) {r : GR} {e : Exit} {a : Act} {w : World} (hp : Post X P N w0 E1 r e a w) : Post X P N w0 E0 r e a w := by
  induction r with
  | alt x y hx hy =>
    rcases hp with hp | hp
    · exact .inl (hx hp)
    · exact .inr (hy hp)
  | norm s => cases e <;> first | exact hp.elim | (obtain ⟨E, h1, h2⟩ := hp; exact ⟨E, Env.le_trans h h1, h2⟩)
  | ret s => cases e <;> first | exact hp.elim | (obtain ⟨E, h1, h2⟩ := hp; exact ⟨E, Env.le_trans h h1, h2⟩)
  | exit id s => cases e <;> first | exact hp.elim | (obtain ⟨h0, E, h1, h2⟩ := hp; exact ⟨h0, E, Env.le_trans h h1, h2⟩)
  | goto l s => cases e <;> first | exact hp.elim | (obtain ⟨h0, E, h1, h2⟩ := hp; exact ⟨h0, E, Env.le_trans h h1, h2⟩)
  | fail => exact hp.elim

/-- A memory that says less. -/
theorem WR.sub {CR : Nat → Code → GC → Prop} {E : Env} {h h' : T GO} {nx nx' : Nat} {w : World} (hW : WR CR E w0 h nx w) (hs : ∀ g o, h'.get g = some o → h.get g = some o) (hn : nx ≤ nx') : WR CR E w0 h' nx' w where
  obj g o hg := hW.obj g o (hs g o hg)
  inj g g' o o' cb co co' h1 h2 h3 h4 := hW.inj g g' o o' cb co co' (hs _ _ h1) (hs _ _ h2) h3 h4
  lt g x hg := Nat.lt_of_lt_of_le (hW.lt g x hg) hn
  sz := hW.sz
  fr := hW.fr

/-- A block that no live number means becomes something else. -/
theorem WR.blind {CR : Nat → Code → GC → Prop} {E : Env} {h : T GO} {nx : Nat} {w : World} (hW : WR CR E w0 h nx w) {cb : Nat} {q q' : Obj} (hq : w.heap[cb]? = some q) (hnc : ∀ c el fz, q ≠ .cells c el fz) (hn : w0.heap.size ≤ cb)
    (hfree : ∀ g o c', h.get g = some o → E.m g ≠ some (cb, c')) : WR CR E w0 h nx (w.putObj cb q') where
  obj g o hg := OR.mono CR (Env.le_refl E) (hW.obj g o hg) (fun cb' co hm => World.putObj_heap_other (fun e => hfree g o co hg (e ▸ hm))) (fun _ _ _ _ _ _ _ h => h)
  inj := hW.inj
  lt := hW.lt
  sz b hb := by
    obtain ⟨c, el, fz, h1, h2⟩ := hW.sz b hb
    have : b ≠ cb := by intro e; subst e; rw [hq] at h1; cases h1; exact hnc _ _ _ rfl
    exact ⟨c, el, fz, by rw [World.putObj_heap_other this]; exact h1, h2⟩
  fr := ⟨hW.fr.tape, hW.fr.os, hW.fr.output, by rw [World.putObj_size]; exact hW.fr.size, fun b hb => by rw [World.putObj_heap_other (by omega)]; exact hW.fr.old b hb⟩

theorem onDefs_some {β : Type} {o : Option GO} {k : Option β} {r : β} (h : onDefs none o k = some r) : o = some .defs ∧ k = some r := by
  cases o with
  | none => cases h
  | some o => cases o <;> first | exact ⟨rfl, h⟩ | cases h
theorem tget_ok {E : Env} {N : Nat} {t : T GV} {tm : Array Value} (ht : TR E N t tm) (n : Nat) : R E (tget t n) (tm.getD n undef) := by
  unfold tget
  cases h : t.get n with
  | none => simp only [R]
  | some v =>
    obtain ⟨_, x, hx, hr⟩ := ht.2 n v h
    rw [Array.getD_eq_getD_getElem?, hx]; exact hr

theorem R.of_resv {E : Env} {vs : List GV} {xs : Array Value} (h : RL E vs xs.toList) : R E (xresv vs) (if h : xs.size = 1 then xs[0] else .tuple xs) := by
  have hl : xs.size = vs.length := by rw [← Array.length_toList]; exact h.length
  match vs, h, hl with
  | [], h, hl => rw [dif_neg (by simp [hl])]; simp only [xresv, R]; exact ⟨xs, rfl, h⟩
  | [v], h, hl =>
    simp only [RL] at h
    obtain ⟨x, r, e, hr, rfl⟩ := h
    have : xs = #[x] := by rw [← Array.toList_inj, e]
    subst this
    exact hr
  | v :: v' :: r, h, hl => rw [dif_neg (by simp [hl])]; simp only [xresv, R]; exact ⟨xs, rfl, h⟩

theorem run_mapM_list {α β : Type} {P : Program} {w : World} (f : α → Sem β) : ∀ (l : List α) (ys : List β), (∀ (i : Nat) (x : α) (y : β), l[i]? = some x → ys[i]? = some y → (f x).run P w = .ok y w) → ys.length = l.length → (l.mapM f : Sem (List β)).run P w = .ok ys w
  | [], ys, h, hl => by
    have : ys = [] := List.eq_nil_of_length_eq_zero (by simpa using hl)
    subst this; simp
  | x :: l, ys, h, hl => by
    cases ys with
    | nil => simp at hl
    | cons y ys =>
      have ih := run_mapM_list f l ys (fun i x' y' hx hy => h (i + 1) x' y' (by simpa using hx) (by simpa using hy)) (by simpa using hl)
      rw [List.mapM_cons, Sem.run_bind, h 0 x y (by simp) (by simp), Result.andThen_ok, Sem.run_bind, ih]
      simp

def resOf (tm : Array Value) : ResultVar → Sem Value
  | .tmp t => pure (tm.getD t undef)
  | .cell a t => do loadVar t (← asAddr (tm.getD a undef))
theorem xress_ok {CR : Nat → Code → GC → Prop} {tb : T TypeInfo} (hT : Tb P tb) {E : Env} {N : Nat} {t : T GV} {tm : Array Value} {h : T GO} {nx : Nat} {w : World} (ht : TR E N t tm) (hW : WR CR E w0 h nx w) :
    ∀ (rs : List ResultVar) (l : List GRes) (vs : List GV), cRess tb rs = some l → xress t h l = some vs →
    ∃ xs : List Value, xs.length = rs.length ∧ RL E vs xs ∧ ∀ (i : Nat) (r : ResultVar) (x : Value), rs[i]? = some r → xs[i]? = some x →
      (resOf tm r).run P w = .ok x w
  | [], l, vs, hc, hx => by
    cases hc; cases hx
    exact ⟨[], rfl, by simp [RL], fun i r x h => by simp at h⟩
  | r :: rs, l, vs, hc, hx => by
    simp only [cRess] at hc
    split at hc
    · rename_i g l' hg hl'
      cases hc
      obtain ⟨v, hv, hx⟩ := orec_some (show Option.rec none (fun v => Option.rec none (fun vs => some (v :: vs)) (xress t h l')) (xres1 t h g) = some vs from hx)
      obtain ⟨vs', hvs, hx⟩ := orec_some hx
      cases hx
      obtain ⟨xs, h1, h2, h3⟩ := xress_ok hT ht hW rs l' vs' hl' hvs
      have key : ∃ x, R E v x ∧ (resOf tm r).run P w = .ok x w := by
        cases r with
        | tmp n => cases hg; cases hv; exact ⟨_, tget_ok ht n, rfl⟩
        | cell a ty =>
          simp only at hg
          split at hg
          · rename_i d k hd hk
            have hagg := run_isAgg hT hd w
            have ra := tget_ok ht a
            by_cases hdd : aggD d = true
            · rw [if_pos hdd] at hg; cases hg
              obtain ⟨s, hs, hv⟩ := orec_some (show Option.rec none (fun s => some s.v) (mLdn h 0 k (tget t a)) = some v from hv)
              cases hv
              obtain ⟨b, oo, e, hm⟩ := onPtr_some hs
              obtain ⟨tr, lo, kk, dd, ro, hb, hm⟩ := onCells_some hm
              obtain ⟨hle, hm⟩ := okIf_some hm
              cases hm
              have hle : oo + k ≤ kk := ble_t hle
              rw [e] at ra; simp only [R] at ra
              obtain ⟨cb, co, hmm, hvv⟩ := ra
              obtain ⟨c, el, fz, q1, q2, q3, q4, q5, q6⟩ := row_ok hW hb hmm
              refine ⟨.agg ((c.toList.drop (co + oo)).take k).toArray, by simp only [R]; exact ⟨_, rfl, by simpa using q6 oo k hle⟩, ?_⟩
              simp [resOf, hvv, asAddr, loadVar, hagg, hdd, run_sizeOf' hT hk w, run_loadCells_of (P := P) q1 (o := co + oo) (n := k) (by omega)]
            · rw [if_neg hdd] at hg; cases hg
              obtain ⟨s, hs, hv⟩ := orec_some (show Option.rec none (fun s => some s.v) (mLd1 h 0 (tget t a)) = some v from hv)
              cases hv
              obtain ⟨b, oo, e, hm⟩ := onPtr_some hs
              obtain ⟨tr, lo, kk, dd, ro, hb, hm⟩ := onCells_some hm
              obtain ⟨hle, hm⟩ := okIf_some hm
              cases hm
              have hle : oo < kk := ble_t hle
              rw [e] at ra; simp only [R] at ra
              obtain ⟨cb, co, hmm, hvv⟩ := ra
              have hob := hW.obj b _ hb
              simp only [OR] at hob
              obtain ⟨cb', co', c, el, fz, q1, q2, q3, q3', q4, q5, q6⟩ := hob
              rw [hmm] at q1; cases q1
              obtain ⟨y, hy, hry⟩ := q6 oo hle
              have hdf : aggD d = false := by simpa using hdd
              refine ⟨y, by rw [cellAt_eq]; exact hry, ?_⟩
              simp [resOf, hvv, asAddr, loadVar, hagg, hdf, run_load, cell_of q2, hy]
          · cases hg
      obtain ⟨x, hx1, hx2⟩ := key
      refine ⟨x :: xs, by simp [h1], by simp only [RL]; exact ⟨x, xs, rfl, hx1, h2⟩, fun i r' x' hr hx' => ?_⟩
      cases i with
      | zero => cases hr; cases hx'; exact hx2
      | succ i => exact h3 i r' x' hr hx'
    · cases hc

theorem results_ok {CR : Nat → Code → GC → Prop} {tb : T TypeInfo} (hT : Tb P tb) {E : Env} {N : Nat} {t : T GV} {h : T GO} {nx : Nat} {w : World} {fn : Func} {tm : Array Value} {l : List GRes} {vs : List GV} (ht : TR E N t tm) (hW : WR CR E w0 h nx w) (hc : cRess tb fn.results.toList = some l) (hx : xress t h l = some vs) :
    ∃ v, (results fn tm).run P w = .ok v w ∧ R E (xresv vs) v := by
  obtain ⟨xs, h1, h2, h3⟩ := xress_ok hT ht hW _ _ _ hc hx
  have hm := run_mapM_list (P := P) (w := w) (resOf tm) fn.results.toList xs (fun i x y hx hy => h3 i x y hx hy) h1
  refine ⟨if h : xs.toArray.size = 1 then xs.toArray[0] else .tuple xs.toArray, ?_, R.of_resv (by simpa using h2)⟩
  have e : results fn tm = (do
      let vs ← fn.results.mapM (resOf tm)
      pure (if h : vs.size = 1 then vs[0] else .tuple vs)) := by
    unfold results
    congr 2
  rw [e, Sem.run_bind, Array.mapM_eq_mapM_toList, map_eq_pure_bind, Sem.run_bind, hm]
  rfl
end
end Go.Gh

/- What is seen to be the same is the same; what two memories have in common. -/
namespace Go.Gh
set_option linter.unusedVariables false

theorem gsame0_eq {a b : GV} (h : gsame0 a b = true) : a = b := by
  cases a <;> cases b <;> first | rfl | (cases h; done) | skip
  case bool.bool x y =>
    have h : (Bool.rec (bnot y) y x : Bool) = true := h
    cases x <;> cases y <;> first | rfl | cases h
  case int.int k n k' n' =>
    obtain ⟨h1, h2⟩ := band_t (show band (kq k k') (ieq n n') = true from h)
    rw [ieq_eq, beq_iff_eq] at h2
    rw [kq_eq h1, h2]
  case str.str s s' =>
    have h : leq s s' = true := h
    rw [leq_eq, decide_eq_true_eq] at h; rw [h]
  case ptr.ptr p q p' q' =>
    obtain ⟨h1, h2⟩ := band_t (show band (Nat.beq p p') (Nat.beq q q') = true from h)
    rw [beq_t h1, beq_t h2]
  case sl.sl p o l c e z p' o' l' c' e' z' =>
    obtain ⟨h1, h2⟩ := band_t (show band (Nat.beq p p') (band (Nat.beq o o') (band (Nat.beq l l') (band (Nat.beq c c') (band (Bool.rec (bnot e') e' e) (Nat.beq z z'))))) = true from h)
    obtain ⟨h2, h3⟩ := band_t h2
    obtain ⟨h3, h4⟩ := band_t h3
    obtain ⟨h4, h5⟩ := band_t h4
    obtain ⟨h5, h6⟩ := band_t h5
    have he : e = e' := by cases e <;> cases e' <;> first | rfl | cases h5
    rw [beq_t h1, beq_t h2, beq_t h3, beq_t h4, he, beq_t h6]
  case mp.mp p p' => rw [beq_t (show Nat.beq p p' = true from h)]
  case un.un k k' => rw [uq_eq (show uq k k' = true from h)]

theorem gall_eq {f : GV → GV → Bool} (hf : ∀ x y, f x y = true → x = y) : ∀ (l m : List GV), gall f l m = true → l = m
  | [], [], _ => rfl
  | [], y :: m, h => by cases h
  | x :: l, [], h => by cases h
  | x :: l, y :: m, h => by
    obtain ⟨h1, h2⟩ := band_t (show band (f x y) (gall f l m) = true from h)
    rw [hf x y h1, gall_eq hf l m h2]
theorem gsameN_eq {f : GV → GV → Bool} (hf : ∀ x y, f x y = true → x = y) (a b : GV) (h : gsameN f a b = true) : a = b := by
  cases a <;> first | exact gsame0_eq h | skip
  case fn g x c =>
    cases b <;> first | (cases h; done) | skip
    rename_i g' x' c'
    cases g <;> first | (cases h; done) | skip
    cases g' <;> first | (cases h; done) | skip
    rename_i n n'
    obtain ⟨h1, h2⟩ := band_t (show band (Nat.beq n n') (band (gall f x x') (gall f c c')) = true from h)
    obtain ⟨h2, h3⟩ := band_t h2
    rw [beq_t h1, gall_eq hf _ _ h2, gall_eq hf _ _ h3]
  case iface t x =>
    cases b <;> first | (cases h; done) | skip
    rename_i t' x'
    obtain ⟨h1, h2⟩ := band_t (show band (Nat.beq t t') (f x x') = true from h)
    rw [beq_t h1, hf _ _ h2]
  case agg l =>
    cases b <;> first | (cases h; done) | skip
    rw [gall_eq hf _ _ h]
  case tup l =>
    cases b <;> first | (cases h; done) | skip
    rw [gall_eq hf _ _ h]
theorem gsame_eq {a b : GV} (h : gsame a b = true) : a = b := gsameN_eq (fun x y => gsameN_eq (fun x y => gsame0_eq) x y) a b h

theorem kindB_ok {E : Env} {v : GV} {x : Value} (h : kindB v = true) (hr : R E v x) : R E (.un .b) x := by
  cases v <;> first | (cases h; done) | skip
  case bool b => simp only [R] at hr ⊢; exact ⟨b, hr⟩
  case un u =>
    have hu := uq_eq (show uq u .b = true from h)
    subst hu; exact hr
theorem vjoin_ok {a b u : GV} (h : vjoin a b = some u) : ∀ (E : Env) (x : Value), (R E a x → R E u x) ∧ (R E b x → R E u x) := by
  intro E x
  unfold vjoin at h
  cases hg : gsame a b with
  | true =>
    rw [hg] at h; cases h
    have := gsame_eq hg
    subst this
    exact ⟨id, id⟩
  | false =>
    rw [hg] at h
    obtain ⟨hb, h⟩ := okIf_some (show okIf (band (kindB a) (kindB b)) (some (.un .b)) = some u from h)
    cases h
    obtain ⟨h1, h2⟩ := band_t hb
    exact ⟨kindB_ok h1, kindB_ok h2⟩
theorem bsame_eq {a b : Bool} (h : bsame a b = true) : a = b := by cases a <;> cases b <;> first | rfl | cases h
theorem osame_eq {α : Type} {f : α → α → Bool} (hf : ∀ x y, f x y = true → x = y) {a b : Option α} (h : osame f a b = true) : a = b := by
  cases a <;> cases b <;> first | rfl | (cases h; done) | skip
  rename_i x y
  rw [hf x y (show f x y = true from h)]
theorem tsame_eq {α : Type} {f : α → α → Bool} (hf : ∀ x y, f x y = true → x = y) : ∀ (a b : T α), tsame f a b = true → a = b
  | .nil, .nil, _ => rfl
  | .nil, .node _ _ _, h => by cases h
  | .node l v r, .nil, h => by cases h
  | .node l v r, .node l' v' r', h => by
    obtain ⟨h1, h2⟩ := band_t (show band (osame f v v') (band (tsame f l l') (tsame f r r')) = true from h)
    obtain ⟨h2, h3⟩ := band_t h2
    rw [osame_eq hf h1, tsame_eq hf l l' h2, tsame_eq hf r r' h3]
theorem lsame_eq {α : Type} {f : α → α → Bool} (hf : ∀ x y, f x y = true → x = y) : ∀ (l m : List α), lsame f l m = true → l = m
  | [], [], _ => rfl
  | [], y :: m, h => by cases h
  | x :: l, [], h => by cases h
  | x :: l, y :: m, h => by
    obtain ⟨h1, h2⟩ := band_t (show band (f x y) (lsame f l m) = true from h)
    rw [hf x y h1, lsame_eq hf l m h2]
theorem gosame_eq {a b : GO} (h : gosame a b = true) : a = b := by
  cases a <;> cases b <;> first | rfl | (cases h; done) | skip
  case cells.cells t lo n d ro t' lo' n' d' ro' =>
    obtain ⟨h1, h2⟩ := band_t (show band (Nat.beq lo lo') (band (Nat.beq n n') (band (gsame d d') (band (bsame ro ro') (tsame gsame t t')))) = true from h)
    obtain ⟨h2, h3⟩ := band_t h2
    obtain ⟨h3, h4⟩ := band_t h3
    obtain ⟨h4, h5⟩ := band_t h4
    rw [beq_t h1, beq_t h2, gsame_eq h3, bsame_eq h4, tsame_eq (fun _ _ => gsame_eq) _ _ h5]
  case map.map es cl es' cl' =>
    obtain ⟨h1, h2⟩ := band_t (show band (Nat.beq cl cl') (lsame (fun x y => band (gsame x.1 y.1) (band (gsame x.2.1 y.2.1) (Nat.beq x.2.2 y.2.2))) es es') = true from h)
    rw [beq_t h1, lsame_eq (fun x y hxy => ?_) _ _ h2]
    obtain ⟨h3, h4⟩ := band_t hxy
    obtain ⟨h4, h5⟩ := band_t h4
    exact Prod.ext (gsame_eq h3) (Prod.ext (gsame_eq h4) (beq_t h5))
theorem omeet_some {a b : Option GO} {o : GO} (h : omeet a b = some o) : a = some o ∧ b = some o := by
  cases a <;> cases b <;> first | (cases h; done) | skip
  rename_i x y
  change (Bool.rec none (some x) (gosame x y) : Option GO) = some o at h
  cases hg : gosame x y with
  | false => rw [hg] at h; cases h
  | true => rw [hg] at h; cases h; exact ⟨rfl, by rw [gosame_eq hg]⟩
theorem meet_get : ∀ (a b : T GO) (n : Nat) (o : GO), (meet a b).get n = some o → a.get n = some o ∧ b.get n = some o
  | .nil, b, n, o, h => by rw [show meet .nil b = .nil from rfl, T.get_nil] at h; cases h
  | .node l v r, .nil, n, o, h => by rw [show meet (.node l v r) .nil = .nil from rfl, T.get_nil] at h; cases h
  | .node l v r, .node l' v' r', n, o, h => by
    rw [show meet (.node l v r) (.node l' v' r') = .node (meet l l') (omeet v v') (meet r r') from rfl, T.get_node] at h
    rw [T.get_node, T.get_node]
    by_cases h0 : n = 0
    · rw [if_pos h0] at h ⊢; rw [if_pos h0]; exact omeet_some h
    · rw [if_neg h0] at h ⊢; rw [if_neg h0]
      by_cases h1 : n % 2 = 1
      · rw [if_pos h1] at h ⊢; rw [if_pos h1]; exact meet_get l l' _ o h
      · rw [if_neg h1] at h ⊢; rw [if_neg h1]; exact meet_get r r' _ o h
end Go.Gh
