/- The run: code in the run's memory. -/
import Derived.Test.YtoekfbfgilbgoaaGreatDoorG23
namespace Go.Gh
set_option linter.unusedVariables false

structure GS where
  t : T GV
  ds : List Nat
  h : T GO
  nx : Nat
inductive GR where
  | norm (s : GS)
  | exit (id : Nat) (s : GS)
  | goto (l : Nat) (s : GS)
  | ret (s : GS)
  | fail
  | alt (a b : GR)
inductive GRes where
  | tmp (n : Nat)
  | c1 (n : Nat)
  | cn (n k : Nat)
/-- A function as the run has it: its code; or what it is known to do. -/
inductive GFn where
  | code (body : GC) (res : List GRes) (nt : Nat)
  | sm (σ : List GV → T GO → Nat → Option MS)

section
variable {β : Type}
noncomputable def onLoop (d : β) (o : Option GO) (f : LoopState → Option GC → T GV → List Nat → GC → GC → β) : β :=
  Option.rec d (fun o => GO.casesOn o (fun _ _ _ _ _ => d) (fun _ _ => d) (fun _ _ => d) (fun _ _ _ _ => d) f d) o
noncomputable def onDefs (d : β) (o : Option GO) (k : β) : β :=
  Option.rec d (fun o => GO.casesOn o (fun _ _ _ _ _ => d) (fun _ _ => d) (fun _ _ => d) (fun _ _ _ _ => d) (fun _ _ _ _ _ _ => d) k) o
noncomputable def onFunc (d : β) (f : Fn) (k : Nat → β) : β := Fn.casesOn f k (fun _ => d) (fun _ _ => d) (fun _ _ _ _ => d) (fun _ => d)
end
noncomputable def isReady (s : LoopState) : Bool := LoopState.casesOn s true false false false
noncomputable def isBusy (s : LoopState) : Bool := LoopState.casesOn s false true false false
noncomputable def tput (t : T GV) (d : Option Nat) (v : GV) : T GV := Option.rec t (fun d => T.set t d v) d
noncomputable def tget (t : T GV) (n : Nat) : GV := Option.rec .bad (fun v => v) (t.get n)
noncomputable def setps (ps : List Nat) : List GV → T GV → T GV :=
  List.rec (motive := fun _ => List GV → T GV → T GV) (fun _ t => t) (fun p _ ih vs t => List.casesOn vs t (fun v vs => ih vs (T.set t p v))) ps
/-- is the operation wanted? -/
noncomputable def gwant (t : T GV) (g : Option (Nat × Bool)) : Option Bool :=
  Option.rec (some true) (fun p => onBool (onTup none (tget t p.1) (fun l => List.casesOn l (some false) (fun _ _ => none))) (tget t p.1) (fun b => some (Bool.rec (bnot p.2) p.2 b))) g

noncomputable def xleave (ds : List Nat) : T GO → Option (T GO) := List.rec (motive := fun _ => T GO → Option (T GO)) (fun h => some h) (fun g _ ih h => onDefs none (h.get g) (ih (T.del h g))) ds
noncomputable def xres1 (t : T GV) (h : T GO) (r : GRes) : Option GV :=
  GRes.casesOn r (fun n => some (tget t n)) (fun n => Option.rec none (fun s => some s.v) (mLd1 h 0 (tget t n))) (fun n k => Option.rec none (fun s => some s.v) (mLdn h 0 k (tget t n)))
noncomputable def xress (t : T GV) (h : T GO) (l : List GRes) : Option (List GV) := List.rec (some []) (fun r _ ih => Option.rec none (fun v => Option.rec none (fun vs => some (v :: vs)) ih) (xres1 t h r)) l
noncomputable def xresv (vs : List GV) : GV := List.casesOn vs (.tup []) (fun v r => List.casesOn r v (fun _ _ => .tup vs))
noncomputable def xout (res : List GRes) (s : GS) : Option MS :=
  GS.casesOn s fun t ds h nx => Option.rec none (fun h' => Option.rec none (fun vs => some ⟨xresv vs, h', nx⟩) (xress t h' res)) (xleave ds h)
noncomputable def gall (f : GV → GV → Bool) (l : List GV) : List GV → Bool :=
  List.rec (motive := fun _ => List GV → Bool) (fun m => List.casesOn m true (fun _ _ => false)) (fun x _ ih m => List.casesOn m false (fun y m => band (f x y) (ih m))) l
noncomputable def gsame0 (a b : GV) : Bool :=
  GV.casesOn a (GV.casesOn b true (fun _ => false) (fun _ _ => false) (fun _ => false) false (fun _ _ => false) false (fun _ _ _ _ _ _ => false) false (fun _ => false) (fun _ _ _ => false) (fun _ => false) false (fun _ _ => false) false (fun _ => false) (fun _ => false) (fun _ => false))
    (fun x => onBool false b fun y => Bool.rec (bnot y) y x) (fun k n => onInt false b fun k' n' => band (kq k k') (ieq n n')) (fun s => onStr false b fun s' => leq s s')
    (onP false b true (fun _ _ => false)) (fun p q => onP false b false (fun p' q' => band (Nat.beq p p') (Nat.beq q q')))
    (onSl false b true (fun _ _ _ _ _ _ => false)) (fun p o l c e z => onSl false b false fun p' o' l' c' e' z' => band (Nat.beq p p') (band (Nat.beq o o') (band (Nat.beq l l') (band (Nat.beq c c') (band (Bool.rec (bnot e') e' e) (Nat.beq z z'))))))
    (onMap false b true (fun _ => false)) (fun p => onMap false b false (fun p' => Nat.beq p p')) (fun _ _ _ => false) (fun _ => false) (onFN false b true false) (fun _ _ => false) (onIf false b true (fun _ _ => false)) (fun _ => false) (fun _ => false) (fun k => onUn false b fun k' => uq k k')
noncomputable def gsameN (f : GV → GV → Bool) (a b : GV) : Bool :=
  GV.casesOn a (gsame0 a b) (fun _ => gsame0 a b) (fun _ _ => gsame0 a b) (fun _ => gsame0 a b) (gsame0 a b) (fun _ _ => gsame0 a b) (gsame0 a b) (fun _ _ _ _ _ _ => gsame0 a b) (gsame0 a b) (fun _ => gsame0 a b) (fun g x c => onFn false b (fun g' x' c' => onFunc false g fun n => onFunc false g' fun n' => band (Nat.beq n n') (band (gall f x x') (gall f c c'))) (fun _ => false)) (fun _ => gsame0 a b) (gsame0 a b)
    (fun t x => onIf false b false (fun t' x' => band (Nat.beq t t') (f x x'))) (gsame0 a b) (fun l => onAgg false b fun l' => gall f l l') (fun l => onTup false b fun l' => gall f l l') (fun _ => gsame0 a b)
noncomputable def gsame : GV → GV → Bool := gsameN (gsameN gsame0)
noncomputable def osame {α : Type} (f : α → α → Bool) (a b : Option α) : Bool := Option.rec (Option.rec true (fun _ => false) b) (fun x => Option.rec false (fun y => f x y) b) a
noncomputable def tsame {α : Type} (f : α → α → Bool) (a : T α) : T α → Bool :=
  T.rec (motive := fun _ => T α → Bool) (fun b => T.casesOn b true (fun _ _ _ => false)) (fun _ v _ il ir b => T.casesOn b false (fun l' v' r' => band (osame f v v') (band (il l') (ir r')))) a
noncomputable def lsame {α : Type} (f : α → α → Bool) (l : List α) : List α → Bool :=
  List.rec (motive := fun _ => List α → Bool) (fun m => List.casesOn m true (fun _ _ => false)) (fun x _ ih m => List.casesOn m false (fun y m => band (f x y) (ih m))) l
noncomputable def bsame (a b : Bool) : Bool := Bool.rec (bnot b) b a
/-- the same block, seen to be so; a loop's record is not looked at -/
noncomputable def gosame (a b : GO) : Bool :=
  GO.casesOn a (fun t lo n d ro => GO.casesOn b (fun t' lo' n' d' ro' => band (Nat.beq lo lo') (band (Nat.beq n n') (band (gsame d d') (band (bsame ro ro') (tsame gsame t t'))))) (fun _ _ => false) (fun _ _ => false) (fun _ _ _ _ => false) (fun _ _ _ _ _ _ => false) false)
    (fun es cl => GO.casesOn b (fun _ _ _ _ _ => false) (fun es' cl' => band (Nat.beq cl cl') (lsame (fun x y => band (gsame x.1 y.1) (band (gsame x.2.1 y.2.1) (Nat.beq x.2.2 y.2.2))) es es')) (fun _ _ => false) (fun _ _ _ _ => false) (fun _ _ _ _ _ _ => false) false)
    (fun _ _ => false) (fun _ _ _ _ => false) (fun _ _ _ _ _ _ => false) (GO.casesOn b (fun _ _ _ _ _ => false) (fun _ _ => false) (fun _ _ => false) (fun _ _ _ _ => false) (fun _ _ _ _ _ _ => false) true)
noncomputable def omeet (a b : Option GO) : Option GO := Option.rec none (fun x => Option.rec none (fun y => Bool.rec none (some x) (gosame x y)) b) a
/-- what two memories have in common -/
noncomputable def meet (a : T GO) : T GO → T GO :=
  T.rec (motive := fun _ => T GO → T GO) (fun _ => .nil) (fun _ v _ il ir b => T.casesOn b .nil (fun l' v' r' => .node (il l') (omeet v v') (ir r'))) a
noncomputable def kindB (v : GV) : Bool := onBool (onUn false v fun u => uq u .b) v fun _ => true
/-- what two values have in common: the value, or that they are bools -/
noncomputable def vjoin (v v' : GV) : Option GV := Bool.rec (okIf (band (kindB v) (kindB v')) (some (.un .b))) (some v) (gsame v v')
noncomputable def xjoin (x y : MS) : Option MS := MS.casesOn x fun v h nx => MS.casesOn y fun v' h' nx' => Option.rec none (fun u => some ⟨u, meet h h', Bool.rec nx nx' (Nat.ble nx nx')⟩) (vjoin v v')
noncomputable def xfin (res : List GRes) (r : GR) : Option MS :=
  GR.rec (fun s => xout res s) (fun _ _ => none) (fun _ _ => none) (fun s => xout res s) none (fun _ _ a b => Option.rec none (fun x => Option.rec none (fun y => xjoin x y) b) a) r
noncomputable def xcall (self : Option Nat → GC → GS → GR) (fs : T GFn) (f : Nat) (args : List GV) (h : T GO) (nx : Nat) : Option MS :=
  Option.rec none (fun fn => GFn.casesOn fn (fun body res nt => okIf (Nat.ble args.length nt) (xfin res (self none body ⟨T.lay args 0 .nil, [], h, nx⟩))) (fun σ => σ args h nx)) (fs.get f)
/-- the round's end -/
noncomputable def xend (l : Nat) (jump : Option GC) (s : GS) : Option MS :=
  GS.casesOn s fun _ _ h nx => onLoop none (h.get l) fun _ _ t ps as bd =>
    some ⟨.bool (Option.rec true (fun _ => false) jump), h.set l (.loop (Option.rec .ready (fun _ => .done) jump) jump t ps as bd), nx⟩
noncomputable def xround (self : Option Nat → GC → GS → GR) (l : Nat) (args : List GV) (h : T GO) (nx : Nat) : Option MS :=
  onLoop none (h.get l) fun st _ t ps as bd => okIf (band (isReady st) (Nat.beq args.length ps.length))
    (GR.casesOn (self (some l) as ⟨setps ps args t, [], h, nx⟩)
      (fun s => GS.casesOn s fun t1 ds1 h1 nx1 => onLoop none (h1.get l) fun st1 pe1 t' ps' as' bd' => okIf (isReady st1)
        (GR.casesOn (self (some l) bd ⟨t1, ds1, h1.set l (.loop .busy pe1 t' ps' as' bd'), nx1⟩)
          (fun s => xend l none s) (fun id s => xend l (some (.exit id)) s) (fun g s => xend l (some (.goto g)) s) (fun s => xend l (some .ret) s) none (fun _ _ => none)))
      (fun _ _ => none) (fun _ _ => none) (fun _ => none) none (fun _ _ => none))
noncomputable def xop (self : Option Nat → GC → GS → GR) (fs : T GFn) (t : T GV) (h : T GO) (nx : Nat) (op : GOp) : Option MS :=
  GOp.casesOn op (fun p => Option.rec none (fun v => some ⟨v, h, nx⟩) (pf t p)) (fun m => mf t h nx m) (fun f args => xcall self fs f (evs t args) h nx)
    (fun fo args => onFn none (ev t fo) (fun f a c => onFunc none f fun f => xcall self fs f (a ++ (evs t args ++ c)) h nx) (fun l => xround self l (evs t args) h nx))
    (fun x => mNxtm h nx (ev t x)) (fun _ _ => none) none (fun _ => none) none
/-- the steps that a walk over a map may take next -/
noncomputable def mNxtAll (h : T GO) (nx : Nat) (x : GV) : List MS :=
  onPtr [] x fun i o => Bool.rec [] (onMiter [] (h.get i) fun m since seen last => Option.rec [] (fun r => onMapO [] (h.get r) fun es cl =>
    Bool.rec [] ((leftOf seen es).map fun e => ⟨.tup [.bool true, e.1, e.2.1], h.set i (.miter (some r) since (seen ++ [e.2.2]) cl), nx⟩)
      (band (bnot (band (bnot seen.isEmpty) (band (bnot es.isEmpty) (noneBelow last es)))) ((leftOf seen es).all fun e => Nat.ble (Nat.succ e.2.2) since))) m) (Nat.beq o 0)
def nxtOf (op : GOp) : Option Od := match op with
  | .nx x => some x
  | _ => none
noncomputable def altAll (k : MS → GR) (l : List MS) : GR := List.rec .fail (fun s rest ih => List.casesOn rest (k s) (fun _ _ => .alt (k s) ih)) l
/-- a slot with a bool that is not known: both -/
noncomputable def splitU (t : T GV) (n : Nat) (k : T GV → GR) : GR := onUn .fail (tget t n) fun u => Bool.rec .fail (.alt (k (T.set t n (.bool true))) (k (T.set t n (.bool false)))) (uq u .b)
def pickOf (op : GOp) : Option Nat := match op with
  | .p (.pick (.t n) _ _) => some n
  | _ => none
noncomputable def stepO (self : Option Nat → GC → GS → GR) (fs : T GFn) (ih : T GV → T GO → Nat → GR) (o : GOper) (fb : T GV → T GO → Nat → GR) (t : T GV) (h : T GO) (nx : Nat) : GR :=
  GOper.casesOn o fun dst op g => Option.rec (Option.rec .fail (fun p => splitU t p.1 (fun t' => fb t' h nx)) g) (fun wanted => Bool.rec (ih (tput t dst (.tup [])) h nx)
      (Option.rec (Option.rec (Option.rec .fail (fun n => splitU t n (fun t' => fb t' h nx)) (pickOf op)) (fun x => altAll (fun s => MS.casesOn s fun v h nx => ih (tput t dst v) h nx) (mNxtAll h nx (ev t x))) (nxtOf op)) (fun s => MS.casesOn s fun v h nx => ih (tput t dst v) h nx) (xop self fs t h nx op)) wanted) (gwant t g)
noncomputable def xops (self : Option Nat → GC → GS → GR) (fs : T GFn) (ds : List Nat) (l : List GOper) : T GV → T GO → Nat → GR :=
  List.rec (motive := fun _ => T GV → T GO → Nat → GR) (fun t h nx => .norm ⟨t, ds, h, nx⟩)
    (fun o _ ih => stepO self fs ih o (stepO self fs ih o (fun _ _ _ => .fail))) l

/-! ### a region that draws its order -/
/-- some slots alone -/
noncomputable def rs (t : T GV) (l : List Nat) : T GV := List.rec .nil (fun n _ ih => Option.rec ih (fun v => T.set ih n v) (t.get n)) l
/-- what an operation that does not act yields in a state of memory -/
noncomputable def xread (t : T GV) (h : T GO) (nx : Nat) (o : GOper) : Option GV :=
  GOper.casesOn o fun _ op g => Option.rec none (fun wanted => Bool.rec (some (.tup [])) (GOp.casesOn op (fun p => pf t p) (fun m => Option.rec none (fun s => some s.v) (mf t h nx m)) (fun _ _ => none) (fun _ _ => none) (fun _ => none) (fun _ _ => none) none (fun _ => none) none) wanted) (gwant t g)
structure DRes where
  t : T GV
  h : T GO
  nx : Nat
  hs : List (T GO × Nat)
  rc : List (GD × T GV × GV)
noncomputable def dstep (self : Option Nat → GC → GS → GR) (fs : T GFn) (g : GD) (t : T GV) (h : T GO) (nx : Nat) : Option MS :=
  GOper.casesOn g.o fun _ op gd => Option.rec none (fun wanted => Bool.rec (some ⟨.tup [], h, nx⟩) (xop self fs t h nx op) wanted) (gwant t gd)
noncomputable def xd (self : Option Nat → GC → GS → GR) (fs : T GFn) (l : List GD) : T GV → T GO → Nat → Option DRes :=
  List.rec (motive := fun _ => T GV → T GO → Nat → Option DRes) (fun t h nx => some ⟨t, h, nx, [(h, nx)], []⟩)
    (fun g _ ih t h nx => Option.rec none (fun s => MS.casesOn s fun v h' nx' => Option.rec none (fun r => DRes.casesOn r fun tf hf nf hs rc =>
      some ⟨tf, hf, nf, (h, nx) :: hs, (g, rs t g.sl, v) :: rc⟩) (ih (tput t g.o.dst v) h' nx')) (dstep self fs g (rs t g.sl) h nx)) l
noncomputable def dchk1 (o : GOper) (t : T GV) (v : GV) (hs : List (T GO × Nat)) (cs : List Nat) : Bool :=
  List.rec true (fun c _ ih => band (Option.rec false (fun x => Option.rec false (fun v' => gsame v' v) (xread t x.1 x.2 o)) (hs[c]?)) ih) cs
noncomputable def dchk (hs : List (T GO × Nat)) (rc : List (GD × T GV × GV)) : Bool :=
  List.rec true (fun x _ ih => band (dchk1 x.1.o x.2.1 x.2.2 hs x.1.cs) ih) rc
noncomputable def xdreg (self : Option Nat → GC → GS → GR) (fs : T GFn) (ds : List Nat) (l : List GD) (t : T GV) (h : T GO) (nx : Nat) : GR :=
  Option.rec .fail (fun r => DRes.casesOn r fun tf hf nf hs rc => Bool.rec .fail (.norm ⟨tf, ds, hf, nf⟩) (dchk hs rc)) (xd self fs l t h nx)

/-! ### code -/
noncomputable def xthen (r : GR) (k : GS → GR) : GR := GR.rec k (fun id s => .exit id s) (fun l s => .goto l s) (fun s => .ret s) .fail (fun _ _ a b => .alt a b) r
noncomputable def xblock (id : Nat) (r : GR) : GR := GR.rec (fun s => .norm s) (fun m s => Bool.rec (.exit m s) (.norm s) (Nat.beq m id)) (fun l s => .goto l s) (fun s => .ret s) .fail (fun _ _ a b => .alt a b) r
noncomputable def xjump (self : Option Nat → GC → GS → GR) (rd : Option Nat) (lid : Nat) (t : T GV) (ds : List Nat) (s : MS) : GR :=
  MS.casesOn s fun _ h nx => onLoop .fail (h.get lid) fun st pe t' ps as bd => Bool.rec
    (Option.rec (.norm ⟨t, ds, h.set lid (.loop .exhausted pe t' ps as bd), nx⟩) (fun c => self rd c ⟨t, ds, h.set lid (.loop .exhausted pe t' ps as bd), nx⟩) pe) .fail (isBusy st)
noncomputable def xrf (self : Option Nat → GC → GS → GR) (fs : T GFn) (rd : Option Nat) (f : Od) (ps : List Nat) (as bd : GC) (t : T GV) (ds : List Nat) (h : T GO) (nx : Nat) : GR :=
  onFn .fail (ev t f) (fun f a c => onFunc .fail f fun f =>
    Option.rec
      (Option.rec .fail (fun s => xjump self rd (Nat.succ nx) t (nx :: ds) s) (xcall self fs f (a ++ (.yl (Nat.succ nx) :: c)) ((h.set nx .defs).set (Nat.succ nx) (.loop .ready none t ps as bd)) (Nat.succ (Nat.succ nx))))
      (fun l => onLoop .fail (h.get l) fun _ _ _ _ _ _ => Option.rec .fail (fun s => xjump self rd nx t ds s) (xcall self fs f (a ++ (.yl nx :: c)) (h.set nx (.loop .ready none t ps as bd)) (Nat.succ nx))) rd) (fun _ => .fail)
noncomputable def condU (t : T GV) (c : Od) (x y : T GV → GR) : GR :=
  Od.casesOn c (fun n => onUn .fail (tget t n) fun u => Bool.rec .fail (.alt (x (T.set t n (.bool true))) (y (T.set t n (.bool false)))) (uq u .b)) (fun _ => .fail) (fun _ => .fail) (fun _ => .fail)
noncomputable def xstep (fs : T GFn) (self : Option Nat → GC → GS → GR) (rd : Option Nat) (c : GC) (s : GS) : GR :=
  GS.casesOn s fun t ds h nx => GC.casesOn c (.norm ⟨t, ds, h, nx⟩) (fun ops => xops self fs ds ops t h nx) (fun l => xdreg self fs ds l t h nx)
    (fun a b => xthen (self rd a ⟨t, ds, h, nx⟩) (fun s => self rd b s))
    (fun c a b => onBool (condU t c (fun t' => self rd a ⟨t', ds, h, nx⟩) (fun t' => self rd b ⟨t', ds, h, nx⟩)) (ev t c) fun x => Bool.rec (self rd b ⟨t, ds, h, nx⟩) (self rd a ⟨t, ds, h, nx⟩) x)
    (fun id b => xblock id (self rd b ⟨t, ds, h, nx⟩))
    (fun b => xthen (self rd b ⟨t, ds, h, nx⟩) (fun s => self rd (.loop b) s))
    (fun f ps as bd => xrf self fs rd f ps as bd t ds h nx) (fun id => .exit id ⟨t, ds, h, nx⟩) (fun _ => .fail) (fun _ => .norm ⟨t, ds, h, nx⟩) (fun l => .goto l ⟨t, ds, h, nx⟩) (.ret ⟨t, ds, h, nx⟩) .fail
noncomputable def run (fs : T GFn) (fuel : Nat) : Option Nat → GC → GS → GR := Nat.rec (motive := fun _ => Option Nat → GC → GS → GR) (fun _ _ _ => .fail) (fun _ ih => xstep fs ih) fuel
end Go.Gh
