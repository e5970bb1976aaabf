/- Operations on memory: what they do to the run's memory. -/
import Derived.Test.YtoekfbfgilbgoaaGreatDoorG11
namespace Go.Gh
set_option linter.unusedVariables false

structure MS where
  v : GV
  h : T GO
  nx : Nat

section
variable {β : Type}
noncomputable def onCells (d : β) (o : Option GO) (f : T GV → Nat → Nat → GV → Bool → β) : β :=
  Option.rec d (fun o => GO.casesOn o f (fun _ _ => d) (fun _ _ => d) (fun _ _ _ _ => d) (fun _ _ _ _ _ _ => d) d) o
noncomputable def onMapO (d : β) (o : Option GO) (f : List (GV × GV × Nat) → Nat → β) : β :=
  Option.rec d (fun o => GO.casesOn o (fun _ _ _ _ _ => d) f (fun _ _ => d) (fun _ _ _ _ => d) (fun _ _ _ _ _ _ => d) d) o
noncomputable def onSiter (d : β) (o : Option GO) (f : List Nat → Nat → β) : β :=
  Option.rec d (fun o => GO.casesOn o (fun _ _ _ _ _ => d) (fun _ _ => d) f (fun _ _ _ _ => d) (fun _ _ _ _ _ _ => d) d) o
noncomputable def onMiter (d : β) (o : Option GO) (f : Option Nat → Nat → List Nat → Nat → β) : β :=
  Option.rec d (fun o => GO.casesOn o (fun _ _ _ _ _ => d) (fun _ _ => d) (fun _ _ => d) f (fun _ _ _ _ _ _ => d) d) o
end
noncomputable def cellAt (t : T GV) (d : GV) (i : Nat) : GV := Option.rec d (fun v => v) (t.get i)

noncomputable def mNew (h : T GO) (nx : Nat) (zs : List GV) (f : Nat → GV) : Option MS := some ⟨f nx, h.set nx (.cells (T.lay zs 0 .nil) 0 zs.length .bad false), Nat.succ nx⟩
noncomputable def mAllocr (h : T GO) (nx : Nat) (n : Nat) (d : GV) (f : Nat → GV) : Option MS := some ⟨f nx, h.set nx (.cells .nil 0 n d false), Nat.succ nx⟩
noncomputable def mBox (h : T GO) (nx : Nat) (v : GV) : Option MS := Option.rec none (fun l => mNew h nx l (fun k => .ptr k 0)) (cellsOf v)
noncomputable def mBsl (t : T GV) (h : T GO) (nx : Nat) (sz len : Nat) (zs : List GV) (ps : List (Nat × Nat × Od)) : Option MS :=
  Option.rec none (fun l => mNew h nx l (fun k => .sl k 0 len len true sz)) (gfill (bldEv t ps) zs)
noncomputable def mLd1 (h : T GO) (nx : Nat) (a : GV) : Option MS := onPtr none a fun b o => onCells none (h.get b) fun t lo n d _ => okIf (Nat.ble (Nat.succ o) n) (some ⟨cellAt t d (Nat.add lo o), h, nx⟩)
noncomputable def mLdn (h : T GO) (nx : Nat) (k : Nat) (a : GV) : Option MS := onPtr none a fun b o => onCells none (h.get b) fun t lo n d _ => okIf (Nat.ble (Nat.add o k) n) (some ⟨.agg (T.read t d k (Nat.add lo o)), h, nx⟩)
noncomputable def allCell (l : List GV) : Bool := List.rec true (fun v _ ih => band (isCell v) ih) l
/-- cells l are laid at a block's place o -/
noncomputable def putAt (h : T GO) (b o : Nat) (l : List GV) : Option (T GO) :=
  onCells none (h.get b) fun t lo n d ro => okIf (band (bnot ro) (band (Nat.ble (Nat.add o l.length) n) (allCell l))) (some (h.set b (.cells (T.lay l (Nat.add lo o) t) lo n d ro)))
noncomputable def mSt1 (h : T GO) (nx : Nat) (a v : GV) : Option MS := onPtr none a fun b o => Option.rec none (fun h' => some ⟨.bad, h', nx⟩) (putAt h b o [v])
noncomputable def mStn (h : T GO) (nx : Nat) (k : Nat) (a v : GV) : Option MS := onPtr none a fun b o => onAgg none v fun l => okIf (Nat.beq l.length k) (Option.rec none (fun h' => some ⟨.bad, h', nx⟩) (putAt h b o l))
/-- n elements of zeros -/
noncomputable def reps (zs : List GV) (n : Nat) : List GV := Nat.rec [] (fun _ ih => zs ++ ih) n
noncomputable def mMksl (h : T GO) (nx : Nat) (sz bytes : Nat) (zs : List GV) (l c : GV) : Option MS :=
  Option.rec none (fun l => Option.rec none (fun c => okIf (band (Nat.ble l c) (band (Nat.ble c 1099511627776) (Nat.ble (Nat.mul bytes c) 1099511627776)))
    (Bool.rec (mNew h nx (reps zs c) (fun k => .sl k 0 l c true sz)) (mAllocr h nx c (zs.headD .bad) (fun k => .sl k 0 l c true sz)) (Nat.beq sz 1))) (natOf c)) (natOf l)
noncomputable def mSlarr (t : T GV) (h : T GO) (nx : Nat) (n sz : Nat) (x : GV) (lo hi mx : Option Od) : Option MS :=
  onPtr none x fun b o => onCells none (h.get b) fun _ _ k _ _ => okIf (Nat.ble (Nat.add o (Nat.mul n sz)) k)
    (Option.rec none (fun l => Option.rec none (fun hh => Option.rec none (fun m => okIf (band (Nat.ble l hh) (band (Nat.ble hh m) (Nat.ble m n)))
      (some ⟨.sl b (Nat.add o (Nat.mul l sz)) (Nat.sub hh l) (Nat.sub m l) true sz, h, nx⟩)) (bnd t mx n)) (bnd t hi n)) (bnd t lo 0))
noncomputable def isInt (v : GV) : Bool := onInt false v fun _ _ => true
noncomputable def mMkmap (t : T GV) (h : T GO) (nx : Nat) (x : Option Od) : Option MS := okIf (Option.rec true (fun x => isInt (ev t x)) x) (some ⟨.mp nx, h.set nx (.map [] 0), Nat.succ nx⟩)
noncomputable def mMlen (h : T GO) (nx : Nat) (m : GV) : Option MS := onMap none m (some ⟨.int .i64 (Int.ofNat 0), h, nx⟩) fun r => onMapO none (h.get r) fun es _ => some ⟨.int .i64 (Int.ofNat es.length), h, nx⟩

noncomputable def gfind (k : KT) (key : GV) (es : List (GV × GV × Nat)) : Nat → Option (Option (Nat × GV × Nat)) :=
  List.rec (motive := fun _ => Nat → Option (Option (Nat × GV × Nat))) (fun _ => some none)
    (fun e _ ih i => Option.rec none (fun b => Bool.rec (ih (Nat.succ i)) (some (some (i, e.2.1, e.2.2))) b) (keq k key e.1)) es
noncomputable def keyFits (k : KT) (key : GV) : Bool := KT.casesOn k (fun _ => true) (fun l => onAgg false key fun xs => Nat.beq xs.length l.length)
noncomputable def setAt (l : List (GV × GV × Nat)) (i : Nat) (x : GV × GV × Nat) : List (GV × GV × Nat) := l.take i ++ x :: l.drop (Nat.succ i)
noncomputable def mLook (h : T GO) (nx : Nat) (k : KT) (ok : Bool) (z : GV) (m key : GV) : Option MS :=
  okIf (keyFits k key) (onMap none m (some ⟨Bool.rec z (.tup [z, .bool false]) ok, h, nx⟩) fun r => onMapO none (h.get r) fun es _ =>
    Option.rec none (fun f => Option.rec (some ⟨Bool.rec z (.tup [z, .bool false]) ok, h, nx⟩) (fun p => some ⟨Bool.rec p.2.1 (.tup [p.2.1, .bool true]) ok, h, nx⟩) f) (gfind k key es 0))
noncomputable def mMupd (h : T GO) (nx : Nat) (k : KT) (m key v : GV) : Option MS :=
  okIf (keyFits k key) (onMap none m none fun r => onMapO none (h.get r) fun es cl =>
    Option.rec none (fun f => Option.rec (some ⟨.bad, h.set r (.map (es ++ [(key, v, cl)]) (Nat.succ cl)), nx⟩) (fun p => some ⟨.bad, h.set r (.map (setAt es p.1 (key, v, p.2.2)) cl), nx⟩) f) (gfind k key es 0))
noncomputable def mMent (h : T GO) (nx : Nat) (k : KT) (z : GV) (m key : GV) : Option MS :=
  okIf (keyFits k key) (onMap none m none fun r => onMapO none (h.get r) fun es cl =>
    Option.rec none (fun f => Option.rec (some ⟨.tup [z, .int .i64 (Int.ofNat cl)], h.set r (.map (es ++ [(key, z, cl)]) (Nat.succ cl)), nx⟩)
      (fun p => some ⟨.tup [p.2.1, .int .i64 (Int.ofNat p.2.2)], h.set r (.map (setAt es p.1 (key, p.2.1, p.2.2)) cl), nx⟩) f) (gfind k key es 0))
noncomputable def bfind (b : Nat) (es : List (GV × GV × Nat)) : Nat → Option (Nat × GV × GV) :=
  List.rec (motive := fun _ => Nat → Option (Nat × GV × GV)) (fun _ => none) (fun e _ ih i => Bool.rec (ih (Nat.succ i)) (some (i, e.1, e.2.1)) (Nat.beq e.2.2 b)) es
noncomputable def mEst (h : T GO) (nx : Nat) (m s v : GV) : Option MS :=
  onMap none m none fun r => onMapO none (h.get r) fun es cl => Option.rec none (fun b => Option.rec none (fun p => some ⟨.bad, h.set r (.map (setAt es p.1 (p.2.1, v, b)) cl), nx⟩) (bfind b es 0)) (natOf s)
noncomputable def mMdel (h : T GO) (nx : Nat) (k : KT) (m key : GV) : Option MS :=
  okIf (keyFits k key) (onMap none m (some ⟨.tup [], h, nx⟩) fun r => onMapO none (h.get r) fun es cl =>
    Option.rec none (fun f => Option.rec (some ⟨.tup [], h, nx⟩) (fun p => some ⟨.tup [], h.set r (.map (es.take p.1 ++ es.drop (Nat.succ p.1)) cl), nx⟩) f) (gfind k key es 0))
noncomputable def mMclr (h : T GO) (nx : Nat) (m : GV) : Option MS := onMap none m (some ⟨.tup [], h, nx⟩) fun r => onMapO none (h.get r) fun _ cl => some ⟨.tup [], h.set r (.map [] cl), nx⟩
noncomputable def mSclr (h : T GO) (nx : Nat) (zs : List GV) (x : GV) : Option MS :=
  onSl none x (some ⟨.tup [], h, nx⟩) fun b o l _ _ z => Bool.rec (okIf (Nat.beq z zs.length) (Option.rec none (fun h' => some ⟨.tup [], h', nx⟩) (putAt h b o (reps zs l)))) (some ⟨.tup [], h, nx⟩) (Nat.beq l 0)
noncomputable def mRngm (h : T GO) (nx : Nat) (m : GV) : Option MS :=
  onMap none m (some ⟨.ptr nx 0, h.set nx (.miter none 0 [] 0), Nat.succ nx⟩) fun r => onMapO none (h.get r) fun _ cl => some ⟨.ptr nx 0, h.set nx (.miter (some r) cl [] cl), Nat.succ nx⟩
noncomputable def mRngs (h : T GO) (nx : Nat) (x : GV) : Option MS := onStr none x fun s => some ⟨.ptr nx 0, h.set nx (.siter s 0), Nat.succ nx⟩
noncomputable def memN (n : Nat) (l : List Nat) : Bool := List.rec false (fun x _ ih => Bool.rec ih true (Nat.beq n x)) l
noncomputable def leftOf (seen : List Nat) (es : List (GV × GV × Nat)) : List (GV × GV × Nat) := List.rec [] (fun e _ ih => Bool.rec (e :: ih) ih (memN e.2.2 seen)) es
noncomputable def noneBelow (b : Nat) (es : List (GV × GV × Nat)) : Bool := List.rec true (fun e _ ih => band (Nat.ble b e.2.2) ih) es
noncomputable def mNxtm (h : T GO) (nx : Nat) (x : GV) : Option MS :=
  onPtr none x fun i o => okIf (Nat.beq o 0) (onMiter none (h.get i) fun m since seen last =>
    Option.rec (some ⟨.tup [.bool false], h, nx⟩) (fun r => onMapO none (h.get r) fun es cl =>
      okIf (bnot (band (bnot seen.isEmpty) (band (bnot es.isEmpty) (noneBelow last es))))
        (List.casesOn (leftOf seen es) (some ⟨.tup [.bool false], h, nx⟩)
          (fun e rest => okIf (band rest.isEmpty (Nat.ble (Nat.succ e.2.2) since)) (some ⟨.tup [.bool true, e.1, e.2.1], h.set i (.miter (some r) since (seen ++ [e.2.2]) cl), nx⟩)))) m)
noncomputable def mNxts (h : T GO) (nx : Nat) (x : GV) : Option MS :=
  onPtr none x fun i o => okIf (Nat.beq o 0) (onSiter none (h.get i) fun s p => Option.rec (some ⟨.tup [.bool false], h, nx⟩)
    (fun c => okIf (Nat.ble (Nat.succ c) 128) (some ⟨.tup [.bool true, .int .i64 (Int.ofNat p), .int .i32 (Int.ofNat c)], h.set i (.siter s (Nat.succ p)), nx⟩)) (s[p]?))
noncomputable def mEntry (h : T GO) (nx : Nat) (x : GV) : Option MS :=
  onPtr none x fun i o => okIf (Nat.beq o 0) (onMiter none (h.get i) fun m _ seen last => Option.rec none (fun r => onMapO none (h.get r) fun es cl => okIf (Nat.beq cl last)
    (Option.rec none (fun b => Option.rec none (fun p => some ⟨.tup [p.2.1, p.2.2], h, nx⟩) (bfind b es 0)) seen.getLast?)) m)

/-- what a slice's first n elements are, as cells -/
noncomputable def rowOf (h : T GO) (b o k : Nat) : Option (List GV) := onCells none (h.get b) fun t lo n d _ => okIf (Nat.ble (Nat.add o k) n) (some (T.read t d k (Nat.add lo o)))
noncomputable def srcOf (h : T GO) (sz : Nat) (x : GV) (k : Nat → List GV → Option MS) : Option MS :=
  onSl none x (k 0 []) fun b o l _ _ z => okIf (Nat.beq z sz) (Bool.rec (Option.rec none (fun r => k l r) (rowOf h b o (Nat.mul l sz))) (k 0 []) (Nat.beq l 0))
noncomputable def srcS (x : GV) (k : Nat → List GV → Option MS) : Option MS := onStr none x fun s => k s.length (s.map fun c => .int .u8 (Int.ofNat c))
/-- a slice's elements in a block of a new number; more cells behind them -/
noncomputable def mGrow (h : T GO) (nx : Nat) (sz b o len : Nat) (xs : List GV) (need : Nat) (keep : Bool) : Option MS :=
  onCells none (h.get b) fun t lo n d ro => okIf (band (Nat.ble (Nat.add o (Nat.mul len sz)) n) (band (Nat.ble need 1073741824) (band (Bool.rec (bnot ro) true keep) (allCell xs))))
    (some ⟨.sl nx 0 need need false sz, T.set (Bool.rec (h.del b) h keep) nx (.cells (T.lay xs (Nat.add lo (Nat.add o (Nat.mul len sz))) t) (Nat.add lo o) (Nat.mul need sz) d false), Nat.succ nx⟩)
noncomputable def mApp1 (h : T GO) (nx : Nat) (sz : Nat) (s : GV) (m : Nat) (xs : List GV) : Option MS :=
  onSl none s (Bool.rec (okIf (Nat.ble m 1073741824) (mNew h nx xs (fun k => .sl k 0 m m false sz))) (some ⟨.nils, h, nx⟩) (Nat.beq m 0))
    fun b o len cap ex z => okIf (Nat.beq z sz) (Bool.rec
      (Bool.rec (mGrow h nx sz b o len xs (Nat.add len m) ex)
        (Option.rec none (fun h' => some ⟨.sl b o (Nat.add len m) cap ex sz, h', nx⟩) (putAt h b (Nat.add o (Nat.mul len sz)) xs)) (Nat.ble (Nat.add len m) cap))
      (some ⟨s, h, nx⟩) (Nat.beq m 0))
noncomputable def mApp (h : T GO) (nx : Nat) (sz : Nat) (s x : GV) : Option MS := srcOf h sz x fun m xs => mApp1 h nx sz s m xs
noncomputable def mApps (h : T GO) (nx : Nat) (s x : GV) : Option MS := srcS x fun m xs => mApp1 h nx 1 s m xs
noncomputable def mCopy1 (h : T GO) (nx : Nat) (sz : Nat) (d : GV) (m : Nat) (xs : List GV) : Option MS :=
  onSl none d (some ⟨.int .i64 (Int.ofNat 0), h, nx⟩) fun b o len _ _ z => okIf (Nat.beq z sz)
    (Bool.rec (Option.rec none (fun h' => some ⟨.int .i64 (Int.ofNat (nmin m len)), h', nx⟩) (putAt h b o (xs.take (Nat.mul (nmin m len) sz)))) (some ⟨.int .i64 (Int.ofNat 0), h, nx⟩) (Nat.beq (nmin m len) 0))
noncomputable def mCopy (h : T GO) (nx : Nat) (sz : Nat) (d x : GV) : Option MS := srcOf h sz x fun m xs => mCopy1 h nx sz d m xs
noncomputable def mCopys (h : T GO) (nx : Nat) (d x : GV) : Option MS := srcS x fun m xs => mCopy1 h nx 1 d m xs
noncomputable def mS2b (h : T GO) (nx : Nat) (x : GV) : Option MS := onStr none x fun s => mNew h nx (s.map fun c => .int .u8 (Int.ofNat c)) fun k => .sl k 0 s.length s.length false 1
noncomputable def byteOfV (v : GV) : Option Nat := onInt none v fun k n => okIf (kq k .u8) (Int.casesOn n (fun m => some (Nat.mod m 256)) (fun _ => none))
noncomputable def bytesOfV (l : List GV) : Option (List Nat) := List.rec (some []) (fun v _ ih => Option.rec none (fun c => Option.rec none (fun r => some (c :: r)) ih) (byteOfV v)) l
noncomputable def mB2s (h : T GO) (nx : Nat) (x : GV) : Option MS := srcOf h 1 x fun _ xs => Option.rec none (fun s => some ⟨.str s, h, nx⟩) (bytesOfV xs)
noncomputable def mClone (h : T GO) (nx : Nat) (x : GV) : Option MS := onIf none x none fun t v => onMap none v none fun r => onMapO none (h.get r) fun es cl => some ⟨.iface t (.mp nx), h.set nx (.map es cl), Nat.succ nx⟩
noncomputable def findN (c : Nat) (s : List Nat) : Nat → Option Nat := List.rec (motive := fun _ => Nat → Option Nat) (fun _ => none) (fun x _ ih i => Bool.rec (ih (Nat.succ i)) (some i) (Nat.beq x c)) s
noncomputable def mIxb (h : T GO) (nx : Nat) (x c : GV) : Option MS := onStr none x fun s => Option.rec none (fun b => some ⟨.int .i64 (Option.rec (Int.negSucc 0) (fun i => Int.ofNat i) (findN b s 0)), h, nx⟩) (byteOfV c)

noncomputable def mf (t : T GV) (h : T GO) (nx : Nat) (m : Mf) : Option MS :=
  Mf.casesOn m (fun zs => mNew h nx zs (fun k => .ptr k 0)) (fun n d => mAllocr h nx n d (fun k => .ptr k 0)) (fun x => mBox h nx (ev t x)) (fun sz len zs ps => mBsl t h nx sz len zs ps)
    (fun x => mLd1 h nx (ev t x)) (fun n x => mLdn h nx n (ev t x)) (fun a x => mSt1 h nx (ev t a) (ev t x)) (fun n a x => mStn h nx n (ev t a) (ev t x)) (fun sz b zs l c => mMksl h nx sz b zs (ev t l) (ev t c))
    (fun n sz x lo hi mx => mSlarr t h nx n sz (ev t x) lo hi mx) (fun x => mMkmap t h nx x) (fun x => mMlen h nx (ev t x)) (fun k ok z m key => mLook h nx k ok z (ev t m) (ev t key)) (fun k m key v => mMupd h nx k (ev t m) (ev t key) (ev t v))
    (fun k z m key => mMent h nx k z (ev t m) (ev t key)) (fun m s v => mEst h nx (ev t m) (ev t s) (ev t v)) (fun k m key => mMdel h nx k (ev t m) (ev t key)) (fun m => mMclr h nx (ev t m)) (fun zs x => mSclr h nx zs (ev t x))
    (fun x => mRngm h nx (ev t x)) (fun x => mRngs h nx (ev t x)) (fun x => mNxtm h nx (ev t x)) (fun x => mNxts h nx (ev t x)) (fun x => mEntry h nx (ev t x)) (fun sz _ s x => mApp h nx sz (ev t s) (ev t x)) (fun s x => mApps h nx (ev t s) (ev t x))
    (fun sz d s => mCopy h nx sz (ev t d) (ev t s)) (fun d s => mCopys h nx (ev t d) (ev t s)) (fun x => mS2b h nx (ev t x)) (fun x => mB2s h nx (ev t x)) (fun x => mClone h nx (ev t x)) (fun b c => mIxb h nx (ev t b) (ev t c))
end Go.Gh
