/- Code as the run has it; memory as the run has it, and what it says of the machine's. -/
import Derived.Test.YtpdaickealgnhaaGreatDoorHD
import Derived.OrdersIn
namespace Go.Gh
set_option linter.unusedVariables false

inductive Mf where
  | alloc (zs : List GV)
  | allocr (n : Nat) (d : GV)
  | box (x : Od)
  | bsl (sz len : Nat) (zs : List GV) (ps : List (Nat × Nat × Od))
  | ld1 (x : Od)
  | ldn (n : Nat) (x : Od)
  | st1 (a x : Od)
  | stn (n : Nat) (a x : Od)
  | mksl (sz bytes : Nat) (zs : List GV) (l c : Od)
  | slarr (n sz : Nat) (x : Od) (lo hi mx : Option Od)
  | mkmap (h : Option Od)
  | mlen (x : Od)
  | look (k : KT) (ok : Bool) (z : GV) (m key : Od)
  | mupd (k : KT) (m key v : Od)
  | ment (k : KT) (z : GV) (m key : Od)
  | est (m s v : Od)
  | mdel (k : KT) (m key : Od)
  | mclr (m : Od)
  | sclr (zs : List GV) (x : Od)
  | rngm (x : Od)
  | rngs (x : Od)
  | nxtm (x : Od)
  | nxts (x : Od)
  | entry (x : Od)
  | app (sz bytes : Nat) (s x : Od)
  | apps (s x : Od)
  | appz (sz bytes : Nat) (zs : List GV) (s x : Od)
  | copy (sz : Nat) (d s : Od)
  | copys (d s : Od)
  | s2b (x : Od)
  | b2s (x : Od)
  | mclone (x : Od)
  | ixb (b c : Od)

inductive GOp where
  | p (p : Pf)
  | m (m : Mf)
  | call (f : Nat) (args : List Od)
  | dyn (f : Od) (args : List Od)
  | nx (x : Od)
  | dfr (f : Od) (args : List Od)
  | rcv
  | pan (x : Od)
  | no

structure GOper where
  dst : Option Nat
  op : GOp
  guard : Option (Nat × Bool)

/-- An operation of a region that draws its order: the slots it looks at, the operations that are ahead of it, whether it acts, and the states of memory in which it may come up. -/
structure GD where
  o : GOper
  sl : List Nat
  an : List Nat
  eff : Bool
  cs : List Nat

inductive GC where
  | skip
  | reg (ops : List GOper)
  | rdf (ops : List GOper) (f : Od) (args : List Od)
  | dreg (ops : List GD)
  | areg (al : List Nat) (ops : List GD)
  | seq (a b : GC)
  | cond (c : Od) (a b : GC)
  | block (id : Nat) (b : GC)
  | loop (b : GC)
  | rf (f : Od) (ps : List Nat) (assign body : GC)
  | exit (id : Nat)
  | scope (b : GC)
  | label (l : Nat)
  | goto (l : Nat)
  | ret
  | no

inductive GO where
  | cells (t : T GV) (lo n : Nat) (d : GV) (ro : Bool)
  | map (es : List (GV × GV × Nat)) (clock : Nat)
  | siter (s : List Nat) (pos : Nat)
  | miter (m : Option Nat) (since : Nat) (seen : List Nat) (stepped : Nat)
  | loop (state : LoopState) (pending : Option GC) (t : T GV) (ps : List Nat) (assign body : GC)
  | defs

def ER (E : Env) : List (GV × GV × Nat) → List MapEntry → Prop
  | [], l => l = []
  | x :: r, l => ∃ e r', l = e :: r' ∧ R E x.1 e.key ∧ R E x.2.1 e.val ∧ e.born = x.2.2 ∧ ER E r r'
theorem ER.mono {E E' : Env} (h : E.le E') : ∀ {l : List (GV × GV × Nat)} {m : List MapEntry}, ER E l m → ER E' l m
  | [], m, hm => hm
  | x :: r, m, hm => by
    obtain ⟨e, r', rfl, h1, h2, h3, h4⟩ := hm
    exact ⟨e, r', rfl, R.mono h _ _ h1, R.mono h _ _ h2, h3, ER.mono h h4⟩

section
/- How the code of the round of a loop is read: given with the program. -/
variable (CR : Nat → Code → GC → Prop)

/-- the jump that is pending -/
def PE (pe : Option GC) (p : Option Code) : Prop := match pe, p with
  | none, none => True
  | some g, some c => ∀ N, CR N c g
  | _, _ => False
def OR (E : Env) (n0 : Nat) (w : World) (g : Nat) (o : GO) : Prop :=
  match o with
  | .cells t lo n d ro => ∃ cb co c el fz, E.m g = some (cb, co) ∧ w.heap[cb]? = some (.cells c el fz) ∧ co + n ≤ E.sz cb ∧ E.sz cb ≤ c.size ∧ (∀ i, fz.1 ≤ i → i < fz.2 → c.size ≤ i) ∧ (ro = false → n0 ≤ cb) ∧
      ∀ i, i < n → ∃ x, c[co + i]? = some x ∧ R E ((t.get (lo + i)).getD d) x
  | .map es cl => ∃ cb ces, E.m g = some (cb, 0) ∧ w.heap[cb]? = some (.map ces cl) ∧ ER E es ces.toList ∧ n0 ≤ cb
  | .siter s p => ∃ cb, E.m g = some (cb, 0) ∧ w.heap[cb]? = some (.stringIter (bs s) p) ∧ (∀ x ∈ s, x < 256) ∧ n0 ≤ cb
  | .miter m a l b => ∃ cb cm, E.m g = some (cb, 0) ∧ w.heap[cb]? = some (.mapIter cm a l.toArray b) ∧ n0 ≤ cb ∧ (match m, cm with
      | none, none => True
      | some r, some cr => E.m r = some (cr, 0)
      | _, _ => False)
  | .loop st pe t ps ga gb => ∃ cb r, E.m g = some (cb, 0) ∧ w.heap[cb]? = some (.loop r) ∧ n0 ≤ cb ∧ r.state = st ∧ r.params = ps.toArray ∧
      (∃ N, TR E N t r.tmps ∧ (∀ p ∈ ps, p < N) ∧ CR N r.assign ga ∧ CR N r.body gb ∧ PE CR pe r.pending)
  | .defs => ∃ cb, E.m g = some (cb, 0) ∧ w.heap[cb]? = some (.deferred (some [])) ∧ n0 ≤ cb

theorem OR.block {E : Env} {n0 : Nat} {w : World} {g : Nat} {o : GO} (h : OR CR E n0 w g o) : ∃ cb co, E.m g = some (cb, co) ∧ cb < w.heap.size := by
  cases o <;> simp only [OR] at h
  case cells => obtain ⟨cb, co, c, el, fz, h1, h2, _⟩ := h; exact ⟨cb, co, h1, (Array.getElem?_eq_some_iff.1 h2).1⟩
  case map => obtain ⟨cb, c, h1, h2, _⟩ := h; exact ⟨cb, 0, h1, (Array.getElem?_eq_some_iff.1 h2).1⟩
  case siter => obtain ⟨cb, h1, h2, _⟩ := h; exact ⟨cb, 0, h1, (Array.getElem?_eq_some_iff.1 h2).1⟩
  case miter => obtain ⟨cb, cm, h1, h2, _⟩ := h; exact ⟨cb, 0, h1, (Array.getElem?_eq_some_iff.1 h2).1⟩
  case loop => obtain ⟨cb, r, h1, h2, _⟩ := h; exact ⟨cb, 0, h1, (Array.getElem?_eq_some_iff.1 h2).1⟩
  case defs => obtain ⟨cb, h1, h2, _⟩ := h; exact ⟨cb, 0, h1, (Array.getElem?_eq_some_iff.1 h2).1⟩

theorem OR.mono {E E' : Env} {n0 : Nat} {w w' : World} {g : Nat} {o : GO} (hE : E.le E') (h : OR CR E n0 w g o)
    (hw : ∀ cb co, E.m g = some (cb, co) → w'.heap[cb]? = w.heap[cb]?)
    (hs : ∀ cb co c el fz, E.m g = some (cb, co) → w.heap[cb]? = some (.cells c el fz) → E.sz cb ≤ c.size → E'.sz cb ≤ c.size) : OR CR E' n0 w' g o := by
  cases o <;> simp only [OR] at h ⊢
  case cells =>
    obtain ⟨cb, co, c, el, fz, h1, h2, h3, h3', h4, h5, h6⟩ := h
    refine ⟨cb, co, c, el, fz, hE.1 _ _ h1, by rw [hw _ _ h1]; exact h2, Nat.le_trans h3 (hE.2 _), hs _ _ _ _ _ h1 h2 h3', h4, h5, fun i hi => ?_⟩
    obtain ⟨x, hx, hr⟩ := h6 i hi
    exact ⟨x, hx, R.mono hE _ _ hr⟩
  case map => obtain ⟨cb, c, h1, h2, h3, h4⟩ := h; exact ⟨cb, c, hE.1 _ _ h1, by rw [hw _ _ h1]; exact h2, ER.mono hE h3, h4⟩
  case siter => obtain ⟨cb, h1, h2, h3, h4⟩ := h; exact ⟨cb, hE.1 _ _ h1, by rw [hw _ _ h1]; exact h2, h3, h4⟩
  case miter m _ _ _ =>
    obtain ⟨cb, cm, h1, h2, h3, h4⟩ := h
    refine ⟨cb, cm, hE.1 _ _ h1, by rw [hw _ _ h1]; exact h2, h3, ?_⟩
    cases m <;> cases cm <;> first | exact h4 | exact hE.1 _ _ h4
  case loop =>
    obtain ⟨cb, r, h1, h2, h3, h4, h5, N, h6, h7⟩ := h
    exact ⟨cb, r, hE.1 _ _ h1, by rw [hw _ _ h1]; exact h2, h3, h4, h5, N, h6.mono hE, h7⟩
  case defs => obtain ⟨cb, h1, h2, h3⟩ := h; exact ⟨cb, hE.1 _ _ h1, by rw [hw _ _ h1]; exact h2, h3⟩

/-- The world as it was at the start of the run, but for new blocks and the count of draws. -/
structure Fr (w0 w : World) : Prop where
  tape : w.tape = w0.tape
  os : w.os = w0.os
  output : w.output = w0.output
  size : w0.heap.size ≤ w.heap.size
  old : ∀ b, b < w0.heap.size → w.heap[b]? = w0.heap[b]?
theorem Fr.refl (w : World) : Fr w w := ⟨rfl, rfl, rfl, Nat.le_refl _, fun _ _ => rfl⟩
theorem Fr.trans {a b c : World} (h : Fr a b) (k : Fr b c) : Fr a c :=
  ⟨k.tape.trans h.tape, k.os.trans h.os, k.output.trans h.output, Nat.le_trans h.size k.size, fun x hx => (k.old x (Nat.lt_of_lt_of_le hx h.size)).trans (h.old x hx)⟩

structure WR (E : Env) (w0 : World) (h : T GO) (nx : Nat) (w : World) : Prop where
  obj : ∀ g o, h.get g = some o → OR CR E w0.heap.size w g o
  inj : ∀ g g' o o' cb co co', h.get g = some o → h.get g' = some o' → E.m g = some (cb, co) → E.m g' = some (cb, co') → g = g'
  lt : ∀ g x, E.m g = some x → g < nx
  sz : ∀ cb, 0 < E.sz cb → ∃ c el fz, w.heap[cb]? = some (.cells c el fz) ∧ E.sz cb ≤ c.size
  fr : Fr w0 w

variable {CR}
theorem WR.live {E : Env} {w0 : World} {h : T GO} {nx : Nat} {w : World} (hW : WR CR E w0 h nx w) {g : Nat} {o : GO} (hg : h.get g = some o) : g < nx := by
  obtain ⟨cb, co, h1, _⟩ := (hW.obj g o hg).block
  exact hW.lt _ _ h1

/-- The same memory, other draws. -/
theorem WR.same {E : Env} {w0 : World} {h : T GO} {nx : Nat} {w w' : World} (hW : WR CR E w0 h nx w) (h1 : w'.heap = w.heap) (h2 : w'.tape = w.tape) (h3 : w'.os = w.os) (h4 : w'.output = w.output) : WR CR E w0 h nx w' where
  obj g o hg := OR.mono CR (Env.le_refl E) (hW.obj g o hg) (fun _ _ _ => by rw [h1]) (fun _ _ _ _ _ _ _ h => h)
  inj := hW.inj
  lt := hW.lt
  sz cb hc := by rw [h1]; exact hW.sz cb hc
  fr := ⟨h2.trans hW.fr.tape, h3.trans hW.fr.os, h4.trans hW.fr.output, by rw [h1]; exact hW.fr.size, fun b hb => by rw [h1]; exact hW.fr.old b hb⟩
theorem WR.drew {E : Env} {w0 : World} {h : T GO} {nx : Nat} {w : World} (hW : WR CR E w0 h nx w) : WR CR E w0 h nx w.drew := hW.same rfl rfl rfl rfl

/-- A block is forgotten. -/
theorem WR.kill {E : Env} {w0 : World} {h : T GO} {nx : Nat} {w : World} (hW : WR CR E w0 h nx w) (k : Nat) : WR CR E w0 (h.del k) nx w where
  obj g o hg := by
    rw [T.get_del] at hg
    by_cases e : g = k
    · rw [if_pos e] at hg; cases hg
    · rw [if_neg e] at hg; exact hW.obj g o hg
  inj g g' o o' cb co co' h1 h2 h3 h4 := by
    rw [T.get_del] at h1 h2
    by_cases e : g = k
    · rw [if_pos e] at h1; cases h1
    · by_cases e' : g' = k
      · rw [if_pos e'] at h2; cases h2
      · rw [if_neg e] at h1; rw [if_neg e'] at h2
        exact hW.inj g g' o o' cb co co' h1 h2 h3 h4
  lt := hW.lt
  sz := hW.sz
  fr := hW.fr

/-- More numbers are used up. -/
theorem WR.more {E : Env} {w0 : World} {h : T GO} {nx nx' : Nat} {w : World} (hW : WR CR E w0 h nx w) (hn : nx ≤ nx') : WR CR E w0 h nx' w :=
  ⟨hW.obj, hW.inj, fun g x hg => Nat.lt_of_lt_of_le (hW.lt g x hg) hn, hW.sz, hW.fr⟩

/-- A live block gets new contents. -/
theorem WR.upd {E : Env} {w0 : World} {h : T GO} {nx : Nat} {w w' : World} (hW : WR CR E w0 h nx w) {g : Nat} {o o' : GO} {cb co : Nat} (hg : h.get g = some o) (hm : E.m g = some (cb, co)) (hn : w0.heap.size ≤ cb)
    (hheap : ∀ b, b ≠ cb → w'.heap[b]? = w.heap[b]?) (hsize : w'.heap.size = w.heap.size) (h2 : w'.tape = w.tape) (h3 : w'.os = w.os) (h4 : w'.output = w.output)
    (hsz : 0 < E.sz cb → ∃ c el fz, w'.heap[cb]? = some (.cells c el fz) ∧ E.sz cb ≤ c.size) (ho : OR CR E w0.heap.size w' g o') : WR CR E w0 (h.set g o') nx w' where
  obj k q hk := by
    rw [T.get_set] at hk
    by_cases e : k = g
    · rw [if_pos e] at hk; cases hk; subst e; exact ho
    · rw [if_neg e] at hk
      refine OR.mono CR (Env.le_refl E) (hW.obj k q hk) (fun cb' co' hm' => hheap _ ?_) (fun _ _ _ _ _ _ _ h => h)
      intro e'; subst e'
      exact e (hW.inj k g q o _ _ _ hk hg hm' hm)
  inj k k' q q' b c c' h1 h2 h3 h4 := by
    rw [T.get_set] at h1 h2
    by_cases e : k = g
    · by_cases e' : k' = g
      · rw [e, e']
      · subst e; rw [if_neg e'] at h2; exact hW.inj k k' o q' b c c' hg h2 h3 h4
    · rw [if_neg e] at h1
      by_cases e' : k' = g
      · subst e'; exact hW.inj k k' q o b c c' h1 hg h3 h4
      · rw [if_neg e'] at h2; exact hW.inj k k' q q' b c c' h1 h2 h3 h4
  lt := hW.lt
  sz b hb := by
    by_cases e : b = cb
    · subst e; exact hsz hb
    · rw [hheap b e]; exact hW.sz b hb
  fr := ⟨h2.trans hW.fr.tape, h3.trans hW.fr.os, h4.trans hW.fr.output, by rw [hsize]; exact hW.fr.size, fun b hb => by rw [hheap b (by omega)]; exact hW.fr.old b hb⟩

/-- A new number for a block: one that is new, or one that no live number means. -/
theorem WR.fresh' {E E' : Env} {w0 : World} {h : T GO} {nx k n' : Nat} {w w' : World} (hW : WR CR E w0 h nx w) (hn1 : nx ≤ n') (hn2 : k < n') {o : GO} {cb co : Nat} (hE : E.le E') (hm : E'.m k = some (cb, co)) (hother : ∀ g, g ≠ k → E'.m g = E.m g)
    (hfree : ∀ g q c', h.get g = some q → E.m g ≠ some (cb, c')) (hn : w0.heap.size ≤ cb) (hheap : ∀ b, b ≠ cb → w'.heap[b]? = w.heap[b]?) (hsize : w.heap.size ≤ w'.heap.size) (h2 : w'.tape = w.tape) (h3 : w'.os = w.os) (h4 : w'.output = w.output)
    (hsz : ∀ b, 0 < E'.sz b → b ≠ cb → 0 < E.sz b ∧ E'.sz b = E.sz b) (hszc : 0 < E'.sz cb → ∃ c el fz, w'.heap[cb]? = some (.cells c el fz) ∧ E'.sz cb ≤ c.size)
    (ho : OR CR E' w0.heap.size w' k o) : WR CR E' w0 (h.set k o) n' w' where
  obj g q hg := by
    rw [T.get_set] at hg
    by_cases e : g = k
    · rw [if_pos e] at hg; cases hg; subst e; exact ho
    · rw [if_neg e] at hg
      refine OR.mono CR hE (hW.obj g q hg) (fun cb' co' hm' => hheap _ ?_) (fun cb' co' c el fz hm' hh hs => ?_)
      · intro e'; subst e'
        exact hfree g q co' hg hm'
      · have e' : cb' ≠ cb := fun e' => by subst e'; exact hfree g q co' hg hm'
        rcases Nat.eq_zero_or_pos (E'.sz cb') with h0 | h0
        · omega
        · have := (hsz cb' h0 e').2; omega
  inj g g' q q' b c c' h1 h2 h3 h4 := by
    rw [T.get_set] at h1 h2
    by_cases e : g = k
    · by_cases e' : g' = k
      · rw [e, e']
      · exfalso
        subst e
        rw [if_neg e'] at h2
        rw [hm] at h3; cases h3
        rw [hother g' e'] at h4
        exact hfree g' q' c' h2 h4
    · rw [if_neg e] at h1
      by_cases e' : g' = k
      · exfalso
        subst e'
        rw [hm] at h4; cases h4
        rw [hother g e] at h3
        exact hfree g q c h1 h3
      · rw [if_neg e'] at h2
        rw [hother g e] at h3; rw [hother g' e'] at h4
        exact hW.inj g g' q q' b c c' h1 h2 h3 h4
  lt g x hg := by
    by_cases e : g = k
    · omega
    · rw [hother g e] at hg; have := hW.lt g x hg; omega
  sz b hb := by
    by_cases e : b = cb
    · subst e; exact hszc hb
    · obtain ⟨h5, h6⟩ := hsz b hb e
      rw [hheap b e, h6]; exact hW.sz b h5
  fr := ⟨h2.trans hW.fr.tape, h3.trans hW.fr.os, h4.trans hW.fr.output, Nat.le_trans hW.fr.size hsize, fun b hb => by rw [hheap b (by omega)]; exact hW.fr.old b hb⟩
theorem WR.fresh {E E' : Env} {w0 : World} {h : T GO} {nx k : Nat} {w w' : World} (hW : WR CR E w0 h nx w) (hk : nx ≤ k) {o : GO} {cb co : Nat} (hE : E.le E') (hm : E'.m k = some (cb, co)) (hother : ∀ g, g ≠ k → E'.m g = E.m g)
    (hfree : ∀ g q c', h.get g = some q → E.m g ≠ some (cb, c')) (hn : w0.heap.size ≤ cb) (hheap : ∀ b, b ≠ cb → w'.heap[b]? = w.heap[b]?) (hsize : w.heap.size ≤ w'.heap.size) (h2 : w'.tape = w.tape) (h3 : w'.os = w.os) (h4 : w'.output = w.output)
    (hsz : ∀ b, 0 < E'.sz b → b ≠ cb → 0 < E.sz b ∧ E'.sz b = E.sz b) (hszc : 0 < E'.sz cb → ∃ c el fz, w'.heap[cb]? = some (.cells c el fz) ∧ E'.sz cb ≤ c.size)
    (ho : OR CR E' w0.heap.size w' k o) : WR CR E' w0 (h.set k o) (k + 1) w' :=
  WR.fresh' hW (Nat.le_succ_of_le hk) (Nat.lt_succ_self k) hE hm hother hfree hn hheap hsize h2 h3 h4 hsz hszc ho

/-- A number more, for a block with room for n cells. -/
def Env.add (E : Env) (g cb co n : Nat) : Env := { m := fun x => if x = g then some (cb, co) else E.m x, sz := fun b => if b = cb then n else E.sz b }
theorem WR.alloc' {E : Env} {w0 : World} {h : T GO} {nx k n' : Nat} {w : World} (hW : WR CR E w0 h nx w) (hk : E.m k = none) (hn1 : nx ≤ n') (hn2 : k < n') {o : GO} (q : Obj) (n : Nat)
    (hq : 0 < n → ∃ c el fz, q = .cells c el fz ∧ n ≤ c.size)
    (ho : ∀ E', E' = E.add k w.heap.size 0 n → E.le E' → OR CR E' w0.heap.size (w.alloc q) k o) :
    E.le (E.add k w.heap.size 0 n) ∧ (E.add k w.heap.size 0 n).m k = some (w.heap.size, 0) ∧ (E.add k w.heap.size 0 n).sz w.heap.size = n ∧ WR CR (E.add k w.heap.size 0 n) w0 (h.set k o) n' (w.alloc q) := by
  have hsz0 : E.sz w.heap.size = 0 := by
    rcases Nat.eq_zero_or_pos (E.sz w.heap.size) with h0 | h0
    · exact h0
    · obtain ⟨c, el, fz, h1, _⟩ := hW.sz _ h0
      have := (Array.getElem?_eq_some_iff.1 h1).1; omega
  have hle : E.le (E.add k w.heap.size 0 n) := by
    refine ⟨fun g x hg => ?_, fun b => ?_⟩
    · simp only [Env.add]
      rw [if_neg (fun e => by rw [e, hk] at hg; cases hg)]; exact hg
    · simp only [Env.add]
      by_cases e : b = w.heap.size
      · rw [if_pos e, e, hsz0]; omega
      · rw [if_neg e]; exact Nat.le_refl _
  have hm : (E.add k w.heap.size 0 n).m k = some (w.heap.size, 0) := by simp [Env.add]
  have hs : (E.add k w.heap.size 0 n).sz w.heap.size = n := by simp [Env.add]
  refine ⟨hle, hm, hs, WR.fresh' hW hn1 hn2 hle hm (fun g hg => by simp [Env.add, hg]) ?_ hW.fr.size ?_ ?_ rfl rfl rfl ?_ ?_ (ho _ rfl hle)⟩
  · intro g q' c' hg hm'
    obtain ⟨cb, co, h1, h2⟩ := (hW.obj g q' hg).block
    rw [h1] at hm'; cases hm'
    omega
  · intro b hb
    show (w.heap.push q)[b]? = _
    rw [Array.getElem?_push, if_neg hb]
  · show w.heap.size ≤ (w.heap.push q).size
    rw [Array.size_push]; omega
  · intro b hb e
    simp only [Env.add] at hb ⊢
    rw [if_neg e] at hb ⊢
    exact ⟨hb, rfl⟩
  · intro hpos
    rw [hs] at hpos ⊢
    obtain ⟨c, el, fz, rfl, hc⟩ := hq hpos
    refine ⟨c, el, fz, ?_, hc⟩
    show (w.heap.push _)[w.heap.size]? = _
    simp
theorem WR.alloc {E : Env} {w0 : World} {h : T GO} {nx k : Nat} {w : World} (hW : WR CR E w0 h nx w) (hk : nx ≤ k) {o : GO} (q : Obj) (n : Nat)
    (hq : 0 < n → ∃ c el fz, q = .cells c el fz ∧ n ≤ c.size)
    (ho : ∀ E', E' = E.add k w.heap.size 0 n → E.le E' → OR CR E' w0.heap.size (w.alloc q) k o) :
    E.le (E.add k w.heap.size 0 n) ∧ (E.add k w.heap.size 0 n).m k = some (w.heap.size, 0) ∧ (E.add k w.heap.size 0 n).sz w.heap.size = n ∧ WR CR (E.add k w.heap.size 0 n) w0 (h.set k o) (k + 1) (w.alloc q) :=
  WR.alloc' hW (by
    cases hm : E.m k with
    | none => rfl
    | some x => have := hW.lt k x hm; omega) (Nat.le_succ_of_le hk) (Nat.lt_succ_self k) q n hq ho
end
end Go.Gh

/- Operations on memory: what they do to the run's memory. -/
namespace Go.Gh
set_option linter.unusedVariables false

structure MS where
  v : GV
  h : T GO
  nx : Nat

section
variable {β : Type}
noncomputable def onCells (d : β) (o : Option GO) (f : T GV → Nat → Nat → GV → Bool → β) : β :=
  Option.rec d (fun o => GO.casesOn o f (fun _ _ => d) (fun _ _ => d) (fun _ _ _ _ => d) (fun _ _ _ _ _ _ => d) d) o
noncomputable def onMapO (d : β) (o : Option GO) (f : List (GV × GV × Nat) → Nat → β) : β :=
  Option.rec d (fun o => GO.casesOn o (fun _ _ _ _ _ => d) f (fun _ _ => d) (fun _ _ _ _ => d) (fun _ _ _ _ _ _ => d) d) o
noncomputable def onSiter (d : β) (o : Option GO) (f : List Nat → Nat → β) : β :=
  Option.rec d (fun o => GO.casesOn o (fun _ _ _ _ _ => d) (fun _ _ => d) f (fun _ _ _ _ => d) (fun _ _ _ _ _ _ => d) d) o
noncomputable def onMiter (d : β) (o : Option GO) (f : Option Nat → Nat → List Nat → Nat → β) : β :=
  Option.rec d (fun o => GO.casesOn o (fun _ _ _ _ _ => d) (fun _ _ => d) (fun _ _ => d) f (fun _ _ _ _ _ _ => d) d) o
end
noncomputable def cellAt (t : T GV) (d : GV) (i : Nat) : GV := Option.rec d (fun v => v) (t.get i)

noncomputable def mNew (h : T GO) (nx : Nat) (zs : List GV) (f : Nat → GV) : Option MS := some ⟨f nx, h.set nx (.cells (T.lay zs 0 .nil) 0 zs.length .bad false), Nat.succ nx⟩
noncomputable def mAllocr (h : T GO) (nx : Nat) (n : Nat) (d : GV) (f : Nat → GV) : Option MS := some ⟨f nx, h.set nx (.cells .nil 0 n d false), Nat.succ nx⟩
noncomputable def mBox (h : T GO) (nx : Nat) (v : GV) : Option MS := Option.rec none (fun l => mNew h nx l (fun k => .ptr k 0)) (cellsOf v)
noncomputable def mBsl (t : T GV) (h : T GO) (nx : Nat) (sz len : Nat) (zs : List GV) (ps : List (Nat × Nat × Od)) : Option MS :=
  Option.rec none (fun l => mNew h nx l (fun k => .sl k 0 len len true sz)) (gfill (bldEv t ps) zs)
noncomputable def mLd1 (h : T GO) (nx : Nat) (a : GV) : Option MS := onPtr none a fun b o => onCells none (h.get b) fun t lo n d _ => okIf (Nat.ble (Nat.succ o) n) (some ⟨cellAt t d (Nat.add lo o), h, nx⟩)
noncomputable def mLdn (h : T GO) (nx : Nat) (k : Nat) (a : GV) : Option MS := onPtr none a fun b o => onCells none (h.get b) fun t lo n d _ => okIf (Nat.ble (Nat.add o k) n) (some ⟨.agg (T.read t d k (Nat.add lo o)), h, nx⟩)
noncomputable def allCell (l : List GV) : Bool := List.rec true (fun v _ ih => band (isCell v) ih) l
/-- cells l are laid at a block's place o -/
noncomputable def putAt (h : T GO) (b o : Nat) (l : List GV) : Option (T GO) :=
  onCells none (h.get b) fun t lo n d ro => okIf (band (bnot ro) (band (Nat.ble (Nat.add o l.length) n) (allCell l))) (some (h.set b (.cells (T.lay l (Nat.add lo o) t) lo n d ro)))
noncomputable def mSt1 (h : T GO) (nx : Nat) (a v : GV) : Option MS := onPtr none a fun b o => Option.rec none (fun h' => some ⟨.bad, h', nx⟩) (putAt h b o [v])
noncomputable def mStn (h : T GO) (nx : Nat) (k : Nat) (a v : GV) : Option MS := onPtr none a fun b o => onAgg none v fun l => okIf (Nat.beq l.length k) (Option.rec none (fun h' => some ⟨.bad, h', nx⟩) (putAt h b o l))
/-- n elements of zeros -/
noncomputable def reps (zs : List GV) (n : Nat) : List GV := Nat.rec [] (fun _ ih => zs ++ ih) n
noncomputable def mMksl (h : T GO) (nx : Nat) (sz bytes : Nat) (zs : List GV) (l c : GV) : Option MS :=
  Option.rec none (fun l => Option.rec none (fun c => okIf (band (Nat.ble l c) (band (Nat.ble c 1099511627776) (Nat.ble (Nat.mul bytes c) 1099511627776)))
    (Bool.rec (mNew h nx (reps zs c) (fun k => .sl k 0 l c true sz)) (mAllocr h nx c (zs.headD .bad) (fun k => .sl k 0 l c true sz)) (Nat.beq sz 1))) (natOf c)) (natOf l)
/-- zeros are appended to nothing -/
noncomputable def mAppz (h : T GO) (nx : Nat) (sz bytes : Nat) (zs : List GV) (s x : GV) : Option MS :=
  onSl none s (Option.rec none (fun n => okIf (band (Nat.ble 1 n) (band (Nat.ble n 1073741824) (Nat.ble (Nat.mul n bytes) 1099511627776))) (mNew h nx (reps zs n) (fun k => .sl k 0 n n false sz))) (natOf x)) (fun _ _ _ _ _ _ => none)
noncomputable def mSlarr (t : T GV) (h : T GO) (nx : Nat) (n sz : Nat) (x : GV) (lo hi mx : Option Od) : Option MS :=
  onPtr none x fun b o => onCells none (h.get b) fun _ _ k _ _ => okIf (Nat.ble (Nat.add o (Nat.mul n sz)) k)
    (Option.rec none (fun l => Option.rec none (fun hh => Option.rec none (fun m => okIf (band (Nat.ble l hh) (band (Nat.ble hh m) (Nat.ble m n)))
      (some ⟨.sl b (Nat.add o (Nat.mul l sz)) (Nat.sub hh l) (Nat.sub m l) true sz, h, nx⟩)) (bnd t mx n)) (bnd t hi n)) (bnd t lo 0))
noncomputable def isInt (v : GV) : Bool := onInt false v fun _ _ => true
noncomputable def mMkmap (t : T GV) (h : T GO) (nx : Nat) (x : Option Od) : Option MS := okIf (Option.rec true (fun x => isInt (ev t x)) x) (some ⟨.mp nx, h.set nx (.map [] 0), Nat.succ nx⟩)
noncomputable def mMlen (h : T GO) (nx : Nat) (m : GV) : Option MS := onMap none m (some ⟨.int .i64 (Int.ofNat 0), h, nx⟩) fun r => onMapO none (h.get r) fun es _ => some ⟨.int .i64 (Int.ofNat es.length), h, nx⟩

noncomputable def gfind (k : KT) (key : GV) (es : List (GV × GV × Nat)) : Nat → Option (Option (Nat × GV × Nat)) :=
  List.rec (motive := fun _ => Nat → Option (Option (Nat × GV × Nat))) (fun _ => some none)
    (fun e _ ih i => Option.rec none (fun b => Bool.rec (ih (Nat.succ i)) (some (some (i, e.2.1, e.2.2))) b) (keq k key e.1)) es
noncomputable def keyFits (k : KT) (key : GV) : Bool := KT.casesOn k (fun _ => true) (fun l => onAgg false key fun xs => Nat.beq xs.length l.length)
noncomputable def setAt (l : List (GV × GV × Nat)) (i : Nat) (x : GV × GV × Nat) : List (GV × GV × Nat) := l.take i ++ x :: l.drop (Nat.succ i)
noncomputable def mLook (h : T GO) (nx : Nat) (k : KT) (ok : Bool) (z : GV) (m key : GV) : Option MS :=
  okIf (keyFits k key) (onMap none m (some ⟨Bool.rec z (.tup [z, .bool false]) ok, h, nx⟩) fun r => onMapO none (h.get r) fun es _ =>
    Option.rec none (fun f => Option.rec (some ⟨Bool.rec z (.tup [z, .bool false]) ok, h, nx⟩) (fun p => some ⟨Bool.rec p.2.1 (.tup [p.2.1, .bool true]) ok, h, nx⟩) f) (gfind k key es 0))
noncomputable def mMupd (h : T GO) (nx : Nat) (k : KT) (m key v : GV) : Option MS :=
  okIf (keyFits k key) (onMap none m none fun r => onMapO none (h.get r) fun es cl =>
    Option.rec none (fun f => Option.rec (some ⟨.bad, h.set r (.map (es ++ [(key, v, cl)]) (Nat.succ cl)), nx⟩) (fun p => some ⟨.bad, h.set r (.map (setAt es p.1 (key, v, p.2.2)) cl), nx⟩) f) (gfind k key es 0))
noncomputable def mMent (h : T GO) (nx : Nat) (k : KT) (z : GV) (m key : GV) : Option MS :=
  okIf (keyFits k key) (onMap none m none fun r => onMapO none (h.get r) fun es cl =>
    Option.rec none (fun f => Option.rec (some ⟨.tup [z, .int .i64 (Int.ofNat cl)], h.set r (.map (es ++ [(key, z, cl)]) (Nat.succ cl)), nx⟩)
      (fun p => some ⟨.tup [p.2.1, .int .i64 (Int.ofNat p.2.2)], h.set r (.map (setAt es p.1 (key, p.2.1, p.2.2)) cl), nx⟩) f) (gfind k key es 0))
noncomputable def bfind (b : Nat) (es : List (GV × GV × Nat)) : Nat → Option (Nat × GV × GV) :=
  List.rec (motive := fun _ => Nat → Option (Nat × GV × GV)) (fun _ => none) (fun e _ ih i => Bool.rec (ih (Nat.succ i)) (some (i, e.1, e.2.1)) (Nat.beq e.2.2 b)) es
noncomputable def mEst (h : T GO) (nx : Nat) (m s v : GV) : Option MS :=
  onMap none m none fun r => onMapO none (h.get r) fun es cl => Option.rec none (fun b => Option.rec none (fun p => some ⟨.bad, h.set r (.map (setAt es p.1 (p.2.1, v, b)) cl), nx⟩) (bfind b es 0)) (natOf s)
noncomputable def mMdel (h : T GO) (nx : Nat) (k : KT) (m key : GV) : Option MS :=
  okIf (keyFits k key) (onMap none m (some ⟨.tup [], h, nx⟩) fun r => onMapO none (h.get r) fun es cl =>
    Option.rec none (fun f => Option.rec (some ⟨.tup [], h, nx⟩) (fun p => some ⟨.tup [], h.set r (.map (es.take p.1 ++ es.drop (Nat.succ p.1)) cl), nx⟩) f) (gfind k key es 0))
noncomputable def mMclr (h : T GO) (nx : Nat) (m : GV) : Option MS := onMap none m (some ⟨.tup [], h, nx⟩) fun r => onMapO none (h.get r) fun _ cl => some ⟨.tup [], h.set r (.map [] cl), nx⟩
noncomputable def mSclr (h : T GO) (nx : Nat) (zs : List GV) (x : GV) : Option MS :=
  onSl none x (some ⟨.tup [], h, nx⟩) fun b o l _ _ z => Bool.rec (okIf (Nat.beq z zs.length) (Option.rec none (fun h' => some ⟨.tup [], h', nx⟩) (putAt h b o (reps zs l)))) (some ⟨.tup [], h, nx⟩) (Nat.beq l 0)
noncomputable def mRngm (h : T GO) (nx : Nat) (m : GV) : Option MS :=
  onMap none m (some ⟨.ptr nx 0, h.set nx (.miter none 0 [] 0), Nat.succ nx⟩) fun r => onMapO none (h.get r) fun _ cl => some ⟨.ptr nx 0, h.set nx (.miter (some r) cl [] cl), Nat.succ nx⟩
noncomputable def mRngs (h : T GO) (nx : Nat) (x : GV) : Option MS := onStr none x fun s => some ⟨.ptr nx 0, h.set nx (.siter s 0), Nat.succ nx⟩
noncomputable def memN (n : Nat) (l : List Nat) : Bool := List.rec false (fun x _ ih => Bool.rec ih true (Nat.beq n x)) l
noncomputable def leftOf (seen : List Nat) (es : List (GV × GV × Nat)) : List (GV × GV × Nat) := List.rec [] (fun e _ ih => Bool.rec (e :: ih) ih (memN e.2.2 seen)) es
noncomputable def noneBelow (b : Nat) (es : List (GV × GV × Nat)) : Bool := List.rec true (fun e _ ih => band (Nat.ble b e.2.2) ih) es
noncomputable def mNxtm (h : T GO) (nx : Nat) (x : GV) : Option MS :=
  onPtr none x fun i o => okIf (Nat.beq o 0) (onMiter none (h.get i) fun m since seen last =>
    Option.rec (some ⟨.tup [.bool false], h, nx⟩) (fun r => onMapO none (h.get r) fun es cl =>
      okIf (bnot (band (bnot seen.isEmpty) (band (bnot es.isEmpty) (noneBelow last es))))
        (List.casesOn (leftOf seen es) (some ⟨.tup [.bool false], h, nx⟩)
          (fun e rest => okIf (band rest.isEmpty (Nat.ble (Nat.succ e.2.2) since)) (some ⟨.tup [.bool true, e.1, e.2.1], h.set i (.miter (some r) since (seen ++ [e.2.2]) cl), nx⟩)))) m)
noncomputable def mNxts (h : T GO) (nx : Nat) (x : GV) : Option MS :=
  onPtr none x fun i o => okIf (Nat.beq o 0) (onSiter none (h.get i) fun s p => Option.rec (some ⟨.tup [.bool false], h, nx⟩)
    (fun c => okIf (Nat.ble (Nat.succ c) 128) (some ⟨.tup [.bool true, .int .i64 (Int.ofNat p), .int .i32 (Int.ofNat c)], h.set i (.siter s (Nat.succ p)), nx⟩)) (s[p]?))
noncomputable def mEntry (h : T GO) (nx : Nat) (x : GV) : Option MS :=
  onPtr none x fun i o => okIf (Nat.beq o 0) (onMiter none (h.get i) fun m _ seen last => Option.rec none (fun r => onMapO none (h.get r) fun es cl => okIf (Nat.beq cl last)
    (Option.rec none (fun b => Option.rec none (fun p => some ⟨.tup [p.2.1, p.2.2], h, nx⟩) (bfind b es 0)) seen.getLast?)) m)

/-- what a slice's first n elements are, as cells -/
noncomputable def rowOf (h : T GO) (b o k : Nat) : Option (List GV) := onCells none (h.get b) fun t lo n d _ => okIf (Nat.ble (Nat.add o k) n) (some (T.read t d k (Nat.add lo o)))
noncomputable def srcOf (h : T GO) (sz : Nat) (x : GV) (k : Nat → List GV → Option MS) : Option MS :=
  onSl none x (k 0 []) fun b o l _ _ z => okIf (Nat.beq z sz) (Bool.rec (Option.rec none (fun r => k l r) (rowOf h b o (Nat.mul l sz))) (k 0 []) (Nat.beq l 0))
noncomputable def srcS (x : GV) (k : Nat → List GV → Option MS) : Option MS := onStr none x fun s => k s.length (s.map fun c => .int .u8 (Int.ofNat c))
/-- a slice's elements in a block of a new number; more cells behind them -/
noncomputable def mGrow (h : T GO) (nx : Nat) (sz b o len : Nat) (xs : List GV) (need : Nat) (keep : Bool) : Option MS :=
  onCells none (h.get b) fun t lo n d ro => okIf (band (Nat.ble (Nat.add o (Nat.mul len sz)) n) (band (Nat.ble need 1073741824) (band (Bool.rec (bnot ro) true keep) (allCell xs))))
    (some ⟨.sl nx 0 need need false sz, T.set (Bool.rec (h.del b) h keep) nx (.cells (T.lay xs (Nat.add lo (Nat.add o (Nat.mul len sz))) t) (Nat.add lo o) (Nat.mul need sz) d false), Nat.succ nx⟩)
noncomputable def mApp1 (h : T GO) (nx : Nat) (sz : Nat) (s : GV) (m : Nat) (xs : List GV) : Option MS :=
  onSl none s (Bool.rec (okIf (Nat.ble m 1073741824) (mNew h nx xs (fun k => .sl k 0 m m false sz))) (some ⟨.nils, h, nx⟩) (Nat.beq m 0))
    fun b o len cap ex z => okIf (Nat.beq z sz) (Bool.rec
      (Bool.rec (mGrow h nx sz b o len xs (Nat.add len m) ex)
        (Option.rec none (fun h' => some ⟨.sl b o (Nat.add len m) cap ex sz, h', nx⟩) (putAt h b (Nat.add o (Nat.mul len sz)) xs)) (Nat.ble (Nat.add len m) cap))
      (some ⟨s, h, nx⟩) (Nat.beq m 0))
noncomputable def mApp (h : T GO) (nx : Nat) (sz : Nat) (s x : GV) : Option MS := srcOf h sz x fun m xs => mApp1 h nx sz s m xs
noncomputable def mApps (h : T GO) (nx : Nat) (s x : GV) : Option MS := srcS x fun m xs => mApp1 h nx 1 s m xs
noncomputable def mCopy1 (h : T GO) (nx : Nat) (sz : Nat) (d : GV) (m : Nat) (xs : List GV) : Option MS :=
  onSl none d (some ⟨.int .i64 (Int.ofNat 0), h, nx⟩) fun b o len _ _ z => okIf (Nat.beq z sz)
    (Bool.rec (Option.rec none (fun h' => some ⟨.int .i64 (Int.ofNat (nmin m len)), h', nx⟩) (putAt h b o (xs.take (Nat.mul (nmin m len) sz)))) (some ⟨.int .i64 (Int.ofNat 0), h, nx⟩) (Nat.beq (nmin m len) 0))
noncomputable def mCopy (h : T GO) (nx : Nat) (sz : Nat) (d x : GV) : Option MS := srcOf h sz x fun m xs => mCopy1 h nx sz d m xs
noncomputable def mCopys (h : T GO) (nx : Nat) (d x : GV) : Option MS := srcS x fun m xs => mCopy1 h nx 1 d m xs
noncomputable def mS2b (h : T GO) (nx : Nat) (x : GV) : Option MS := onStr none x fun s => mNew h nx (s.map fun c => .int .u8 (Int.ofNat c)) fun k => .sl k 0 s.length s.length false 1
noncomputable def byteOfV (v : GV) : Option Nat := onInt none v fun k n => okIf (kq k .u8) (Int.casesOn n (fun m => some (Nat.mod m 256)) (fun _ => none))
noncomputable def bytesOfV (l : List GV) : Option (List Nat) := List.rec (some []) (fun v _ ih => Option.rec none (fun c => Option.rec none (fun r => some (c :: r)) ih) (byteOfV v)) l
noncomputable def mB2s (h : T GO) (nx : Nat) (x : GV) : Option MS := srcOf h 1 x fun _ xs => Option.rec none (fun s => some ⟨.str s, h, nx⟩) (bytesOfV xs)
noncomputable def mClone (h : T GO) (nx : Nat) (x : GV) : Option MS := onIf none x none fun t v => onMap none v none fun r => onMapO none (h.get r) fun es cl => some ⟨.iface t (.mp nx), h.set nx (.map es cl), Nat.succ nx⟩
noncomputable def findN (c : Nat) (s : List Nat) : Nat → Option Nat := List.rec (motive := fun _ => Nat → Option Nat) (fun _ => none) (fun x _ ih i => Bool.rec (ih (Nat.succ i)) (some i) (Nat.beq x c)) s
noncomputable def mIxb (h : T GO) (nx : Nat) (x c : GV) : Option MS := onStr none x fun s => Option.rec none (fun b => some ⟨.int .i64 (Option.rec (Int.negSucc 0) (fun i => Int.ofNat i) (findN b s 0)), h, nx⟩) (byteOfV c)

noncomputable def mf (t : T GV) (h : T GO) (nx : Nat) (m : Mf) : Option MS :=
  Mf.casesOn m (fun zs => mNew h nx zs (fun k => .ptr k 0)) (fun n d => mAllocr h nx n d (fun k => .ptr k 0)) (fun x => mBox h nx (ev t x)) (fun sz len zs ps => mBsl t h nx sz len zs ps)
    (fun x => mLd1 h nx (ev t x)) (fun n x => mLdn h nx n (ev t x)) (fun a x => mSt1 h nx (ev t a) (ev t x)) (fun n a x => mStn h nx n (ev t a) (ev t x)) (fun sz b zs l c => mMksl h nx sz b zs (ev t l) (ev t c))
    (fun n sz x lo hi mx => mSlarr t h nx n sz (ev t x) lo hi mx) (fun x => mMkmap t h nx x) (fun x => mMlen h nx (ev t x)) (fun k ok z m key => mLook h nx k ok z (ev t m) (ev t key)) (fun k m key v => mMupd h nx k (ev t m) (ev t key) (ev t v))
    (fun k z m key => mMent h nx k z (ev t m) (ev t key)) (fun m s v => mEst h nx (ev t m) (ev t s) (ev t v)) (fun k m key => mMdel h nx k (ev t m) (ev t key)) (fun m => mMclr h nx (ev t m)) (fun zs x => mSclr h nx zs (ev t x))
    (fun x => mRngm h nx (ev t x)) (fun x => mRngs h nx (ev t x)) (fun x => mNxtm h nx (ev t x)) (fun x => mNxts h nx (ev t x)) (fun x => mEntry h nx (ev t x)) (fun sz _ s x => mApp h nx sz (ev t s) (ev t x)) (fun s x => mApps h nx (ev t s) (ev t x)) (fun sz bytes zs s x => mAppz h nx sz bytes zs (ev t s) (ev t x))
    (fun sz d s => mCopy h nx sz (ev t d) (ev t s)) (fun d s => mCopys h nx (ev t d) (ev t s)) (fun x => mS2b h nx (ev t x)) (fun x => mB2s h nx (ev t x)) (fun x => mClone h nx (ev t x)) (fun b c => mIxb h nx (ev t b) (ev t c))
end Go.Gh

/- Operations on memory, calls and code: how they are read off the program. -/
namespace Go.Gh
set_option linter.unusedVariables false

inductive EX where | clone | ixb
/-- What the reading of the program leans on. -/
structure Cx where
  tb : T TypeInfo
  ng : Nat
  ex : T EX
  nt : Nat

def sameZ (a b : GV) : Bool :=
  match a, b with
  | .int k n, .int k' n' => decide (k = k') && decide (n = n')
  | .bool x, .bool y => x == y
  | .nilp, .nilp => true
  | .nils, .nils => true
  | .nilm, .nilm => true
  | .nilf, .nilf => true
  | .nili, .nili => true
  | _, _ => false
theorem sameZ_eq {a b : GV} (h : sameZ a b = true) : a = b := by
  unfold sameZ at h
  split at h <;> first | rfl | (cases h; done) | skip
  · simp only [Bool.and_eq_true, decide_eq_true_eq] at h; rw [h.1, h.2]
  · rw [beq_iff_eq] at h; rw [h]
noncomputable def cAlloc (zs : List GV) : Mf :=
  match zs with
  | d :: r => if 4 < r.length ∧ r.all (sameZ d) = true then .allocr (r.length + 1) d else .alloc zs
  | [] => .alloc []
noncomputable def cAppend (X : Cx) (P : Program) (st xt : TypeId) (s x : Operand) : Option Mf :=
  match und X.tb st, und X.tb xt, cod X.ng s, cod X.ng x with
  | some (.slice e), some .string, some a, some b => (match szOf X.tb e, und X.tb e, (X.tb.get e).bind (·.zero) with
    | some 1, some (.int .u8), some (.int .u8 0) => if ((X.tb.get e).map (·.bytes)) = some 1 then some (.apps a b) else none
    | _, _, _ => none)
  | some (.slice e), some (.slice _), some a, some b => (match szOf X.tb e, (X.tb.get e).map (·.bytes), zeroCellsOf X.tb e with
    | some z, some by_, some zs => if by_ ≤ 1024 ∧ zs.length = z then some (.app z by_ a b) else none
    | _, _, _ => none)
  | some (.slice e), some (.int _), some a, some b => (match szOf X.tb e, (X.tb.get e).map (·.bytes), zeroCellsOf X.tb e with
    | some z, some by_, some zs => if zs.length = z ∧ 0 < z then some (.appz z by_ zs a b) else none
    | _, _, _ => none)
  | _, _, _, _ => none

noncomputable def cMf (X : Cx) (P : Program) (op : Op) : Option Mf :=
  match op with
  | .alloc t => (zeroCellsOf X.tb t).map cAlloc
  | .box _ x => (cod X.ng x).map .box
  | .buildSlice t len parts => match und X.tb t with
    | some (.slice e) => (match szOf X.tb e, zeroCellsOf X.tb e with
      | some z, some zs => if len * z ≤ 4096 ∧ zs.length = z then (cParts X.ng (fun i => some (i * z, z)) parts.toList).map (.bsl z len (reps zs len)) else none
      | _, _ => none)
    | _ => none
  | .load t x => match und X.tb t, szOf X.tb t, cod X.ng x with
    | some d, some n, some o => some (if aggD d then .ldn n o else .ld1 o)
    | _, _, _ => none
  | .store t a x => match und X.tb t, szOf X.tb t, cod X.ng a, cod X.ng x with
    | some d, some n, some o, some v => if aggD d then some (.stn n o v) else if n = 1 then some (.st1 o v) else none
    | _, _, _, _ => none
  | .makeSlice t l c => match und X.tb t, cod X.ng l, cod X.ng c with
    | some (.slice e), some a, some b => (match szOf X.tb e, (X.tb.get e).map (·.bytes), zeroCellsOf X.tb e with
      | some z, some by_, some zs => if zs.length = z ∧ 0 < z then some (.mksl z by_ zs a b) else none
      | _, _, _ => none)
    | _, _, _ => none
  | .slice t x lo hi mx => match und X.tb t, cod X.ng x, codO X.ng lo, codO X.ng hi, codO X.ng mx with
    | some (.array n e), some a, some l, some h, some m => if (m.isSome && h.isNone) then none else (szOf X.tb e).map fun z => .slarr n z a l h m
    | _, _, _, _, _ => none
  | .makeMap t h => match und X.tb t, codO X.ng h with
    | some (.map _ _), some o => some (.mkmap o)
    | _, _ => none
  | .lookup t m k ok => match und X.tb t, cod X.ng m, cod X.ng k with
    | some (.map kt e), some a, some b => (match ktOf P X.tb kt, zeroOf X.tb e with
      | some q, some z => some (.look q ok z a b)
      | _, _ => none)
    | _, _, _ => none
  | .mapUpdate t m k v => match und X.tb t, cod X.ng m, cod X.ng k, cod X.ng v with
    | some (.map kt _), some a, some b, some c => (ktOf P X.tb kt).map fun q => .mupd q a b c
    | _, _, _, _ => none
  | .insert t m k v => match und X.tb t, cod X.ng m, cod X.ng k, cod X.ng v with
    | some (.map kt _), some a, some b, some c => (ktOf P X.tb kt).map fun q => .mupd q a b c
    | _, _, _, _ => none
  | .mapEntry t m k => match und X.tb t, cod X.ng m, cod X.ng k with
    | some (.map kt e), some a, some b => (match ktOf P X.tb kt, zeroOf X.tb e with
      | some q, some z => some (.ment q z a b)
      | _, _ => none)
    | _, _, _ => none
  | .entryStore _ m s v => match cod X.ng m, cod X.ng s, cod X.ng v with
    | some a, some b, some c => some (.est a b c)
    | _, _, _ => none
  | .range t x => match und X.tb t, cod X.ng x with
    | some (.map _ _), some o => some (.rngm o)
    | some .string, some o => some (.rngs o)
    | _, _ => none
  | .next x s => (cod X.ng x).map fun o => if s then .nxts o else .nxtm o
  | .entry x => (cod X.ng x).map .entry
  | .convert s d x => match und X.tb s, und X.tb d, cod X.ng x with
    | some .string, some (.slice e), some o => (match und X.tb e with
      | some (.int .u8) => some (.s2b o)
      | _ => none)
    | some (.slice e), some .string, some o => (match und X.tb e with
      | some (.int .u8) => some (.b2s o)
      | _ => none)
    | _, _, _ => none
  | .call { callee := .builtin .append, args, argTypes } => match args.toList, argTypes.toList with
    | [s, x], [st, xt] => cAppend X P st xt s x
    | _, _ => none
  | .call { callee := .builtin .copy, args, argTypes } => match args.toList, argTypes.toList with
    | [d, s], [dt, st] => (match und X.tb dt, und X.tb st, cod X.ng d, cod X.ng s with
      | some (.slice e), some .string, some a, some b => (match szOf X.tb e with
        | some 1 => some (.copys a b)
        | _ => none)
      | some (.slice e), some (.slice _), some a, some b => (szOf X.tb e).map fun z => .copy z a b
      | _, _, _, _ => none)
    | _, _ => none
  | .call { callee := .builtin .delete, args, argTypes } => match args.toList, argTypes.toList with
    | [m, k], mt :: _ => (match und X.tb mt, cod X.ng m, cod X.ng k with
      | some (.map kt _), some a, some b => (ktOf P X.tb kt).map fun q => .mdel q a b
      | _, _, _ => none)
    | _, _ => none
  | .call { callee := .builtin .clear, args, argTypes } => match args.toList, argTypes.toList with
    | [x], t :: _ => (match und X.tb t, cod X.ng x with
      | some (.map _ _), some o => some (.mclr o)
      | some (.slice e), some o => (match szOf X.tb e, zeroCellsOf X.tb e with
        | some z, some zs => if zs.length = z then some (.sclr zs o) else none
        | _, _ => none)
      | _, _ => none)
    | _, _ => none
  | .call { callee := .builtin .len, args, argTypes } => match args.toList, argTypes.toList with
    | [x], t :: _ => (match und X.tb t, cod X.ng x with
      | some (.map _ _), some o => some (.mlen o)
      | _, _ => none)
    | _, _ => none
  | .call { callee := .value (.func f), args, .. } => match X.ex.get f, args.toList with
    | some .clone, [x] => (cod X.ng x).map .mclone
    | some .ixb, [x, c] => (match cod X.ng x, cod X.ng c with
      | some a, some b => some (.ixb a b)
      | _, _ => none)
    | _, _ => none
  | _ => none

noncomputable def cOp1 (X : Cx) (P : Program) (op : Op) : GOp :=
  match cPf P X.tb X.ng op with
  | some p => .p p
  | none => match cMf X P op with
    | some m => .m m
    | none => match op with
      | .call { callee := .value (.func f), args, .. } => (match X.ex.get f, cods X.ng args.toList with
        | none, some l => .call f l
        | _, _ => .no)
      | .call { callee := .value x, args, .. } => (match cod X.ng x, cods X.ng args.toList with
        | some o, some l => .dyn o l
        | _, _ => .no)
      | .defer { callee := .value x, args, .. } => (match cod X.ng x, cods X.ng args.toList with
        | some o, some l => .dfr o l
        | _, _ => .no)
      | .call { callee := .builtin .recover, .. } => .rcv
      | .panic x => (match cod X.ng x with
        | some o => .pan o
        | none => .no)
      | _ => .no
noncomputable def cOp (X : Cx) (P : Program) (op : Op) : GOp :=
  match op with
  | .next x false => (match cod X.ng x with
    | some o => .nx o
    | none => .no)
  | _ => cOp1 X P op

noncomputable def cOper (X : Cx) (P : Program) (ops : Array Oper) (o : Oper) : GOper :=
  { dst := (match o.dst with
      | some d => if d < X.nt then some d else none
      | none => none), op := (match o.dst with
      | some d => if d < X.nt then cOp X P o.op else .no
      | none => cOp X P o.op),
    guard := match o.guard with
      | none => none
      | some (j, w) => some ((((ops[j]?).bind (·.dst)).getD X.nt), w) }

/-- Which operations must be ahead. -/
def depsOf (o : Oper) : List Nat := o.after.toList.filterMap fun e => if Region.binds .any e then some e.on else none
/-- With those ahead of them. -/
def ancs (ds : List (List Nat)) : List (List Nat) :=
  ds.foldl (fun acc d => acc ++ [(d.foldl (fun r x => r ++ (acc[x]?).getD []) d).eraseDups]) []
noncomputable def effOf (op : GOp) : Bool :=
  match op with
  | .p _ => false
  | .m (.ld1 _) => false
  | .m (.ldn _ _) => false
  | .m (.look _ _ _ _ _) => false
  | .m (.mlen _) => false
  | .m (.slarr _ _ _ _ _ _) => false
  | _ => true
noncomputable def readM (op : GOp) : Bool := match op with | .m m => !effOf (.m m) | _ => false
/-- may the state of memory c be the one in which operation j comes up? -/
def mayCut (effs : List Bool) (an : List (List Nat)) (j c : Nat) : Bool :=
  (c == 0 || (effs[c - 1]?).getD false) &&
  !((List.range c).any fun i => (effs[i]?).getD false && ((an[i]?).getD []).contains j) &&
  !(((an[j]?).getD []).any fun i => (effs[i]?).getD false && decide (c ≤ i))
/-- is it the one in which it comes up in the text's order? -/
def ownCut (effs : List Bool) (j c : Nat) : Bool := decide (c ≤ j) && (List.range j).all fun i => decide (i < c) || !((effs[i]?).getD false)
noncomputable def cDraw (X : Cx) (P : Program) (ops : Array Oper) : List GD :=
  let gs := ops.toList.map (cOper X P ops)
  let an := ancs (ops.toList.map depsOf)
  let effs := gs.map fun g => effOf g.op
  gs.zipIdx.map fun x =>
    { o := x.1, sl := ((ops[x.2]?).map (·.looksAt ops)).getD [], an := (an[x.2]?).getD [], eff := effOf x.1.op,
      cs := if readM x.1.op = true then (List.range (gs.length + 1)).filter (fun c => mayCut effs an x.2 c && !ownCut effs x.2 c) else [] }

def clash (x y : GD) : Bool :=
  (match x.o.dst with | some d => y.sl.contains d || (match y.o.dst with | some e => decide (d = e) | none => false) | none => false) ||
  (match y.o.dst with | some d => x.sl.contains d | none => false)
/-- what a drawn region must be for its run in the text's order to speak of every order -/
noncomputable def drawOk1 (ds : List (List Nat)) (gs : List GD) (y : GD) (j : Nat) : Bool :=
  (((ds[j]?).getD []).all fun d => decide (d < j)) &&
  (y.an.all fun x => ((ds[j]?).getD []).contains x || ((ds[j]?).getD []).any fun d => (((gs[d]?).map (·.an)).getD []).contains x) &&
  ((gs.take j).zipIdx.all fun x => y.an.contains x.2 || (!clash x.1 y && !(x.1.eff && y.eff))) &&
  (!readM y.o.op || (List.range (gs.length + 1)).all fun c => y.cs.contains c || !mayCut (gs.map (·.eff)) (gs.map (·.an)) j c || ownCut (gs.map (·.eff)) j c)
noncomputable def drawOk (ds : List (List Nat)) (gs : List GD) : Bool := gs.zipIdx.all fun x => drawOk1 ds gs x.1 x.2

/-- operations that make a block and need nothing: they may come in any order among themselves -/
def isAlM (op : GOp) : Bool := match op with
  | .m (.alloc _) => true
  | .m (.allocr _ _) => true
  | .m (.mksl _ _ _ _ _) => true
  | _ => false
def isAlG (g : GD) : Bool := g.o.guard.isNone && g.sl.isEmpty && isAlM g.o.op
def alsOf (gs : List GD) : List Nat := (gs.zipIdx.filter fun x => isAlG x.1).map (·.2)
noncomputable def cDrawA (X : Cx) (P : Program) (ops : Array Oper) : List GD :=
  let gs := cDraw X P ops
  let al := alsOf gs
  let effs := gs.zipIdx.map fun x => x.1.eff && !al.contains x.2
  let an := gs.map (·.an)
  gs.zipIdx.map fun x => { x.1 with eff := x.1.eff && !al.contains x.2, cs := if readM x.1.o.op = true then (List.range (gs.length + 1)).filter (fun c => mayCut effs an x.2 c) else [] }
def isLd (op : GOp) : Bool := match op with
  | .m (.ld1 _) => true
  | .m (.ldn _ _) => true
  | _ => false
noncomputable def alOk (gs : List GD) (al : List Nat) : Bool :=
  (gs.all fun g => !g.eff || al.all fun i => g.an.contains i) && (gs.all fun g => !readM g.o.op || isLd g.o.op) &&
  (gs.zipIdx.all fun x => !readM x.1.o.op || (List.range (gs.length + 1)).all fun c => x.1.cs.contains c || !mayCut (gs.map (·.eff)) (gs.map (·.an)) x.2 c)
/-- a region that ends with a defer statement -/
noncomputable def cDfr (X : Cx) (P : Program) (ops : Array Oper) : Option (Operand × List Operand) → GC
  | none => .reg (ops.toList.map (cOper X P ops))
  | some (x, args) => match cod X.ng x, cods X.ng args with
    | some o, some l => .rdf (ops.toList.dropLast.map (cOper X P ops)) o l
    | _, _ => .no
def isDfr (ops : List Oper) : Option (Operand × List Operand) := match ops.getLast? with
  | some { dst := none, op := .defer { callee := .value x, args, .. }, guard := none, .. } => some (x, args.toList)
  | _ => none
noncomputable def cCode (X : Cx) (P : Program) : Code → GC
  | .skip => .skip
  | .region _ ops false => cDfr X P ops (isDfr ops.toList)
  | .region _ ops true => if drawOk (ops.toList.map depsOf) (cDraw X P ops) = true then .dreg (cDraw X P ops)
    else if (drawOk (ops.toList.map depsOf) (cDrawA X P ops) && alOk (cDrawA X P ops) (alsOf (cDraw X P ops))) = true then .areg (alsOf (cDraw X P ops)) (cDrawA X P ops) else .no
  | .seq a b => .seq (cCode X P a) (cCode X P b)
  | .cond c a b => match cod X.ng c with
    | some o => .cond o (cCode X P a) (cCode X P b)
    | none => .no
  | .block id b => .block id (cCode X P b)
  | .loop b => .loop (cCode X P b)
  | .rangeFunc f ps assign body => match cod X.ng f with
    | some o => if ps.toList.all (· < X.nt) then .rf o ps.toList (cCode X P assign) (cCode X P body) else .no
    | none => .no
  | .exit id => .exit id
  | .scope b => .scope (cCode X P b)
  | .label l => .label l
  | .goto l => .goto l
  | .ret => .ret
  | .refuse _ => .no
end Go.Gh
