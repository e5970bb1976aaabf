/- Code as the run has it; memory as the run has it, and what it says of the machine's. -/
import Derived.Test.YtoekfbfgilbgoaaGreatDoorG10
namespace Go.Gh
set_option linter.unusedVariables false

inductive Mf where
  | alloc (zs : List GV)
  | allocr (n : Nat) (d : GV)
  | box (x : Od)
  | bsl (sz len : Nat) (zs : List GV) (ps : List (Nat × Nat × Od))
  | ld1 (x : Od)
  | ldn (n : Nat) (x : Od)
  | st1 (a x : Od)
  | stn (n : Nat) (a x : Od)
  | mksl (sz bytes : Nat) (zs : List GV) (l c : Od)
  | slarr (n sz : Nat) (x : Od) (lo hi mx : Option Od)
  | mkmap (h : Option Od)
  | mlen (x : Od)
  | look (k : KT) (ok : Bool) (z : GV) (m key : Od)
  | mupd (k : KT) (m key v : Od)
  | ment (k : KT) (z : GV) (m key : Od)
  | est (m s v : Od)
  | mdel (k : KT) (m key : Od)
  | mclr (m : Od)
  | sclr (zs : List GV) (x : Od)
  | rngm (x : Od)
  | rngs (x : Od)
  | nxtm (x : Od)
  | nxts (x : Od)
  | entry (x : Od)
  | app (sz bytes : Nat) (s x : Od)
  | apps (s x : Od)
  | copy (sz : Nat) (d s : Od)
  | copys (d s : Od)
  | s2b (x : Od)
  | b2s (x : Od)
  | mclone (x : Od)
  | ixb (b c : Od)

inductive GOp where
  | p (p : Pf)
  | m (m : Mf)
  | call (f : Nat) (args : List Od)
  | dyn (f : Od) (args : List Od)
  | nx (x : Od)
  | dfr (f : Od) (args : List Od)
  | rcv
  | pan (x : Od)
  | no

structure GOper where
  dst : Option Nat
  op : GOp
  guard : Option (Nat × Bool)

/-- An operation of a region that draws its order: the slots it looks at, the operations that are ahead of it, whether it acts, and the states of memory in which it may come up. -/
structure GD where
  o : GOper
  sl : List Nat
  an : List Nat
  eff : Bool
  cs : List Nat

inductive GC where
  | skip
  | reg (ops : List GOper)
  | dreg (ops : List GD)
  | seq (a b : GC)
  | cond (c : Od) (a b : GC)
  | block (id : Nat) (b : GC)
  | loop (b : GC)
  | rf (f : Od) (ps : List Nat) (assign body : GC)
  | exit (id : Nat)
  | scope (b : GC)
  | label (l : Nat)
  | goto (l : Nat)
  | ret
  | no

inductive GO where
  | cells (t : T GV) (lo n : Nat) (d : GV) (ro : Bool)
  | map (es : List (GV × GV × Nat)) (clock : Nat)
  | siter (s : List Nat) (pos : Nat)
  | miter (m : Option Nat) (since : Nat) (seen : List Nat) (stepped : Nat)
  | loop (state : LoopState) (pending : Option GC) (t : T GV) (ps : List Nat) (assign body : GC)
  | defs

def ER (E : Env) : List (GV × GV × Nat) → List MapEntry → Prop
  | [], l => l = []
  | x :: r, l => ∃ e r', l = e :: r' ∧ R E x.1 e.key ∧ R E x.2.1 e.val ∧ e.born = x.2.2 ∧ ER E r r'
theorem ER.mono {E E' : Env} (h : E.le E') : ∀ {l : List (GV × GV × Nat)} {m : List MapEntry}, ER E l m → ER E' l m
  | [], m, hm => hm
  | x :: r, m, hm => by
    obtain ⟨e, r', rfl, h1, h2, h3, h4⟩ := hm
    exact ⟨e, r', rfl, R.mono h _ _ h1, R.mono h _ _ h2, h3, ER.mono h h4⟩

section
/- How the code of the round of a loop is read: given with the program. -/
variable (CR : Nat → Code → GC → Prop)

/-- the jump that is pending -/
def PE (pe : Option GC) (p : Option Code) : Prop := match pe, p with
  | none, none => True
  | some g, some c => ∀ N, CR N c g
  | _, _ => False
def OR (E : Env) (n0 : Nat) (w : World) (g : Nat) (o : GO) : Prop :=
  match o with
  | .cells t lo n d ro => ∃ cb co c el fz, E.m g = some (cb, co) ∧ w.heap[cb]? = some (.cells c el fz) ∧ co + n ≤ E.sz cb ∧ E.sz cb ≤ c.size ∧ (∀ i, fz.1 ≤ i → i < fz.2 → c.size ≤ i) ∧ (ro = false → n0 ≤ cb) ∧
      ∀ i, i < n → ∃ x, c[co + i]? = some x ∧ R E ((t.get (lo + i)).getD d) x
  | .map es cl => ∃ cb ces, E.m g = some (cb, 0) ∧ w.heap[cb]? = some (.map ces cl) ∧ ER E es ces.toList ∧ n0 ≤ cb
  | .siter s p => ∃ cb, E.m g = some (cb, 0) ∧ w.heap[cb]? = some (.stringIter (bs s) p) ∧ (∀ x ∈ s, x < 256) ∧ n0 ≤ cb
  | .miter m a l b => ∃ cb cm, E.m g = some (cb, 0) ∧ w.heap[cb]? = some (.mapIter cm a l.toArray b) ∧ n0 ≤ cb ∧ (match m, cm with
      | none, none => True
      | some r, some cr => E.m r = some (cr, 0)
      | _, _ => False)
  | .loop st pe t ps ga gb => ∃ cb r, E.m g = some (cb, 0) ∧ w.heap[cb]? = some (.loop r) ∧ n0 ≤ cb ∧ r.state = st ∧ r.params = ps.toArray ∧
      (∃ N, TR E N t r.tmps ∧ (∀ p ∈ ps, p < N) ∧ CR N r.assign ga ∧ CR N r.body gb ∧ PE CR pe r.pending)
  | .defs => ∃ cb, E.m g = some (cb, 0) ∧ w.heap[cb]? = some (.deferred (some [])) ∧ n0 ≤ cb

theorem OR.block {E : Env} {n0 : Nat} {w : World} {g : Nat} {o : GO} (h : OR CR E n0 w g o) : ∃ cb co, E.m g = some (cb, co) ∧ cb < w.heap.size := by
  cases o <;> simp only [OR] at h
  case cells => obtain ⟨cb, co, c, el, fz, h1, h2, _⟩ := h; exact ⟨cb, co, h1, (Array.getElem?_eq_some_iff.1 h2).1⟩
  case map => obtain ⟨cb, c, h1, h2, _⟩ := h; exact ⟨cb, 0, h1, (Array.getElem?_eq_some_iff.1 h2).1⟩
  case siter => obtain ⟨cb, h1, h2, _⟩ := h; exact ⟨cb, 0, h1, (Array.getElem?_eq_some_iff.1 h2).1⟩
  case miter => obtain ⟨cb, cm, h1, h2, _⟩ := h; exact ⟨cb, 0, h1, (Array.getElem?_eq_some_iff.1 h2).1⟩
  case loop => obtain ⟨cb, r, h1, h2, _⟩ := h; exact ⟨cb, 0, h1, (Array.getElem?_eq_some_iff.1 h2).1⟩
  case defs => obtain ⟨cb, h1, h2, _⟩ := h; exact ⟨cb, 0, h1, (Array.getElem?_eq_some_iff.1 h2).1⟩

theorem OR.mono {E E' : Env} {n0 : Nat} {w w' : World} {g : Nat} {o : GO} (hE : E.le E') (h : OR CR E n0 w g o)
    (hw : ∀ cb co, E.m g = some (cb, co) → w'.heap[cb]? = w.heap[cb]?)
    (hs : ∀ cb co c el fz, E.m g = some (cb, co) → w.heap[cb]? = some (.cells c el fz) → E.sz cb ≤ c.size → E'.sz cb ≤ c.size) : OR CR E' n0 w' g o := by
  cases o <;> simp only [OR] at h ⊢
  case cells =>
    obtain ⟨cb, co, c, el, fz, h1, h2, h3, h3', h4, h5, h6⟩ := h
    refine ⟨cb, co, c, el, fz, hE.1 _ _ h1, by rw [hw _ _ h1]; exact h2, Nat.le_trans h3 (hE.2 _), hs _ _ _ _ _ h1 h2 h3', h4, h5, fun i hi => ?_⟩
    obtain ⟨x, hx, hr⟩ := h6 i hi
    exact ⟨x, hx, R.mono hE _ _ hr⟩
  case map => obtain ⟨cb, c, h1, h2, h3, h4⟩ := h; exact ⟨cb, c, hE.1 _ _ h1, by rw [hw _ _ h1]; exact h2, ER.mono hE h3, h4⟩
  case siter => obtain ⟨cb, h1, h2, h3, h4⟩ := h; exact ⟨cb, hE.1 _ _ h1, by rw [hw _ _ h1]; exact h2, h3, h4⟩
  case miter m _ _ _ =>
    obtain ⟨cb, cm, h1, h2, h3, h4⟩ := h
    refine ⟨cb, cm, hE.1 _ _ h1, by rw [hw _ _ h1]; exact h2, h3, ?_⟩
    cases m <;> cases cm <;> first | exact h4 | exact hE.1 _ _ h4
  case loop =>
    obtain ⟨cb, r, h1, h2, h3, h4, h5, N, h6, h7⟩ := h
    exact ⟨cb, r, hE.1 _ _ h1, by rw [hw _ _ h1]; exact h2, h3, h4, h5, N, h6.mono hE, h7⟩
  case defs => obtain ⟨cb, h1, h2, h3⟩ := h; exact ⟨cb, hE.1 _ _ h1, by rw [hw _ _ h1]; exact h2, h3⟩

/-- The world as it was at the start of the run, but for new blocks and the count of draws. -/
structure Fr (w0 w : World) : Prop where
  tape : w.tape = w0.tape
  os : w.os = w0.os
  output : w.output = w0.output
  size : w0.heap.size ≤ w.heap.size
  old : ∀ b, b < w0.heap.size → w.heap[b]? = w0.heap[b]?
theorem Fr.refl (w : World) : Fr w w := ⟨rfl, rfl, rfl, Nat.le_refl _, fun _ _ => rfl⟩
theorem Fr.trans {a b c : World} (h : Fr a b) (k : Fr b c) : Fr a c :=
  ⟨k.tape.trans h.tape, k.os.trans h.os, k.output.trans h.output, Nat.le_trans h.size k.size, fun x hx => (k.old x (Nat.lt_of_lt_of_le hx h.size)).trans (h.old x hx)⟩

structure WR (E : Env) (w0 : World) (h : T GO) (nx : Nat) (w : World) : Prop where
  obj : ∀ g o, h.get g = some o → OR CR E w0.heap.size w g o
  inj : ∀ g g' o o' cb co co', h.get g = some o → h.get g' = some o' → E.m g = some (cb, co) → E.m g' = some (cb, co') → g = g'
  lt : ∀ g x, E.m g = some x → g < nx
  sz : ∀ cb, 0 < E.sz cb → ∃ c el fz, w.heap[cb]? = some (.cells c el fz) ∧ E.sz cb ≤ c.size
  fr : Fr w0 w

variable {CR}
theorem WR.live {E : Env} {w0 : World} {h : T GO} {nx : Nat} {w : World} (hW : WR CR E w0 h nx w) {g : Nat} {o : GO} (hg : h.get g = some o) : g < nx := by
  obtain ⟨cb, co, h1, _⟩ := (hW.obj g o hg).block
  exact hW.lt _ _ h1

/-- The same memory, other draws. -/
theorem WR.same {E : Env} {w0 : World} {h : T GO} {nx : Nat} {w w' : World} (hW : WR CR E w0 h nx w) (h1 : w'.heap = w.heap) (h2 : w'.tape = w.tape) (h3 : w'.os = w.os) (h4 : w'.output = w.output) : WR CR E w0 h nx w' where
  obj g o hg := OR.mono CR (Env.le_refl E) (hW.obj g o hg) (fun _ _ _ => by rw [h1]) (fun _ _ _ _ _ _ _ h => h)
  inj := hW.inj
  lt := hW.lt
  sz cb hc := by rw [h1]; exact hW.sz cb hc
  fr := ⟨h2.trans hW.fr.tape, h3.trans hW.fr.os, h4.trans hW.fr.output, by rw [h1]; exact hW.fr.size, fun b hb => by rw [h1]; exact hW.fr.old b hb⟩
theorem WR.drew {E : Env} {w0 : World} {h : T GO} {nx : Nat} {w : World} (hW : WR CR E w0 h nx w) : WR CR E w0 h nx w.drew := hW.same rfl rfl rfl rfl

/-- A block is forgotten. -/
theorem WR.kill {E : Env} {w0 : World} {h : T GO} {nx : Nat} {w : World} (hW : WR CR E w0 h nx w) (k : Nat) : WR CR E w0 (h.del k) nx w where
  obj g o hg := by
    rw [T.get_del] at hg
    by_cases e : g = k
    · rw [if_pos e] at hg; cases hg
    · rw [if_neg e] at hg; exact hW.obj g o hg
  inj g g' o o' cb co co' h1 h2 h3 h4 := by
    rw [T.get_del] at h1 h2
    by_cases e : g = k
    · rw [if_pos e] at h1; cases h1
    · by_cases e' : g' = k
      · rw [if_pos e'] at h2; cases h2
      · rw [if_neg e] at h1; rw [if_neg e'] at h2
        exact hW.inj g g' o o' cb co co' h1 h2 h3 h4
  lt := hW.lt
  sz := hW.sz
  fr := hW.fr

/-- More numbers are used up. -/
theorem WR.more {E : Env} {w0 : World} {h : T GO} {nx nx' : Nat} {w : World} (hW : WR CR E w0 h nx w) (hn : nx ≤ nx') : WR CR E w0 h nx' w :=
  ⟨hW.obj, hW.inj, fun g x hg => Nat.lt_of_lt_of_le (hW.lt g x hg) hn, hW.sz, hW.fr⟩

/-- A live block gets new contents. -/
theorem WR.upd {E : Env} {w0 : World} {h : T GO} {nx : Nat} {w w' : World} (hW : WR CR E w0 h nx w) {g : Nat} {o o' : GO} {cb co : Nat} (hg : h.get g = some o) (hm : E.m g = some (cb, co)) (hn : w0.heap.size ≤ cb)
    (hheap : ∀ b, b ≠ cb → w'.heap[b]? = w.heap[b]?) (hsize : w'.heap.size = w.heap.size) (h2 : w'.tape = w.tape) (h3 : w'.os = w.os) (h4 : w'.output = w.output)
    (hsz : 0 < E.sz cb → ∃ c el fz, w'.heap[cb]? = some (.cells c el fz) ∧ E.sz cb ≤ c.size) (ho : OR CR E w0.heap.size w' g o') : WR CR E w0 (h.set g o') nx w' where
  obj k q hk := by
    rw [T.get_set] at hk
    by_cases e : k = g
    · rw [if_pos e] at hk; cases hk; subst e; exact ho
    · rw [if_neg e] at hk
      refine OR.mono CR (Env.le_refl E) (hW.obj k q hk) (fun cb' co' hm' => hheap _ ?_) (fun _ _ _ _ _ _ _ h => h)
      intro e'; subst e'
      exact e (hW.inj k g q o _ _ _ hk hg hm' hm)
  inj k k' q q' b c c' h1 h2 h3 h4 := by
    rw [T.get_set] at h1 h2
    by_cases e : k = g
    · by_cases e' : k' = g
      · rw [e, e']
      · subst e; rw [if_neg e'] at h2; exact hW.inj k k' o q' b c c' hg h2 h3 h4
    · rw [if_neg e] at h1
      by_cases e' : k' = g
      · subst e'; exact hW.inj k k' q o b c c' h1 hg h3 h4
      · rw [if_neg e'] at h2; exact hW.inj k k' q q' b c c' h1 h2 h3 h4
  lt := hW.lt
  sz b hb := by
    by_cases e : b = cb
    · subst e; exact hsz hb
    · rw [hheap b e]; exact hW.sz b hb
  fr := ⟨h2.trans hW.fr.tape, h3.trans hW.fr.os, h4.trans hW.fr.output, by rw [hsize]; exact hW.fr.size, fun b hb => by rw [hheap b (by omega)]; exact hW.fr.old b hb⟩

/-- A new number for a block: one that is new, or one that no live number means. -/
theorem WR.fresh {E E' : Env} {w0 : World} {h : T GO} {nx k : Nat} {w w' : World} (hW : WR CR E w0 h nx w) (hk : nx ≤ k) {o : GO} {cb co : Nat} (hE : E.le E') (hm : E'.m k = some (cb, co)) (hother : ∀ g, g ≠ k → E'.m g = E.m g)
    (hfree : ∀ g q c', h.get g = some q → E.m g ≠ some (cb, c')) (hn : w0.heap.size ≤ cb) (hheap : ∀ b, b ≠ cb → w'.heap[b]? = w.heap[b]?) (hsize : w.heap.size ≤ w'.heap.size) (h2 : w'.tape = w.tape) (h3 : w'.os = w.os) (h4 : w'.output = w.output)
    (hsz : ∀ b, 0 < E'.sz b → b ≠ cb → 0 < E.sz b ∧ E'.sz b = E.sz b) (hszc : 0 < E'.sz cb → ∃ c el fz, w'.heap[cb]? = some (.cells c el fz) ∧ E'.sz cb ≤ c.size)
    (ho : OR CR E' w0.heap.size w' k o) : WR CR E' w0 (h.set k o) (k + 1) w' where
  obj g q hg := by
    rw [T.get_set] at hg
    by_cases e : g = k
    · rw [if_pos e] at hg; cases hg; subst e; exact ho
    · rw [if_neg e] at hg
      refine OR.mono CR hE (hW.obj g q hg) (fun cb' co' hm' => hheap _ ?_) (fun cb' co' c el fz hm' hh hs => ?_)
      · intro e'; subst e'
        exact hfree g q co' hg hm'
      · have e' : cb' ≠ cb := fun e' => by subst e'; exact hfree g q co' hg hm'
        rcases Nat.eq_zero_or_pos (E'.sz cb') with h0 | h0
        · omega
        · have := (hsz cb' h0 e').2; omega
  inj g g' q q' b c c' h1 h2 h3 h4 := by
    rw [T.get_set] at h1 h2
    by_cases e : g = k
    · by_cases e' : g' = k
      · rw [e, e']
      · exfalso
        subst e
        rw [if_neg e'] at h2
        rw [hm] at h3; cases h3
        rw [hother g' e'] at h4
        exact hfree g' q' c' h2 h4
    · rw [if_neg e] at h1
      by_cases e' : g' = k
      · exfalso
        subst e'
        rw [hm] at h4; cases h4
        rw [hother g e] at h3
        exact hfree g q c h1 h3
      · rw [if_neg e'] at h2
        rw [hother g e] at h3; rw [hother g' e'] at h4
        exact hW.inj g g' q q' b c c' h1 h2 h3 h4
  lt g x hg := by
    by_cases e : g = k
    · omega
    · rw [hother g e] at hg; have := hW.lt g x hg; omega
  sz b hb := by
    by_cases e : b = cb
    · subst e; exact hszc hb
    · obtain ⟨h5, h6⟩ := hsz b hb e
      rw [hheap b e, h6]; exact hW.sz b h5
  fr := ⟨h2.trans hW.fr.tape, h3.trans hW.fr.os, h4.trans hW.fr.output, Nat.le_trans hW.fr.size hsize, fun b hb => by rw [hheap b (by omega)]; exact hW.fr.old b hb⟩

/-- A number more, for a block with room for n cells. -/
def Env.add (E : Env) (g cb co n : Nat) : Env := { m := fun x => if x = g then some (cb, co) else E.m x, sz := fun b => if b = cb then n else E.sz b }
theorem WR.alloc {E : Env} {w0 : World} {h : T GO} {nx k : Nat} {w : World} (hW : WR CR E w0 h nx w) (hk : nx ≤ k) {o : GO} (q : Obj) (n : Nat)
    (hq : 0 < n → ∃ c el fz, q = .cells c el fz ∧ n ≤ c.size)
    (ho : ∀ E', E' = E.add k w.heap.size 0 n → E.le E' → OR CR E' w0.heap.size (w.alloc q) k o) :
    E.le (E.add k w.heap.size 0 n) ∧ (E.add k w.heap.size 0 n).m k = some (w.heap.size, 0) ∧ (E.add k w.heap.size 0 n).sz w.heap.size = n ∧ WR CR (E.add k w.heap.size 0 n) w0 (h.set k o) (k + 1) (w.alloc q) := by
  have hsz0 : E.sz w.heap.size = 0 := by
    rcases Nat.eq_zero_or_pos (E.sz w.heap.size) with h0 | h0
    · exact h0
    · obtain ⟨c, el, fz, h1, _⟩ := hW.sz _ h0
      have := (Array.getElem?_eq_some_iff.1 h1).1; omega
  have hle : E.le (E.add k w.heap.size 0 n) := by
    refine ⟨fun g x hg => ?_, fun b => ?_⟩
    · have := hW.lt g x hg
      simp only [Env.add]
      rw [if_neg (by omega)]; exact hg
    · simp only [Env.add]
      by_cases e : b = w.heap.size
      · rw [if_pos e, e, hsz0]; omega
      · rw [if_neg e]; exact Nat.le_refl _
  have hm : (E.add k w.heap.size 0 n).m k = some (w.heap.size, 0) := by simp [Env.add]
  have hs : (E.add k w.heap.size 0 n).sz w.heap.size = n := by simp [Env.add]
  refine ⟨hle, hm, hs, WR.fresh hW hk hle hm (fun g hg => by simp [Env.add, hg]) ?_ hW.fr.size ?_ ?_ rfl rfl rfl ?_ ?_ (ho _ rfl hle)⟩
  · intro g q' c' hg hm'
    obtain ⟨cb, co, h1, h2⟩ := (hW.obj g q' hg).block
    rw [h1] at hm'; cases hm'
    omega
  · intro b hb
    show (w.heap.push q)[b]? = _
    rw [Array.getElem?_push, if_neg hb]
  · show w.heap.size ≤ (w.heap.push q).size
    rw [Array.size_push]; omega
  · intro b hb e
    simp only [Env.add] at hb ⊢
    rw [if_neg e] at hb ⊢
    exact ⟨hb, rfl⟩
  · intro hpos
    rw [hs] at hpos ⊢
    obtain ⟨c, el, fz, rfl, hc⟩ := hq hpos
    refine ⟨c, el, fz, ?_, hc⟩
    show (w.heap.push _)[w.heap.size]? = _
    simp
end
end Go.Gh
