/- Operations on memory: rows of cells in the machine's memory. -/
import Derived.Test.YtpdaickealgnhaaGreatDoorHE
import Derived.Laws.Cells
import Derived.Laws.NewFold
import Derived.Laws.MakeOwn
namespace Go.Gh
set_option linter.unusedVariables false

/-- cells vs written from place k on -/
def wrt (c : Array Value) (k : Nat) : List Value → Array Value
  | [] => c
  | v :: r => wrt (c.setIfInBounds k v) (k + 1) r
theorem wrt_size : ∀ (vs : List Value) (c : Array Value) (k : Nat), (wrt c k vs).size = c.size
  | [], c, k => rfl
  | v :: r, c, k => by rw [wrt, wrt_size r]; simp
theorem wrt_get : ∀ (vs : List Value) (c : Array Value) (k i : Nat), k + vs.length ≤ c.size → (wrt c k vs)[i]? = if k ≤ i ∧ i < k + vs.length then vs[i - k]? else c[i]?
  | [], c, k, i, h => by rw [wrt, if_neg (by simp)]
  | v :: r, c, k, i, h => by
    simp only [List.length_cons] at h ⊢
    rw [wrt, wrt_get r _ _ _ (by simp; omega)]
    by_cases h1 : k + 1 ≤ i ∧ i < k + 1 + r.length
    · rw [if_pos h1, if_pos (by omega)]
      obtain ⟨d, hd⟩ : ∃ d, i - k = d + 1 := ⟨i - k - 1, by omega⟩
      rw [hd, show i - (k + 1) = d by omega]; rfl
    · rw [if_neg h1]
      by_cases e : i = k
      · subst e; rw [if_pos (by omega), Array.getElem?_setIfInBounds_self_of_lt (by omega)]; simp
      · rw [if_neg (by omega), Array.getElem?_setIfInBounds_ne (by omega)]

section
variable {P : Program} {w : World}
theorem heap_lt {cb : Nat} {o : Obj} (h : w.heap[cb]? = some o) : cb < w.heap.size := (Array.getElem?_eq_some_iff.1 h).1
theorem setCell_put {cb o : Nat} {c : Array Value} {el : TypeId} {fz : Nat × Nat} (h : w.heap[cb]? = some (.cells c el fz)) (v : Value) :
    w.setCell ⟨cb, o, none⟩ v = w.putObj cb (.cells (c.setIfInBounds o v) el fz) := by
  have hlt := heap_lt h
  unfold World.setCell World.putObj
  congr 1
  apply Array.ext
  · simp
  · intro i h1 h2
    have hi : i < w.heap.size := by simpa using h1
    rw [Array.getElem_modify, Array.getElem_setIfInBounds hi]
    by_cases e : cb = i
    · subst e
      have hv : w.heap[cb] = .cells c el fz := (Array.getElem?_eq_some_iff.1 h).2
      simp [hv]
    · simp [e]
theorem putObj_putObj (cb : Nat) (a b : Obj) : (w.putObj cb a).putObj cb b = w.putObj cb b := by
  unfold World.putObj
  simp
theorem cell_of {cb o : Nat} {c : Array Value} {el : TypeId} {fz : Nat × Nat} (h : w.heap[cb]? = some (.cells c el fz)) : w.cell? ⟨cb, o, none⟩ = c[o]? := by simp [World.cell?, h]
theorem frozen_of {cb o : Nat} {c : Array Value} {el : TypeId} {fz : Nat × Nat} (h : w.heap[cb]? = some (.cells c el fz)) (hf : ∀ i, fz.1 ≤ i → i < fz.2 → c.size ≤ i) (ho : o < c.size) : w.frozen? ⟨cb, o, none⟩ = false := by
  simp only [World.frozen?, h]
  by_cases h1 : fz.1 ≤ o
  · by_cases h2 : o < fz.2
    · have := hf o h1 h2; omega
    · simp [h2]
  · simp [h1]
theorem run_store_of {cb o : Nat} {c : Array Value} {el : TypeId} {fz : Nat × Nat} (h : w.heap[cb]? = some (.cells c el fz)) (hf : ∀ i, fz.1 ≤ i → i < fz.2 → c.size ≤ i) (ho : o < c.size) {v : Value} (hv : v.oneCell' = true) :
    (store ⟨cb, o, none⟩ v).run P w = .ok () (w.putObj cb (.cells (c.setIfInBounds o v) el fz)) := by
  rw [run_store P w _ v _ hv, cell_of h, Array.getElem?_eq_getElem ho]
  simp only [frozen_of h hf ho, Bool.false_eq_true, if_false]
  rw [setCell_put h]
theorem run_storeCells_of {cb o : Nat} : ∀ (vs : List Value) (i : Nat) {w : World} {c : Array Value} {el : TypeId} {fz : Nat × Nat}, w.heap[cb]? = some (.cells c el fz) → (∀ i, fz.1 ≤ i → i < fz.2 → c.size ≤ i) →
    o + i + vs.length ≤ c.size → (∀ v ∈ vs, v.oneCell' = true) → (storeCells ⟨cb, o, none⟩ vs i).run P w = .ok () (w.putObj cb (.cells (wrt c (o + i) vs) el fz))
  | [], i, w, c, el, fz, h, hf, hl, hv => by
    have : w.putObj cb (.cells c el fz) = w := by
      unfold World.putObj
      have hlt := heap_lt h
      have e : w.heap.setIfInBounds cb (.cells c el fz) = w.heap := by
        apply Array.ext
        · simp
        · intro j h1 h2
          rw [Array.getElem_setIfInBounds h2]
          split
          · rename_i e; subst e; exact ((Array.getElem?_eq_some_iff.1 h).2).symm
          · rfl
      rw [e]
    simp only [storeCells, wrt, Sem.run_pure, this]
  | v :: r, i, w, c, el, fz, h, hf, hl, hv => by
    simp only [List.length_cons] at hl
    rw [storeCells, Sem.run_bind, addr_add, run_store_of h hf (by omega) (hv v (by simp)), Result.andThen_ok]
    have h2 : (w.putObj cb (.cells (c.setIfInBounds (o + i) v) el fz)).heap[cb]? = some (.cells (c.setIfInBounds (o + i) v) el fz) := World.putObj_heap_same (heap_lt h)
    rw [run_storeCells_of r (i + 1) h2 (by simpa using hf) (by simp; omega) (fun x hx => hv x (by simp [hx])), putObj_putObj]
    rfl
theorem isCell_one {E : Env} {g : GV} {v : Value} (h : isCell g = true) (hr : R E g v) : v.oneCell' = true := by
  cases g <;> simp only [isCell] at h <;> first | (cases h; done) | skip
  case un k =>
    simp only [R] at hr
    exact (UR.one hr).2
  case k v0 =>
    simp only [R] at hr
    rw [hr.1]; exact hr.2.2
  all_goals
    simp only [R] at hr
    first
      | (subst hr; rfl)
      | (obtain ⟨_, _, _, rfl⟩ := hr; rfl)
      | (obtain ⟨rfl, _⟩ := hr; rfl)
      | (obtain ⟨_, _, _, _, _, rfl, _⟩ := hr; rfl)
      | (obtain ⟨_, _, rfl⟩ := hr; rfl)
      | (obtain ⟨_, _, rfl, _⟩ := hr; rfl)
      | (obtain ⟨_, rfl, _⟩ := hr; rfl)
theorem allCell_one {E : Env} : ∀ {l : List GV} {vs : List Value}, allCell l = true → RL E l vs → ∀ v ∈ vs, v.oneCell' = true
  | [], vs, _, hr => by simp only [RL] at hr; subst hr; simp
  | g :: l, vs, h, hr => by
    obtain ⟨h1, h2⟩ := band_t (show band (isCell g) (allCell l) = true from h)
    simp only [RL] at hr
    obtain ⟨x, r, rfl, hx, hr⟩ := hr
    intro v hv
    rcases List.mem_cons.1 hv with rfl | hv
    · exact isCell_one h1 hx
    · exact allCell_one h2 hr v hv
theorem run_loadCells_of {cb o : Nat} {c : Array Value} {el : TypeId} {fz : Nat × Nat} (h : w.heap[cb]? = some (.cells c el fz)) {n : Nat} (hl : o + n ≤ c.size) :
    (loadCells ⟨cb, o, none⟩ n).run P w = .ok ((c.toList.drop o).take n).toArray w := by
  have e : ((c.toList.drop o).take n).length = n := by simp; omega
  have := run_loadCells_list (P := P) w ⟨cb, o, none⟩ ((c.toList.drop o).take n) (fun j v hv => by
    rw [addr_add, cell_of h]
    have hj : j < n := by
      rcases Nat.lt_or_ge j n with hj | hj
      · exact hj
      · rw [List.getElem?_eq_none (by omega)] at hv; cases hv
    rw [List.getElem?_take_of_lt hj, List.getElem?_drop, Array.getElem?_toList] at hv
    exact hv)
  rw [e] at this
  exact this
end

/-! ### the run's blocks of cells -/
section
variable {CR : Nat → Code → GC → Prop} {P : Program} {E : Env} {w0 w : World} {h : T GO} {nx : Nat}
theorem onCells_some {β : Type} {o : Option GO} {f : T GV → Nat → Nat → GV → Bool → Option β} {r : β} (h : onCells none o f = some r) : ∃ t lo n d ro, o = some (.cells t lo n d ro) ∧ f t lo n d ro = some r := by
  cases o with
  | none => cases h
  | some o => cases o <;> first | exact ⟨_, _, _, _, _, rfl, h⟩ | cases h
theorem orOr {α : Type} (d : α) (o : Option α) : (Option.rec d (fun v => v) o : α) = o.getD d := by cases o <;> rfl
theorem cellAt_eq (t : T GV) (d : GV) (i : Nat) : cellAt t d i = (t.get i).getD d := orOr d _
/-- n cells of a block, read -/
theorem row_ok (hW : WR CR E w0 h nx w) {b : Nat} {t : T GV} {lo n : Nat} {d : GV} {ro : Bool} (hb : h.get b = some (.cells t lo n d ro)) {cb co : Nat} (hm : E.m b = some (cb, co)) :
    ∃ c el fz, w.heap[cb]? = some (.cells c el fz) ∧ co + n ≤ E.sz cb ∧ E.sz cb ≤ c.size ∧ (∀ i, fz.1 ≤ i → i < fz.2 → c.size ≤ i) ∧ (ro = false → w0.heap.size ≤ cb) ∧
      ∀ o k, o + k ≤ n → RL E (T.read t d k (lo + o)) ((c.toList.drop (co + o)).take k) := by
  have := hW.obj b _ hb
  simp only [OR] at this
  obtain ⟨cb', co', c, el, fz, h1, h2, h3, h3', h4, h5, h6⟩ := this
  rw [hm] at h1; cases h1
  refine ⟨c, el, fz, h2, h3, h3', h4, h5, fun o k hok => ?_⟩
  refine RL.of_get (by rw [T.length_read]; simp; omega) fun i x y hx hy => ?_
  have hi : i < k := by
    rcases Nat.lt_or_ge i k with hi | hi
    · exact hi
    · rw [List.getElem?_eq_none (by rw [T.length_read]; omega)] at hx; cases hx
  rw [T.getElem_read _ _ _ _ _ hi] at hx; cases hx
  rw [List.getElem?_take_of_lt hi, List.getElem?_drop, Array.getElem?_toList] at hy
  obtain ⟨z, hz, hr⟩ := h6 (o + i) (by omega)
  rw [show co + o + i = co + (o + i) by omega, hz] at hy; cases hy
  rwa [show lo + o + i = lo + (o + i) by omega]

/-- cells written into a block of the run's own -/
theorem put_ok (hW : WR CR E w0 h nx w) {b o : Nat} {l : List GV} {h' : T GO} (hp : putAt h b o l = some h') {cb co : Nat} (hm : E.m b = some (cb, co)) {vs : List Value} (hl : RL E l vs) :
    ∃ w', (storeCells ⟨cb, co + o, none⟩ vs).run P w = .ok () w' ∧ WR CR E w0 h' nx w' := by
  obtain ⟨t, lo, n, d, ro, hb, hp⟩ := onCells_some hp
  obtain ⟨hc, hp⟩ := okIf_some hp
  cases hp
  obtain ⟨hc1, hc2⟩ := band_t hc
  obtain ⟨hc2, hc3⟩ := band_t hc2
  have hc2 : o + l.length ≤ n := ble_t hc2
  have hro : ro = false := by rw [bnot_eq] at hc1; simpa using hc1
  have hob := hW.obj b _ hb
  simp only [OR] at hob
  obtain ⟨cb', co', c, el, fz, h1, h2, h3, h3', h4, h5, h6⟩ := hob
  rw [hm] at h1; cases h1
  have hlen := hl.length
  have hrun : (storeCells ⟨cb, co + o, none⟩ vs).run P w = .ok () (w.putObj cb (.cells (wrt c (co + o) vs) el fz)) := by
    have := run_storeCells_of (P := P) (cb := cb) (o := co + o) vs 0 h2 h4 (by omega) (allCell_one hc3 hl)
    simpa using this
  refine ⟨_, hrun, ?_⟩
  refine hW.upd hb hm (h5 hro) (fun b' hb' => World.putObj_heap_other hb') World.putObj_size rfl rfl rfl (fun hpos => ⟨_, el, fz, World.putObj_heap_same (heap_lt h2), by rw [wrt_size]; exact h3'⟩) ?_
  simp only [OR]
  refine ⟨cb, co, wrt c (co + o) vs, el, fz, hm, World.putObj_heap_same (heap_lt h2), h3, by rw [wrt_size]; exact h3', by rw [wrt_size]; exact h4, h5, fun i hi => ?_⟩
  rw [wrt_get _ _ _ _ (by omega), T.get_lay]
  simp only [Nat.add_eq]
  by_cases hin : o ≤ i ∧ i < o + l.length
  · rw [if_pos (show co + o ≤ co + i ∧ co + i < co + o + vs.length by omega), if_pos (show lo + o ≤ lo + i ∧ lo + i < lo + o + l.length by omega)]
    have hx : l[i - o]? = some l[i - o] := List.getElem?_eq_getElem (by omega)
    obtain ⟨y, hy, hr⟩ := hl.get hx
    rw [show co + i - (co + o) = i - o by omega, show lo + i - (lo + o) = i - o by omega, hy, hx]
    exact ⟨y, rfl, hr⟩
  · rw [if_neg (show ¬ (co + o ≤ co + i ∧ co + i < co + o + vs.length) by omega), if_neg (show ¬ (lo + o ≤ lo + i ∧ lo + i < lo + o + l.length) by omega)]
    exact h6 i hi

/-- a new block of cells -/
theorem new_okK (hW : WR CR E w0 h nx w) {k n' : Nat} (hk : E.m k = none) (hn1 : nx ≤ n') (hn2 : k < n') {t : T GV} {n : Nat} {d : GV} {c : Array Value} {el : TypeId} {fz : Nat × Nat} (hn : n ≤ c.size) (hfz : ∀ i, fz.1 ≤ i → i < fz.2 → c.size ≤ i)
    (hc : ∀ i, i < n → ∃ x, c[i]? = some x ∧ R E ((t.get i).getD d) x) :
    ∃ E', E.le E' ∧ E'.m k = some (w.heap.size, 0) ∧ E'.sz w.heap.size = c.size ∧ WR CR E' w0 (h.set k (.cells t 0 n d false)) n' (w.alloc (.cells c el fz)) ∧ ∀ g, g ≠ k → E'.m g = E.m g := by
  obtain ⟨h1, h2, h3, h4⟩ := hW.alloc' hk hn1 hn2 (o := .cells t 0 n d false) (.cells c el fz) c.size (fun _ => ⟨c, el, fz, rfl, Nat.le_refl _⟩) (fun E' hE' hle => by
    simp only [OR]
    refine ⟨w.heap.size, 0, c, el, fz, by rw [hE']; simp [Env.add], World.alloc_heap_new w _, by rw [hE']; simp [Env.add]; omega, by rw [hE']; simp [Env.add], hfz, fun _ => hW.fr.size, fun i hi => ?_⟩
    obtain ⟨x, hx, hr⟩ := hc i hi
    exact ⟨x, by simpa using hx, by simpa using R.mono hle _ _ hr⟩)
  exact ⟨_, h1, h2, h3, h4, fun g hg => by simp [Env.add, hg]⟩
theorem new_ok (hW : WR CR E w0 h nx w) {k : Nat} (hk : nx ≤ k) {t : T GV} {n : Nat} {d : GV} {c : Array Value} {el : TypeId} {fz : Nat × Nat} (hn : n ≤ c.size) (hfz : ∀ i, fz.1 ≤ i → i < fz.2 → c.size ≤ i)
    (hc : ∀ i, i < n → ∃ x, c[i]? = some x ∧ R E ((t.get i).getD d) x) :
    ∃ E', E.le E' ∧ E'.m k = some (w.heap.size, 0) ∧ E'.sz w.heap.size = c.size ∧ WR CR E' w0 (h.set k (.cells t 0 n d false)) (k + 1) (w.alloc (.cells c el fz)) := by
  obtain ⟨E', h1, h2, h3, h4, _⟩ := new_okK hW (by
    cases hm : E.m k with
    | none => rfl
    | some x => have := hW.lt k x hm; omega) (Nat.le_succ_of_le hk) (Nat.lt_succ_self k) hn hfz hc
  exact ⟨E', h1, h2, h3, h4⟩
theorem newList_okK (hW : WR CR E w0 h nx w) {k n' : Nat} (hk : E.m k = none) (hn1 : nx ≤ n') (hn2 : k < n') {l : List GV} {c : Array Value} {el : TypeId} {fz : Nat × Nat} (hfz : ∀ i, fz.1 ≤ i → i < fz.2 → c.size ≤ i) (hl : RL E l (c.toList.take l.length)) :
    ∃ E', E.le E' ∧ E'.m k = some (w.heap.size, 0) ∧ E'.sz w.heap.size = c.size ∧ WR CR E' w0 (h.set k (.cells (T.lay l 0 .nil) 0 l.length .bad false)) n' (w.alloc (.cells c el fz)) ∧ ∀ g, g ≠ k → E'.m g = E.m g := by
  have hlen := hl.length
  simp only [List.length_take, Array.length_toList] at hlen
  refine new_okK hW hk hn1 hn2 (by omega) hfz fun i hi => ?_
  rw [T.get_lay, if_pos (by omega), Nat.sub_zero, List.getElem?_eq_getElem hi]
  obtain ⟨y, hy, hr⟩ := hl.get (List.getElem?_eq_getElem hi)
  rw [List.getElem?_take_of_lt hi, Array.getElem?_toList] at hy
  exact ⟨y, hy, hr⟩
theorem newList_ok (hW : WR CR E w0 h nx w) {k : Nat} (hk : nx ≤ k) {l : List GV} {c : Array Value} {el : TypeId} {fz : Nat × Nat} (hfz : ∀ i, fz.1 ≤ i → i < fz.2 → c.size ≤ i) (hl : RL E l (c.toList.take l.length)) :
    ∃ E', E.le E' ∧ E'.m k = some (w.heap.size, 0) ∧ E'.sz w.heap.size = c.size ∧ WR CR E' w0 (h.set k (.cells (T.lay l 0 .nil) 0 l.length .bad false)) (k + 1) (w.alloc (.cells c el fz)) := by
  obtain ⟨E', h1, h2, h3, h4, _⟩ := newList_okK hW (by
    cases hm : E.m k with
    | none => rfl
    | some x => have := hW.lt k x hm; omega) (Nat.le_succ_of_le hk) (Nat.lt_succ_self k) hfz hl
  exact ⟨E', h1, h2, h3, h4⟩
end
end Go.Gh

/- Operations on memory: new blocks, loads, stores, slices made. -/
namespace Go.Gh
set_option linter.unusedVariables false

/-- What an operation on memory must show. -/
def MOk (CR : Nat → Code → GC → Prop) (P : Program) (E : Env) (w0 : World) (o : Oper) (a : Act) (w : World) (s : MS) : Prop :=
  ∃ E' v' w' nxt, (execOp a.eval o).run P w = .ok nxt w' ∧ (nxt = .value v' ∨ nxt = .skip ∧ v' = undef) ∧ E.le E' ∧ R E' s.v v' ∧ WR CR E' w0 s.h s.nx w'

section
variable {CR : Nat → Code → GC → Prop} {P : Program} {X : Cx} {N : Nat} {E : Env} {t : T GV} {a : Act} {w0 w : World} {h : T GO} {nx : Nat}
variable (hT : Tb P X.tb) (ht : TR E N t a.tmps) (hg : GL E X.ng) (hW : WR CR E w0 h nx w)

theorem zeroCells_ok {tb : T TypeInfo} (hT : Tb P tb) {ty : TypeId} {zs : List GV} (hz : zeroCellsOf tb ty = some zs) (E : Env) :
    ∃ it z, P.info? ty = some it ∧ it.zero = some z ∧ RL E zs z.cells.toList ∧ ∀ w, (zeroValue ty).run P w = .ok z w := by
  unfold zeroCellsOf at hz
  obtain ⟨z', hz', hz2⟩ := Option.bind_eq_some_iff.1 hz
  obtain ⟨it, hit, hz3⟩ := Option.bind_eq_some_iff.1 hz'
  exact ⟨it, z', hT _ _ hit, hz3, csl_ok E hz2, fun w => by simp [zeroValue, typeInfo, hT _ _ hit, hz3]⟩
theorem noFz {c : Array Value} : ∀ i, ((0, 0) : Nat × Nat).1 ≤ i → i < ((0, 0) : Nat × Nat).2 → c.size ≤ i := fun i _ h => absurd h (Nat.not_lt_zero i)
theorem R.mkPtr {E : Env} {b o cb co : Nat} (h : E.m b = some (cb, co)) : R E (.ptr b o) (.pointer (some ⟨cb, co + o, none⟩)) := by simp only [R]; exact ⟨cb, co, h, rfl⟩
theorem sameZ_all {d : GV} {r : List GV} (h : r.all (sameZ d) = true) : r = List.replicate r.length d := by
  rw [List.eq_replicate_iff]
  exact ⟨rfl, fun b hb => (sameZ_eq (List.all_eq_true.1 h b hb)).symm⟩

include hT hW in
theorem m_alloc {o : Oper} {ty : TypeId} {m : Mf} {s : MS} (ho : o.op = .alloc ty) (hc : cMf X P (.alloc ty) = some m) (hm : mf t h nx m = some s) : MOk CR P E w0 o a w s := by
  obtain ⟨zs, hz, rfl⟩ := Option.map_eq_some_iff.1 (show (zeroCellsOf X.tb ty).map cAlloc = some m from hc)
  obtain ⟨it, z, h1, h2, h3, h4⟩ := zeroCells_ok hT hz E
  have hrun : (execOp a.eval o).run P w = .ok (.value (.pointer (some ⟨w.heap.size, 0, none⟩))) (w.alloc (.cells z.cells ty)) := by
    simp [execOp, ho, Instr.alloc, h4 w, newVar, newRow]
  have hlen := h3.length
  unfold cAlloc at hm
  split at hm
  · rename_i d r
    split at hm
    · rename_i hu
      have hr := sameZ_all hu.2
      cases hm
      obtain ⟨E', g1, g2, g3, g4⟩ := new_ok hW (Nat.le_refl nx) (t := .nil) (n := r.length + 1) (d := d) (c := z.cells) (el := ty) (fz := (0, 0)) (by simpa using (Nat.le_of_eq hlen.symm)) noFz (fun i hi => by
        have hd : (d :: r)[i]? = some d := by
          rw [hr]
          cases i with
          | zero => rfl
          | succ i => rw [List.getElem?_cons_succ, List.getElem?_replicate]; simp only [ite_eq_left_iff]; intro h'; omega
        obtain ⟨y, hy, hr⟩ := h3.get hd
        exact ⟨y, by simpa using hy, by simpa [T.get_nil] using hr⟩)
      exact ⟨E', _, _, _, hrun, .inl rfl, g1, by simpa using R.mkPtr (o := 0) g2, g4⟩
    · cases hm
      obtain ⟨E', g1, g2, g3, g4⟩ := newList_ok hW (Nat.le_refl nx) (c := z.cells) (el := ty) (fz := (0, 0)) noFz (l := d :: r) (by rw [← hlen, List.take_length]; exact h3)
      exact ⟨E', _, _, _, hrun, .inl rfl, g1, by simpa using R.mkPtr (o := 0) g2, g4⟩
  · cases hm
    obtain ⟨E', g1, g2, g3, g4⟩ := newList_ok hW (Nat.le_refl nx) (c := z.cells) (el := ty) (fz := (0, 0)) noFz (l := []) (by simp only [RL]; simp)
    exact ⟨E', _, _, _, hrun, .inl rfl, g1, by simpa using R.mkPtr (o := 0) g2, g4⟩

include ht hg hW in
theorem m_box {o : Oper} {ty : TypeId} {x : Operand} {m : Mf} {s : MS} (ho : o.op = .box ty x) (hc : cMf X P (.box ty x) = some m) (hm : mf t h nx m = some s) : MOk CR P E w0 o a w s := by
  obtain ⟨ox, hx, rfl⟩ := Option.map_eq_some_iff.1 (show (cod X.ng x).map .box = some m from hc)
  obtain ⟨l, hl, hm⟩ := orec_some (show mBox h nx (ev t ox) = some s from hm)
  cases hm
  have hr := cellsOf_ok hl (ev_ok ht hg hx)
  have hlen := hr.length
  obtain ⟨E', g1, g2, g3, g4⟩ := newList_ok hW (Nat.le_refl nx) (c := (a.eval x).cells) (el := ty) (fz := (0, 0)) noFz (by rw [← hlen, List.take_length]; exact hr)
  exact ⟨E', .pointer (some ⟨w.heap.size, 0, none⟩), w.alloc (.cells (a.eval x).cells ty), _, by simp [execOp, ho, Instr.box, newVar, newRow], .inl rfl, g1, by simpa using R.mkPtr (o := 0) g2, g4⟩

include hT ht hg hW in
theorem m_load {o : Oper} {ty : TypeId} {x : Operand} {m : Mf} {s : MS} (ho : o.op = .load ty x) (hc : cMf X P (.load ty x) = some m) (hm : mf t h nx m = some s) : MOk CR P E w0 o a w s := by
  simp only [cMf] at hc
  split at hc
  · rename_i d n ox hu hn hx
    cases hc
    have hr := ev_ok ht hg hx
    have hagg := run_isAgg hT hu w
    cases hd : aggD d with
    | true =>
      rw [hd] at hm hagg
      obtain ⟨b, oo, e, hm⟩ := onPtr_some (show mLdn h nx n (ev t ox) = some s from hm)
      obtain ⟨tr, lo, k, dd, ro, hb, hm⟩ := onCells_some hm
      obtain ⟨hle, hm⟩ := okIf_some hm
      cases hm
      have hle : oo + n ≤ k := ble_t hle
      rw [e] at hr; simp only [R] at hr
      obtain ⟨cb, co, hmm, hv⟩ := hr
      obtain ⟨c, el, fz, q1, q2, q3, q4, q5, q6⟩ := row_ok hW hb hmm
      refine ⟨E, .agg ((c.toList.drop (co + oo)).take n).toArray, w, _, ?_, .inl rfl, Env.le_refl E, by simp only [R]; exact ⟨_, rfl, by simpa using q6 oo n hle⟩, hW⟩
      simp [execOp, ho, Instr.loadAt, hv, Instr.sureAddr, loadVar, hagg, run_sizeOf' hT hn w, run_loadCells_of (P := P) q1 (o := co + oo) (n := n) (by omega)]
    | false =>
      rw [hd] at hm hagg
      obtain ⟨b, oo, e, hm⟩ := onPtr_some (show mLd1 h nx (ev t ox) = some s from hm)
      obtain ⟨tr, lo, k, dd, ro, hb, hm⟩ := onCells_some hm
      obtain ⟨hle, hm⟩ := okIf_some hm
      cases hm
      have hle : oo < k := ble_t hle
      rw [e] at hr; simp only [R] at hr
      obtain ⟨cb, co, hmm, hv⟩ := hr
      have hob := hW.obj b _ hb
      simp only [OR] at hob
      obtain ⟨cb', co', c, el, fz, q1, q2, q3, q3', q4, q5, q6⟩ := hob
      rw [hmm] at q1; cases q1
      obtain ⟨y, hy, hry⟩ := q6 oo hle
      refine ⟨E, y, w, _, ?_, .inl rfl, Env.le_refl E, by rw [cellAt_eq]; exact hry, hW⟩
      simp [execOp, ho, Instr.loadAt, hv, Instr.sureAddr, loadVar, hagg, run_load, cell_of q2, hy]
  · cases hc

include hT ht hg hW in
theorem m_store {o : Oper} {ty : TypeId} {x y : Operand} {m : Mf} {s : MS} (ho : o.op = .store ty x y) (hc : cMf X P (.store ty x y) = some m) (hm : mf t h nx m = some s) : MOk CR P E w0 o a w s := by
  simp only [cMf] at hc
  split at hc
  · rename_i d n ox oy hu hn hx hy
    have hr := ev_ok ht hg hx
    have hr2 := ev_ok ht hg hy
    have hsz := run_sizeOf' hT hn w
    have fin : ∀ {b oo : Nat} {l : List GV} {h' : T GO}, ev t ox = .ptr b oo → putAt h b oo l = some h' → s = ⟨.bad, h', nx⟩ → RL E l (a.eval y).cells.toList → (a.eval y).cells.size = n → MOk CR P E w0 o a w s := by
      intro b oo l h' e hp hs hl hcs
      rw [e] at hr; simp only [R] at hr
      obtain ⟨cb, co, hmm, hv⟩ := hr
      obtain ⟨w', hrun, hW'⟩ := put_ok (P := P) hW hp hmm hl
      subst hs
      refine ⟨E, undef, w', .skip, ?_, .inr ⟨rfl, rfl⟩, Env.le_refl E, by simp only [R], hW'⟩
      simp [execOp, ho, Instr.storeAt, hv, Instr.sureAddr, storeVar, hsz, hcs, hrun]
    by_cases hd : aggD d = true
    · rw [if_pos hd] at hc; cases hc
      obtain ⟨b, oo, e, hm⟩ := onPtr_some (show mStn h nx n (ev t ox) (ev t oy) = some s from hm)
      obtain ⟨l, e2, hm⟩ := onAgg_some hm
      obtain ⟨hl, hm⟩ := okIf_some hm
      obtain ⟨h', hp, hm⟩ := orec_some hm
      cases hm
      rw [e2] at hr2
      obtain ⟨cs, e3, hcs⟩ := R.agg hr2
      have := hcs.length
      exact fin e hp rfl (by rw [e3]; exact hcs) (by rw [e3]; show cs.size = n; rw [← Array.length_toList, this]; exact beq_t hl)
    · rw [if_neg hd] at hc
      by_cases h1 : n = 1
      · rw [if_pos h1] at hc; cases hc
        obtain ⟨b, oo, e, hm⟩ := onPtr_some (show mSt1 h nx (ev t ox) (ev t oy) = some s from hm)
        obtain ⟨h', hp, hm⟩ := orec_some hm
        cases hm
        have hcell : isCell (ev t oy) = true := by
          obtain ⟨_, _, _, _, _, _, hp⟩ := onCells_some hp
          obtain ⟨hp, _⟩ := okIf_some hp
          exact (band_t (show band (isCell (ev t oy)) true = true from (band_t (band_t hp).2).2)).1
        have h1c := isCell_one hcell hr2
        have hce : (a.eval y).cells = #[a.eval y] := by
          generalize a.eval y = q at h1c
          cases q <;> first | rfl | cases h1c
        exact fin e hp rfl (by rw [hce]; exact RL.one hr2) (by rw [hce, h1]; rfl)
      · rw [if_neg h1] at hc; cases hc
  · cases hc

theorem reps_length (zs : List GV) : ∀ n, (reps zs n).length = n * zs.length
  | 0 => by show ([] : List GV).length = _; simp
  | n + 1 => by
    show (zs ++ reps zs n).length = _
    rw [List.length_append, reps_length zs n, Nat.add_mul]; omega
theorem reps_get (zs : List GV) : ∀ (n i : Nat), i < n * zs.length → (reps zs n)[i]? = zs[i % zs.length]?
  | 0, i, h => by omega
  | n + 1, i, h => by
    show (zs ++ reps zs n)[i]? = _
    by_cases h1 : i < zs.length
    · rw [List.getElem?_append_left h1, Nat.mod_eq_of_lt h1]
    · rw [List.getElem?_append_right (by omega), reps_get zs n _ (by rw [Nat.add_mul] at h; omega)]
      congr 1
      conv => rhs; rw [show i = (i - zs.length) + zs.length by omega]
      rw [Nat.add_mod_right]
/-- zeros laid n times, as the machine lays them -/
theorem reps_cells {E : Env} {zs : List GV} {z : Array Value} (hz : RL E zs z.toList) (n : Nat) : RL E (reps zs n) ((Array.range (n * zs.length)).map fun i => z[i % z.size]!).toList := by
  have hl : z.size = zs.length := by rw [← Array.length_toList]; exact hz.length
  refine RL.of_get (by rw [reps_length]; simp) fun i x y hx hy => ?_
  have hi : i < n * zs.length := by
    rcases Nat.lt_or_ge i (n * zs.length) with hi | hi
    · exact hi
    · rw [List.getElem?_eq_none (by rw [reps_length]; omega)] at hx; cases hx
  have hpos : 0 < zs.length := by
    rcases Nat.eq_zero_or_pos zs.length with h0 | h0
    · rw [h0, Nat.mul_zero] at hi; omega
    · exact h0
  rw [reps_get zs n i hi] at hx
  obtain ⟨q, hq, hr⟩ := hz.get hx
  have hm : i % z.size < z.size := Nat.mod_lt _ (by omega)
  rw [Array.getElem?_toList] at hq hy
  have : y = z[i % z.size]! := by
    simp only [Array.getElem?_map, Array.getElem?_range, hi, if_true, Option.map_some, Option.some.injEq] at hy
    exact hy.symm
  rw [this, getElem!_pos z _ hm]
  rw [← hl, Array.getElem?_eq_getElem hm] at hq
  cases hq
  exact hr

include hT ht hg hW in
theorem m_buildSlice {o : Oper} {ty : TypeId} {len : Nat} {parts : Array (Nat × Operand)} {m : Mf} {s : MS} (ho : o.op = .buildSlice ty len parts) (hc : cMf X P (.buildSlice ty len parts) = some m) (hm : mf t h nx m = some s) : MOk CR P E w0 o a w s := by
  simp only [cMf] at hc
  split at hc
  · rename_i e hu
    split at hc
    · rename_i z zs hz hzs
      split at hc
      · rename_i hcond
        obtain ⟨qs, hq, rfl⟩ := Option.map_eq_some_iff.1 hc
        obtain ⟨l, hl, hm⟩ := orec_some (show mBsl t h nx z len (reps zs len) qs = some s from hm)
        cases hm
        obtain ⟨it, zv, h1, h2, h3, h4⟩ := zeroCells_ok hT hzs E
        obtain ⟨g1, g2⟩ := bldEv_get ht hg hq
        have hzl : zv.cells.size = zs.length := by rw [← Array.length_toList]; exact h3.length
        have hcells := reps_cells h3 len
        rw [hcond.2] at hcells
        obtain ⟨cells, hf, hr⟩ := gfill_ok (fun i => some (i * z, z)) _ _ _ _ _ g1 g2 hcells hl
        have hlen := hr.length
        have hzero : (if len * z = 0 then pure #[] else (do pure (← zeroValue e).cells) : Sem (Array Value)).run P w = .ok (if len * z = 0 then #[] else zv.cells) w := by
          split
          · rfl
          · simp [h4 w]
        have harr : ((Array.range (len * z)).map fun i => (if len * z = 0 then #[] else zv.cells)[i % (if len * z = 0 then (#[] : Array Value) else zv.cells).size]!) = (Array.range (len * z)).map fun i => zv.cells[i % zv.cells.size]! := by
          by_cases h0 : len * z = 0
          · simp [h0]
          · simp [h0]
        obtain ⟨E', f1, f2, f3, f4⟩ := newList_ok hW (Nat.le_refl nx) (c := cells) (el := e) (fz := (0, 0)) noFz (l := l) (by rw [← hlen, List.take_length]; exact hr)
        have e2 : (parts.map fun (x : Nat × Operand) => match x with | (i, y) => (i, a.eval y)).toList = parts.toList.map fun x => (x.1, a.eval x.2) := by simp
        refine ⟨E', .slice (some ⟨w.heap.size, 0, none⟩) len len, w.alloc (.cells cells e), _, ?_, .inl rfl, f1, ?_, f4⟩
        · simp only [execOp, ho, Instr.buildSlice, Sem.run_bind, run_und hT hu, Result.andThen_ok, run_sizeOf' hT hz]
          rw [if_neg (by omega)]
          split
          · rename_i h0
            have q : ((Array.range (len * z)).map fun x => (#[] : Array Value)[x % (#[] : Array Value).size]!) = (Array.range (len * z)).map fun i => zv.cells[i % zv.cells.size]! := by simp [h0]
            simp only [Sem.run_pure, Sem.run_bind, Result.andThen_ok]
            rw [q, e2, hf]
            simp [newRow]
          · simp only [Sem.run_pure, Sem.run_bind, Result.andThen_ok, h4 w]
            rw [e2, hf]
            simp [newRow]
        · simp only [R]
          refine ⟨w.heap.size, 0, _, len, f2, rfl, Nat.le_refl _, Nat.le_refl _, fun _ => rfl, .inr (by simp), ?_⟩
          right
          rw [f3]
          have : cells.size = len * z := by
            rw [← Array.length_toList, hlen]
            have hgl : ∀ (gp : List (Nat × Nat × GV)) (c out : List GV), gfill gp c = some out → out.length = c.length := by
              intro gp
              induction gp with
              | nil => intro c out h; cases h; rfl
              | cons x gp ih =>
                intro c out h
                change Option.rec none (fun q => okIf (band (Nat.beq q.length x.2.1) (Nat.ble (Nat.add x.1 q.length) c.length)) (gfill gp (gsplice c x.1 q))) (cellsOf x.2.2) = some out at h
                obtain ⟨q, _, h⟩ := orec_some h
                obtain ⟨hb, h⟩ := okIf_some h
                rw [ih _ _ h]
                exact gsplice_length _ _ _ (ble_t (band_t hb).2)
            rw [hgl _ _ _ hl, reps_length, hcond.2]
          omega
      · cases hc
    · cases hc
  · cases hc
end
end Go.Gh

/- Operations on memory: slices made, appended to, copied; texts and bytes. -/
namespace Go.Gh
set_option linter.unusedVariables false

theorem growBy_le (newLen : Nat) : ∀ (r c : Nat), c < newLen → Builtin.growBy newLen r c ≤ newLen + (newLen + 768) / 4
  | 0, c, h => by simp only [Builtin.growBy]; omega
  | r + 1, c, h => by
    simp only [Builtin.growBy]
    split
    · omega
    · by_cases h2 : c + (c + 768) / 4 < newLen
      · exact growBy_le newLen r _ h2
      · cases r with
        | zero => simp only [Builtin.growBy]; omega
        | succ r => simp only [Builtin.growBy]; rw [if_pos (by omega)]; omega
theorem nextcap_le {need c : Nat} (h : c < need) : Builtin.nextslicecap need c ≤ 2 * need + 192 := by
  unfold Builtin.nextslicecap
  split
  · omega
  · split
    · omega
    · have := growBy_le need 4 c h; omega

section
variable {P : Program} {w : World}
theorem run_askRoom (n : Nat) : (askRoom n).run P w = .ok () w := by
  unfold askRoom; split <;> rfl
/-- What is appended or copied: n elements, their cells. -/
def Src (P : Program) (w : World) (size : Nat) (x : Value) (n : Nat) (cs : List Value) : Prop :=
  cs.length = n * size ∧ (∀ w', (Builtin.lenOf x).run P w' = .ok n w') ∧ ∀ m w', m ≤ n → w'.heap = w.heap → (Builtin.firstCells size m x).run P w' = .ok (cs.take (m * size)).toArray w'

theorem run_append_in {st xt ty e : TypeId} {i : TypeInfo} {d : TypeDesc} {base : Option Addr} {len c n : Nat} {x : Value} {cs : List Value} {w' : World} (hs : P.underlying st = some (.slice e)) (hx : P.underlying xt = some d) (hd : ∀ k, d ≠ .int k)
    (hi : P.info? e = some i) (hsrc : Src P w i.size x n cs) (hc : len + n ≤ c)
    (hst : (match base with | some a => storeCells (a.add (len * i.size)) cs | none => pure ()).run P w = .ok () w') :
    (Builtin.append_ #[st, xt] ty #[.slice base len c, x]).run P w = .ok (.slice base (len + n) c) w' := by
  obtain ⟨h1, h2, h3⟩ := hsrc
  have hz : (sizeOf e).run P w = .ok i.size w := by simp [sizeOf, typeInfo, hi]
  have hcs := h3 n w (Nat.le_refl _) rfl
  rw [← h1, List.take_length] at hcs
  have hzz : (match d with | .int _ => true | _ => false) = false := by cases d <;> first | rfl | exact absurd rfl (hd _)
  unfold Builtin.append_
  simp only [List.getElem?_toArray, List.getElem?_cons_zero, List.getElem?_cons_succ, Sem.run_bind, run_underlying hs, run_underlying hx, Result.andThen_ok, hz, Sem.run_pure, Bool.false_eq_true, if_false, h2, Bool.not_false, if_true]
  rw [if_pos hc]
  simp only [Sem.run_bind, hcs, Result.andThen_ok]
  cases base with
  | none => simp only [Sem.run_pure] at hst ⊢; cases hst; simp
  | some a => simp only at hst ⊢; simp [hst]

theorem run_append_grow' {st xt ty e : TypeId} {i : TypeInfo} {z : Value} {d : TypeDesc} {base : Option Addr} {len c n : Nat} {x : Value} {cs old : List Value} (hs : P.underlying st = some (.slice e)) (hx : P.underlying xt = some d) (hd : ∀ k, d ≠ .int k)
    (hi : P.info? e = some i) (hiz : i.zero = some z) (hsrc : Src P w i.size x n cs) (hc : c < len + n) (hn : len + n ≤ 1073741824) (hb : i.bytes ≤ 1024)
    (hold : ∀ w', w'.heap = w.heap → (Builtin.firstCells i.size len (.slice base len c)).run P w' = .ok old.toArray w') :
    ∃ nc, len + n ≤ nc ∧ (Builtin.append_ #[st, xt] ty #[.slice base len c, x]).run P w =
      .ok (.slice (some ⟨w.heap.size, 0, none⟩) (len + n) nc) (w.drew.alloc (.cells (old.toArray ++ cs.toArray ++ Builtin.zeroCells z.cells (nc - (len + n))) e)) := by
  obtain ⟨h1, h2, h3⟩ := hsrc
  have hz : ∀ w, (sizeOf e).run P w = .ok i.size w := fun w => by simp [sizeOf, typeInfo, hi]
  have hti : ∀ w, (typeInfo e).run P w = .ok i w := fun w => by simp [typeInfo, hi]
  have hzv : ∀ w, (zeroValue e).run P w = .ok z w := fun w => by simp [zeroValue, typeInfo, hi, hiz]
  have hcs : ∀ w', w'.heap = w.heap → (Builtin.firstCells i.size n x).run P w' = .ok cs.toArray w' := fun w' hw => by
    have := h3 n w' (Nat.le_refl _) hw
    rwa [← h1, List.take_length] at this
  have hzz : (match d with | .int _ => true | _ => false) = false := by cases d <;> first | rfl | exact absurd rfl (hd _)
  have hcap : ¬ Builtin.nextslicecap (len + n) c * i.bytes > 2 ^ 48 := by
    have h4 := nextcap_le hc
    have : Builtin.nextslicecap (len + n) c * i.bytes ≤ (2 * 1073741824 + 192) * 1024 := Nat.mul_le_mul (by omega) hb
    omega
  have hmax : ¬ (((len + n : Nat) : Int) > IntKind.i64.max ∧ ((false = true) ∨ i.bytes = 0)) := by
    rintro ⟨h5, _⟩
    have : IntKind.i64.max = 9223372036854775807 := by decide
    rw [this] at h5
    omega
  refine ⟨(Question.appendCap (len + n) c e).cut (w.tape w.drawn (.appendCap (len + n) c e)), by simp [Question.cut], ?_⟩
  unfold Builtin.append_
  simp only [List.getElem?_toArray, List.getElem?_cons_zero, List.getElem?_cons_succ, Sem.run_bind, run_underlying hs, run_underlying hx, Result.andThen_ok, hz, Sem.run_pure, Bool.false_eq_true, if_false, h2, Bool.not_false, if_true]
  rw [if_neg (by omega)]
  simp only [Sem.run_bind, hti, Result.andThen_ok]
  rw [if_neg (by simpa using hmax)]
  simp only [Sem.run_bind, hti, Result.andThen_ok]
  rw [if_neg hcap]
  simp only [Sem.run_bind, Sem.run_pure, Result.andThen_ok, run_choose_drew, Question.forced, Bool.false_eq_true, if_false, hti, run_askRoom]
  rw [hold w.drew rfl]
  simp only [Result.andThen_ok]
  rw [hcs w.drew rfl]
  simp only [Result.andThen_ok, hzv, newRow, Sem.run_bind, run_newObj_alloc, Sem.run_pure]
  rfl
end
end Go.Gh
