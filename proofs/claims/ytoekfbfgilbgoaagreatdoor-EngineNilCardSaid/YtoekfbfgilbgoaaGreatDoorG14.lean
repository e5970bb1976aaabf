/- Operations on memory: rows of cells in the machine's memory. -/
import Derived.Test.YtoekfbfgilbgoaaGreatDoorG13
import Derived.Laws.Cells
import Derived.Laws.NewFold
namespace Go.Gh
set_option linter.unusedVariables false

/-- cells vs written from place k on -/
def wrt (c : Array Value) (k : Nat) : List Value → Array Value
  | [] => c
  | v :: r => wrt (c.setIfInBounds k v) (k + 1) r
theorem wrt_size : ∀ (vs : List Value) (c : Array Value) (k : Nat), (wrt c k vs).size = c.size
  | [], c, k => rfl
  | v :: r, c, k => by rw [wrt, wrt_size r]; simp
theorem wrt_get : ∀ (vs : List Value) (c : Array Value) (k i : Nat), k + vs.length ≤ c.size → (wrt c k vs)[i]? = if k ≤ i ∧ i < k + vs.length then vs[i - k]? else c[i]?
  | [], c, k, i, h => by rw [wrt, if_neg (by simp)]
  | v :: r, c, k, i, h => by
    simp only [List.length_cons] at h ⊢
    rw [wrt, wrt_get r _ _ _ (by simp; omega)]
    by_cases h1 : k + 1 ≤ i ∧ i < k + 1 + r.length
    · rw [if_pos h1, if_pos (by omega)]
      obtain ⟨d, hd⟩ : ∃ d, i - k = d + 1 := ⟨i - k - 1, by omega⟩
      rw [hd, show i - (k + 1) = d by omega]; rfl
    · rw [if_neg h1]
      by_cases e : i = k
      · subst e; rw [if_pos (by omega), Array.getElem?_setIfInBounds_self_of_lt (by omega)]; simp
      · rw [if_neg (by omega), Array.getElem?_setIfInBounds_ne (by omega)]

section
variable {P : Program} {w : World}
theorem heap_lt {cb : Nat} {o : Obj} (h : w.heap[cb]? = some o) : cb < w.heap.size := (Array.getElem?_eq_some_iff.1 h).1
theorem setCell_put {cb o : Nat} {c : Array Value} {el : TypeId} {fz : Nat × Nat} (h : w.heap[cb]? = some (.cells c el fz)) (v : Value) :
    w.setCell ⟨cb, o, none⟩ v = w.putObj cb (.cells (c.setIfInBounds o v) el fz) := by
  have hlt := heap_lt h
  unfold World.setCell World.putObj
  congr 1
  apply Array.ext
  · simp
  · intro i h1 h2
    have hi : i < w.heap.size := by simpa using h1
    rw [Array.getElem_modify, Array.getElem_setIfInBounds hi]
    by_cases e : cb = i
    · subst e
      have hv : w.heap[cb] = .cells c el fz := (Array.getElem?_eq_some_iff.1 h).2
      simp [hv]
    · simp [e]
theorem putObj_putObj (cb : Nat) (a b : Obj) : (w.putObj cb a).putObj cb b = w.putObj cb b := by
  unfold World.putObj
  simp
theorem cell_of {cb o : Nat} {c : Array Value} {el : TypeId} {fz : Nat × Nat} (h : w.heap[cb]? = some (.cells c el fz)) : w.cell? ⟨cb, o, none⟩ = c[o]? := by simp [World.cell?, h]
theorem frozen_of {cb o : Nat} {c : Array Value} {el : TypeId} {fz : Nat × Nat} (h : w.heap[cb]? = some (.cells c el fz)) (hf : ∀ i, fz.1 ≤ i → i < fz.2 → c.size ≤ i) (ho : o < c.size) : w.frozen? ⟨cb, o, none⟩ = false := by
  simp only [World.frozen?, h]
  by_cases h1 : fz.1 ≤ o
  · by_cases h2 : o < fz.2
    · have := hf o h1 h2; omega
    · simp [h2]
  · simp [h1]
theorem run_store_of {cb o : Nat} {c : Array Value} {el : TypeId} {fz : Nat × Nat} (h : w.heap[cb]? = some (.cells c el fz)) (hf : ∀ i, fz.1 ≤ i → i < fz.2 → c.size ≤ i) (ho : o < c.size) {v : Value} (hv : v.oneCell' = true) :
    (store ⟨cb, o, none⟩ v).run P w = .ok () (w.putObj cb (.cells (c.setIfInBounds o v) el fz)) := by
  rw [run_store P w _ v _ hv, cell_of h, Array.getElem?_eq_getElem ho]
  simp only [frozen_of h hf ho, Bool.false_eq_true, if_false]
  rw [setCell_put h]
theorem run_storeCells_of {cb o : Nat} : ∀ (vs : List Value) (i : Nat) {w : World} {c : Array Value} {el : TypeId} {fz : Nat × Nat}, w.heap[cb]? = some (.cells c el fz) → (∀ i, fz.1 ≤ i → i < fz.2 → c.size ≤ i) →
    o + i + vs.length ≤ c.size → (∀ v ∈ vs, v.oneCell' = true) → (storeCells ⟨cb, o, none⟩ vs i).run P w = .ok () (w.putObj cb (.cells (wrt c (o + i) vs) el fz))
  | [], i, w, c, el, fz, h, hf, hl, hv => by
    have : w.putObj cb (.cells c el fz) = w := by
      unfold World.putObj
      have hlt := heap_lt h
      have e : w.heap.setIfInBounds cb (.cells c el fz) = w.heap := by
        apply Array.ext
        · simp
        · intro j h1 h2
          rw [Array.getElem_setIfInBounds h2]
          split
          · rename_i e; subst e; exact ((Array.getElem?_eq_some_iff.1 h).2).symm
          · rfl
      rw [e]
    simp only [storeCells, wrt, Sem.run_pure, this]
  | v :: r, i, w, c, el, fz, h, hf, hl, hv => by
    simp only [List.length_cons] at hl
    rw [storeCells, Sem.run_bind, addr_add, run_store_of h hf (by omega) (hv v (by simp)), Result.andThen_ok]
    have h2 : (w.putObj cb (.cells (c.setIfInBounds (o + i) v) el fz)).heap[cb]? = some (.cells (c.setIfInBounds (o + i) v) el fz) := World.putObj_heap_same (heap_lt h)
    rw [run_storeCells_of r (i + 1) h2 (by simpa using hf) (by simp; omega) (fun x hx => hv x (by simp [hx])), putObj_putObj]
    rfl
theorem isCell_one {E : Env} {g : GV} {v : Value} (h : isCell g = true) (hr : R E g v) : v.oneCell' = true := by
  cases g <;> simp only [isCell] at h <;> first | (cases h; done) | skip
  case un k =>
    simp only [R] at hr
    exact (UR.one hr).2
  all_goals
    simp only [R] at hr
    first
      | (subst hr; rfl)
      | (obtain ⟨_, _, _, rfl⟩ := hr; rfl)
      | (obtain ⟨rfl, _⟩ := hr; rfl)
      | (obtain ⟨_, _, _, _, _, rfl, _⟩ := hr; rfl)
      | (obtain ⟨_, _, rfl⟩ := hr; rfl)
      | (obtain ⟨_, _, rfl, _⟩ := hr; rfl)
      | (obtain ⟨_, rfl, _⟩ := hr; rfl)
theorem allCell_one {E : Env} : ∀ {l : List GV} {vs : List Value}, allCell l = true → RL E l vs → ∀ v ∈ vs, v.oneCell' = true
  | [], vs, _, hr => by simp only [RL] at hr; subst hr; simp
  | g :: l, vs, h, hr => by
    obtain ⟨h1, h2⟩ := band_t (show band (isCell g) (allCell l) = true from h)
    simp only [RL] at hr
    obtain ⟨x, r, rfl, hx, hr⟩ := hr
    intro v hv
    rcases List.mem_cons.1 hv with rfl | hv
    · exact isCell_one h1 hx
    · exact allCell_one h2 hr v hv
theorem run_loadCells_of {cb o : Nat} {c : Array Value} {el : TypeId} {fz : Nat × Nat} (h : w.heap[cb]? = some (.cells c el fz)) {n : Nat} (hl : o + n ≤ c.size) :
    (loadCells ⟨cb, o, none⟩ n).run P w = .ok ((c.toList.drop o).take n).toArray w := by
  have e : ((c.toList.drop o).take n).length = n := by simp; omega
  have := run_loadCells_list (P := P) w ⟨cb, o, none⟩ ((c.toList.drop o).take n) (fun j v hv => by
    rw [addr_add, cell_of h]
    have hj : j < n := by
      rcases Nat.lt_or_ge j n with hj | hj
      · exact hj
      · rw [List.getElem?_eq_none (by omega)] at hv; cases hv
    rw [List.getElem?_take_of_lt hj, List.getElem?_drop, Array.getElem?_toList] at hv
    exact hv)
  rw [e] at this
  exact this
end

/-! ### the run's blocks of cells -/
section
variable {CR : Nat → Code → GC → Prop} {P : Program} {E : Env} {w0 w : World} {h : T GO} {nx : Nat}
theorem onCells_some {β : Type} {o : Option GO} {f : T GV → Nat → Nat → GV → Bool → Option β} {r : β} (h : onCells none o f = some r) : ∃ t lo n d ro, o = some (.cells t lo n d ro) ∧ f t lo n d ro = some r := by
  cases o with
  | none => cases h
  | some o => cases o <;> first | exact ⟨_, _, _, _, _, rfl, h⟩ | cases h
theorem orOr {α : Type} (d : α) (o : Option α) : (Option.rec d (fun v => v) o : α) = o.getD d := by cases o <;> rfl
theorem cellAt_eq (t : T GV) (d : GV) (i : Nat) : cellAt t d i = (t.get i).getD d := orOr d _
/-- n cells of a block, read -/
theorem row_ok (hW : WR CR E w0 h nx w) {b : Nat} {t : T GV} {lo n : Nat} {d : GV} {ro : Bool} (hb : h.get b = some (.cells t lo n d ro)) {cb co : Nat} (hm : E.m b = some (cb, co)) :
    ∃ c el fz, w.heap[cb]? = some (.cells c el fz) ∧ co + n ≤ E.sz cb ∧ E.sz cb ≤ c.size ∧ (∀ i, fz.1 ≤ i → i < fz.2 → c.size ≤ i) ∧ (ro = false → w0.heap.size ≤ cb) ∧
      ∀ o k, o + k ≤ n → RL E (T.read t d k (lo + o)) ((c.toList.drop (co + o)).take k) := by
  have := hW.obj b _ hb
  simp only [OR] at this
  obtain ⟨cb', co', c, el, fz, h1, h2, h3, h3', h4, h5, h6⟩ := this
  rw [hm] at h1; cases h1
  refine ⟨c, el, fz, h2, h3, h3', h4, h5, fun o k hok => ?_⟩
  refine RL.of_get (by rw [T.length_read]; simp; omega) fun i x y hx hy => ?_
  have hi : i < k := by
    rcases Nat.lt_or_ge i k with hi | hi
    · exact hi
    · rw [List.getElem?_eq_none (by rw [T.length_read]; omega)] at hx; cases hx
  rw [T.getElem_read _ _ _ _ _ hi] at hx; cases hx
  rw [List.getElem?_take_of_lt hi, List.getElem?_drop, Array.getElem?_toList] at hy
  obtain ⟨z, hz, hr⟩ := h6 (o + i) (by omega)
  rw [show co + o + i = co + (o + i) by omega, hz] at hy; cases hy
  rwa [show lo + o + i = lo + (o + i) by omega]

/-- cells written into a block of the run's own -/
theorem put_ok (hW : WR CR E w0 h nx w) {b o : Nat} {l : List GV} {h' : T GO} (hp : putAt h b o l = some h') {cb co : Nat} (hm : E.m b = some (cb, co)) {vs : List Value} (hl : RL E l vs) :
    ∃ w', (storeCells ⟨cb, co + o, none⟩ vs).run P w = .ok () w' ∧ WR CR E w0 h' nx w' := by
  obtain ⟨t, lo, n, d, ro, hb, hp⟩ := onCells_some hp
  obtain ⟨hc, hp⟩ := okIf_some hp
  cases hp
  obtain ⟨hc1, hc2⟩ := band_t hc
  obtain ⟨hc2, hc3⟩ := band_t hc2
  have hc2 : o + l.length ≤ n := ble_t hc2
  have hro : ro = false := by rw [bnot_eq] at hc1; simpa using hc1
  have hob := hW.obj b _ hb
  simp only [OR] at hob
  obtain ⟨cb', co', c, el, fz, h1, h2, h3, h3', h4, h5, h6⟩ := hob
  rw [hm] at h1; cases h1
  have hlen := hl.length
  have hrun : (storeCells ⟨cb, co + o, none⟩ vs).run P w = .ok () (w.putObj cb (.cells (wrt c (co + o) vs) el fz)) := by
    have := run_storeCells_of (P := P) (cb := cb) (o := co + o) vs 0 h2 h4 (by omega) (allCell_one hc3 hl)
    simpa using this
  refine ⟨_, hrun, ?_⟩
  refine hW.upd hb hm (h5 hro) (fun b' hb' => World.putObj_heap_other hb') World.putObj_size rfl rfl rfl (fun hpos => ⟨_, el, fz, World.putObj_heap_same (heap_lt h2), by rw [wrt_size]; exact h3'⟩) ?_
  simp only [OR]
  refine ⟨cb, co, wrt c (co + o) vs, el, fz, hm, World.putObj_heap_same (heap_lt h2), h3, by rw [wrt_size]; exact h3', by rw [wrt_size]; exact h4, h5, fun i hi => ?_⟩
  rw [wrt_get _ _ _ _ (by omega), T.get_lay]
  simp only [Nat.add_eq]
  by_cases hin : o ≤ i ∧ i < o + l.length
  · rw [if_pos (show co + o ≤ co + i ∧ co + i < co + o + vs.length by omega), if_pos (show lo + o ≤ lo + i ∧ lo + i < lo + o + l.length by omega)]
    have hx : l[i - o]? = some l[i - o] := List.getElem?_eq_getElem (by omega)
    obtain ⟨y, hy, hr⟩ := hl.get hx
    rw [show co + i - (co + o) = i - o by omega, show lo + i - (lo + o) = i - o by omega, hy, hx]
    exact ⟨y, rfl, hr⟩
  · rw [if_neg (show ¬ (co + o ≤ co + i ∧ co + i < co + o + vs.length) by omega), if_neg (show ¬ (lo + o ≤ lo + i ∧ lo + i < lo + o + l.length) by omega)]
    exact h6 i hi

/-- a new block of cells -/
theorem new_ok (hW : WR CR E w0 h nx w) {k : Nat} (hk : nx ≤ k) {t : T GV} {n : Nat} {d : GV} {c : Array Value} {el : TypeId} {fz : Nat × Nat} (hn : n ≤ c.size) (hfz : ∀ i, fz.1 ≤ i → i < fz.2 → c.size ≤ i)
    (hc : ∀ i, i < n → ∃ x, c[i]? = some x ∧ R E ((t.get i).getD d) x) :
    ∃ E', E.le E' ∧ E'.m k = some (w.heap.size, 0) ∧ E'.sz w.heap.size = c.size ∧ WR CR E' w0 (h.set k (.cells t 0 n d false)) (k + 1) (w.alloc (.cells c el fz)) := by
  obtain ⟨h1, h2, h3, h4⟩ := hW.alloc hk (o := .cells t 0 n d false) (.cells c el fz) c.size (fun _ => ⟨c, el, fz, rfl, Nat.le_refl _⟩) (fun E' hE' hle => by
    simp only [OR]
    refine ⟨w.heap.size, 0, c, el, fz, by rw [hE']; simp [Env.add], World.alloc_heap_new w _, by rw [hE']; simp [Env.add]; omega, by rw [hE']; simp [Env.add], hfz, fun _ => hW.fr.size, fun i hi => ?_⟩
    obtain ⟨x, hx, hr⟩ := hc i hi
    exact ⟨x, by simpa using hx, by simpa using R.mono hle _ _ hr⟩)
  exact ⟨_, h1, h2, h3, h4⟩
theorem newList_ok (hW : WR CR E w0 h nx w) {k : Nat} (hk : nx ≤ k) {l : List GV} {c : Array Value} {el : TypeId} {fz : Nat × Nat} (hfz : ∀ i, fz.1 ≤ i → i < fz.2 → c.size ≤ i) (hl : RL E l (c.toList.take l.length)) :
    ∃ E', E.le E' ∧ E'.m k = some (w.heap.size, 0) ∧ E'.sz w.heap.size = c.size ∧ WR CR E' w0 (h.set k (.cells (T.lay l 0 .nil) 0 l.length .bad false)) (k + 1) (w.alloc (.cells c el fz)) := by
  have hlen := hl.length
  simp only [List.length_take, Array.length_toList] at hlen
  refine new_ok hW hk (by omega) hfz fun i hi => ?_
  rw [T.get_lay, if_pos (by omega), Nat.sub_zero, List.getElem?_eq_getElem hi]
  obtain ⟨y, hy, hr⟩ := hl.get (List.getElem?_eq_getElem hi)
  rw [List.getElem?_take_of_lt hi, Array.getElem?_toList] at hy
  exact ⟨y, hy, hr⟩
end
end Go.Gh
