/- A law that answers true and writes nothing: its row's post. -/
import Derived.Test.YtoekfbfgilbgoaaGreatDoorG30
import Derived.ChangeSame
import Derived.ReadAgain
import Derived.RowKit
import Derived.LaidMore
import Derived.OpenShut
namespace Go.Gh
open Go.ChangeShapes Go.WideShapes Go.RowKit
set_option linter.unusedVariables false

theorem Fr.keptBut {w w' : World} (h : Fr w w') (may : MemPlace → Prop) : w.keptBut w' may := by
  have h0 := World.keptBut_refl w may
  refine ⟨h.os, h.output, fun i hi => ?_⟩
  have := h0.2.2 i hi
  rw [h.old i hi]
  exact this
theorem Fr.sameAt {w w' : World} (h : Fr w w') {p : MemPlace} (hp : p.block < w.heap.size) : w.sameAt w' p := by
  cases p with
  | cell b off =>
    show w'.cell? ⟨b, off, none⟩ = w.cell? ⟨b, off, none⟩
    have := h.old b hp
    simp only [World.cell?, this]
  | map b => exact h.old b hp

section
variable {H : Type} {enc : TypeId × Value → H} {P : Program}
theorem trodAll_fr {w w' : World} (hf : Fr w w') {base : Nat} {sp : Nat → Bool} {held : Bool} : ∀ {ts : List TypeId} {vs : List Value} {ds : List (DataW H)} {ps : List MemPlace},
    DataW.TrodAll enc P w base sp held ts vs ds ps → (∀ p ∈ ps, p.block < w.heap.size) → DataW.TrodAll enc P w' base sp held ts vs ds ps
  | [], [], [], _, h, _ => h
  | _ :: _, _ :: _, _ :: _, _, ⟨p, q, ⟨n, h1⟩, h2, e⟩, hs =>
    ⟨p, q, ⟨n, DataW.trod_carry n _ _ _ h1 fun x hx => hf.sameAt (hs x (by rw [e]; exact List.mem_append_left _ hx))⟩, trodAll_fr hf h2 fun x hx => hs x (by rw [e]; exact List.mem_append_right _ hx), e⟩

theorem post_true {f : Func} {s : ChangeSpec} {apart fresh handsOn : Bool} {W W' : World} {args : Array Value} {ds gs : List (DataW H)} {before : List MemPlace} {tb : TypeId} (hl : laidOutB P = true) (hm : mapsRowed P = true)
    (hz : ((List.range P.types.size).all fun t => match P.underlying t with | some (.slice e) => decide (0 < P.cellsOf e) | _ => true) = true) (hrt : f.resultTypes = #[tb]) (hb : P.underlying tb = some .bool) (hp : ∀ t ∈ f.params.toList, t < P.types.size)
    (hvars : s.vars = []) (hfn : ∀ gs', gs' = [] → s.fn H (ds ++ gs') = { results := [.lit (.bool true)], args := ds })
    (hW : DataW.Whole enc P f.params.toList s.vars apart W args.toList ds gs before) (hf : Fr W W') : s.post enc P f apart fresh handsOn false W args (.bool true) W' := by
  have hlt := hW.lt
  have hW0 := hW
  obtain ⟨p, q, hA, hV, rfl, _, _⟩ := hW
  rw [hvars] at hV
  obtain ⟨rfl, rfl⟩ := trodVars_none hV
  have hfn := hfn [] rfl
  have hA' := DataW.TrodAll.respare (spare' := fun b => decide (b < W.heap.size)) (kids_rows hl hm) (slices_full_of P hz) hp hA (fun x hx => by simpa using hlt x (by simpa using hx))
  refine ⟨ds, [], p ++ [], [], p, [], hW0, ?_, ?_, ?_, hf.keptBut _, fun h => by cases h⟩
  · rw [hfn, hrt]; exact trodAll_mk1 (shut_bool hb true)
  · rw [hfn]; exact trodAll_fr hf hA' (fun x hx => hlt x (by simpa using hx))
  · rw [hfn, hvars]; rfl
end

/-! ### a listed variable: a row of numbers -/
def intsOf (k : IntKind) (ns : List Int) : List GV := ns.map fun n => .int k n
theorem trod_ints {H : Type} {enc : TypeId × Value → H} {P : Program} {w : World} {base : Nat} {sp : Nat → Bool} {held : Bool} {fuel : Nat} {t e : TypeId} {n : Nat} {k : IntKind} {cs : List Value} {ns : List Int} {ps : List MemPlace} (ht : P.underlying t = some (.array n e)) (he : P.underlying e = some (.int k))
    (hc : P.cellsOf e = 1) (hct : P.cellsOf t = n) (h : DataW.trod enc P w base sp held fuel t cs = some (.agg (ns.map fun n => .lit (.int k n)), ps)) : cs = ns.map (Value.int k) ∧ ns.length = n := by
  obtain ⟨xs, m, rfl, hx, hl, hn, hel⟩ := DataW.trod_array ht h
  simp only [Prod.mk.injEq, DataW.agg.injEq] at hx
  have hlen : ns.length = n := by
    have := congrArg List.length hx.1
    simp at this; omega
  refine ⟨List.ext_getElem? fun i => ?_, hlen⟩
  by_cases hi : i < n
  · have h1 := hel i hi
    rw [hc, Nat.mul_one] at h1
    have hxi : xs[i]? = some xs[i] := List.getElem?_eq_getElem (by omega)
    rw [hxi] at h1
    obtain ⟨z, e1, e2, _⟩ := DataW.trod_int he h1
    have e3 : cs[i]? = some (.int k z) := by
      have := congrArg (fun l : List Value => l[0]?) e1
      simpa [List.getElem?_take, List.getElem?_drop] using this
    have e4 : (xs.map (·.1))[i]? = some (.lit (.int k z)) := by rw [List.getElem?_map, hxi, e2]; rfl
    rw [← hx.1, List.getElem?_map] at e4
    rw [e3, List.getElem?_map]
    cases hni : ns[i]? with
    | none => rw [hni] at e4; cases e4
    | some y =>
      rw [hni] at e4
      simp only [Option.map_some, Option.some.injEq, DataW.lit.injEq, Lit.int.injEq] at e4
      rw [e4.2]; rfl
  · rw [List.getElem?_eq_none (by omega), List.getElem?_eq_none (by simp; omega)]

/-- Such a variable as the run takes it. -/
theorem laid_ints {P : Program} {w : World} {name : String} {g : Nat} {t e : TypeId} {n : Nat} {k : IntKind} {ns : List Int} {cs : Array Value} {fuel : Nat} {ps : List MemPlace} (hg : P.globalNamed name = some g) (ht : P.underlying t = some (.array n e)) (he : P.underlying e = some (.int k)) (hc : P.cellsOf e = 1) (hct : P.cellsOf t = n) (hpos : 0 < n)
    (hv : w.var? P name = some cs) (hd : DataW.trod (fun _ => ()) P w 0 (fun _ => true) false fuel t cs.toList = some (.agg (ns.map fun n => .lit (.int k n)), ps)) (hz : ∀ off, off < cs.size → ∃ c t, w.heap[g]? = some (.cells c t (0, 0))) :
    g < w.heap.size ∧ ∃ c el fz, w.heap[g]? = some (.cells c el fz) ∧ (intsOf k ns).length ≤ c.size ∧ (∀ i, fz.1 ≤ i → i < fz.2 → c.size ≤ i) ∧ ∀ E, RL E (intsOf k ns) (c.toList.take (intsOf k ns).length) := by
  obtain ⟨h1, h2⟩ := trod_ints ht he hc hct hd
  have hsz : cs.size = n := by rw [← Array.length_toList, h1, List.length_map, h2]
  obtain ⟨c, el, hh⟩ := hz 0 (by omega)
  have hcell : ∀ i, i < n → c[i]? = cs[i]? := fun i hi => by
    have := World.var?_cell hg hv i
    simpa [World.cell?, hh] using this
  have hcs : ∀ i, cs[i]? = (ns.map (Value.int k))[i]? := fun i => by rw [← Array.getElem?_toList, h1]
  have hle : n ≤ c.size := by
    rcases Nat.lt_or_ge c.size n with hlt | hge
    · exfalso
      have h3 := hcell c.size hlt
      rw [Array.getElem?_eq_none (Nat.le_refl _), hcs, List.getElem?_eq_getElem (by rw [List.length_map]; omega)] at h3
      cases h3
    · exact hge
  have hil : (intsOf k ns).length = n := by simp [intsOf, h2]
  refine ⟨heap_lt hh, c, el, (0, 0), hh, by rw [hil]; exact hle, noFz, fun E => RL.of_get (by simp [hil]; omega) fun i x y hx hy => ?_⟩
  have hi : i < n := by
    rcases Nat.lt_or_ge i n with hi | hi
    · exact hi
    · rw [List.getElem?_eq_none (by rw [hil]; exact hi)] at hx; cases hx
  rw [List.getElem?_take_of_lt (by rw [hil]; exact hi), Array.getElem?_toList, hcell i hi, hcs] at hy
  unfold intsOf at hx
  rw [List.getElem?_map] at hx hy
  cases hni : ns[i]? with
  | none => rw [hni] at hx; cases hx
  | some z => rw [hni] at hx hy; cases hx; cases hy; exact R.mkInt _ _ _

/-! ### an argument, of which its kind is known -/
def ukT (P : Program) (u : TypeId) : Option UK := match P.underlying u with
  | some .bool => some .b
  | some (.int k) => some (.i k)
  | some .string => some .s
  | some (.slice _) => some .l
  | _ => none
theorem cell_un {P : Program} {w : World} {r : Reach} {base : Nat} {u : TypeId} {v : Value} {k : UK} (h : Cell.okWide P w r base u v) (hu : ukT P u = some k) : UR k v := by
  unfold ukT at hu
  split at hu <;> first | (cases hu; done) | skip
  all_goals
    rename_i hd
    cases hu
    simp only [Cell.okWide, Cell.ok, hd] at h
    cases v <;> simp at h <;> first | exact ⟨_, rfl⟩ | exact ⟨_, _, _, rfl⟩ | (obtain ⟨rfl, _⟩ := h; exact ⟨_, rfl⟩) | skip
def argU (P : Program) (t : TypeId) : Option GV := match P.underlying t with
  | some (.struct _) => (P.cellTypes P.depth t).bind fun ts => if ts.length = P.cellsOf t then (ts.mapM (ukT P)).map fun l => .agg (l.map .un) else none
  | some (.array _ _) => none
  | _ => (ukT P t).map .un
theorem mapM_some {α β : Type} {f : α → Option β} : ∀ {l : List α} {r : List β}, l.mapM f = some r → r.length = l.length ∧ ∀ (i : Nat) (x : α) (y : β), l[i]? = some x → r[i]? = some y → f x = some y
  | [], r, h => by simp at h; subst h; exact ⟨rfl, fun i x y h => by simp at h⟩
  | a :: l, r, h => by
    rw [List.mapM_cons] at h
    obtain ⟨b, hb, h⟩ := Option.bind_eq_some_iff.1 h
    obtain ⟨r', hr, h⟩ := Option.bind_eq_some_iff.1 h
    cases h
    obtain ⟨h1, h2⟩ := mapM_some hr
    refine ⟨by simp [h1], fun i x y hx hy => ?_⟩
    cases i with
    | zero => cases hx; cases hy; exact hb
    | succ i => exact h2 i x y (by simpa using hx) (by simpa using hy)
theorem arg_un {P : Program} {w : World} {r : Reach} {base : Nat} {t : TypeId} {v : Value} {g : GV} (h : Value.okWide P w r base t v) (hg : argU P t = some g) (E : Env) : R E g v := by
  unfold argU at hg
  unfold Value.okWide at h
  split at hg
  · rename_i fs hu
    rw [hu] at h
    obtain ⟨cs, rfl, hsz, ts, hts, hn, hc⟩ := h
    rw [hts] at hg
    change (if ts.length = P.cellsOf t then (ts.mapM (ukT P)).map fun l => GV.agg (l.map .un) else none) = some g at hg
    split at hg
    · rename_i hl
      obtain ⟨l, hl2, rfl⟩ := Option.map_eq_some_iff.1 hg
      obtain ⟨h1, h2⟩ := mapM_some hl2
      simp only [R]
      refine ⟨cs, rfl, RL.of_get (by simp; omega) fun i x y hx hy => ?_⟩
      have hi : i < cs.size := by
        rcases Nat.lt_or_ge i cs.size with hi | hi
        · exact hi
        · rw [List.getElem?_eq_none (by simpa using hi)] at hy; cases hy
      rw [Array.getElem?_toList] at hy
      obtain ⟨u, hu', hok⟩ := hc i y hy
      rw [Nat.mod_eq_of_lt (by omega)] at hu'
      rw [List.getElem?_map] at hx
      cases hli : l[i]? with
      | none => rw [hli] at hx; cases hx
      | some k =>
        rw [hli] at hx; cases hx
        simp only [R]
        exact cell_un hok (h2 i u k hu' hli)
    · cases hg
  · cases hg
  · rename_i hs ha
    obtain ⟨k, hk, rfl⟩ := Option.map_eq_some_iff.1 hg
    simp only [R]
    refine cell_un (w := w) (r := r) (base := base) (u := t) ?_ hk
    split at h
    · rename_i fs hu; exact absurd hu (hs fs)
    · rename_i n e hu; exact absurd hu (ha n e)
    · exact h
end Go.Gh
