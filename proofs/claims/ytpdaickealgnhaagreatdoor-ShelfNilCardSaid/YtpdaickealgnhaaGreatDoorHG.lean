/- Operations on memory: append, copy, bytes and texts. -/
import Derived.Test.YtpdaickealgnhaaGreatDoorHF
import Derived.Laws.BytesString
import Derived.Laws.IdiomStrings
import Derived.Lib.AppendZeros
namespace Go.Gh
set_option linter.unusedVariables false

section
variable {CR : Nat → Code → GC → Prop} {P : Program} {X : Cx} {N : Nat} {E : Env} {t : T GV} {a : Act} {w0 w : World} {h : T GO} {nx : Nat}

theorem new_ok' (hW : WR CR E w0 h nx w) {k : Nat} (hk : nx ≤ k) {t : T GV} {lo n : Nat} {d : GV} {c : Array Value} {el : TypeId} {fz : Nat × Nat} (hn : n ≤ c.size) (hfz : ∀ i, fz.1 ≤ i → i < fz.2 → c.size ≤ i)
    (hc : ∀ i, i < n → ∃ x, c[i]? = some x ∧ R E ((t.get (lo + i)).getD d) x) :
    ∃ E', E.le E' ∧ E'.m k = some (w.heap.size, 0) ∧ E'.sz w.heap.size = c.size ∧ WR CR E' w0 (h.set k (.cells t lo n d false)) (k + 1) (w.alloc (.cells c el fz)) := by
  obtain ⟨h1, h2, h3, h4⟩ := hW.alloc hk (o := .cells t lo n d false) (.cells c el fz) c.size (fun _ => ⟨c, el, fz, rfl, Nat.le_refl _⟩) (fun E' hE' hle => by
    simp only [OR]
    refine ⟨w.heap.size, 0, c, el, fz, by rw [hE']; simp [Env.add], World.alloc_heap_new w _, by rw [hE']; simp [Env.add]; omega, by rw [hE']; simp [Env.add], hfz, fun _ => hW.fr.size, fun i hi => ?_⟩
    obtain ⟨x, hx, hr⟩ := hc i hi
    exact ⟨x, by simpa using hx, R.mono hle _ _ hr⟩)
  exact ⟨_, h1, h2, h3, h4⟩

theorem rowOf_ok (hW : WR CR E w0 h nx w) {b o k : Nat} {r : List GV} (hr : rowOf h b o k = some r) {cb co : Nat} (hm : E.m b = some (cb, co)) :
    ∃ c el fz, w.heap[cb]? = some (.cells c el fz) ∧ co + o + k ≤ c.size ∧ RL E r ((c.toList.drop (co + o)).take k) := by
  obtain ⟨t, lo, n, d, ro, hb, hr⟩ := onCells_some hr
  obtain ⟨hle, hr⟩ := okIf_some hr
  cases hr
  have hle : o + k ≤ n := ble_t hle
  obtain ⟨c, el, fz, q1, q2, q3, q4, q5, q6⟩ := row_ok hW hb hm
  exact ⟨c, el, fz, q1, by omega, q6 o k hle⟩

theorem srcOf_ok (hW : WR CR E w0 h nx w) {sz : Nat} {x : GV} {V : Value} (hx : R E x V) {k : Nat → List GV → Option MS} {s : MS} (hs : srcOf h sz x k = some s) :
    ∃ n xs cs, k n xs = some s ∧ Src P w sz V n cs ∧ RL E xs cs ∧ ((∃ c, V = .slice none 0 c) ∨ ∃ q c, V = .slice (some q) n c) := by
  rcases onSl_some hs with ⟨rfl, hs⟩ | ⟨b, o, l, c, e, z, rfl, hs⟩
  · simp only [R] at hx; subst hx
    exact ⟨0, [], [], hs, ⟨by simp, fun _ => by simp [Builtin.lenOf], fun m w' _ _ => by simp [Builtin.firstCells]⟩, by simp only [RL], .inl ⟨0, rfl⟩⟩
  · obtain ⟨hz, hs⟩ := okIf_some hs
    have hz := beq_t hz; subst hz
    simp only [R] at hx
    obtain ⟨cb, co, ad, cc, hm, rfl, hlc, hcc, hex, had, hroom⟩ := hx
    cases hl : Nat.beq l 0 with
    | true =>
      rw [hl] at hs
      have hl0 := beq_t hl; subst hl0
      refine ⟨0, [], [], hs, ⟨by simp, fun _ => by simp [Builtin.lenOf], fun m w' hm' _ => ?_⟩, by simp only [RL], .inr ⟨_, _, rfl⟩⟩
      have : m = 0 := by omega
      subst this
      simp [Builtin.firstCells, loadCells, loadCellsFrom]
    | false =>
      rw [hl] at hs
      have hl0 := beq_f hl
      obtain ⟨r, hr, hs⟩ := orec_some hs
      have had : ad = ⟨cb, co + o, none⟩ := had.resolve_left (by omega)
      subst had
      obtain ⟨c', el, fz, q1, q2, q3⟩ := rowOf_ok hW hr hm
      have q2 : co + o + l * z ≤ c'.size := q2
      refine ⟨l, r, (c'.toList.drop (co + o)).take (l * z), hs, ⟨by simp; omega, fun _ => by simp [Builtin.lenOf], fun m w' hm' hw => ?_⟩, q3, .inr ⟨_, _, rfl⟩⟩
      have hmz : m * z ≤ l * z := Nat.mul_le_mul_right _ hm'
      rw [List.take_take, Nat.min_eq_left hmz]
      simp only [Builtin.firstCells]
      exact run_loadCells_of (w := w') (by rw [hw]; exact q1) (by omega)

theorem srcS_ok {x : GV} {V : Value} (hx : R E x V) {k : Nat → List GV → Option MS} {s : MS} (hs : srcS x k = some s) :
    ∃ n xs cs, k n xs = some s ∧ Src P w 1 V n cs ∧ RL E xs cs := by
  obtain ⟨l, rfl, hs⟩ := onStr_some hs
  obtain ⟨rfl, hl⟩ := R.str hx
  refine ⟨l.length, _, l.map fun c => .int .u8 (c : Nat), hs, ⟨by simp, fun _ => by simp [Builtin.lenOf, bs_size], fun m w' hm hw => ?_⟩, ?_⟩
  · simp only [Builtin.firstCells, Sem.run_pure, Nat.mul_one]
    congr 1
    rw [bs_extract l 0 m hm]
    apply Array.toList_inj.1
    simp only [bs, Array.toList_map, List.drop_zero, Nat.sub_zero, List.map_map, ← List.map_take]
    refine List.map_congr_left fun c hc => ?_
    have := hl c (List.mem_of_mem_take hc)
    simp [UInt8.toNat_ofNat_of_lt' this]
  · refine RL.of_get (by simp) fun i p q hp hq => ?_
    rw [List.getElem?_map] at hp hq
    cases hc : l[i]? with
    | none => rw [hc] at hp; cases hp
    | some c => rw [hc] at hp hq; cases hp; cases hq; exact R.mkInt _ _ _

theorem app1_ok (hW : WR CR E w0 h nx w) {st xt ty e : TypeId} {i : TypeInfo} {z : Value} {d : TypeDesc} (hst : P.underlying st = some (.slice e)) (hxt : P.underlying xt = some d) (hd : ∀ k, d ≠ .int k)
    (hi : P.info? e = some i) (hiz : i.zero = some z) (hzs : z.cells.size = i.size) (hb : i.bytes ≤ 1024) {g : GV} {V Y : Value} (hg : R E g V) {n : Nat} {xs : List GV} {cs : List Value} (hsrc : Src P w i.size Y n cs) (hxs : RL E xs cs) {s : MS}
    (hs : mApp1 h nx i.size g n xs = some s) :
    ∃ E' v' w', (Builtin.append_ #[st, xt] ty #[V, Y]).run P w = .ok v' w' ∧ E.le E' ∧ R E' s.v v' ∧ WR CR E' w0 s.h s.nx w' := by
  have hcl : cs.length = n * i.size := hsrc.1
  have hxl : xs.length = cs.length := hxs.length.symm
  rcases onSl_some hs with ⟨rfl, hs2⟩ | ⟨b, o, len, cap, ex, zz, rfl, hs2⟩
  · replace hs := hs2
    clear hs2
    simp only [R] at hg; subst hg
    cases hn : Nat.beq n 0 with
    | true =>
      rw [hn] at hs; cases hs
      have := beq_t hn; subst this
      exact ⟨E, _, w, run_append_in (w' := w) hst hxt hd hi hsrc (Nat.le_refl _) rfl, Env.le_refl E, by simp only [R], hW⟩
    | false =>
      rw [hn] at hs
      have hn0 := beq_f hn
      obtain ⟨hle, hs⟩ := okIf_some hs
      cases hs
      have hle : n ≤ 1073741824 := ble_t hle
      obtain ⟨nc, hnc, hrun⟩ := run_append_grow' (ty := ty) (base := none) (len := 0) (c := 0) (old := []) hst hxt hd hi hiz hsrc (by omega) (by omega) hb (fun w' _ => by simp [Builtin.firstCells])
      obtain ⟨E', g1, g2, g3, g4⟩ := newList_ok (k := nx) hW.drew (Nat.le_refl nx) (l := xs) (c := (([] : List Value).toArray ++ cs.toArray ++ Builtin.zeroCells z.cells (nc - (0 + n)))) (el := e) (fz := (0, 0)) noFz (by
        have e1 : (([] : List Value).toArray ++ cs.toArray ++ Builtin.zeroCells z.cells (nc - (0 + n))).toList.take xs.length = cs := by
          rw [hxl]; simp
        rw [e1]; exact hxs)
      refine ⟨E', _, _, hrun, g1, ?_, g4⟩
      simp only [R]
      refine ⟨w.heap.size, 0, _, nc, g2, by simp, Nat.le_refl _, by omega, (fun h => by cases h), .inr rfl, .inr ?_⟩
      rw [show w.heap.size = w.drew.heap.size from rfl, g3]
      simp only [Array.size_append, List.size_toArray, List.length_nil, hcl, Builtin.zeroCells, Array.size_map, Array.size_range, hzs]
      have : n * i.size + (nc - (0 + n)) * i.size = nc * i.size := by rw [← Nat.add_mul]; congr 1; omega
      omega
  · replace hs := hs2
    clear hs2
    obtain ⟨hz, hs⟩ := okIf_some hs
    have hz := beq_t hz; subst hz
    simp only [R] at hg
    obtain ⟨cb, co, ad, c, hm, rfl, hlc, hcc, hex, had, hroom⟩ := hg
    cases hn : Nat.beq n 0 with
    | true =>
      rw [hn] at hs; cases hs
      have := beq_t hn; subst this
      have hcs : cs = [] := List.eq_nil_of_length_eq_zero (by rw [hcl]; simp)
      subst hcs
      exact ⟨E, _, w, run_append_in (w' := w) hst hxt hd hi hsrc (by omega) (by simp [storeCells]), Env.le_refl E, by simp only [R]; exact ⟨cb, co, ad, c, hm, rfl, by omega, hcc, hex, had, hroom⟩, hW⟩
    | false =>
      rw [hn] at hs
      have hn0 := beq_f hn
      cases hfit : Nat.ble (Nat.add len n) cap with
      | true =>
        rw [hfit] at hs
        have hfit : len + n ≤ cap := ble_t hfit
        obtain ⟨h', hp, hs⟩ := orec_some hs
        cases hs
        have had : ad = ⟨cb, co + o, none⟩ := had.resolve_left (by omega)
        subst had
        obtain ⟨w', hrun, hW'⟩ := put_ok (P := P) hW hp hm hxs
        refine ⟨E, _, w', run_append_in (w' := w') hst hxt hd hi hsrc (by omega) ?_, Env.le_refl E, ?_, hW'⟩
        · simp only [addr_add]
          rw [show co + o + len * i.size = co + Nat.add o (Nat.mul len i.size) by show _ = co + (o + len * i.size); omega]
          exact hrun
        · simp only [R]
          exact ⟨cb, co, _, c, hm, rfl, hfit, hcc, hex, .inr rfl, hroom⟩
      | false =>
        rw [hfit] at hs
        have hfit : cap < len + n := ble_f hfit
        obtain ⟨tr, lo, k, dd, ro, hb', hs⟩ := onCells_some hs
        obtain ⟨hcond, hs⟩ := okIf_some hs
        cases hs
        obtain ⟨hk, hcond⟩ := band_t hcond
        obtain ⟨hneed, hcond⟩ := band_t hcond
        obtain ⟨hro, hall⟩ := band_t hcond
        have hk : o + len * i.size ≤ k := ble_t hk
        have hneed : len + n ≤ 1073741824 := ble_t hneed
        obtain ⟨cc, el, fz, q1, q2, q3, q4, q5, q6⟩ := row_ok hW hb' hm
        -- the new block's cells, wherever they lie
        have hold := q6 o (len * i.size) hk
        by_cases hgrow : c < len + n
        · -- a new block
          have hfc : ∀ w', w'.heap = w.heap → (Builtin.firstCells i.size len (.slice (some ad) len c)).run P w' = .ok ((cc.toList.drop (co + o)).take (len * i.size)).toArray w' := by
            intro w' hw
            by_cases hl0 : len = 0
            · subst hl0; simp [Builtin.firstCells, loadCells, loadCellsFrom]
            · have had : ad = ⟨cb, co + o, none⟩ := had.resolve_left (by omega)
              subst had
              simp only [Builtin.firstCells]
              exact run_loadCells_of (w := w') (by rw [hw]; exact q1) (by omega)
          obtain ⟨nc, hnc, hrun⟩ := run_append_grow' (ty := ty) hst hxt hd hi hiz hsrc hgrow hneed hb hfc
          have hsz : (((cc.toList.drop (co + o)).take (len * i.size)).toArray ++ cs.toArray ++ Builtin.zeroCells z.cells (nc - (len + n))).size = nc * i.size := by
            simp only [Array.size_append, List.size_toArray, hcl, Builtin.zeroCells, Array.size_map, Array.size_range, hzs, List.length_take, List.length_drop, Array.length_toList]
            rw [Nat.min_eq_left (by omega), ← Nat.add_mul, ← Nat.add_mul]
            congr 1; omega
          have hcells : ∀ j, j < (len + n) * i.size → ∃ x, (((cc.toList.drop (co + o)).take (len * i.size)).toArray ++ cs.toArray ++ Builtin.zeroCells z.cells (nc - (len + n)))[j]? = some x ∧
              R E (((T.lay xs (Nat.add lo (Nat.add o (Nat.mul len i.size))) tr).get (Nat.add lo o + j)).getD dd) x := by
            intro j hj
            rw [Nat.add_mul] at hj
            simp only [Nat.add_eq, Nat.mul_eq]
            rw [T.get_lay]
            have hl1 : ((cc.toList.drop (co + o)).take (len * i.size)).length = len * i.size := by simp; omega
            rw [← Array.getElem?_toList]
            simp only [Array.toList_append]
            rw [List.append_assoc]
            by_cases hj1 : j < len * i.size
            · rw [if_neg (by omega), List.getElem?_append_left (by rw [hl1]; exact hj1)]
              have hx := T.getElem_read tr dd (len * i.size) (lo + o) j hj1
              obtain ⟨y, hy, hr⟩ := hold.get hx
              exact ⟨y, hy, hr⟩
            · rw [if_pos (by omega), List.getElem?_append_right (by rw [hl1]; omega), hl1, List.getElem?_append_left (by omega)]
              rw [show lo + o + j - (lo + (o + len * i.size)) = j - len * i.size by omega]
              have hx : xs[j - len * i.size]? = some xs[j - len * i.size] := List.getElem?_eq_getElem (by omega)
              obtain ⟨y, hy, hr⟩ := hxs.get hx
              exact ⟨y, hy, by rw [hx]; exact hr⟩
          have fin : ∀ {h2 : T GO}, WR CR E w0 h2 nx w.drew → ∃ E' v' w', (Builtin.append_ #[st, xt] ty #[.slice (some ad) len c, Y]).run P w = .ok v' w' ∧ E.le E' ∧ R E' (.sl nx 0 (Nat.add len n) (Nat.add len n) false i.size) v' ∧
              WR CR E' w0 (T.set h2 nx (.cells (T.lay xs (Nat.add lo (Nat.add o (Nat.mul len i.size))) tr) (Nat.add lo o) (Nat.mul (Nat.add len n) i.size) dd false)) (Nat.succ nx) w' := by
            intro h2 hW2
            obtain ⟨E', g1, g2, g3, g4⟩ := new_ok' (el := e) (fz := (0, 0)) hW2 (Nat.le_refl nx) (n := (len + n) * i.size) (by rw [hsz]; exact Nat.mul_le_mul_right _ hnc) noFz hcells
            refine ⟨E', _, _, hrun, g1, ?_, g4⟩
            simp only [R]
            refine ⟨w.heap.size, 0, _, nc, g2, rfl, Nat.le_refl _, hnc, (fun h => by cases h), .inr rfl, .inr ?_⟩
            rw [show w.heap.size = w.drew.heap.size from rfl, g3, hsz]; omega
          cases ex with
          | true => exact fin hW.drew
          | false => exact fin (hW.drew.kill b)
        · -- the machine has room: the same block under a new number
          have hexf : ex = false := by
            cases ex with
            | false => rfl
            | true => have := hex rfl; omega
          subst hexf
          have hrof : ro = false := by
            have : bnot ro = true := hro
            rw [bnot_eq] at this; simpa using this
          have had : ad = ⟨cb, co + o, none⟩ := had.resolve_left (by omega)
          subst had
          have hroom : co + o + c * i.size ≤ E.sz cb := hroom.resolve_left (by omega)
          have hle1 : (len + n) * i.size ≤ c * i.size := Nat.mul_le_mul_right _ (by omega)
          have hle2 : len * i.size + n * i.size = (len + n) * i.size := (Nat.add_mul _ _ _).symm
          have hst2 : (storeCells ⟨cb, co + o + len * i.size, none⟩ cs).run P w = .ok () (w.putObj cb (.cells (wrt cc (co + o + len * i.size) cs) el fz)) := by
            have := run_storeCells_of (P := P) (cb := cb) (o := co + o + len * i.size) cs 0 q1 q4 (by omega) (allCell_one hall hxs)
            simpa using this
          let E' : Env := { m := fun x => if x = nx then some (cb, co + o) else E.m x, sz := E.sz }
          have hle : E.le E' := ⟨fun g x hg => by
            have := hW.lt g x hg
            show (if g = nx then _ else E.m g) = _
            rw [if_neg (by omega)]; exact hg, fun _ => Nat.le_refl _⟩
          have hmn : E'.m nx = some (cb, co + o) := by show (if nx = nx then _ else _) = _; rw [if_pos rfl]
          refine ⟨E', _, _, run_append_in hst hxt hd hi hsrc (by omega) (by simp only [addr_add]; exact hst2), hle, ?_, ?_⟩
          · simp only [R]
            exact ⟨cb, co + o, _, c, hmn, rfl, Nat.le_refl _, by show len + n ≤ c; omega, (fun h => by cases h), .inr rfl, .inr hroom⟩
          · refine WR.fresh (hW.kill b) (Nat.le_refl nx) hle hmn (fun g hg => by show (if g = nx then _ else _) = _; rw [if_neg hg]) ?_ (q5 hrof) (fun b' hb2 => World.putObj_heap_other hb2) (by rw [World.putObj_size]; exact Nat.le_refl _) rfl rfl rfl
              (fun b' hb1 hb2 => ⟨hb1, rfl⟩) (fun hpos => ⟨_, el, fz, World.putObj_heap_same (heap_lt q1), by rw [wrt_size]; exact q3⟩) ?_
            · intro g q c' hg hm'
              rw [T.get_del] at hg
              by_cases e' : g = b
              · rw [if_pos e'] at hg; cases hg
              · rw [if_neg e'] at hg
                exact e' (hW.inj g b q _ _ _ _ hg hb' hm' hm)
            · simp only [OR]
              refine ⟨cb, co + o, wrt cc (co + o + len * i.size) cs, el, fz, hmn, World.putObj_heap_same (heap_lt q1), by show co + o + (len + n) * i.size ≤ E.sz cb; omega, by rw [wrt_size]; exact q3, by rw [wrt_size]; exact q4, fun _ => q5 hrof, fun j hj => ?_⟩
              have hj : j < (len + n) * i.size := hj
              simp only [Nat.add_eq, Nat.mul_eq]
              rw [wrt_get _ _ _ _ (by omega), T.get_lay]
              by_cases hj1 : j < len * i.size
              · rw [if_neg (by omega), if_neg (by omega)]
                have hx := T.getElem_read tr dd (len * i.size) (lo + o) j hj1
                obtain ⟨y, hy, hr⟩ := hold.get hx
                rw [List.getElem?_take_of_lt hj1, List.getElem?_drop, Array.getElem?_toList] at hy
                exact ⟨y, hy, R.mono hle _ _ hr⟩
              · rw [if_pos (by omega), if_pos (by omega)]
                rw [show lo + o + j - (lo + (o + len * i.size)) = j - len * i.size by omega, show co + o + j - (co + o + len * i.size) = j - len * i.size by omega]
                have hx : xs[j - len * i.size]? = some xs[j - len * i.size] := List.getElem?_eq_getElem (by omega)
                obtain ⟨y, hy, hr⟩ := hxs.get hx
                exact ⟨y, hy, by rw [hx]; exact R.mono hle _ _ hr⟩
end
end Go.Gh

/- Operations on memory: slices made and taken, append, copy, bytes and texts. -/
namespace Go.Gh
set_option linter.unusedVariables false

section
variable {CR : Nat → Code → GC → Prop} {P : Program} {X : Cx} {N : Nat} {E : Env} {t : T GV} {a : Act} {w0 w : World} {h : T GO} {nx : Nat}
variable (hT : Tb P X.tb) (ht : TR E N t a.tmps) (hg : GL E X.ng) (hW : WR CR E w0 h nx w)

include hT ht hg hW in
theorem m_makeSlice {o : Oper} {ty : TypeId} {l c : Operand} {m : Mf} {s : MS} (ho : o.op = .makeSlice ty l c) (hc : cMf X P (.makeSlice ty l c) = some m) (hm : mf t h nx m = some s) : MOk CR P E w0 o a w s := by
  simp only [cMf] at hc
  split at hc
  · rename_i e ol oc hu hl hcc
    split at hc
    · rename_i z by_ zs hz hb hzs
      split at hc
      · rename_i hcond
        cases hc
        obtain ⟨hzl, hz0⟩ := hcond
        obtain ⟨n, hn, hm⟩ := orec_some (show mMksl h nx z by_ zs (ev t ol) (ev t oc) = some s from hm)
        obtain ⟨k, hk, hm⟩ := orec_some hm
        obtain ⟨hbb, hm⟩ := okIf_some hm
        obtain ⟨hb1, hb2⟩ := band_t hbb
        obtain ⟨hb3, hb2⟩ := band_t hb2
        have hb1 : n ≤ k := ble_t hb1
        have hb3 : k ≤ 1099511627776 := ble_t hb3
        have hb2 : by_ * k ≤ 1099511627776 := ble_t hb2
        obtain ⟨kl, e1⟩ := natOf_val hn (ev_ok ht hg hl)
        obtain ⟨kc, e2⟩ := natOf_val hk (ev_ok ht hg hcc)
        obtain ⟨it, zv, h1, h2, h3, h4⟩ := zeroCells_ok hT hzs E
        obtain ⟨it', hit', hby⟩ := Option.map_eq_some_iff.1 hb
        have := hT _ _ hit'
        rw [h1] at this; cases this
        have hsz : it.size = z := by
          have := run_sizeOf' hT hz w
          simp [sizeOf, typeInfo, h1] at this
          exact this
        have hzc : zv.cells.size = z := by rw [← Array.length_toList, h3.length, hzl]
        have hrun : (execOp a.eval o).run P w = .ok (.value (.slice (some ⟨w.heap.size, 0, none⟩) n k)) (w.alloc (.cells (madeCells zv.cells (k * z)) e)) := by
          have := run_make (P := P) w ty e it zv (und_ok hT hu) h1 h2 kl kc n k (by omega) (by omega) (by
              have : ((it.bytes * k : Nat) : Int) ≤ 1099511627776 := by rw [hby]; omega
              rw [Int.natCast_mul] at this; omega) (by omega)
          simp only [execOp, ho, e1, e2, Sem.run_bind, this, Result.andThen_ok, Sem.run_pure, Int.toNat_natCast, hsz]
        have hcl : (madeCells zv.cells (k * z)).size = k * z := size_madeCells _ _
        have hcells : RL E (reps zs k) (madeCells zv.cells (k * z)).toList := by
          have := reps_cells h3 k
          rw [hzl] at this
          exact this
        have fin : ∀ {E' : Env}, E.le E' → E'.m nx = some (w.heap.size, 0) → E'.sz w.heap.size = k * z → R E' (.sl nx 0 n k true z) (.slice (some ⟨w.heap.size, 0, none⟩) n k) := fun {E'} f1 f2 f3 => by
          simp only [R]
          exact ⟨w.heap.size, 0, _, k, f2, rfl, hb1, Nat.le_refl _, fun _ => rfl, .inr (by simp), .inr (by rw [f3]; omega)⟩
        cases h1z : Nat.beq z 1 with
        | true =>
          rw [h1z] at hm; cases hm
          have := beq_t h1z; subst this
          obtain ⟨d, hd⟩ : ∃ d, zs = [d] := by
            match zs, hzl with
            | [d], _ => exact ⟨d, rfl⟩
          subst hd
          obtain ⟨E', f1, f2, f3, f4⟩ := new_ok hW (Nat.le_refl nx) (t := .nil) (n := k) (d := d) (c := madeCells zv.cells (k * 1)) (el := e) (fz := (0, 0)) (by rw [hcl]; omega) noFz (fun i hi => by
            have hx : (reps [d] k)[i]? = some d := by
              rw [reps_get [d] k i (by simpa using hi)]
              simp [Nat.mod_one]
            obtain ⟨y, hy, hr⟩ := hcells.get hx
            exact ⟨y, by simpa using hy, by simpa [T.get_nil] using hr⟩)
          exact ⟨E', _, _, _, hrun, .inl rfl, f1, fin f1 f2 (by rw [f3, hcl]), f4⟩
        | false =>
          rw [h1z] at hm; cases hm
          obtain ⟨E', f1, f2, f3, f4⟩ := newList_ok hW (Nat.le_refl nx) (c := madeCells zv.cells (k * z)) (el := e) (fz := (0, 0)) noFz (l := reps zs k) (by rw [← hcells.length, List.take_length]; exact hcells)
          exact ⟨E', _, _, _, hrun, .inl rfl, f1, fin f1 f2 (by rw [f3, hcl]), f4⟩
      · cases hc
    · cases hc
  · cases hc

include hT ht hg hW in
theorem m_slice {o : Oper} {ty : TypeId} {x : Operand} {lo hi mx : Option Operand} {m : Mf} {s : MS} (ho : o.op = .slice ty x lo hi mx) (hc : cMf X P (.slice ty x lo hi mx) = some m) (hm : mf t h nx m = some s) : MOk CR P E w0 o a w s := by
  simp only [cMf] at hc
  split at hc
  · rename_i n e ox l1 l2 l3 hu hx hl1 hl2 hl3
    split at hc
    · cases hc
    · rename_i hmh
      obtain ⟨z, hz, rfl⟩ := Option.map_eq_some_iff.1 hc
      obtain ⟨b, oo, ep, hm⟩ := onPtr_some (show mSlarr t h nx n z (ev t ox) l1 l2 l3 = some s from hm)
      obtain ⟨tr, lo', k, dd, ro, hb, hm⟩ := onCells_some hm
      obtain ⟨hle, hm⟩ := okIf_some hm
      have hle : oo + n * z ≤ k := ble_t hle
      obtain ⟨l, hl, hm⟩ := orec_some hm
      obtain ⟨hh, hhh, hm⟩ := orec_some hm
      obtain ⟨mm, hmm, hm⟩ := orec_some hm
      obtain ⟨hbb, hm⟩ := okIf_some hm
      cases hm
      obtain ⟨hb1, hb2⟩ := band_t hbb
      obtain ⟨hb2, hb3⟩ := band_t hb2
      have hb1 : l ≤ hh := ble_t hb1
      have hb2 : hh ≤ mm := ble_t hb2
      have hb3 : mm ≤ n := ble_t hb3
      have hr := ev_ok ht hg hx
      rw [ep] at hr; simp only [R] at hr
      obtain ⟨cb, co, hmm', hv⟩ := hr
      obtain ⟨cc, el, fz, q1, q2, q3, q4, q5, q6⟩ := row_ok hW hb hmm'
      have hrun : (Instr.sliceBounds false n n (lo.map a.eval) (hi.map a.eval) (mx.map a.eval)).run P w = .ok (l, hh, mm) w := by
        refine run_bounds ?_ ?_ ?_
        · rcases bnd_ok (a := a) (E := E) ht hg hl3 hmm with ⟨rfl, rfl, rfl⟩ | ⟨k', y, rfl, _, hy⟩
          · exact .inl ⟨rfl, rfl⟩
          · exact .inr ⟨k', by simp [hy], hb3⟩
        · rcases bnd_ok (a := a) (E := E) ht hg hl2 hhh with ⟨rfl, rfl, rfl⟩ | ⟨k', y, rfl, _, hy⟩
          · refine .inl ⟨rfl, ?_, rfl⟩
            cases mx with
            | none => rfl
            | some y =>
              exfalso
              obtain ⟨z', hz', rfl⟩ := Option.map_eq_some_iff.1 (show (cod X.ng y).map some = some l3 from hl3)
              exact hmh rfl
          · exact .inr ⟨k', by simp [hy], hb2⟩
        · rcases bnd_ok (a := a) (E := E) ht hg hl1 hl with ⟨rfl, rfl, rfl⟩ | ⟨k', y, rfl, _, hy⟩
          · exact .inl ⟨rfl, rfl⟩
          · exact .inr ⟨k', by simp [hy], hb1⟩
      refine ⟨E, .slice (some (if mm = l then ⟨cb, co + oo, none⟩ else (⟨cb, co + oo, none⟩ : Addr).add (l * z))) (hh - l) (mm - l), w, _, ?_, .inl rfl, Env.le_refl E, ?_, hW⟩
      · simp [execOp, ho, Instr.sliceAt, run_underlying (und_ok hT hu), hv, Instr.sureAddr, hrun, run_sizeOf' hT hz w]
      · simp only [R]
        refine ⟨cb, co, _, mm - l, hmm', rfl, by show hh - l ≤ mm - l; omega, Nat.le_refl _, fun _ => rfl, ?_, .inr ?_⟩
        · by_cases e' : mm = l
          · left; omega
          · right; rw [if_neg e', addr_add]; show _ = Addr.mk cb (co + (oo + l * z)) none; rw [Nat.add_assoc]
        · show co + (oo + l * z) + (mm - l) * z ≤ _
          have e2 : l * z + (mm - l) * z = mm * z := by rw [← Nat.add_mul]; congr 1; omega
          have e3 : mm * z ≤ n * z := Nat.mul_le_mul_right _ hb3
          omega
  · cases hc
end
end Go.Gh

/- Operations on memory: append, copy, texts and bytes, clear of slices. -/
namespace Go.Gh
set_option linter.unusedVariables false

section
variable {CR : Nat → Code → GC → Prop} {P : Program} {X : Cx} {N : Nat} {E : Env} {t : T GV} {a : Act} {w0 w : World} {h : T GO} {nx : Nat}
variable (hT : Tb P X.tb) (ht : TR E N t a.tmps) (hg : GL E X.ng) (hW : WR CR E w0 h nx w)

theorem szInfo {P : Program} {tb : T TypeInfo} (hT : Tb P tb) {e : TypeId} {z : Nat} (hz : szOf tb e = some z) {i : TypeInfo} (hi : P.info? e = some i) : i.size = z := by
  obtain ⟨j, hj, rfl⟩ := Option.map_eq_some_iff.1 hz
  have := hT _ _ hj
  rw [hi] at this; cases this; rfl

include hT ht hg hW in
theorem m_append {st xt ty : TypeId} {sx xx : Operand} {m : Mf} {s : MS} (hc : cAppend X P st xt sx xx = some m) (hm : mf t h nx m = some s) :
    ∃ E' v' w', (Builtin.append_ #[st, xt] ty #[a.eval sx, a.eval xx]).run P w = .ok v' w' ∧ E.le E' ∧ R E' s.v v' ∧ WR CR E' w0 s.h s.nx w' := by
  unfold cAppend at hc
  split at hc
  · rename_i e oa ob h1 h2 h3 h4
    split at hc
    · rename_i hz hu hzero
      split at hc
      · rename_i hby
        cases hc
        obtain ⟨n, xs, cs, hm, hsrc, hr⟩ := srcS_ok (P := P) (w := w) (ev_ok ht hg h4) (show mApps h nx (ev t oa) (ev t ob) = some s from hm)
        obtain ⟨i, hi, hb⟩ := Option.map_eq_some_iff.1 hby
        obtain ⟨i', hi', hz'⟩ := Option.bind_eq_some_iff.1 hzero
        rw [hi] at hi'; cases hi'
        have hs1 := szInfo hT hz (hT _ _ hi)
        exact app1_ok hW (und_ok hT h1) (und_ok hT h2) (fun k => by simp) (hT _ _ hi) hz' (by rw [hs1]; rfl) (by omega) (ev_ok ht hg h3) (by rw [hs1]; exact hsrc) hr (by rw [hs1]; exact hm)
      · cases hc
    · cases hc
  · rename_i e e2 oa ob h1 h2 h3 h4
    split at hc
    · rename_i z by_ zs hz hby hzs
      split at hc
      · rename_i hcond
        cases hc
        obtain ⟨n, xs, cs, hm, hsrc, hr, _⟩ := srcOf_ok (P := P) hW (ev_ok ht hg h4) (show mApp h nx z (ev t oa) (ev t ob) = some s from hm)
        obtain ⟨i, hi, hb⟩ := Option.map_eq_some_iff.1 hby
        obtain ⟨it, zv, q1, q2, q3, q4⟩ := zeroCells_ok hT hzs E
        have := hT _ _ hi
        rw [q1] at this; cases this
        have hs1 := szInfo hT hz q1
        exact app1_ok hW (und_ok hT h1) (und_ok hT h2) (fun k => by simp) q1 q2 (by rw [← Array.length_toList, q3.length, hcond.2, hs1]) (by rw [hb]; exact hcond.1) (ev_ok ht hg h3) (by rw [hs1]; exact hsrc) hr (by rw [hs1]; exact hm)
      · cases hc
    · cases hc
  · rename_i e kk oa ob h1 h2 h3 h4
    split at hc
    · rename_i z by_ zs hz hby hzs
      split at hc
      · rename_i hcond
        cases hc
        obtain ⟨hzl, hz0⟩ := hcond
        rcases onSl_some (show mAppz h nx z by_ zs (ev t oa) (ev t ob) = some s from hm) with ⟨ens, hm⟩ | ⟨_, _, _, _, _, _, _, hm⟩
        rotate_left
        · cases hm
        obtain ⟨n, hn, hm⟩ := orec_some hm
        obtain ⟨hb, hm⟩ := okIf_some hm
        obtain ⟨hb1, hb2⟩ := band_t hb
        obtain ⟨hb2, hb3⟩ := band_t hb2
        have hb1 : 1 ≤ n := ble_t hb1
        have hb2 : n ≤ 1073741824 := ble_t hb2
        have hb3 : n * by_ ≤ 1099511627776 := ble_t hb3
        cases hm
        obtain ⟨k, ex⟩ := natOf_val hn (ev_ok ht hg h4)
        have es := ev_ok ht hg h3
        rw [ens] at es
        simp only [R] at es
        obtain ⟨i, hi, hbb⟩ := Option.map_eq_some_iff.1 hby
        obtain ⟨it, zv, q1, q2, q3, q4⟩ := zeroCells_ok hT hzs E
        have := hT _ _ hi
        rw [q1] at this; cases this
        have hs1 := szInfo hT hz q1
        have hzc : zv.cells.size = z := by rw [← Array.length_toList, q3.length, hzl]
        have hrun := Lib.run_append_nil_zeros w st xt ty e _ zv k kk (und_ok hT h1) (und_ok hT h2) q1 q2 n (by omega) (by omega) (by omega) (by rw [hbb]; omega)
        rw [es, ex, hrun]
        have hzsz : ∀ m, (Builtin.zeroCells zv.cells m).size = m * z := fun m => by simp [Builtin.zeroCells, hzc]
        have hcsz : (Builtin.zeroCells zv.cells n ++ Builtin.zeroCells zv.cells (grownCap w n 0 e - n)).size = grownCap w n 0 e * z := by
          rw [Array.size_append, hzsz, hzsz, ← Nat.add_mul, Nat.add_sub_cancel' (grownCap_ge w n 0 e)]
        have hlen : (reps zs n).length = n * z := by rw [reps_length, hzl]
        obtain ⟨E', g1, g2, g3, g4⟩ := new_ok hW.drew (Nat.le_refl nx) (t := T.lay (reps zs n) 0 .nil) (n := (reps zs n).length) (d := .bad) (c := Builtin.zeroCells zv.cells n ++ Builtin.zeroCells zv.cells (grownCap w n 0 e - n)) (el := e) (fz := (0, 0)) (by
            rw [hcsz, hlen]; exact Nat.mul_le_mul_right z (grownCap_ge w n 0 e)) noFz (fun i hi => by
          rw [hlen] at hi
          have hzs0 : i % z < zs.length := by rw [hzl]; exact Nat.mod_lt _ hz0
          have hx : (reps zs n)[i]? = some zs[i % z] := by
            rw [reps_get zs n i (by rw [hzl]; exact hi), hzl]; exact List.getElem?_eq_getElem hzs0
          obtain ⟨y, hy, hr⟩ := q3.get (List.getElem?_eq_getElem hzs0)
          rw [Array.getElem?_toList] at hy
          refine ⟨y, ?_, ?_⟩
          · rw [Array.getElem?_append_left (by rw [hzsz]; exact hi)]
            have hy' : zv.cells[i % zv.cells.size]! = y := by rw [hzc, getElem!_def, hy]
            simp only [Builtin.zeroCells, Array.getElem?_map, hzc]
            rw [Array.getElem?_range, if_pos (by omega)]
            simp only [Option.map_some]
            rw [← hzc, hy']
          · rw [T.get_lay, if_pos (by omega), Nat.sub_zero, hx]; exact hr)
        refine ⟨E', _, _, rfl, g1, ?_, g4⟩
        simp only [R]
        exact ⟨w.heap.size, 0, _, _, g2, rfl, Nat.le_refl _, grownCap_ge w n 0 e, (fun e => by cases e), .inr rfl, .inr (by
          have : E'.sz w.heap.size = grownCap w n 0 e * z := by rw [← hcsz]; exact g3
          rw [this]; omega)⟩
      · cases hc
    · cases hc
  · cases hc

/-- what copy does, when the source's cells are known -/
theorem copy1_ok (hW : WR CR E w0 h nx w) {dt st ty e : TypeId} {sz : Nat} (hdt : P.underlying dt = some (.slice e)) (hsz : ∀ w, (sizeOf e).run P w = .ok sz w)
    {g : GV} {V Y : Value} (hg : R E g V) {n : Nat} {xs : List GV} {cs : List Value} (hsrc : Src P w sz Y n cs) (hxs : RL E xs cs) {s : MS} (hs : mCopy1 h nx sz g n xs = some s) :
    ∃ v' w', (Builtin.copy_ #[dt, st] ty #[V, Y]).run P w = .ok v' w' ∧ R E s.v v' ∧ WR CR E w0 s.h s.nx w' := by
  obtain ⟨s1, s2, s3⟩ := hsrc
  have base : ∀ {b : Option Addr} {l c k : Nat} {w' : World}, V = .slice b l c → k = Nat.min n l → (match b with | some ad => storeCells ad (cs.take (k * sz)) | none => pure ()).run P w = .ok () w' →
      (Builtin.copy_ #[dt, st] ty #[V, Y]).run P w = .ok (goInt k) w' := by
    intro b l c k w' hV hk hst
    subst hV; subst hk
    have := s3 (Nat.min n l) w (Nat.min_le_left _ _) rfl
    unfold Builtin.copy_
    simp only [List.getElem?_toArray, List.getElem?_cons_zero, List.getElem?_cons_succ, Sem.run_bind, run_underlying hdt, Result.andThen_ok, s2, hsz, this]
    cases b with
    | none => simp only [Sem.run_pure] at hst ⊢; cases hst; simp
    | some ad => simp only at hst ⊢; simp [hst]
  rcases onSl_some hs with ⟨rfl, hs2⟩ | ⟨b, o, len, cap, ex, zz, rfl, hs2⟩
  · simp only [R] at hg; subst hg
    cases hs2
    exact ⟨_, w, base (k := 0) rfl (by simp) (by rfl), R.mkInt _ _ _, hW⟩
  · obtain ⟨hz, hs3⟩ := okIf_some hs2
    have hz := beq_t hz; subst hz
    simp only [R] at hg
    obtain ⟨cb, co, ad, c, hm, rfl, hlc, hcc, hex, had, hroom⟩ := hg
    rw [nmin_eq] at hs3
    cases h0 : Nat.beq (Nat.min n len) 0 with
    | true =>
      rw [h0] at hs3; cases hs3
      have := beq_t h0
      exact ⟨_, w, base (k := 0) rfl this.symm (by simp [storeCells]), R.mkInt _ _ _, hW⟩
    | false =>
      rw [h0] at hs3
      have h0 := beq_f h0
      obtain ⟨h', hp, hs3⟩ := orec_some hs3
      cases hs3
      have hmin : Nat.min n len ≤ len := Nat.min_le_right _ _
      have had : ad = ⟨cb, co + o, none⟩ := had.resolve_left (by omega)
      subst had
      obtain ⟨w', hrun, hW'⟩ := put_ok (P := P) hW hp hm (hxs.take (Nat.min n len * zz))
      exact ⟨_, w', base (k := Nat.min n len) rfl rfl hrun, R.mkInt _ _ _, hW'⟩

include hT ht hg hW in
theorem m_s2b {o : Oper} {sr ds : TypeId} {x : Operand} {e : TypeId} {ox : Od} {s : MS} (ho : o.op = .convert sr ds x) (h1 : und X.tb sr = some .string) (h2 : und X.tb ds = some (.slice e)) (h3 : und X.tb e = some (.int .u8)) (hx : cod X.ng x = some ox)
    (hm : mS2b h nx (ev t ox) = some s) : MOk CR P E w0 o a w s := by
  obtain ⟨l, el, hm⟩ := onStr_some hm
  cases hm
  have hr := ev_ok ht hg hx
  rw [el] at hr
  obtain ⟨hr, hl⟩ := R.str hr
  have hrun := run_bytes_of_string (P := P) w sr ds e (bs l) (und_ok hT h1) (und_ok hT h2) (und_ok hT h3)
  have hgc : l.length ≤ grownCap w (bs l).size 0 e := by
    unfold grownCap
    simp only [Question.cut, bs_size]
    exact Nat.le_add_right _ _
  generalize grownCap w (bs l).size 0 e = gc at hrun hgc
  have hcells : RL E (l.map fun c => .int .u8 (Int.ofNat c)) ((bytesRow (bs l) gc).toList.take (l.map fun c => GV.int .u8 (Int.ofNat c)).length) := by
    refine RL.of_get ?_ fun i p q hp hq => ?_
    · simp only [List.length_take, Array.length_toList, List.length_map]
      have : l.length ≤ (bytesRow (bs l) gc).size := by
        unfold bytesRow
        rw [Array.size_append, Array.size_map]
        have : (bs l).data.size = l.length := bs_size l
        omega
      omega
    · rw [List.getElem?_map] at hp
      cases hc : l[i]? with
      | none => rw [hc] at hp; cases hp
      | some c =>
        rw [hc] at hp; cases hp
        have hi : i < l.length := by
          rcases Nat.lt_or_ge i l.length with hi | hi
          · exact hi
          · rw [List.getElem?_eq_none hi] at hc; cases hc
        have hib : i < (bs l).data.size := by simpa [bs] using hi
        rw [List.getElem?_take_of_lt (by simpa using hi), Array.getElem?_toList, bytesRow_at (bs l) _ i hib] at hq
        cases hq
        have : (bs l).data[i] = UInt8.ofNat l[i] := by simp only [bs, List.getElem_toArray, List.getElem_map]
        rw [this, UInt8.toNat_ofNat_of_lt' (hl _ (List.getElem_mem hi))]
        rw [List.getElem?_eq_getElem hi] at hc; cases hc
        exact R.mkInt _ _ _
  obtain ⟨E', f1, f2, f3, f4⟩ := newList_ok hW.drew (Nat.le_refl nx) (c := bytesRow (bs l) gc) (el := e) (fz := ((bytesRow (bs l) gc).size, (bytesRow (bs l) gc).size + 1)) (fun i hi _ => hi) hcells
  refine ⟨E', .slice (some ⟨w.heap.size, 0, none⟩) (bs l).size gc, _, .value _, ?_, .inl rfl, f1, ?_, f4⟩
  · simp only [execOp, ho, hr, Sem.run_bind, hrun, Result.andThen_ok, Sem.run_pure]
  · simp only [R]
    refine ⟨w.heap.size, 0, ⟨w.heap.size, 0, none⟩, gc, f2, by rw [bs_size], Nat.le_refl _, hgc, (fun h => by cases h), .inr rfl, .inr ?_⟩
    rw [show w.heap.size = w.drew.heap.size from rfl, f3]
    have : (bytesRow (bs l) gc).size = (bs l).size + (gc - (bs l).size) := by
      unfold bytesRow
      rw [Array.size_append, Array.size_map, Array.size_replicate]; rfl
    rw [this, bs_size]; omega

theorem R.mkStr {E : Env} {s : List Nat} (h : ∀ y ∈ s, y < 256) : R E (.str s) (.string (bs s)) := by simp only [R]; exact ⟨trivial, h⟩
theorem bytesOfV_ok {E : Env} : ∀ {xs : List GV} {cs : List Value} {s : List Nat}, bytesOfV xs = some s → RL E xs cs → ∃ ns : List Int, cs = ns.map (Value.int .u8) ∧ s = ns.map (fun n => n.toNat % 256) ∧ s.length = xs.length ∧ ∀ n ∈ ns, 0 ≤ n
  | [], cs, s, hs, hr => by
    cases hs
    simp only [RL] at hr; subst hr
    exact ⟨[], rfl, rfl, rfl, by simp⟩
  | x :: xs, cs, s, hs, hr => by
    simp only [RL] at hr
    obtain ⟨v, r, rfl, hv, hr⟩ := hr
    obtain ⟨c, hc, hs⟩ := orec_some (show Option.rec none (fun c => Option.rec none (fun r => some (c :: r)) (bytesOfV xs)) (byteOfV x) = some s from hs)
    obtain ⟨r', hr', hs⟩ := orec_some hs
    cases hs
    obtain ⟨ns, rfl, rfl, h3, h4⟩ := bytesOfV_ok hr' hr
    obtain ⟨k, n, rfl, hc⟩ := onInt_some hc
    obtain ⟨hk, hc⟩ := okIf_some hc
    have hk := kq_eq hk; subst hk
    have := R.int hv; subst this
    cases n with
    | ofNat m =>
      cases hc
      exact ⟨Int.ofNat m :: ns, rfl, rfl, by simpa using h3, fun n hn => by rcases List.mem_cons.1 hn with rfl | hn; exact Int.natCast_nonneg m; exact h4 n hn⟩
    | negSucc m => cases hc

theorem fold_bytes : ∀ (ns : List Int) (r : ByteArray), ns.foldl (fun r n => r.push (UInt8.ofNat n.toNat)) r = ⟨r.data ++ (ns.map fun n => UInt8.ofNat n.toNat).toArray⟩
  | [], r => by simp
  | n :: ns, r => by
    simp only [List.foldl_cons, List.map_cons]
    rw [fold_bytes ns]
    simp [ByteArray.push]

include hT ht hg hW in
theorem m_b2s {o : Oper} {sr ds : TypeId} {x : Operand} {e : TypeId} {ox : Od} {s : MS} (ho : o.op = .convert sr ds x) (h1 : und X.tb sr = some (.slice e)) (h2 : und X.tb ds = some .string) (h3 : und X.tb e = some (.int .u8)) (hx : cod X.ng x = some ox)
    (hm : mB2s h nx (ev t ox) = some s) : MOk CR P E w0 o a w s := by
  obtain ⟨n, xs, cs, hm, ⟨q1, q2, q3⟩, hr, hV⟩ := srcOf_ok (P := P) hW (ev_ok ht hg hx) hm
  obtain ⟨l, hl, hm⟩ := orec_some hm
  cases hm
  obtain ⟨ns, rfl, rfl, hlen, hpos⟩ := bytesOfV_ok hl hr
  have key : ∃ b, (Conv.bytesToString (a.eval x)).run P w = .ok (.string b) w ∧ b = bs (ns.map fun n => n.toNat % 256) := by
    have fin : (ns.foldl (fun r n => r.push (UInt8.ofNat n.toNat)) ByteArray.empty) = bs (ns.map fun n => n.toNat % 256) := by
      rw [fold_bytes]
      have he0 : ByteArray.empty.data = #[] := rfl
      rw [he0]
      unfold bs
      congr 1
      simp only [List.map_map, Array.empty_append]
      congr 1
      refine List.map_congr_left fun n hn => ?_
      show UInt8.ofNat n.toNat = UInt8.ofNat (n.toNat % 256)
      apply UInt8.toNat_inj.1
      simp [UInt8.toNat_ofNat']
    rcases hV with ⟨c, hV⟩ | ⟨q, c, hV⟩
    · have hs0 := q2 w
      rw [hV] at hs0
      simp [Builtin.lenOf] at hs0
      subst hs0
      have : ns = [] := List.eq_nil_of_length_eq_zero (by simpa using q1)
      subst this
      exact ⟨.empty, by rw [hV]; simp [Conv.bytesToString], by rw [← fin]; rfl⟩
    · have h3' := q3 n w (Nat.le_refl _) rfl
      rw [hV] at h3'
      have hlc : (loadCells q n).run P w = .ok (ns.map (Value.int .u8)).toArray w := by
        have : (ns.map (Value.int .u8)).take (n * 1) = ns.map (Value.int .u8) := by rw [← q1, List.take_length]
        rw [this] at h3'
        simpa [Builtin.firstCells] using h3'
      exact ⟨_, by rw [hV]; exact run_bytesToString w q n c ns hlc, fin⟩
  obtain ⟨b, hb, rfl⟩ := key
  refine ⟨E, _, w, .value _, ?_, .inl rfl, Env.le_refl E, R.mkStr fun y hy => ?_, hW⟩
  · have hV' : ∃ p l c, a.eval x = .slice p l c := by
      rcases hV with ⟨c, hV⟩ | ⟨q, c, hV⟩
      · exact ⟨_, _, _, hV⟩
      · exact ⟨_, _, _, hV⟩
    obtain ⟨p, l', c', hV'⟩ := hV'
    rw [hV'] at hb
    have := run_convert_bytes_string (P := P) w sr ds e p l' c' (und_ok hT h1) (und_ok hT h3) (und_ok hT h2)
    simp only [execOp, ho, hV', Sem.run_bind, this, hb, Result.andThen_ok, Sem.run_pure]
  · obtain ⟨n', _, rfl⟩ := List.mem_map.1 hy
    exact Nat.mod_lt _ (by decide)

include hT ht hg hW in
theorem m_convert {o : Oper} {sr ds : TypeId} {x : Operand} {m : Mf} {s : MS} (ho : o.op = .convert sr ds x) (hc : cMf X P (.convert sr ds x) = some m) (hm : mf t h nx m = some s) : MOk CR P E w0 o a w s := by
  simp only [cMf] at hc
  split at hc
  · rename_i e ox h1 h2 h3
    split at hc
    · rename_i h4; cases hc; exact m_s2b hT ht hg hW ho h1 h2 h4 h3 hm
    · cases hc
  · rename_i e ox h1 h2 h3
    split at hc
    · rename_i h4; cases hc; exact m_b2s hT ht hg hW ho h1 h2 h4 h3 hm
    · cases hc
  · cases hc

include hT in
theorem sclr_ok (hW : WR CR E w0 h nx w) {ty rt e : TypeId} {ox : Od} {zs : List GV} {z : Nat} {s : MS} {g : GV} {V : Value} (hu : P.underlying ty = some (.slice e)) (hz : szOf X.tb e = some z) (hzs : zeroCellsOf X.tb e = some zs) (hzl : zs.length = z)
    (hr : R E g V) (hm : mSclr h nx zs g = some s) : ∃ v' w', (Builtin.clear_ #[ty] rt #[V]).run P w = .ok v' w' ∧ R E s.v v' ∧ WR CR E w0 s.h s.nx w' := by
  have tup : R E (.tup []) (.tuple #[]) := by simp only [R]; exact ⟨_, rfl, by simp [RL]⟩
  rcases onSl_some hm with ⟨rfl, hs2⟩ | ⟨b, o, len, cap, ex, zz, rfl, hs2⟩
  · simp only [R] at hr; subst hr
    cases hs2
    exact ⟨.tuple #[], w, by simp [Builtin.clear_, run_underlying hu], tup, hW⟩
  · simp only [R] at hr
    obtain ⟨cb, co, ad, c, hm', rfl, hlc, hcc, hex, had, hroom⟩ := hr
    cases h0 : Nat.beq len 0 with
    | true =>
      rw [h0] at hs2; cases hs2
      have := beq_t h0; subst this
      exact ⟨.tuple #[], w, by simp [Builtin.clear_, run_underlying hu], tup, hW⟩
    | false =>
      rw [h0] at hs2
      have h0 := beq_f h0
      obtain ⟨hzz, hs3⟩ := okIf_some hs2
      have hzz := beq_t hzz
      obtain ⟨h', hp, hs3⟩ := orec_some hs3
      cases hs3
      have had : ad = ⟨cb, co + o, none⟩ := had.resolve_left (by omega)
      subst had
      obtain ⟨it, zv, q1, q2, q3, q4⟩ := zeroCells_ok hT hzs E
      have hc := reps_cells q3 len
      have he : (Builtin.zeroCells zv.cells len) = ((Array.range (len * zs.length)).map fun i => zv.cells[i % zv.cells.size]!) := by
        unfold Builtin.zeroCells
        rw [show zv.cells.size = zs.length by rw [← Array.length_toList]; exact q3.length]
      rw [← he] at hc
      obtain ⟨w', hrun, hW'⟩ := put_ok (P := P) hW hp hm' hc
      refine ⟨.tuple #[], w', ?_, tup, hW'⟩
      obtain ⟨k, rfl⟩ : ∃ k, len = k + 1 := ⟨len - 1, by omega⟩
      simp [Builtin.clear_, run_underlying hu, q4 w, hrun]
end
end Go.Gh
