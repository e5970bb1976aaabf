/- Operations on memory: append, copy, bytes and texts. -/
import Derived.Test.YtoekfbfgilbgoaaGreatDoorG16
import Derived.Laws.BytesString
import Derived.Laws.IdiomStrings
namespace Go.Gh
set_option linter.unusedVariables false

section
variable {CR : Nat → Code → GC → Prop} {P : Program} {X : Cx} {N : Nat} {E : Env} {t : T GV} {a : Act} {w0 w : World} {h : T GO} {nx : Nat}

theorem new_ok' (hW : WR CR E w0 h nx w) {k : Nat} (hk : nx ≤ k) {t : T GV} {lo n : Nat} {d : GV} {c : Array Value} {el : TypeId} {fz : Nat × Nat} (hn : n ≤ c.size) (hfz : ∀ i, fz.1 ≤ i → i < fz.2 → c.size ≤ i)
    (hc : ∀ i, i < n → ∃ x, c[i]? = some x ∧ R E ((t.get (lo + i)).getD d) x) :
    ∃ E', E.le E' ∧ E'.m k = some (w.heap.size, 0) ∧ E'.sz w.heap.size = c.size ∧ WR CR E' w0 (h.set k (.cells t lo n d false)) (k + 1) (w.alloc (.cells c el fz)) := by
  obtain ⟨h1, h2, h3, h4⟩ := hW.alloc hk (o := .cells t lo n d false) (.cells c el fz) c.size (fun _ => ⟨c, el, fz, rfl, Nat.le_refl _⟩) (fun E' hE' hle => by
    simp only [OR]
    refine ⟨w.heap.size, 0, c, el, fz, by rw [hE']; simp [Env.add], World.alloc_heap_new w _, by rw [hE']; simp [Env.add]; omega, by rw [hE']; simp [Env.add], hfz, fun _ => hW.fr.size, fun i hi => ?_⟩
    obtain ⟨x, hx, hr⟩ := hc i hi
    exact ⟨x, by simpa using hx, R.mono hle _ _ hr⟩)
  exact ⟨_, h1, h2, h3, h4⟩

theorem rowOf_ok (hW : WR CR E w0 h nx w) {b o k : Nat} {r : List GV} (hr : rowOf h b o k = some r) {cb co : Nat} (hm : E.m b = some (cb, co)) :
    ∃ c el fz, w.heap[cb]? = some (.cells c el fz) ∧ co + o + k ≤ c.size ∧ RL E r ((c.toList.drop (co + o)).take k) := by
  obtain ⟨t, lo, n, d, ro, hb, hr⟩ := onCells_some hr
  obtain ⟨hle, hr⟩ := okIf_some hr
  cases hr
  have hle : o + k ≤ n := ble_t hle
  obtain ⟨c, el, fz, q1, q2, q3, q4, q5, q6⟩ := row_ok hW hb hm
  exact ⟨c, el, fz, q1, by omega, q6 o k hle⟩

theorem srcOf_ok (hW : WR CR E w0 h nx w) {sz : Nat} {x : GV} {V : Value} (hx : R E x V) {k : Nat → List GV → Option MS} {s : MS} (hs : srcOf h sz x k = some s) :
    ∃ n xs cs, k n xs = some s ∧ Src P w sz V n cs ∧ RL E xs cs ∧ ((∃ c, V = .slice none 0 c) ∨ ∃ q c, V = .slice (some q) n c) := by
  rcases onSl_some hs with ⟨rfl, hs⟩ | ⟨b, o, l, c, e, z, rfl, hs⟩
  · simp only [R] at hx; subst hx
    exact ⟨0, [], [], hs, ⟨by simp, fun _ => by simp [Builtin.lenOf], fun m w' _ _ => by simp [Builtin.firstCells]⟩, by simp only [RL], .inl ⟨0, rfl⟩⟩
  · obtain ⟨hz, hs⟩ := okIf_some hs
    have hz := beq_t hz; subst hz
    simp only [R] at hx
    obtain ⟨cb, co, ad, cc, hm, rfl, hlc, hcc, hex, had, hroom⟩ := hx
    cases hl : Nat.beq l 0 with
    | true =>
      rw [hl] at hs
      have hl0 := beq_t hl; subst hl0
      refine ⟨0, [], [], hs, ⟨by simp, fun _ => by simp [Builtin.lenOf], fun m w' hm' _ => ?_⟩, by simp only [RL], .inr ⟨_, _, rfl⟩⟩
      have : m = 0 := by omega
      subst this
      simp [Builtin.firstCells, loadCells, loadCellsFrom]
    | false =>
      rw [hl] at hs
      have hl0 := beq_f hl
      obtain ⟨r, hr, hs⟩ := orec_some hs
      have had : ad = ⟨cb, co + o, none⟩ := had.resolve_left (by omega)
      subst had
      obtain ⟨c', el, fz, q1, q2, q3⟩ := rowOf_ok hW hr hm
      have q2 : co + o + l * z ≤ c'.size := q2
      refine ⟨l, r, (c'.toList.drop (co + o)).take (l * z), hs, ⟨by simp; omega, fun _ => by simp [Builtin.lenOf], fun m w' hm' hw => ?_⟩, q3, .inr ⟨_, _, rfl⟩⟩
      have hmz : m * z ≤ l * z := Nat.mul_le_mul_right _ hm'
      rw [List.take_take, Nat.min_eq_left hmz]
      simp only [Builtin.firstCells]
      exact run_loadCells_of (w := w') (by rw [hw]; exact q1) (by omega)

theorem srcS_ok {x : GV} {V : Value} (hx : R E x V) {k : Nat → List GV → Option MS} {s : MS} (hs : srcS x k = some s) :
    ∃ n xs cs, k n xs = some s ∧ Src P w 1 V n cs ∧ RL E xs cs := by
  obtain ⟨l, rfl, hs⟩ := onStr_some hs
  obtain ⟨rfl, hl⟩ := R.str hx
  refine ⟨l.length, _, l.map fun c => .int .u8 (c : Nat), hs, ⟨by simp, fun _ => by simp [Builtin.lenOf, bs_size], fun m w' hm hw => ?_⟩, ?_⟩
  · simp only [Builtin.firstCells, Sem.run_pure, Nat.mul_one]
    congr 1
    rw [bs_extract l 0 m hm]
    apply Array.toList_inj.1
    simp only [bs, Array.toList_map, List.drop_zero, Nat.sub_zero, List.map_map, ← List.map_take]
    refine List.map_congr_left fun c hc => ?_
    have := hl c (List.mem_of_mem_take hc)
    simp [UInt8.toNat_ofNat_of_lt' this]
  · refine RL.of_get (by simp) fun i p q hp hq => ?_
    rw [List.getElem?_map] at hp hq
    cases hc : l[i]? with
    | none => rw [hc] at hp; cases hp
    | some c => rw [hc] at hp hq; cases hp; cases hq; exact R.mkInt _ _ _

theorem app1_ok (hW : WR CR E w0 h nx w) {st xt ty e : TypeId} {i : TypeInfo} {z : Value} {d : TypeDesc} (hst : P.underlying st = some (.slice e)) (hxt : P.underlying xt = some d) (hd : ∀ k, d ≠ .int k)
    (hi : P.info? e = some i) (hiz : i.zero = some z) (hzs : z.cells.size = i.size) (hb : i.bytes ≤ 1024) {g : GV} {V Y : Value} (hg : R E g V) {n : Nat} {xs : List GV} {cs : List Value} (hsrc : Src P w i.size Y n cs) (hxs : RL E xs cs) {s : MS}
    (hs : mApp1 h nx i.size g n xs = some s) :
    ∃ E' v' w', (Builtin.append_ #[st, xt] ty #[V, Y]).run P w = .ok v' w' ∧ E.le E' ∧ R E' s.v v' ∧ WR CR E' w0 s.h s.nx w' := by
  have hcl : cs.length = n * i.size := hsrc.1
  have hxl : xs.length = cs.length := hxs.length.symm
  rcases onSl_some hs with ⟨rfl, hs2⟩ | ⟨b, o, len, cap, ex, zz, rfl, hs2⟩
  · replace hs := hs2
    clear hs2
    simp only [R] at hg; subst hg
    cases hn : Nat.beq n 0 with
    | true =>
      rw [hn] at hs; cases hs
      have := beq_t hn; subst this
      exact ⟨E, _, w, run_append_in (w' := w) hst hxt hd hi hsrc (Nat.le_refl _) rfl, Env.le_refl E, by simp only [R], hW⟩
    | false =>
      rw [hn] at hs
      have hn0 := beq_f hn
      obtain ⟨hle, hs⟩ := okIf_some hs
      cases hs
      have hle : n ≤ 1073741824 := ble_t hle
      obtain ⟨nc, hnc, hrun⟩ := run_append_grow' (ty := ty) (base := none) (len := 0) (c := 0) (old := []) hst hxt hd hi hiz hsrc (by omega) (by omega) hb (fun w' _ => by simp [Builtin.firstCells])
      obtain ⟨E', g1, g2, g3, g4⟩ := newList_ok (k := nx) hW.drew (Nat.le_refl nx) (l := xs) (c := (([] : List Value).toArray ++ cs.toArray ++ Builtin.zeroCells z.cells (nc - (0 + n)))) (el := e) (fz := (0, 0)) noFz (by
        have e1 : (([] : List Value).toArray ++ cs.toArray ++ Builtin.zeroCells z.cells (nc - (0 + n))).toList.take xs.length = cs := by
          rw [hxl]; simp
        rw [e1]; exact hxs)
      refine ⟨E', _, _, hrun, g1, ?_, g4⟩
      simp only [R]
      refine ⟨w.heap.size, 0, _, nc, g2, by simp, Nat.le_refl _, by omega, (fun h => by cases h), .inr rfl, .inr ?_⟩
      rw [show w.heap.size = w.drew.heap.size from rfl, g3]
      simp only [Array.size_append, List.size_toArray, List.length_nil, hcl, Builtin.zeroCells, Array.size_map, Array.size_range, hzs]
      have : n * i.size + (nc - (0 + n)) * i.size = nc * i.size := by rw [← Nat.add_mul]; congr 1; omega
      omega
  · replace hs := hs2
    clear hs2
    obtain ⟨hz, hs⟩ := okIf_some hs
    have hz := beq_t hz; subst hz
    simp only [R] at hg
    obtain ⟨cb, co, ad, c, hm, rfl, hlc, hcc, hex, had, hroom⟩ := hg
    cases hn : Nat.beq n 0 with
    | true =>
      rw [hn] at hs; cases hs
      have := beq_t hn; subst this
      have hcs : cs = [] := List.eq_nil_of_length_eq_zero (by rw [hcl]; simp)
      subst hcs
      exact ⟨E, _, w, run_append_in (w' := w) hst hxt hd hi hsrc (by omega) (by simp [storeCells]), Env.le_refl E, by simp only [R]; exact ⟨cb, co, ad, c, hm, rfl, by omega, hcc, hex, had, hroom⟩, hW⟩
    | false =>
      rw [hn] at hs
      have hn0 := beq_f hn
      cases hfit : Nat.ble (Nat.add len n) cap with
      | true =>
        rw [hfit] at hs
        have hfit : len + n ≤ cap := ble_t hfit
        obtain ⟨h', hp, hs⟩ := orec_some hs
        cases hs
        have had : ad = ⟨cb, co + o, none⟩ := had.resolve_left (by omega)
        subst had
        obtain ⟨w', hrun, hW'⟩ := put_ok (P := P) hW hp hm hxs
        refine ⟨E, _, w', run_append_in (w' := w') hst hxt hd hi hsrc (by omega) ?_, Env.le_refl E, ?_, hW'⟩
        · simp only [addr_add]
          rw [show co + o + len * i.size = co + Nat.add o (Nat.mul len i.size) by show _ = co + (o + len * i.size); omega]
          exact hrun
        · simp only [R]
          exact ⟨cb, co, _, c, hm, rfl, hfit, hcc, hex, .inr rfl, hroom⟩
      | false =>
        rw [hfit] at hs
        have hfit : cap < len + n := ble_f hfit
        obtain ⟨tr, lo, k, dd, ro, hb', hs⟩ := onCells_some hs
        obtain ⟨hcond, hs⟩ := okIf_some hs
        cases hs
        obtain ⟨hk, hcond⟩ := band_t hcond
        obtain ⟨hneed, hcond⟩ := band_t hcond
        obtain ⟨hro, hall⟩ := band_t hcond
        have hk : o + len * i.size ≤ k := ble_t hk
        have hneed : len + n ≤ 1073741824 := ble_t hneed
        obtain ⟨cc, el, fz, q1, q2, q3, q4, q5, q6⟩ := row_ok hW hb' hm
        -- the new block's cells, wherever they lie
        have hold := q6 o (len * i.size) hk
        by_cases hgrow : c < len + n
        · -- a new block
          have hfc : ∀ w', w'.heap = w.heap → (Builtin.firstCells i.size len (.slice (some ad) len c)).run P w' = .ok ((cc.toList.drop (co + o)).take (len * i.size)).toArray w' := by
            intro w' hw
            by_cases hl0 : len = 0
            · subst hl0; simp [Builtin.firstCells, loadCells, loadCellsFrom]
            · have had : ad = ⟨cb, co + o, none⟩ := had.resolve_left (by omega)
              subst had
              simp only [Builtin.firstCells]
              exact run_loadCells_of (w := w') (by rw [hw]; exact q1) (by omega)
          obtain ⟨nc, hnc, hrun⟩ := run_append_grow' (ty := ty) hst hxt hd hi hiz hsrc hgrow hneed hb hfc
          have hsz : (((cc.toList.drop (co + o)).take (len * i.size)).toArray ++ cs.toArray ++ Builtin.zeroCells z.cells (nc - (len + n))).size = nc * i.size := by
            simp only [Array.size_append, List.size_toArray, hcl, Builtin.zeroCells, Array.size_map, Array.size_range, hzs, List.length_take, List.length_drop, Array.length_toList]
            rw [Nat.min_eq_left (by omega), ← Nat.add_mul, ← Nat.add_mul]
            congr 1; omega
          have hcells : ∀ j, j < (len + n) * i.size → ∃ x, (((cc.toList.drop (co + o)).take (len * i.size)).toArray ++ cs.toArray ++ Builtin.zeroCells z.cells (nc - (len + n)))[j]? = some x ∧
              R E (((T.lay xs (Nat.add lo (Nat.add o (Nat.mul len i.size))) tr).get (Nat.add lo o + j)).getD dd) x := by
            intro j hj
            rw [Nat.add_mul] at hj
            simp only [Nat.add_eq, Nat.mul_eq]
            rw [T.get_lay]
            have hl1 : ((cc.toList.drop (co + o)).take (len * i.size)).length = len * i.size := by simp; omega
            rw [← Array.getElem?_toList]
            simp only [Array.toList_append]
            rw [List.append_assoc]
            by_cases hj1 : j < len * i.size
            · rw [if_neg (by omega), List.getElem?_append_left (by rw [hl1]; exact hj1)]
              have hx := T.getElem_read tr dd (len * i.size) (lo + o) j hj1
              obtain ⟨y, hy, hr⟩ := hold.get hx
              exact ⟨y, hy, hr⟩
            · rw [if_pos (by omega), List.getElem?_append_right (by rw [hl1]; omega), hl1, List.getElem?_append_left (by omega)]
              rw [show lo + o + j - (lo + (o + len * i.size)) = j - len * i.size by omega]
              have hx : xs[j - len * i.size]? = some xs[j - len * i.size] := List.getElem?_eq_getElem (by omega)
              obtain ⟨y, hy, hr⟩ := hxs.get hx
              exact ⟨y, hy, by rw [hx]; exact hr⟩
          have fin : ∀ {h2 : T GO}, WR CR E w0 h2 nx w.drew → ∃ E' v' w', (Builtin.append_ #[st, xt] ty #[.slice (some ad) len c, Y]).run P w = .ok v' w' ∧ E.le E' ∧ R E' (.sl nx 0 (Nat.add len n) (Nat.add len n) false i.size) v' ∧
              WR CR E' w0 (T.set h2 nx (.cells (T.lay xs (Nat.add lo (Nat.add o (Nat.mul len i.size))) tr) (Nat.add lo o) (Nat.mul (Nat.add len n) i.size) dd false)) (Nat.succ nx) w' := by
            intro h2 hW2
            obtain ⟨E', g1, g2, g3, g4⟩ := new_ok' (el := e) (fz := (0, 0)) hW2 (Nat.le_refl nx) (n := (len + n) * i.size) (by rw [hsz]; exact Nat.mul_le_mul_right _ hnc) noFz hcells
            refine ⟨E', _, _, hrun, g1, ?_, g4⟩
            simp only [R]
            refine ⟨w.heap.size, 0, _, nc, g2, rfl, Nat.le_refl _, hnc, (fun h => by cases h), .inr rfl, .inr ?_⟩
            rw [show w.heap.size = w.drew.heap.size from rfl, g3, hsz]; omega
          cases ex with
          | true => exact fin hW.drew
          | false => exact fin (hW.drew.kill b)
        · -- the machine has room: the same block under a new number
          have hexf : ex = false := by
            cases ex with
            | false => rfl
            | true => have := hex rfl; omega
          subst hexf
          have hrof : ro = false := by
            have : bnot ro = true := hro
            rw [bnot_eq] at this; simpa using this
          have had : ad = ⟨cb, co + o, none⟩ := had.resolve_left (by omega)
          subst had
          have hroom : co + o + c * i.size ≤ E.sz cb := hroom.resolve_left (by omega)
          have hle1 : (len + n) * i.size ≤ c * i.size := Nat.mul_le_mul_right _ (by omega)
          have hle2 : len * i.size + n * i.size = (len + n) * i.size := (Nat.add_mul _ _ _).symm
          have hst2 : (storeCells ⟨cb, co + o + len * i.size, none⟩ cs).run P w = .ok () (w.putObj cb (.cells (wrt cc (co + o + len * i.size) cs) el fz)) := by
            have := run_storeCells_of (P := P) (cb := cb) (o := co + o + len * i.size) cs 0 q1 q4 (by omega) (allCell_one hall hxs)
            simpa using this
          let E' : Env := { m := fun x => if x = nx then some (cb, co + o) else E.m x, sz := E.sz }
          have hle : E.le E' := ⟨fun g x hg => by
            have := hW.lt g x hg
            show (if g = nx then _ else E.m g) = _
            rw [if_neg (by omega)]; exact hg, fun _ => Nat.le_refl _⟩
          have hmn : E'.m nx = some (cb, co + o) := by show (if nx = nx then _ else _) = _; rw [if_pos rfl]
          refine ⟨E', _, _, run_append_in hst hxt hd hi hsrc (by omega) (by simp only [addr_add]; exact hst2), hle, ?_, ?_⟩
          · simp only [R]
            exact ⟨cb, co + o, _, c, hmn, rfl, Nat.le_refl _, by show len + n ≤ c; omega, (fun h => by cases h), .inr rfl, .inr hroom⟩
          · refine WR.fresh (hW.kill b) (Nat.le_refl nx) hle hmn (fun g hg => by show (if g = nx then _ else _) = _; rw [if_neg hg]) ?_ (q5 hrof) (fun b' hb2 => World.putObj_heap_other hb2) (by rw [World.putObj_size]; exact Nat.le_refl _) rfl rfl rfl
              (fun b' hb1 hb2 => ⟨hb1, rfl⟩) (fun hpos => ⟨_, el, fz, World.putObj_heap_same (heap_lt q1), by rw [wrt_size]; exact q3⟩) ?_
            · intro g q c' hg hm'
              rw [T.get_del] at hg
              by_cases e' : g = b
              · rw [if_pos e'] at hg; cases hg
              · rw [if_neg e'] at hg
                exact e' (hW.inj g b q _ _ _ _ hg hb' hm' hm)
            · simp only [OR]
              refine ⟨cb, co + o, wrt cc (co + o + len * i.size) cs, el, fz, hmn, World.putObj_heap_same (heap_lt q1), by show co + o + (len + n) * i.size ≤ E.sz cb; omega, by rw [wrt_size]; exact q3, by rw [wrt_size]; exact q4, fun _ => q5 hrof, fun j hj => ?_⟩
              have hj : j < (len + n) * i.size := hj
              simp only [Nat.add_eq, Nat.mul_eq]
              rw [wrt_get _ _ _ _ (by omega), T.get_lay]
              by_cases hj1 : j < len * i.size
              · rw [if_neg (by omega), if_neg (by omega)]
                have hx := T.getElem_read tr dd (len * i.size) (lo + o) j hj1
                obtain ⟨y, hy, hr⟩ := hold.get hx
                rw [List.getElem?_take_of_lt hj1, List.getElem?_drop, Array.getElem?_toList] at hy
                exact ⟨y, hy, R.mono hle _ _ hr⟩
              · rw [if_pos (by omega), if_pos (by omega)]
                rw [show lo + o + j - (lo + (o + len * i.size)) = j - len * i.size by omega, show co + o + j - (co + o + len * i.size) = j - len * i.size by omega]
                have hx : xs[j - len * i.size]? = some xs[j - len * i.size] := List.getElem?_eq_getElem (by omega)
                obtain ⟨y, hy, hr⟩ := hxs.get hx
                exact ⟨y, hy, by rw [hx]; exact R.mono hle _ _ hr⟩
end
end Go.Gh
