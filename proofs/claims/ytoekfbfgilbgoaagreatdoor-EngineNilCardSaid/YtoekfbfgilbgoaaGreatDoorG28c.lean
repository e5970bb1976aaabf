/- The run is sound: a region that draws its order, joined. -/
import Derived.Test.YtoekfbfgilbgoaaGreatDoorG28b
namespace Go.Gh
set_option linter.unusedVariables false

section
variable {P : Program} {X : Cx} {fs : T GFn} {w0 : World} {self : Option Nat → GC → GS → GR}

def Li (listed : Array Bool) (i : Nat) : Prop := listed.getD i false = true
theorem Li_set {listed : Array Bool} {j : Nat} (hj : j < listed.size) (i : Nat) : Li (listed.setIfInBounds j true) i ↔ Li listed i ∨ i = j := by
  unfold Li
  by_cases e : i = j
  · subst e; simp [hj]
  · rw [getD_set_ne false (fun h => e h.symm)]; simp [e]

structure JJ (X : Cx) (P : Program) (w0 : World) (E0 : Env) (N : Nat) (ds : List Nat) (l : List GD) (t : T GV) (Hf : Nat → T GO × Nat) (V : Nat → GV) (listed : Array Bool) (a : Act) (w : World) : Prop where
  size : listed.size = l.length
  cl : ∀ (i : Nat) (g : GD), l[i]? = some g → Li listed i → ∀ x ∈ g.an, Li listed x
  cut : ∃ (c : Nat) (E : Env), c ≤ l.length ∧ (c = 0 ∨ ∃ g, l[c - 1]? = some g ∧ g.eff = true) ∧ (∀ (i : Nat) (g : GD), l[i]? = some g → g.eff = true → (Li listed i ↔ i < c)) ∧ E0.le E ∧ WR (CRX X P) E w0 (Hf c).1 (Hf c).2 w ∧ Slots E N l t V (Li listed) a.tmps
  ds : DR E0 ds a.defers

theorem ready_dep {ops : Array Oper} {listed : Array Bool} {j : Nat} {o : Oper} (ho : ops[j]? = some o) : j ∈ Region.ready .any ops listed ↔ listed.getD j true = false ∧ ∀ d ∈ depsOf o, Li listed d := by
  rw [mem_ready]
  constructor
  · rintro ⟨h1, o', ho', h2⟩
    rw [ho] at ho'; cases ho'
    refine ⟨h1, fun d hd => ?_⟩
    unfold depsOf at hd
    obtain ⟨e, he, hed⟩ := List.mem_filterMap.1 hd
    split at hed
    · rename_i hb; cases hed; exact h2 e (by simpa using he) hb
    · cases hed
  · rintro ⟨h1, h2⟩
    refine ⟨h1, o, ho, fun e he hb => h2 e.on ?_⟩
    unfold depsOf
    exact List.mem_filterMap.2 ⟨e, by simpa using he, by rw [if_pos hb]⟩

theorem xdreg_ok (H : FOk P X fs) (hs : SelfOk P X w0 self) {N n id : Nat} {F : Fence} (hF : Wd F) {ops : Array Oper} {ds : List Nat} {t : T GV} {h : T GO} {nx : Nat} {r : GR} {a : Act} {w : World} {E : Env}
    (hd : drawOk (ops.toList.map depsOf) (cDraw { X with nt := N } P ops) = true) (hx : xdreg self fs ds (cDraw { X with nt := N } P ops) t h nx = r) (hne : Good r) (ht : TR E N t a.tmps) (hds : DR E ds a.defers) (hg : GL E X.ng) (hW : WR (CRX X P) E w0 h nx w) :
    (Code.region id ops true).wpIn F n P (Post X P N w0 E r) a w := by
  have hfacts : ∀ (j : Nat) (g : GD), (cDraw { X with nt := N } P ops)[j]? = some g → ∃ o, ops[j]? = some o ∧ g.o = cOper { X with nt := N } P ops o ∧ g.eff = effOf g.o.op := fun j g hj => cDraw_at hj
  have hlen : (cDraw { X with nt := N } P ops).length = ops.size := cDraw_length
  revert hfacts hlen hd hx
  generalize cDraw { X with nt := N } P ops = l
  intro hd hx hfacts hlen
  -- the run
  unfold xdreg at hx
  cases hxd : xd self fs l t h nx with
  | none => rw [hxd] at hx; subst hx; exact hne.elim
  | some rr =>
    rw [hxd] at hx
    obtain ⟨Tm, Hf, V, tr⟩ := xd_trace l hxd
    obtain ⟨tf, hf, nf, hh, rc⟩ := rr
    change (Bool.rec .fail (.norm ⟨tf, ds, hf, nf⟩) (dchk hh rc) : GR) = r at hx
    cases hck : dchk hh rc with
    | false => rw [hck] at hx; subst hx; exact hne.elim
    | true =>
      rw [hck] at hx
      have hte : tf = Tm l.length := tr.te
      have hhe : (hf, nf) = Hf l.length := tr.he
      have he1 : hf = (Hf l.length).1 := by rw [← hhe]
      have he2 : nf = (Hf l.length).2 := by rw [← hhe]
      have heff : ∀ (j : Nat) (g : GD), l[j]? = some g → g.eff = effOf g.o.op := fun j g hj => by obtain ⟨_, _, _, h⟩ := hfacts j g hj; exact h
      have hdeps : ∀ (j : Nat) (o : Oper), ops[j]? = some o → ((ops.toList.map depsOf)[j]?).getD [] = depsOf o := fun j o ho => by
        rw [List.getElem?_map, Array.getElem?_toList, ho]; rfl
      -- every order
      have key : ∀ (fuel : Nat) (U : List Nat) (listed : Array Bool) (a : Act) (w : World), JJ X P w0 E N ds l t Hf V listed a w → U.length ≤ fuel → (∀ i, i < l.length → ¬ Li listed i → i ∈ U) →
          wpAnyIn F n P .any ops (Post X P N w0 E r) fuel listed a w := by
        intro fuel
        -- the end
        have fin : ∀ (listed : Array Bool) (a : Act) (w : World), JJ X P w0 E N ds l t Hf V listed a w → (∀ i, i < l.length → Li listed i) → Post X P N w0 E r .normal a w := by
          intro listed a w hj hall
          obtain ⟨c, E1, hc, _, hcut, hE, hW1, hS⟩ := hj.cut
          subst hx
          refine ⟨E1, hE, ⟨?_, hj.ds.mono hE, ?_⟩⟩
          · show TR E1 N tf a.tmps
            rw [hte]
            refine ⟨hS.1, fun d v hv => hS.get tr (Nat.le_refl _) (fun i g hi _ => ?_) hv⟩
            have hlt := (List.getElem?_eq_some_iff.1 hi).1
            exact ⟨fun _ => hlt, fun _ => hall i hlt⟩
          · show WR (CRX X P) E1 w0 hf nf w
            have hcon := tr.const heff c (l.length - c) (by omega) (fun i g h1 h2 h3 => by
              cases hee : g.eff with
              | false => rfl
              | true =>
                have := (hcut i g h3 hee).1 (hall i (by have := (List.getElem?_eq_some_iff.1 h3).1; exact this))
                omega)
            rw [show c + (l.length - c) = l.length by omega] at hcon
            rw [he1, he2, hcon]; exact hW1
        have allOf : ∀ (listed : Array Bool), listed.size = l.length → Region.ready .any ops listed = [] → ∀ i, i < l.length → Li listed i := by
          intro listed hsz hr i
          induction i using Nat.strongRecOn with
          | _ i ih =>
            intro hi
            cases hLi : listed.getD i false with
            | true => exact hLi
            | false =>
              exfalso
              have hgi : l[i]? = some l[i] := List.getElem?_eq_getElem hi
              obtain ⟨o, ho, _, _⟩ := hfacts i _ hgi
              obtain ⟨d1, _⟩ := drawOk_at hd hgi
              rw [hdeps i o ho] at d1
              have : i ∈ Region.ready .any ops listed := by
                rw [ready_dep ho]
                refine ⟨?_, fun d hdd => ih d (d1 d hdd) (by have := d1 d hdd; omega)⟩
                have hlt : i < listed.size := by omega
                simp [hlt] at hLi ⊢
                exact hLi
              rw [hr] at this; cases this
        induction fuel with
        | zero =>
          intro U listed a w hj hU hUm
          have hall : ∀ i, i < l.length → Li listed i := fun i hi => by
            by_cases hL : Li listed i
            · exact hL
            · have := hUm i hi hL
              have hU0 : U = [] := List.eq_nil_of_length_eq_zero (by omega)
              rw [hU0] at this; cases this
          refine ⟨?_, fin listed a w hj hall⟩
          cases hr : Region.ready .any ops listed with
          | nil => rfl
          | cons j rest =>
            exfalso
            have hm : j ∈ Region.ready .any ops listed := by rw [hr]; simp
            obtain ⟨h1, o, ho, _⟩ := mem_ready.1 hm
            have hlt : j < l.length := by rw [hlen]; exact (Array.getElem?_eq_some_iff.1 ho).1
            have h2 := hall j hlt
            unfold Li at h2
            have hls : j < listed.size := by rw [hj.size]; exact hlt
            simp [hls] at h1 h2
            rw [h1] at h2; cases h2
        | succ fuel ih =>
          intro U listed a w hj hU hUm
          refine ⟨fun hr => fin listed a w hj (allOf listed hj.size hr), fun j hm => ?_⟩
          obtain ⟨h1, o, ho, _⟩ := mem_ready.1 hm
          obtain ⟨_, hdl⟩ := (ready_dep ho).1 hm
          have hlt : j < l.length := by rw [hlen]; exact (Array.getElem?_eq_some_iff.1 ho).1
          have hls : j < listed.size := by rw [hj.size]; exact hlt
          have hnL : ¬ Li listed j := by
            unfold Li
            simp [hls] at h1 ⊢
            exact h1
          have hgj : l[j]? = some l[j] := List.getElem?_eq_getElem hlt
          generalize l[j] = g at hgj
          obtain ⟨o', ho', hgo, hge⟩ := hfacts j g hgj
          rw [ho] at ho'; cases ho'
          obtain ⟨d1, d2, d3, d4⟩ := drawOk_at hd hgj
          rw [hdeps j o ho] at d1 d2
          -- what is ahead of it is done
          have hanc : ∀ x ∈ g.an, Li listed x := fun x hx => by
            rcases d2 x hx with h | ⟨d, hdd, gd, hgd, hxd'⟩
            · exact hdl x h
            · exact hj.cl d gd hgd (hdl d hdd) x hxd'
          obtain ⟨c, E1, hc, hcan, hcut, hE, hW1, hS⟩ := hj.cut
          -- what is behind it is not
          have hbehind : ∀ (i : Nat) (gi : GD), l[i]? = some gi → j ∈ gi.an → ¬ Li listed i := fun i gi hi hmem hL => hnL (hj.cl i gi hi hL j hmem)
          -- its slots
          have hslots : TR E1 N (rs (Tm j) g.sl) a.tmps := by
            refine ⟨hS.1, fun d v hv => ?_⟩
            rw [get_rs] at hv
            by_cases hdm : d ∈ g.sl
            · rw [if_pos hdm] at hv
              refine hS.get tr (Nat.le_of_lt hlt) (fun i gi hi hdi => ?_) hv
              constructor
              · intro hL
                rcases Nat.lt_trichotomy i j with h | h | h
                · exact h
                · subst h; exact absurd hL hnL
                · exfalso
                  obtain ⟨_, _, d3', _⟩ := drawOk_at hd hi
                  rcases d3' j g h hgj with hm' | ⟨hcl, _⟩
                  · exact hbehind i gi hi hm' hL
                  · exact clash_r hcl hdi hdm
              · intro hlt'
                rcases d3 i gi hlt' hi with hm' | ⟨hcl, _⟩
                · exact hanc i hm'
                · exact absurd hdm (clash_l hcl hdi).1
            · rw [if_neg hdm] at hv; cases hv
          obtain ⟨st1, st2⟩ := tr.st j g hgj
          -- the step, and the new cut
          have step : ∃ s c', dstep self fs g (rs (Tm j) g.sl) (Hf c).1 (Hf c).2 = some s ∧ s.v = V j ∧ s.h = (Hf c').1 ∧ s.nx = (Hf c').2 ∧ c' ≤ l.length ∧ (c' = 0 ∨ ∃ g, l[c' - 1]? = some g ∧ g.eff = true) ∧
              (∀ (i : Nat) (gi : GD), l[i]? = some gi → gi.eff = true → ((Li listed i ∨ i = j) ↔ i < c')) := by
            cases hee : g.eff with
            | true =>
              have hcj : c ≤ j := by
                rcases Nat.lt_or_ge j c with h | h
                · exfalso
                  rcases hcan with h0 | ⟨gc, hgc, hgce⟩
                  · omega
                  · have hLc := (hcut (c - 1) gc hgc hgce).2 (by omega)
                    by_cases e : c - 1 = j
                    · rw [e] at hLc; exact hnL hLc
                    · obtain ⟨_, _, d3', _⟩ := drawOk_at hd hgc
                      rcases d3' j g (by omega) hgj with hm' | ⟨_, hnee⟩
                      · exact hbehind _ gc hgc hm' hLc
                      · exact hnee ⟨hee, hgce⟩
                · exact h
              have hcon := tr.const heff c (j - c) (by omega) (fun i gi h1 h2 h3 => by
                cases hie : gi.eff with
                | false => rfl
                | true =>
                  exfalso
                  rcases d3 i gi (by omega) h3 with hm' | ⟨_, hnee⟩
                  · have := (hcut i gi h3 hie).1 (hanc i hm'); omega
                  · exact hnee ⟨hie, hee⟩)
              rw [show c + (j - c) = j by omega] at hcon
              refine ⟨_, j + 1, by rw [← hcon]; exact st1, rfl, rfl, rfl, by omega, .inr ⟨g, by simpa using hgj, hee⟩, fun i gi hi hie => ?_⟩
              constructor
              · rintro (hL | rfl)
                · rcases Nat.lt_or_ge j i with h | h
                  · exfalso
                    obtain ⟨_, _, d3', _⟩ := drawOk_at hd hi
                    rcases d3' j g h hgj with hm' | ⟨_, hnee⟩
                    · exact hbehind i gi hi hm' hL
                    · exact hnee ⟨hee, hie⟩
                  · omega
                · omega
              · intro hlt'
                by_cases e : i = j
                · exact .inr e
                · refine .inl ?_
                  rcases d3 i gi (by omega) hi with hm' | ⟨_, hnee⟩
                  · exact hanc i hm'
                  · exact absurd ⟨hie, hee⟩ hnee
            | false =>
              have hcut' : ∀ (i : Nat) (gi : GD), l[i]? = some gi → gi.eff = true → ((Li listed i ∨ i = j) ↔ i < c) := fun i gi hi hie => by
                rw [← hcut i gi hi hie]
                refine ⟨fun h => h.resolve_right fun e => ?_, .inl⟩
                subst e; rw [hgj] at hi; cases hi; rw [hee] at hie; cases hie
              rw [hge] at hee
              rcases effOf_f hee with ⟨p, hp⟩ | ⟨m, hm', hrd⟩
              · exact ⟨_, c, dstep_p hp st1, rfl, rfl, rfl, hc, hcan, hcut'⟩
              · have hmay : mayCut (l.map (·.eff)) (l.map (·.an)) j c = true := by
                  unfold mayCut
                  simp only [Bool.and_eq_true, Bool.or_eq_true, Bool.not_eq_true', beq_iff_eq]
                  refine ⟨⟨?_, ?_⟩, ?_⟩
                  · rcases hcan with h0 | ⟨gc, hgc, hgce⟩
                    · exact .inl h0
                    · exact .inr (by rw [List.getElem?_map, hgc]; simpa using hgce)
                  · rw [List.any_eq_false]
                    intro i hi hbad
                    rw [List.mem_range] at hi
                    rw [List.getElem?_map, List.getElem?_map] at hbad
                    cases hgi : l[i]? with
                    | none => rw [hgi] at hbad; simp at hbad
                    | some gi =>
                      rw [hgi] at hbad
                      simp only [Option.map_some, Option.getD_some, Bool.and_eq_true, List.contains_iff_mem] at hbad
                      exact hbehind i gi hgi hbad.2 ((hcut i gi hgi hbad.1).2 hi)
                  · rw [List.any_eq_false]
                    intro i hi hbad
                    rw [List.getElem?_map, hgj] at hi
                    rw [List.getElem?_map] at hbad
                    cases hgi : l[i]? with
                    | none => rw [hgi] at hbad; simp at hbad
                    | some gi =>
                      rw [hgi] at hbad
                      simp only [Option.map_some, Option.getD_some, Bool.and_eq_true, decide_eq_true_eq] at hbad
                      have := (hcut i gi hgi hbad.1).1 (hanc i (by simpa using hi))
                      omega
                rcases d4 hrd c hc hmay with hcc | hown
                rotate_left
                · unfold ownCut at hown
                  simp only [Bool.and_eq_true, decide_eq_true_eq] at hown
                  obtain ⟨hcj, hall⟩ := hown
                  have hcon := tr.const heff c (j - c) (by omega) (fun i gi h1 h2 h3 => by
                    have := List.all_eq_true.1 hall i (List.mem_range.2 (by omega))
                    rw [List.getElem?_map, h3] at this
                    simp only [Option.map_some, Option.getD_some, Bool.or_eq_true, decide_eq_true_eq, Bool.not_eq_true'] at this
                    rcases this with h | h
                    · omega
                    · exact h)
                  rw [show c + (j - c) = j by omega] at hcon
                  have st1' := st1
                  rw [hcon] at st1'
                  obtain ⟨e1, e2⟩ := dstep_keeps hee st1'
                  exact ⟨_, c, st1', rfl, e1, e2, hc, hcan, hcut'⟩
                obtain ⟨x, hx1, hx2⟩ := dchk1_all (dchk_all hck (tr.rc j g hgj)) c hcc
                have hx1' : hh[c]? = some (Hf c) := tr.hs c hc
                rw [hx1'] at hx1; cases hx1
                exact ⟨_, c, dstep_read hm' hrd hx2, rfl, rfl, rfl, hc, hcan, hcut'⟩
          obtain ⟨s, c', hst, hsv, hsh, hsn, hc', hcan', hcut'⟩ := step
          refine dstep_ok H hs hF ho hgo hst hslots (hg.mono hE) hW1 fun v E2 w2 hE2 hr2 hW2 => ?_
          refine ih (U.erase j) _ _ _ ⟨by simpa using hj.size, ?_, ⟨c', E2, hc', hcan', ?_, Env.le_trans hE hE2, by rw [← hsh, ← hsn]; exact hW2, ?_⟩, ?_⟩ ?_ ?_
          · intro i gi hi hL x hx'
            rw [Li_set hls] at hL ⊢
            rcases hL with hL | rfl
            · exact .inl (hj.cl i gi hi hL x hx')
            · rw [hgj] at hi; cases hi; exact .inl (hanc x hx')
          · intro i gi hi hie
            rw [Li_set hls]; exact hcut' i gi hi hie
          · refine (hS.mono hE2).put hgj (by rw [hgo]; exact cOper_dst) (Li_set hls) (fun i gi hi hL d hd1 hd2 => ?_) (by rw [← hsv]; exact hr2)
            rcases Nat.lt_or_ge j i with h | h
            · exfalso
              obtain ⟨_, _, d3', _⟩ := drawOk_at hd hi
              rcases d3' j g h hgj with hm' | ⟨hcl, _⟩
              · exact hbehind i gi hi hm' hL
              · exact (clash_l hcl hd1).2 hd2
            · exact h
          · rw [put_defers]; exact hj.ds
          · have hjU := hUm j hlt hnL
            rw [List.length_erase_of_mem hjU]
            omega
          · intro i hi hL
            rw [Li_set hls] at hL
            have h2 := hUm i hi (fun h => hL (.inl h))
            exact (List.mem_erase_of_ne (fun e => hL (.inr e))).2 h2
      refine wpIn_region_any H.mx ?_
      refine key ops.size (List.range l.length) _ a _ ⟨by simp [hlen], fun i g hi hL => ?_, ⟨0, E, Nat.zero_le _, .inl rfl, fun i g hi _ => ?_, Env.le_refl E, ?_, ?_⟩, hds⟩ (by simp [hlen]) (fun i hi _ => List.mem_range.2 hi)
      · have : ¬ Li (Array.replicate ops.size false) i := by unfold Li; simp [Array.getElem?_replicate]; split <;> simp
        exact absurd hL this
      · have : ¬ Li (Array.replicate ops.size false) i := by unfold Li; simp [Array.getElem?_replicate]; split <;> simp
        exact ⟨fun hL => absurd hL this, fun h => by omega⟩
      · rw [tr.h0]; exact hW.same rfl rfl rfl rfl
      · refine ⟨ht.1, fun d => .inr ⟨fun i g hi hL => ?_, fun v hv => ht.2 d v hv⟩⟩
        have : ¬ Li (Array.replicate ops.size false) i := by unfold Li; simp [Array.getElem?_replicate]; split <;> simp
        exact absurd hL this
end
end Go.Gh
