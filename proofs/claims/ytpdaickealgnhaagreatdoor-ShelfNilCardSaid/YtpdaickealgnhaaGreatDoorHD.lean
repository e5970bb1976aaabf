/- Pure operations: the law. -/
import Derived.Test.YtpdaickealgnhaaGreatDoorHC
namespace Go.Gh
set_option linter.unusedVariables false

section
variable {P : Program} {tb : T TypeInfo} {ng N : Nat} {E : Env} {t : T GV} {a : Act}
theorem cField_und {tb : T TypeInfo} {s : TypeId} {f : Nat} {fd : Field} (h : cField tb s f = some fd) : ∃ fs, und tb s = some (.struct fs) ∧ fs[f]? = some fd := by
  unfold cField at h
  split at h
  · rename_i fs hu; exact ⟨fs, hu, h⟩
  · cases h
theorem fNil_ok {v : GV} {x : Value} {u : GV} (h : fNil v = some u) (hr : R E v x) : u = v ∧ ((∃ a, x = .pointer (some a)) ∨ (∃ f p q, x = .func (.func f) p q) ∨ ∃ t y, x = .iface t y) := by
  cases v <;> try (cases h; done)
  case ptr b o => cases h; simp only [R] at hr; obtain ⟨_, _, _, rfl⟩ := hr; exact ⟨rfl, .inl ⟨_, rfl⟩⟩
  case fn f p q =>
    cases f <;> try (cases h; done)
    cases h; simp only [R] at hr; obtain ⟨_, _, rfl, _⟩ := hr; exact ⟨rfl, .inr (.inl ⟨_, _, _, rfl⟩)⟩
  case iface => cases h; simp only [R] at hr; obtain ⟨_, rfl, _⟩ := hr; exact ⟨rfl, .inr (.inr ⟨_, _, rfl⟩)⟩
theorem addr_add (cb co n : Nat) : (⟨cb, co, none⟩ : Addr).add n = ⟨cb, co + n, none⟩ := by
  unfold Addr.add
  by_cases h : n = 0
  · simp [h]
  · simp [h]
theorem places_mapM {P : Program} {tb : T TypeInfo} (hT : Tb P tb) : ∀ {fs : List Field} {pl : List (Nat × Nat)}, places tb fs = some pl → fs.mapM (fun f => (P.info? f.type).map fun i => (f.offset, i.size)) = some pl
  | [], pl, h => by simp only [places, Option.some.injEq] at h; subst h; simp
  | f :: fs, pl, h => by
    simp only [places] at h
    split at h
    · rename_i n l h1 h2
      cases h
      obtain ⟨i, hi, rfl⟩ := Option.map_eq_some_iff.1 h1
      simp [List.mapM_cons, hT _ _ hi, places_mapM hT h2]
    · cases h
theorem minmax_run {P : Program} (w : World) (k k' : IntKind) (x y : Int) (ts : Array TypeId) (t : TypeId) :
    (Builtin.max_ ts t #[.int k x, .int k' y]).run P w = .ok (.int k (if y > x then y else x)) w ∧ (Builtin.min_ ts t #[.int k x, .int k' y]).run P w = .ok (.int k (if y < x then y else x)) w := by
  constructor <;> simp [Builtin.max_, Builtin.min_, Builtin.max2, Builtin.min2]

variable (hT : Tb P tb) (ht : TR E N t a.tmps) (hg : GL E ng) {o : Oper} {v : GV}
include hT ht hg

set_option maxHeartbeats 1000000 in
theorem pf_ok {p : Pf} (hc : cPf P tb ng o.op = some p) (h : pf t p = some v) : POk P E o a v := by
  generalize ho : o.op = op at hc
  unfold cPf at hc
  split at hc
  · -- move
    obtain ⟨x, hx, rfl⟩ := Option.map_eq_some_iff.1 hc
    cases h
    exact fun w => ⟨_, by simp only [execOp, ho, Sem.run_pure], ev_ok ht hg hx⟩
  · -- assign
    obtain ⟨x, hx, rfl⟩ := Option.map_eq_some_iff.1 hc
    cases h
    exact fun w => ⟨_, by simp only [execOp, ho, Sem.run_pure], ev_ok ht hg hx⟩
  · -- pick
    split at hc
    · rename_i c x y hc' hx hy
      cases hc
      obtain ⟨b, hb, h⟩ := onBool_some (show pfPick t c x y = some v from h)
      cases h
      have r := ev_ok ht hg hc'
      rw [hb] at r
      have r := R.boolv r
      intro w
      cases b with
      | true => exact ⟨_, by simp [execOp, ho, r, asBool], ev_ok ht hg hx⟩
      | false => exact ⟨_, by simp [execOp, ho, r, asBool], ev_ok ht hg hy⟩
    · cases hc
  · -- nilCheck
    obtain ⟨x, hx, rfl⟩ := Option.map_eq_some_iff.1 hc
    have r := ev_ok ht hg hx
    obtain ⟨rfl, hv⟩ := fNil_ok (show fNil (ev t x) = some v from h) r
    intro w
    refine ⟨_, ?_, r⟩
    rcases hv with ⟨a', e⟩ | ⟨f, p, q, e⟩ | ⟨t', y, e⟩ <;> simp [execOp, ho, e]
  · -- binOp
    exact p_bin hT ht hg ho hc h
  · -- neg
    obtain ⟨x, hx, rfl⟩ := Option.map_eq_some_iff.1 hc
    obtain ⟨k, n, e, h⟩ := onInt_some (show pfNeg t x = some v from h)
    cases h
    have r := ev_ok ht hg hx
    rw [e] at r; have r := R.int r
    exact fun w => ⟨.int k (k.wrap (0 - n)), by simp [execOp, ho, r, Op.unary, Op.intArith], by rw [wr_eq]; exact R.mkInt _ _ _⟩
  · -- not
    obtain ⟨x, hx, rfl⟩ := Option.map_eq_some_iff.1 hc
    rcases onBool_or (show pfNot t x = some v from h) with ⟨b, e, h⟩ | h
    rotate_left
    · obtain ⟨u, e, h⟩ := onUn_some h
      obtain ⟨hu, h⟩ := okIf_some h
      have hu := uq_eq hu; subst hu
      cases h
      have r := ev_ok ht hg hx
      rw [e] at r; simp only [R] at r
      obtain ⟨b, r⟩ := r
      exact fun w => ⟨.bool (!b), by simp [execOp, ho, r, Op.unary], by simp only [R]; exact ⟨_, rfl⟩⟩
    cases h
    have r := ev_ok ht hg hx
    rw [e] at r; have r := R.boolv r
    exact fun w => ⟨.bool (!b), by simp [execOp, ho, r, Op.unary], by rw [bnot_eq]; exact R.mkBool _ _⟩
  · -- xor
    obtain ⟨x, hx, rfl⟩ := Option.map_eq_some_iff.1 hc
    obtain ⟨k, n, e, h⟩ := onInt_some (show pfXorc t x = some v from h)
    cases h
    have r := ev_ok ht hg hx
    rw [e] at r; have r := R.int r
    refine fun w => ⟨.int k (slowBits .xor k (if k.signed then -1 else k.max) n), ?_, by rw [lxor_eq]; exact R.mkInt _ _ _⟩
    simp only [execOp, ho, r, Op.unary, Sem.run_bind]
    rfl
  · -- convert
    rename_i s d x
    split at hc
    · rename_i ds k o' h1 h2 h3
      cases hc
      obtain ⟨k', n, e, h⟩ := onInt_some (show pfConv t k o' = some v from h)
      cases h
      have r := ev_ok ht hg h3
      rw [e] at r; have r := R.int r
      have u1 := und_ok hT h1
      have u2 := und_ok hT h2
      refine fun w => ⟨.int k (k.wrap n), ?_, by rw [wr_eq]; exact R.mkInt _ _ _⟩
      simp [execOp, ho, r, convert, run_underlying u1, run_underlying u2, Conv.intToInt]
    · rename_i ds o' h1 h2 h3
      split at hc
      · rename_i h4
        cases hc
        obtain ⟨s', e, h⟩ := onStr_some (show pfCstr t o' = some v from h)
        cases h
        have r := ev_ok ht hg h3
        rw [e] at r
        obtain ⟨r', rs⟩ := R.str r
        have u1 := und_ok hT h4
        have u2 := und_ok hT h2
        exact fun w => ⟨.string (bs s'), by simp [execOp, ho, r', convert, run_underlying u1, run_underlying u2], by simp only [R]; exact ⟨trivial, rs⟩⟩
      · cases hc
    · cases hc
  · -- makeInterface
    rename_i ty x
    split at hc
    · cases hc
    · rename_i d o' hni h1 h2
      cases hc
      cases h
      have u1 := und_ok hT h1
      refine fun w => ⟨.iface ty (a.eval x), ?_, ?_⟩
      · have : (Instr.makeInterface ty (a.eval x)).run P w = .ok (.iface ty (a.eval x)) w := by
          unfold Instr.makeInterface
          rw [Sem.run_bind, run_underlying u1, Result.andThen_ok]
          cases d <;> first | rfl | exact absurd rfl (hni _)
        simp [execOp, ho, this]
      · simp only [R]; exact ⟨_, rfl, ev_ok ht hg h2⟩
    · cases hc
  · -- makeFunc
    rename_i f p q
    split at hc
    · rename_i l1 l2 h1 h2
      cases hc
      cases h
      refine fun w => ⟨.func f (p.map a.eval) (q.map a.eval), by simp [execOp, ho, Instr.makeFunc], ?_⟩
      simp only [R]
      exact ⟨_, _, rfl, by simpa using evs_ok ht hg h1, by simpa using evs_ok ht hg h2⟩
    · cases hc
  · -- extract
    obtain ⟨x, hx, rfl⟩ := Option.map_eq_some_iff.1 hc
    obtain ⟨l, e, h⟩ := onTup_some (show pfExt t _ x = some v from h)
    have r := ev_ok ht hg hx
    rw [e] at r
    obtain ⟨vs, r', hl⟩ := R.tupv r
    obtain ⟨y, hy, hr⟩ := hl.get h
    rw [Array.getElem?_toList] at hy
    exact fun w => ⟨y, by simp [execOp, ho, r', Instr.extract, hy], hr⟩
  · -- field
    split at hc
    · rename_i fd o' h1 h2
      obtain ⟨q, hq, rfl⟩ := Option.map_eq_some_iff.1 hc
      obtain ⟨fs, hu, hf⟩ := cField_und h1
      obtain ⟨l, e, h⟩ := onAgg_some (show pfFld t _ q o' = some v from h)
      have r := ev_ok ht hg h2
      rw [e] at r
      obtain ⟨cs, r', hl⟩ := R.agg r
      intro w
      obtain ⟨y, hy, hr⟩ := run_part' hT hq hl h w
      exact ⟨y, by simp [execOp, ho, r', Instr.field, run_underlying (und_ok hT hu), hf, asAgg, hy], hr⟩
    · cases hc
  · -- index
    rename_i ty x i
    split at hc
    · rename_i o1 o2 h1 h2 h3
      cases hc
      obtain ⟨s, e, h⟩ := onStr_some (show pfIxs t o1 o2 = some v from h)
      obtain ⟨n, hn, h⟩ := orec_some h
      obtain ⟨c, hc, h⟩ := orec_some h
      cases h
      have r := ev_ok ht hg h2
      rw [e] at r
      obtain ⟨r', rs⟩ := R.str r
      obtain ⟨k, ri⟩ := natOf_val hn (ev_ok ht hg h3)
      have hlt : n < s.length := (List.getElem?_eq_some_iff.1 hc).1
      have hb : (bs s)[n]? = some (UInt8.ofNat c) := by
        rw [getElem?_pos (bs s) n (by rw [bs_size]; exact hlt)]
        have : s[n] = c := (List.getElem?_eq_some_iff.1 hc).2
        simp only [bs, ByteArray.getElem_eq_getElem_data]
        simp [this]
      have hc256 := rs c (List.mem_of_getElem? hc)
      refine fun w => ⟨.int .u8 c, ?_, R.mkInt _ _ _⟩
      simp [execOp, ho, r', ri, Instr.index, run_underlying (und_ok hT h1), asIntOf, hb, UInt8.toNat_ofNat_of_lt' hc256]
    · rename_i n e' o1 o2 h1 h2 h3
      split at hc
      · rename_i q z hq hz
        cases hc
        obtain ⟨l, e, h⟩ := onAgg_some (show pfIxa t n z q.isSome o1 o2 = some v from h)
        obtain ⟨m, hm, h⟩ := orec_some h
        obtain ⟨hb, h⟩ := okIf_some h
        have hb : m < n := ble_t hb
        have r := ev_ok ht hg h2
        rw [e] at r
        obtain ⟨cs, r', hl⟩ := R.agg r
        obtain ⟨k, ri⟩ := natOf_val hm (ev_ok ht hg h3)
        intro w
        have hq' : (Bool.rec none (some z) q.isSome : Option Nat) = q := by
          unfold cPart at hq
          split at hq
          · rename_i d sz' hd hsz
            rw [hsz] at hz; cases hz
            simp only [Option.some.injEq] at hq
            subst hq
            split <;> rfl
          · cases hq
        rw [hq'] at h
        obtain ⟨y, hy, hr⟩ := run_part' hT hq hl h w
        refine ⟨y, ?_, hr⟩
        have hz' := run_sizeOf' hT hz w
        have hlt : ((m : Int) < (n : Int)) := by omega
        simp only [execOp, ho, r', ri, Instr.index, Sem.run_bind, asIntOf, Sem.run_pure, Result.andThen_ok, run_underlying (und_ok hT h1)]
        rw [if_pos ⟨by omega, by omega⟩, Sem.run_bind, hz', Result.andThen_ok]
        simp only [Int.toNat_natCast]
        rw [show m * z = Nat.mul m z from rfl, hy]
        rfl
      · cases hc
    · cases hc
  · -- fieldAddr
    rename_i ty x f
    split at hc
    · rename_i fd o' h1 h2
      split at hc
      · rename_i z hz
        cases hc
        obtain ⟨fs, hu, hf⟩ := cField_und h1
        obtain ⟨b, oo, e, h⟩ := onPtr_some (show pfFa t _ o' = some v from h)
        cases h
        have r := ev_ok ht hg h2
        rw [e] at r
        simp only [R] at r
        obtain ⟨cb, co, hm, r'⟩ := r
        intro w
        refine ⟨.pointer (some ⟨cb, co + (oo + fd.offset), none⟩), ?_, by simp only [R]; exact ⟨cb, co, hm, rfl⟩⟩
        have hz' := run_sizeOf' hT hz w
        simp [execOp, ho, r', Instr.fieldAt, run_underlying (und_ok hT hu), hf, Instr.sureAddr, fieldPlace, hz', addr_add, Nat.add_assoc]
      · cases hc
    · cases hc
  · -- indexAddr
    rename_i ty x i
    split at hc
    · rename_i n e' o1 o2 h1 h2 h3
      obtain ⟨z, hz, rfl⟩ := Option.map_eq_some_iff.1 hc
      obtain ⟨b, oo, e, h⟩ := onPtr_some (show pfIaa t n z o1 o2 = some v from h)
      obtain ⟨m, hm, h⟩ := orec_some h
      obtain ⟨hb, h⟩ := okIf_some h
      cases h
      have hb : m < n := ble_t hb
      have r := ev_ok ht hg h2
      rw [e] at r
      simp only [R] at r
      obtain ⟨cb, co, hmm, r'⟩ := r
      obtain ⟨k, ri⟩ := natOf_val hm (ev_ok ht hg h3)
      intro w
      refine ⟨.pointer (some ⟨cb, co + (oo + m * z), none⟩), ?_, by simp only [R]; exact ⟨cb, co, hmm, rfl⟩⟩
      have hz' := run_sizeOf' hT hz w
      have hlt : ((m : Int) < (n : Int)) := by omega
      simp [execOp, ho, r', ri, Instr.indexAt, run_underlying (und_ok hT h1), Instr.sureAddr, asIntOf, hz', addr_add, Nat.add_assoc, hb]
    · rename_i e' o1 o2 h1 h2 h3
      obtain ⟨z, hz, rfl⟩ := Option.map_eq_some_iff.1 hc
      rcases onSl_some (show pfIas t z o1 o2 = some v from h) with ⟨_, h⟩ | ⟨b, oo, len, cap, ex, sz, e, h⟩
      · cases h
      · obtain ⟨m, hm, h⟩ := orec_some h
        obtain ⟨hb, h⟩ := okIf_some h
        cases h
        have hb : m < len := ble_t hb
        have r := ev_ok ht hg h2
        rw [e] at r
        simp only [R] at r
        obtain ⟨cb, co, ad, c, hmm, r', hlc, hcc, hex, had, hroom⟩ := r
        have had : ad = ⟨cb, co + oo, none⟩ := had.resolve_left (by omega)
        subst had
        obtain ⟨k, ri⟩ := natOf_val hm (ev_ok ht hg h3)
        intro w
        refine ⟨.pointer (some ⟨cb, co + (oo + m * z), none⟩), ?_, by simp only [R]; exact ⟨cb, co, hmm, rfl⟩⟩
        have hz' := run_sizeOf' hT hz w
        have hlt : ((m : Int) < (len : Int)) := by omega
        simp [execOp, ho, r', ri, Instr.indexAt, run_underlying (und_ok hT h1), asIntOf, hz', addr_add, Nat.add_assoc, hb]
    · cases hc
  · -- slice
    rename_i ty x lo hi mx
    split at hc
    · rename_i o1 l1 l2 h1 h2 h3 h4 h5
      cases hc
      obtain ⟨s, e, h⟩ := onStr_some (show pfSls t o1 l1 l2 = some v from h)
      obtain ⟨l, hl, h⟩ := orec_some h
      obtain ⟨hh, hhh, h⟩ := orec_some h
      obtain ⟨hb, h⟩ := okIf_some (show fSls s l hh = some v from h)
      cases h
      obtain ⟨hb1, hb2⟩ := band_t hb
      have hb1 : l ≤ hh := ble_t hb1
      have hb2 : hh ≤ s.length := ble_t hb2
      have r := ev_ok ht hg h2
      rw [e] at r
      obtain ⟨r', rs⟩ := R.str r
      have hmx : mx = none := by cases mx with
        | none => rfl
        | some y => simp only [codO] at h5; obtain ⟨_, _, h5⟩ := Option.map_eq_some_iff.1 h5; cases h5
      subst hmx
      refine fun w => ⟨.string ((bs s).extract l hh), ?_, ?_⟩
      · have hrun : (Instr.sliceBounds false (bs s).size (bs s).size (lo.map a.eval) (hi.map a.eval) none).run P w = .ok (l, hh, (bs s).size) w := by
          refine run_bounds (.inl ⟨rfl, rfl⟩) ?_ ?_
          · rcases bnd_ok ht hg h4 hhh with ⟨rfl, -, rfl⟩ | ⟨k, y, rfl, -, hy⟩
            · exact .inl ⟨rfl, rfl, (bs_size s).symm⟩
            · exact .inr ⟨k, by simp [hy], by rw [bs_size]; exact hb2⟩
          · rcases bnd_ok ht hg h3 hl with ⟨rfl, -, rfl⟩ | ⟨k, y, rfl, -, hy⟩
            · exact .inl ⟨rfl, rfl⟩
            · exact .inr ⟨k, by simp [hy], hb1⟩
        simp [execOp, ho, r', Instr.sliceAt, run_underlying (und_ok hT h1), Instr.slice, hrun]
      · simp only [R]
        refine ⟨by rw [bs_extract _ _ _ hb2]; rfl, fun x hx => rs x (List.mem_of_mem_drop (List.mem_of_mem_take hx))⟩
    · rename_i e' o1 l1 l2 l3 h1 h2 h3 h4 h5
      split at hc
      · cases hc
      · rename_i hcond
        obtain ⟨z, hz, rfl⟩ := Option.map_eq_some_iff.1 hc
        have hmh : ∀ m : Nat, (hi = none ∧ mx = none ∨ ∃ y, hi = some y) := fun _ => by
          cases hi with
          | some y => exact .inr ⟨y, rfl⟩
          | none =>
            cases mx with
            | none => exact .inl ⟨rfl, rfl⟩
            | some y =>
              exfalso; apply hcond
              simp only [codO, Option.some.injEq] at h4 h5
              obtain ⟨q, hq, rfl⟩ := Option.map_eq_some_iff.1 h5
              subst h4; rfl
        rcases onSl_some (show pfSll t z o1 l1 l2 l3 = some v from h) with ⟨e, h⟩ | ⟨b, oo, len, cap, ex, sz, e, h⟩
        · obtain ⟨l, hl, h⟩ := orec_some h
          obtain ⟨hh, hhh, h⟩ := orec_some h
          obtain ⟨m, hm, h⟩ := orec_some h
          obtain ⟨hb, h⟩ := okIf_some h
          cases h
          obtain ⟨hb1, hb2⟩ := band_t hb
          obtain ⟨hb2, hb3⟩ := band_t hb2
          cases beq_t hb1; cases beq_t hb2; cases beq_t hb3
          have r := ev_ok ht hg h2
          rw [e] at r
          simp only [R] at r
          refine fun w => ⟨.slice none 0 0, ?_, by simp only [R]⟩
          have hrun : (Instr.sliceBounds true 0 0 (lo.map a.eval) (hi.map a.eval) (mx.map a.eval)).run P w = .ok (0, 0, 0) w := by
            refine run_bounds ?_ ?_ ?_
            · rcases bnd_ok ht hg h5 hm with ⟨rfl, -, -⟩ | ⟨k, y, rfl, -, hy⟩
              · exact .inl ⟨rfl, rfl⟩
              · exact .inr ⟨k, by simp [hy], Nat.le_refl _⟩
            · rcases bnd_ok ht hg h4 hhh with ⟨rfl, -, -⟩ | ⟨k, y, rfl, -, hy⟩
              · rcases hmh 0 with ⟨-, rfl⟩ | ⟨y, hy⟩
                · exact .inl ⟨rfl, rfl, rfl⟩
                · cases hy
              · exact .inr ⟨k, by simp [hy], Nat.le_refl _⟩
            · rcases bnd_ok ht hg h3 hl with ⟨rfl, -, -⟩ | ⟨k, y, rfl, -, hy⟩
              · exact .inl ⟨rfl, rfl⟩
              · exact .inr ⟨k, by simp [hy], Nat.le_refl _⟩
          simp [execOp, ho, r, Instr.sliceAt, run_underlying (und_ok hT h1), Instr.slice, hrun, run_sizeOf' hT hz w]
        · obtain ⟨hzz, h⟩ := okIf_some h
          have hzz := beq_t hzz
          subst hzz
          obtain ⟨l, hl, h⟩ := orec_some h
          obtain ⟨hh, hhh, h⟩ := orec_some h
          obtain ⟨m, hm, h⟩ := orec_some h
          obtain ⟨hb, h⟩ := okIf_some (show fSll sz b oo len cap ex l hh m (isS l3) = some v from h)
          cases h
          obtain ⟨hb1, hb2⟩ := band_t hb
          obtain ⟨hb2, hb3⟩ := band_t hb2
          have hb1 : l ≤ hh := ble_t hb1
          have hb2 : hh ≤ m := ble_t hb2
          have hb3 : m ≤ cap := ble_t hb3
          have r := ev_ok ht hg h2
          rw [e] at r
          simp only [R] at r
          obtain ⟨cb, co, ad, c, hmm, r', hlc, hcc, hex, had, hroom⟩ := r
          intro w
          -- the machine's own third bound
          obtain ⟨cm, hcm1, hcm2, hcm3, hcm4⟩ : ∃ cm, m ≤ cm ∧ cm ≤ c ∧ ((isS l3 = true ∨ ex = true) → cm = m) ∧
              ((mx = none ∧ cm = c) ∨ ∃ k, (mx.map a.eval) = some (.int k (cm : Int)) ∧ cm ≤ c) := by
            rcases bnd_ok ht hg h5 hm with ⟨rfl, rfl, rfl⟩ | ⟨k, y, rfl, ⟨q, rfl⟩, hy⟩
            · exact ⟨c, hcc, Nat.le_refl _, fun hx => hx.elim (fun hx => by cases hx) (fun hx => hex hx), .inl ⟨rfl, rfl⟩⟩
            · exact ⟨m, Nat.le_refl _, by omega, fun _ => rfl, .inr ⟨k, by simp [hy], by omega⟩⟩
          have hrun : (Instr.sliceBounds true len c (lo.map a.eval) (hi.map a.eval) (mx.map a.eval)).run P w = .ok (l, hh, cm) w := by
            refine run_bounds ?_ ?_ ?_
            · rcases hcm4 with ⟨rfl, rfl⟩ | hq
              · exact .inl ⟨rfl, rfl⟩
              · exact .inr hq
            · rcases bnd_ok ht hg h4 hhh with ⟨rfl, -, rfl⟩ | ⟨k, y, rfl, -, hy⟩
              · rcases hmh 0 with ⟨-, rfl⟩ | ⟨y, hy⟩
                · exact .inl ⟨rfl, rfl, rfl⟩
                · cases hy
              · exact .inr ⟨k, by simp [hy], by omega⟩
            · rcases bnd_ok ht hg h3 hl with ⟨rfl, -, rfl⟩ | ⟨k, y, rfl, -, hy⟩
              · exact .inl ⟨rfl, rfl⟩
              · exact .inr ⟨k, by simp [hy], hb1⟩
          refine ⟨.slice (if cm = l then some ad else some (ad.add (l * sz))) (hh - l) (cm - l), ?_, ?_⟩
          · simp [execOp, ho, r', Instr.sliceAt, run_underlying (und_ok hT h1), Instr.slice, hrun, run_sizeOf' hT hz w]
          · simp only [R]
            refine ⟨cb, co, if cm = l then ad else ad.add (l * sz), cm - l, hmm, by split <;> rfl, ?_, ?_, ?_, ?_, ?_⟩
            · show hh - l ≤ m - l; omega
            · show m - l ≤ cm - l; omega
            · intro hx
              have : cm = m := hcm3 (by
                cases hi3 : isS l3 with
                | true => exact .inl rfl
                | false => rw [hi3] at hx; exact .inr hx)
              show cm - l = m - l; omega
            · by_cases hcl : cm = l
              · left; omega
              · right
                rw [if_neg hcl]
                have had : ad = ⟨cb, co + oo, none⟩ := had.resolve_left (by omega)
                subst had
                rw [addr_add]
                show (⟨cb, co + oo + l * sz, none⟩ : Addr) = ⟨cb, co + (oo + l * sz), none⟩
                rw [Nat.add_assoc]
            · by_cases hcl : cm = l
              · left; omega
              · right
                have hroom := hroom.resolve_left (by omega)
                show co + (oo + l * sz) + (cm - l) * sz ≤ E.sz cb
                have e1 : l * sz + (cm - l) * sz = cm * sz := by rw [← Nat.add_mul]; congr 1; omega
                have e2 : cm * sz ≤ c * sz := Nat.mul_le_mul_right _ hcm2
                omega
    · cases hc
  · -- len
    rename_i args ats
    split at hc
    · rename_i ty x hty hargs
      have ea : args = #[x] := by rw [← Array.toList_inj, hargs]
      subst ea
      have exec : ∀ w, (execOp a.eval o).run P w = ((Builtin.len_ ats o.type #[a.eval x]).run P w).andThen fun v w => .ok (.value v) w := by
        intro w
        simp [execOp, ho, resolve, invoke, builtin]
      split at hc
      · rename_i o' h1 h2
        cases hc
        have r := ev_ok ht hg h2
        have u := und_ok hT h1
        rcases onStr_or (show pfLens t o' = some v from h) with ⟨s, e, h⟩ | h
        rotate_left
        · obtain ⟨k, e, h⟩ := onUn_some h
          obtain ⟨hu, h⟩ := okIf_some h
          have hu := uq_eq hu; subst hu
          cases h
          rw [e] at r; simp only [R] at r
          obtain ⟨b, r'⟩ := r
          exact fun w => ⟨.int .i64 (b.size : Nat), by rw [exec, r']; simp [Builtin.len_, hty, run_underlying u, goInt], by simp only [R]; exact ⟨_, rfl⟩⟩
        cases h
        rw [e] at r
        obtain ⟨r', _⟩ := R.str r
        exact fun w => ⟨.int .i64 ((bs s).size : Nat), by rw [exec, r']; simp [Builtin.len_, hty, run_underlying u, goInt], by rw [bs_size]; exact R.mkInt _ _ _⟩
      · rename_i e' o' h1 h2
        cases hc
        have r := ev_ok ht hg h2
        have u := und_ok hT h1
        rcases onSl_or (show pfLenl t o' = some v from h) with ⟨e, h⟩ | ⟨b, oo, len, cap, ex, sz, e, h⟩ | h
        · cases h
          rw [e] at r; simp only [R] at r
          exact fun w => ⟨.int .i64 0, by rw [exec, r]; simp [Builtin.len_, hty, run_underlying u, goInt], R.mkInt _ _ _⟩
        · cases h
          rw [e] at r; simp only [R] at r
          obtain ⟨_, _, _, _, _, r', _⟩ := r
          exact fun w => ⟨.int .i64 len, by rw [exec, r']; simp [Builtin.len_, hty, run_underlying u, goInt], R.mkInt _ _ _⟩
        · obtain ⟨k, e, h⟩ := onUn_some h
          obtain ⟨hu, h⟩ := okIf_some h
          have hu := uq_eq hu; subst hu
          cases h
          rw [e] at r; simp only [R] at r
          obtain ⟨_, n, _, r'⟩ := r
          exact fun w => ⟨.int .i64 n, by rw [exec, r']; simp [Builtin.len_, hty, run_underlying u, goInt], by simp only [R]; exact ⟨_, rfl⟩⟩
      · rename_i n e' h1
        cases hc
        cases h
        have u := und_ok hT h1
        exact fun w => ⟨.int .i64 n, by rw [exec]; simp [Builtin.len_, hty, run_underlying u, goInt], R.mkInt _ _ _⟩
      · rename_i ar h1
        split at hc
        · rename_i n e' h3
          cases hc
          cases h
          have u := und_ok hT h1
          have u' := und_ok hT h3
          refine fun w => ⟨.int .i64 n, ?_, R.mkInt _ _ _⟩
          rw [exec]
          simp [Builtin.len_, hty, run_underlying u, run_underlying u', goInt]
        · cases hc
      · cases hc
    · cases hc
  · -- cap
    rename_i args ats
    split at hc
    · rename_i ty x hty hargs
      have ea : args = #[x] := by rw [← Array.toList_inj, hargs]
      subst ea
      have exec : ∀ w, (execOp a.eval o).run P w = ((Builtin.cap_ ats o.type #[a.eval x]).run P w).andThen fun v w => .ok (.value v) w := by
        intro w
        simp [execOp, ho, resolve, invoke, builtin]
      split at hc
      · rename_i e' o' h1 h2
        cases hc
        have r := ev_ok ht hg h2
        have u := und_ok hT h1
        rcases onSl_some (show pfCap t o' = some v from h) with ⟨e, h⟩ | ⟨b, oo, len, cap, ex, sz, e, h⟩
        · cases h
          rw [e] at r; simp only [R] at r
          exact fun w => ⟨.int .i64 0, by rw [exec, r]; simp [Builtin.cap_, hty, run_underlying u, goInt], R.mkInt _ _ _⟩
        · obtain ⟨hex, h⟩ := okIf_some h
          cases h
          rw [e] at r; simp only [R] at r
          obtain ⟨_, _, _, c, _, r', _, _, hc', _⟩ := r
          rw [hc' hex] at r'
          exact fun w => ⟨.int .i64 cap, by rw [exec, r']; simp [Builtin.cap_, hty, run_underlying u, goInt], R.mkInt _ _ _⟩
      · rename_i n e' h1
        cases hc
        cases h
        have u := und_ok hT h1
        exact fun w => ⟨.int .i64 n, by rw [exec]; simp [Builtin.cap_, hty, run_underlying u, goInt], R.mkInt _ _ _⟩
      · cases hc
    · cases hc
  · -- max
    rename_i args ats
    split at hc
    · rename_i x y hargs
      have ea : args = #[x, y] := by rw [← Array.toList_inj, hargs]
      subst ea
      split at hc
      · rename_i o1 o2 h1 h2
        cases hc
        obtain ⟨k, p, e1, h⟩ := onInt_some (show pfMm t true o1 o2 = some v from h)
        obtain ⟨k', q, e2, h⟩ := onInt_some h
        cases h
        have r1 := ev_ok ht hg h1
        have r2 := ev_ok ht hg h2
        rw [e1] at r1; rw [e2] at r2
        have r1 := R.int r1; have r2 := R.int r2
        refine fun w => ⟨.int k (if q > p then q else p), ?_, ?_⟩
        · have := (minmax_run (P := P) w k k' p q ats o.type).1
          simp [execOp, ho, resolve, invoke, builtin, r1, r2, this]
        · have : (Bool.rec (Bool.rec p q (ilt q p)) (Bool.rec p q (ilt p q)) true : Int) = if q > p then q else p := by
            show (Bool.rec p q (ilt p q) : Int) = _
            rw [ilt_eq]
            by_cases hq : p < q <;> simp [hq]
          rw [this]; exact R.mkInt _ _ _
      · cases hc
    · cases hc
  · -- min
    rename_i args ats
    split at hc
    · rename_i x y hargs
      have ea : args = #[x, y] := by rw [← Array.toList_inj, hargs]
      subst ea
      split at hc
      · rename_i o1 o2 h1 h2
        cases hc
        obtain ⟨k, p, e1, h⟩ := onInt_some (show pfMm t false o1 o2 = some v from h)
        obtain ⟨k', q, e2, h⟩ := onInt_some h
        cases h
        have r1 := ev_ok ht hg h1
        have r2 := ev_ok ht hg h2
        rw [e1] at r1; rw [e2] at r2
        have r1 := R.int r1; have r2 := R.int r2
        refine fun w => ⟨.int k (if q < p then q else p), ?_, ?_⟩
        · have := (minmax_run (P := P) w k k' p q ats o.type).2
          simp [execOp, ho, resolve, invoke, builtin, r1, r2, this]
        · have : (Bool.rec (Bool.rec p q (ilt q p)) (Bool.rec p q (ilt p q)) false : Int) = if q < p then q else p := by
            show (Bool.rec p q (ilt q p) : Int) = _
            rw [ilt_eq]
            by_cases hq : q < p <;> simp [hq]
          rw [this]; exact R.mkInt _ _ _
      · cases hc
    · cases hc
  · -- build
    rename_i ty parts
    have zc : ∀ {z : List GV}, zeroCellsOf tb ty = some z → ∃ it z', P.info? ty = some it ∧ it.zero = some z' ∧ RL E z z'.cells.toList := by
      intro z hz
      unfold zeroCellsOf at hz
      obtain ⟨z', hz', hz2⟩ := Option.bind_eq_some_iff.1 hz
      obtain ⟨it, hit, hz3⟩ := Option.bind_eq_some_iff.1 hz'
      exact ⟨it, z', hT _ _ hit, hz3, csl_ok E hz2⟩
    have fin : ∀ (cells : Array Value) (l : List GV), P.built ty (parts.map fun (i, x) => (i, a.eval x)).toList = some cells → RL E l cells.toList → v = .agg l → POk P E o a v := by
      intro cells l hb hl hv w
      subst hv
      refine ⟨.agg cells, ?_, by simp only [R]; exact ⟨_, rfl, hl⟩⟩
      simp only [execOp, ho, Sem.run_bind, run_build w ty _ cells hb, Result.andThen_ok, Sem.run_pure]
    have pl : (parts.map fun (x : Nat × Operand) => (x.1, a.eval x.2)).toList = parts.toList.map fun x => (x.1, a.eval x.2) := by simp
    split at hc
    · rename_i fs z h1 h2
      split at hc
      · rename_i pls h3
        obtain ⟨qs, hq, rfl⟩ := Option.map_eq_some_iff.1 hc
        obtain ⟨it, z', hit, hz', hzr⟩ := zc h2
        obtain ⟨l, hl, h⟩ := orec_some (show pfBld t z qs = some v from h)
        cases h
        obtain ⟨g1, g2⟩ := bldEv_get ht hg hq
        obtain ⟨cells, hf, hr⟩ := gfill_ok (pls[·]?) _ _ _ _ _ g1 g2 hzr hl
        refine fin cells l ?_ hr rfl
        unfold Program.built
        rw [hit, und_ok hT h1]
        simp only [hz', places_mapM hT h3]
        have : (pls.toArray[·]?) = (pls[·]? : Nat → Option (Nat × Nat)) := by funext i; simp
        rw [this]
        have e2 : (parts.map fun (x : Nat × Operand) => match x with | (i, y) => (i, a.eval y)).toList = parts.toList.map fun x => (x.1, a.eval x.2) := by simp
        rw [e2]
        exact hf
      · cases hc
    · rename_i n e' z h1 h2
      split at hc
      · rename_i m h3
        obtain ⟨qs, hq, rfl⟩ := Option.map_eq_some_iff.1 hc
        obtain ⟨it, z', hit, hz', hzr⟩ := zc h2
        obtain ⟨l, hl, h⟩ := orec_some (show pfBld t z qs = some v from h)
        cases h
        obtain ⟨g1, g2⟩ := bldEv_get ht hg hq
        obtain ⟨cells, hf, hr⟩ := gfill_ok (fun i => some (i * m, m)) _ _ _ _ _ g1 g2 hzr hl
        refine fin cells l ?_ hr rfl
        obtain ⟨ie, hie, hsz⟩ := Option.map_eq_some_iff.1 h3
        unfold Program.built
        rw [hit, und_ok hT h1]
        simp only [hz', hT _ _ hie, hsz]
        have e2 : (parts.map fun (x : Nat × Operand) => match x with | (i, y) => (i, a.eval y)).toList = parts.toList.map fun x => (x.1, a.eval x.2) := by simp
        rw [e2]
        exact hf
      · cases hc
    · cases hc
  · -- typeAssert
    rename_i x xt ty ok
    split at hc
    · cases hc
    · rename_i d o' z hni h1 h2 h3
      cases hc
      have r := ev_ok ht hg h2
      have u := und_ok hT h1
      have hz : ∀ w, ∃ zv, (zeroValue ty).run P w = .ok zv w ∧ R E z zv := by
        intro w
        unfold zeroOf at h3
        obtain ⟨z', hz', hz2⟩ := Option.bind_eq_some_iff.1 h3
        obtain ⟨it, hit, hz3⟩ := Option.bind_eq_some_iff.1 hz'
        refine ⟨z', ?_, cv_ok hz2 E⟩
        simp [zeroValue, typeInfo, hT _ _ hit, hz3]
      have fails : ∀ {V : Value}, ok = true → v = .tup [z, .bool false] → a.eval x = V → (V = .nilIface ∨ ∃ u' y, V = .iface u' y ∧ u' ≠ ty) → POk P E o a v := by
        intro V hok hv hx hV w
        obtain ⟨zv, hz1, hz2⟩ := hz w
        subst hok hv
        refine ⟨.tuple #[zv, .bool false], ?_, by simp only [R, RL]; exact ⟨_, rfl, _, _, rfl, hz2, _, _, rfl, rfl, rfl⟩⟩
        simp only [execOp, ho, hx, Instr.typeAssert, Sem.run_bind, run_underlying u, Result.andThen_ok]
        rcases hV with rfl | ⟨u', y, rfl, hne⟩
        · cases d <;> first | exact absurd rfl (hni _) | simp [hz1]
        · cases d <;> first | exact absurd rfl (hni _) | simp [hz1, hne]
      rcases onIf_some (show pfTas t ty ok z o' = some v from h) with ⟨e, h4⟩ | ⟨u', y, e, h4⟩
      · obtain ⟨hok, h5⟩ := okIf_some h4
        cases h5
        rw [e] at r; simp only [R] at r
        exact fails hok rfl r (.inl rfl)
      · rw [e] at r; simp only [R] at r
        obtain ⟨Y, r', hy⟩ := r
        cases hb : Nat.beq u' ty with
        | false =>
          rw [hb] at h4
          obtain ⟨hok, h5⟩ := okIf_some h4
          cases h5
          exact fails hok rfl r' (.inr ⟨u', Y, rfl, beq_f hb⟩)
        | true =>
          rw [hb] at h4
          have := beq_t hb; subst this
          clear h
          cases h4
          intro w
          cases ok with
          | true =>
            refine ⟨.tuple #[Y, .bool true], ?_, by simp only [R, RL]; exact ⟨_, rfl, _, _, rfl, hy, _, _, rfl, rfl, rfl⟩⟩
            simp only [execOp, ho, r', Instr.typeAssert, Sem.run_bind, run_underlying u, Result.andThen_ok]
            cases d <;> first | exact absurd rfl (hni _) | simp
          | false =>
            refine ⟨Y, ?_, hy⟩
            simp only [execOp, ho, r', Instr.typeAssert, Sem.run_bind, run_underlying u, Result.andThen_ok]
            cases d <;> first | exact absurd rfl (hni _) | simp
    · cases hc
  · cases hc
end
end Go.Gh
