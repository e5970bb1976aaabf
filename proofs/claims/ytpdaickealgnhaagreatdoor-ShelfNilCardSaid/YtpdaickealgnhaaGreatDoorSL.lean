/- ShelfNil: the law's own `large` returns some bool and leaves the memory. -/
import Derived.Test.YtpdaickealgnhaaGreatDoorRows
import Derived.WalkKit
import Derived.WalkSpells
import Derived.OwnWalkIn
import Derived.TacticsInMore
import Derived.RegionIn
import Derived.LoopIn
import Derived.Sort.QuietIn
import Derived.Sort.AtCallIn
import Derived.Deep.Draws
import Derived.Test.YtpdaickealgnhaaGreatDoorHO
import Derived.Deep.Slices
import Derived.Deep.Strs
import Derived.ChangeArms
namespace Go.Proofs.YtpdaickealgnhaaGreatDoor
open Go Go.RowKit

/-- a number's value -/
def numOf : Value → Int
  | .int _ n => n
  | _ => 0
/-- what lies behind an Items slice -/
def ItemsAt (w : World) (v : Value) : Prop :=
  (∃ a c, v = .slice a 0 c) ∨ ∃ b o n c, v = .slice (some ⟨b, o, none⟩) n c ∧ n ≤ 9223372036854775807 ∧ ∀ j, j < n → ∃ x y, w.cell? ⟨b, o + j * 2, none⟩ = some (.string x) ∧ w.cell? ⟨b, o + j * 2 + 1, none⟩ = some (.string y) ∧ x.size ≤ 9223372036854775807 ∧ y.size ≤ 9223372036854775807
/-- what lies behind a slice of packs -/
def PacksAt (w : World) (v : Value) : Prop :=
  (∃ a c, v = .slice a 0 c) ∨ ∃ b o n c, v = .slice (some ⟨b, o, none⟩) n c ∧ n ≤ 9223372036854775807 ∧ ∀ j, j < n → ∃ x y z, w.cell? ⟨b, o + j * 3, none⟩ = some (.string x) ∧ w.cell? ⟨b, o + j * 3 + 1, none⟩ = some (.string y) ∧ x.size ≤ 9223372036854775807 ∧ y.size ≤ 9223372036854775807 ∧
    w.cell? ⟨b, o + j * 3 + 2, none⟩ = some z ∧ ItemsAt w z

set_option maxHeartbeats 8000000 in
set_option maxRecDepth 1000000 in
theorem large_any (N : Nat) (w : World) (v : Value) (hv : PacksAt w v) :
    CallsIn Fence.wide N Tryz.prog 4 #[v] w fun e w' => ∃ (b : Bool) (n : Nat), e = .returned (.bool b) ∧ w' = w.drewN n := by
  rcases hv with ⟨a, c, rfl⟩ | ⟨b, o, len, cap, rfl, hlen, hc⟩
  · refine callsIn_of_wp Tryz.func4 rfl trivial ?_
    simp only [Tryz.ntmps4, List.size_toArray, List.length_cons, List.length_nil, Nat.reduceAdd, Nat.reduceSub, Array.replicate_succ, Array.replicate_zero, List.push_toArray, List.append_toArray, List.nil_append, List.cons_append]
    gi_wp2
    gi_loopw [3, 4] (fun v3 v4 wr => v3 = .int .i64 0 ∧ v4 = .int .i64 0 ∧ ∃ n, wr = w.drewN n) (fun _ _ _ => 0)
    case atStart => exact ⟨rfl, rfl, 0, rfl⟩
    case round =>
      obtain ⟨rfl, rfl, n, rfl⟩ := hrel
      gi_wp2
      go_ret
      exact ⟨_, _, rfl, rfl⟩
  · refine callsIn_of_wp Tryz.func4 rfl trivial ?_
    simp only [Tryz.ntmps4, List.size_toArray, List.length_cons, List.length_nil, Nat.reduceAdd, Nat.reduceSub, Array.replicate_succ, Array.replicate_zero, List.push_toArray, List.append_toArray, List.nil_append, List.cons_append]
    gi_wp2
    gi_loopw [3, 4] (fun v3 v4 wr => ∃ (s : Int) (i n : Nat), v3 = .int .i64 s ∧ v4 = .int .i64 i ∧ i ≤ len ∧ wr = w.drewN n) (fun _ v4 _ => len - (numOf v4).toNat)
    case atStart => exact ⟨0, 0, 0, rfl, rfl, Nat.zero_le _, rfl⟩
    case round =>
      obtain ⟨s, i, n, rfl, rfl, hi, rfl⟩ := hrel
      gi_wp2
      · have hlt : i < len := by assumption
        obtain ⟨x, y, z, h0, h1, hx, hy, h2, hz⟩ := hc i hlt
        rcases hz with ⟨a2, c2, rfl⟩ | ⟨b2, o2, n2, cap2, rfl, hn2, hc2⟩
        · gi_region
          all_goals gi_wp2
          gi_loopw [3, 5] (fun v3 v5 wr => ∃ (s : Int) (n : Nat), v3 = .int .i64 s ∧ v5 = .int .i64 0 ∧ wr = w.drewN n) (fun _ _ _ => 0)
          case atStart => exact ⟨_, _, rfl, rfl, rfl⟩
          case round =>
            obtain ⟨s2, m, rfl, rfl, rfl⟩ := hrel
            gi_wp2
            all_goals exact ⟨⟨_, i + 1, _, rfl, by go_num, by omega, rfl⟩, by simp [numOf]; omega⟩
        · gi_region
          all_goals gi_wp2
          simp only [show decide (s ≤ 524288) = true from decide_eq_true (by assumption)]
          gi_loopw [3, 5] (fun v3 v5 wr => ∃ (s : Int) (j n : Nat), v3 = .int .i64 s ∧ v5 = .int .i64 j ∧ j ≤ n2 ∧ wr = w.drewN n) (fun _ v5 _ => n2 - (numOf v5).toNat)
          case atStart => exact ⟨_, 0, _, rfl, rfl, Nat.zero_le _, rfl⟩
          case round =>
            obtain ⟨s2, j, m, rfl, rfl, hj, rfl⟩ := hrel
            gi_wp2
            · have hjlt : j < n2 := by assumption
              obtain ⟨x2, y2, k0, k1, hx2, hy2⟩ := hc2 j hjlt
              gi_region
              all_goals gi_wp2
              all_goals exact ⟨⟨_, j + 1, _, rfl, by go_num, by omega, rfl⟩, by simp [numOf]; omega⟩
            all_goals exact ⟨⟨_, i + 1, _, rfl, by go_num, by omega, rfl⟩, by simp [numOf]; omega⟩
      · go_ret
        exact ⟨_, n, rfl, rfl⟩
      · go_ret
        exact ⟨_, n, rfl, rfl⟩
end Go.Proofs.YtpdaickealgnhaaGreatDoor

/- ShelfNil: the law's own text, over what its calls do. -/
namespace Go.Proofs.YtpdaickealgnhaaGreatDoor
open Go Go.RowKit

set_option maxHeartbeats 4000000 in
set_option maxRecDepth 1000000 in
theorem load_nil (w : World) : Calls Tryz.prog 5 #[.pointer none] w fun e w' => e = .returned (.tuple #[.int .i64 0, .slice none 0 0, .int .i64 3]) ∧ w' = w := by
  go_enter Tryz.func5, Tryz.ntmps5
  go_wp2
  go_ret3
  exact ⟨rfl, rfl⟩

set_option maxHeartbeats 4000000 in
set_option maxRecDepth 1000000 in
theorem sweep_nil (w : World) : Calls Tryz.prog 6 #[.pointer none] w fun e w' => e = .returned (.tuple #[.int .i64 0, .int .i64 3]) ∧ w' = w := by
  go_enter Tryz.func6, Tryz.ntmps6
  go_wp2
  go_ret2
  exact ⟨rfl, rfl⟩

set_option maxHeartbeats 4000000 in
set_option maxRecDepth 1000000 in
theorem save_nil (n l : Value) (w : World) : Calls Tryz.prog 8 #[.pointer none, n, l] w fun e w' => e = .returned (.int .i64 3) ∧ ∃ o, w' = w.alloc o := by
  go_enter Tryz.func8, Tryz.ntmps8
  go_wp2
  go_ret
  exact ⟨rfl, _, rfl⟩

theorem fr_drewN (w : World) (k : Nat) : Gh.Fr w (w.drewN k) := ⟨rfl, rfl, rfl, Nat.le_refl _, fun _ _ => rfl⟩
theorem fr_alloc (w : World) (o : Obj) : Gh.Fr w (w.alloc o) := ⟨rfl, rfl, rfl, by show w.heap.size ≤ (w.heap.push o).size; rw [Array.size_push]; exact Nat.le_succ _, fun b hb => by
  show (w.heap.push o)[b]? = w.heap[b]?
  rw [Array.getElem?_push, if_neg (Nat.ne_of_lt hb)]⟩

set_option maxHeartbeats 8000000 in
set_option maxRecDepth 1000000 in
theorem law_any (w : World) (n : Int) (l : Value) (hl : PacksAt w l) (haw : ∀ k, Calls Tryz.prog 7 #[] (w.drewN k) fun e w' => e = .returned (.bool true) ∧ Gh.Fr (w.drewN k) w') :
    Calls Tryz.prog 3 #[.int .i64 n, l] w fun e w' => e = .returned (.bool true) ∧ Gh.Fr w w' := by
  have hlarge := callsIn_wide.1 (large_any 0 w l hl)
  go_enter Tryz.func3, Tryz.ntmps3
  go_wp2_with (first
    | (go_at_call 4; refine hlarge.mono ?_; rintro e w1 ⟨b, k, rfl, rfl⟩)
    | (go_at_call 5; refine (load_nil _).mono ?_; rintro e w1 ⟨rfl, rfl⟩)
    | (go_at_call 6; refine (sweep_nil _).mono ?_; rintro e w1 ⟨rfl, rfl⟩)
    | (go_at_call 7; refine (haw _).mono ?_; rintro e w2 ⟨rfl, hfr⟩)
    | (go_at_call 8; refine (save_nil _ _ _).mono ?_; rintro e w3 ⟨rfl, o, rfl⟩))
  · go_ret
    exact ⟨rfl, fr_drewN w k⟩
  · go_ret
    exact ⟨rfl, (fr_drewN w k).trans (hfr.trans (fr_alloc _ _))⟩
end Go.Proofs.YtpdaickealgnhaaGreatDoor

/- ShelfNil: what the argument's reading tells of its memory. -/
namespace Go.Proofs.YtpdaickealgnhaaGreatDoor
open Go Go.Gh Go.WideShapes Go.ChangeShapes
def flds (P : Program) (t : TypeId) : List (TypeId × Nat) := match P.underlying t with
  | some (.struct fs) => fs.toList.map fun f => (f.type, f.offset)
  | _ => []
theorem flds_some {P : Program} {t : TypeId} {x : TypeId × Nat} {l : List (TypeId × Nat)} (h : flds P t = x :: l) : ∃ fs, P.underlying t = some (.struct fs) ∧ fs.toList.map (fun f => (f.type, f.offset)) = x :: l := by
  unfold flds at h
  split at h
  · rename_i fs hu; exact ⟨fs, hu, h⟩
  · cases h
theorem one_cell {cs : List Value} {o : Nat} {v : Value} (h : (cs.drop o).take 1 = [v]) : cs[o]? = some v := by
  have h1 := congrArg (fun l : List Value => l[0]?) h
  simpa [List.getElem?_take, List.getElem?_drop] using h1
section
variable {H : Type} {enc : TypeId × Value → H} {P : Program} {w : World} {sp : Nat → Bool} {hd : Bool}
theorem open_rows {t e : TypeId} {c fuel : Nat} {v : Value} {x : DataW H × List MemPlace} (ht : P.underlying t = some (.slice e)) (hc : P.cellsOf e = c) (hc0 : 0 < c) (h : DataW.trod enc P w 0 sp hd fuel t [v] = some x) :
    (∃ a c', v = .slice a 0 c') ∨ ∃ b o n c', v = .slice (some ⟨b, o, none⟩) n c' ∧ n ≤ 9223372036854775807 ∧ ∀ i, i < n → ∃ cs m y, cs.length = c ∧ (∀ j, j < c → w.cell? ⟨b, o + i * c + j, none⟩ = cs[j]?) ∧ DataW.trod enc P w 0 sp hd m e cs = some y := by
  rcases Go.Deep.open_slice ht h with ⟨hv, _⟩ | ⟨a, len, cap, m, n, D, Pl, hv, hb, hl, hm, hmm, _, hi⟩
  · cases hv; exact .inl ⟨_, _, rfl⟩
  · cases hv
    rcases Nat.eq_zero_or_pos len with rfl | hlen
    · exact .inl ⟨_, _, rfl⟩
    · have hlm : len ≤ m := by rw [hmm]; split <;> omega
      obtain ⟨b, o, s⟩ := a
      have hs : s = none := by
        obtain ⟨cs, h1, h2⟩ := hi 0 (by omega)
        obtain ⟨_, h3, h4⟩ := World.cells?_some h1
        have h5 := h4 0 (by omega)
        have h6 : ((⟨b, o, s⟩ : Addr).add (0 * P.cellsOf e)).add 0 = ⟨b, o, s⟩ := by simp [Addr.add]
        rw [h6, List.getElem?_eq_getElem (by omega)] at h5
        cases s with
        | none => rfl
        | some k =>
          unfold World.cell? at h5
          split at h5 <;> simp at h5
      subst hs
      have hmx : maxLen = 9223372036854775807 := rfl
      refine .inr ⟨b, o, len, cap, rfl, by omega, fun i hlt => ?_⟩
      obtain ⟨cs, h1, h2⟩ := hi i (by omega)
      obtain ⟨_, h3, h4⟩ := World.cells?_some h1
      refine ⟨cs, n, _, by omega, fun j hj => ?_, h2⟩
      rw [← h4 j (by omega), add_plain, add_plain, hc]
theorem open_field {t ty : TypeId} {off i fuel : Nat} {fs : Array Field} {l : List (TypeId × Nat)} {cs : List Value} {x : DataW H × List MemPlace} (hu : P.underlying t = some (.struct fs)) (hf : fs.toList.map (fun f => (f.type, f.offset)) = l)
    (hl : l[i]? = some (ty, off)) (h : DataW.trod enc P w 0 sp hd fuel t cs = some x) : ∃ n y, DataW.trod enc P w 0 sp hd n ty ((cs.drop off).take (P.cellsOf ty)) = some y := by
  obtain ⟨xs, n, _, _, _, hxl, hx⟩ := DataW.trod_struct hu h
  rw [← hf, List.getElem?_map] at hl
  obtain ⟨f, h1, h2⟩ := Option.map_eq_some_iff.1 hl
  rw [Array.getElem?_toList] at h1
  have h3 := hx i f h1
  have h4 : i < xs.length := by rw [hxl]; exact (Array.getElem?_eq_some_iff.1 h1).1
  rw [List.getElem?_eq_getElem h4] at h3
  cases h2
  exact ⟨n, _, h3⟩
theorem open_str {t ty : TypeId} {off i fuel : Nat} {fs : Array Field} {l : List (TypeId × Nat)} {cs : List Value} {x : DataW H × List MemPlace} (hu : P.underlying t = some (.struct fs)) (hf : fs.toList.map (fun f => (f.type, f.offset)) = l)
    (hl : l[i]? = some (ty, off)) (hs : P.underlying ty = some .string) (hc : P.cellsOf ty = 1) (h : DataW.trod enc P w 0 sp hd fuel t cs = some x) : ∃ s, cs[off]? = some (.string s) ∧ s.size ≤ 9223372036854775807 := by
  obtain ⟨n, y, h1⟩ := open_field hu hf hl h
  rw [hc] at h1
  obtain ⟨s, h2, _, h3⟩ := DataW.trod_string hs h1
  exact ⟨s, one_cell h2, h3⟩
end
theorem u22 : Tryz.prog.underlying 22 = some (.slice 34) := by kernel_rfl
theorem u32 : Tryz.prog.underlying 32 = some (.slice 36) := by kernel_rfl
theorem u9 : Tryz.prog.underlying 9 = some .string := by kernel_rfl
theorem k9 : Tryz.prog.cellsOf 9 = 1 := by kernel_rfl
theorem k32 : Tryz.prog.cellsOf 32 = 1 := by kernel_rfl
theorem k34 : Tryz.prog.cellsOf 34 = 3 := by kernel_rfl
theorem k36 : Tryz.prog.cellsOf 36 = 2 := by kernel_rfl
theorem l34 : flds Tryz.prog 34 = [(9, 0), (9, 1), (32, 2)] := by kernel_rfl
theorem l36 : flds Tryz.prog 36 = [(9, 0), (9, 1)] := by kernel_rfl
section
variable {H : Type} {enc : TypeId × Value → H} {w : World} {sp : Nat → Bool} {hd : Bool}
theorem items_at {fuel : Nat} {v : Value} {x : DataW H × List MemPlace} (h : DataW.trod enc Tryz.prog w 0 sp hd fuel 32 [v] = some x) : ItemsAt w v := by
  rcases open_rows u32 k36 (by decide) h with h0 | ⟨b, o, n, c, rfl, hn, hi⟩
  · exact .inl h0
  · refine .inr ⟨b, o, n, c, rfl, hn, fun j hj => ?_⟩
    obtain ⟨cs, m, y, hl, hc, ht⟩ := hi j hj
    obtain ⟨fs, hu, hf⟩ := flds_some l36
    obtain ⟨s0, e0, z0⟩ := open_str hu hf (i := 0) rfl u9 k9 ht
    obtain ⟨s1, e1, z1⟩ := open_str hu hf (i := 1) rfl u9 k9 ht
    exact ⟨s0, s1, (hc 0 (by decide)).trans e0, (hc 1 (by decide)).trans e1, z0, z1⟩
theorem packs_at {fuel : Nat} {v : Value} {x : DataW H × List MemPlace} (h : DataW.trod enc Tryz.prog w 0 sp hd fuel 22 [v] = some x) : PacksAt w v := by
  rcases open_rows u22 k34 (by decide) h with h0 | ⟨b, o, n, c, rfl, hn, hi⟩
  · exact .inl h0
  · refine .inr ⟨b, o, n, c, rfl, hn, fun j hj => ?_⟩
    obtain ⟨cs, m, y, hl, hc, ht⟩ := hi j hj
    obtain ⟨fs, hu, hf⟩ := flds_some l34
    obtain ⟨s0, e0, z0⟩ := open_str hu hf (i := 0) rfl u9 k9 ht
    obtain ⟨s1, e1, z1⟩ := open_str hu hf (i := 1) rfl u9 k9 ht
    obtain ⟨m2, y2, h2⟩ := open_field hu hf (i := 2) rfl ht
    rw [k32, List.take_one, List.head?_drop] at h2
    have h3 : cs[2]? = some cs[2] := List.getElem?_eq_getElem (by omega)
    rw [h3] at h2
    exact ⟨s0, s1, cs[2], (hc 0 (by decide)).trans e0, (hc 1 (by decide)).trans e1, z0, z1, (hc 2 (by decide)).trans h3, items_at h2⟩
end
end Go.Proofs.YtpdaickealgnhaaGreatDoor
