/- ShelfNil: the row. -/
import Derived.Test.YtpdaickealgnhaaGreatDoorS2
import Derived.Test.YtpdaickealgnhaaGreatDoorSL
import Derived.ChangeVars
import Derived.JoinedOf
import Derived.RowKit
import Derived.RowKitTokens
import Derived.ProofKit
import Derived.LaidMore
import Derived.OpenShut
import Derived.Lay
import Derived.Stop.Joined
namespace Go.Proofs.YtpdaickealgnhaaGreatDoor
open Go Go.Gh Go.ChangeShapes Go.WideShapes Go.ChangeAt Go.RowKit

theorem own : ownKnob Tryz.prog.godebug = none := by kernel_rfl
def stepsL : List Int := [0, 498536548, 997073096, 651767980, 1994146192, 1802195444, 1303535960, 1342533948, 3988292384, 4027552580, 3604390888, 3412177804, 2607071920, 2262029012, 2685067896, 3183342108]
def orderL : List Int := [16, 17, 18, 0, 8, 7, 9, 6, 10, 5, 11, 4, 12, 3, 13, 2, 14, 1, 15]
def wideL : List Int := [0, 0, 0, 0, 0, 0, 0, 0, 0, 0, 0, 0, 0, 0, 0, 0, 2, 3, 7]
def fromL : List Int := [0, 0, 0, 0, 0, 0, 0, 0, 0, 0, 0, 0, 0, 0, 0, 0, 3, 3, 11]

/-- What the condition gives the run. -/
theorem laid0 {W : World} (h : laidMetH Tryz.prog Rows.shelfNilRow.laid W) : Laid X0.ng gs0 W := by
  rw [MakeChecks.laidMetH_plain _ _ _ (by kernel_rfl)] at h
  obtain ⟨ps, hv, _, hz⟩ := h
  obtain ⟨g0, t0, cs0, f0, p0, q0, hg0, ht0, hv0, hd0, hv, e0⟩ := hv
  obtain ⟨g1, t1, cs1, f1, p1, q1, hg1, ht1, hv1, hd1, hv, e1⟩ := hv
  obtain ⟨g2, t2, cs2, f2, p2, q2, hg2, ht2, hv2, hd2, hv, e2⟩ := hv
  obtain ⟨g3, t3, cs3, f3, p3, q3, hg3, ht3, hv3, hd3, hv, e3⟩ := hv
  obtain ⟨g4, t4, cs4, f4, p4, q4, hg4, ht4, hv4, hd4, hv, e4⟩ := hv
  obtain ⟨g5, t5, cs5, f5, p5, q5, hg5, ht5, hv5, hd5, hv, e5⟩ := hv
  obtain rfl := Option.some.inj ((show Tryz.prog.globalNamed "haversack/lens.order" = some 2 by kernel_rfl).symm.trans hg1)
  obtain rfl := Option.some.inj ((show (Tryz.prog.globals[2]?).map (·.type) = some 243 by kernel_rfl).symm.trans ht1)
  obtain rfl := Option.some.inj ((show Tryz.prog.globalNamed "haversack/lens.wide" = some 3 by kernel_rfl).symm.trans hg2)
  obtain rfl := Option.some.inj ((show (Tryz.prog.globals[3]?).map (·.type) = some 243 by kernel_rfl).symm.trans ht2)
  obtain rfl := Option.some.inj ((show Tryz.prog.globalNamed "haversack/lens.from" = some 6 by kernel_rfl).symm.trans hg3)
  obtain rfl := Option.some.inj ((show (Tryz.prog.globals[6]?).map (·.type) = some 243 by kernel_rfl).symm.trans ht3)
  obtain rfl := Option.some.inj ((show Tryz.prog.globalNamed "haversack/little.steps" = some 0 by kernel_rfl).symm.trans hg4)
  obtain rfl := Option.some.inj ((show (Tryz.prog.globals[0]?).map (·.type) = some 121 by kernel_rfl).symm.trans ht4)
  have in1 : ∀ off, off < cs1.size → MemPlace.cell 2 off ∈ ps := fun off ho => by
    rw [e0, e1]
    have : MemPlace.cell 2 off ∈ MemPlace.row ⟨2, 0, none⟩ cs1.size := MemPlace.mem_row.2 ⟨off, ho, by simp⟩
    simp only [List.mem_append]
    simp [this]
  have mem1 : ∀ off, off < cs1.size → ∃ c t, W.heap[2]? = some (.cells c t (0, 0)) := fun off ho => (hz 2 off (in1 off ho)).1
  have a1 := laid_ints (ns := orderL) hg1 (show Tryz.prog.underlying 243 = some (.array 19 3) by kernel_rfl) (show Tryz.prog.underlying 3 = some (.int .i64) by kernel_rfl) (by kernel_rfl) (by kernel_rfl) (by decide) hv1 hd1 mem1
  have in2 : ∀ off, off < cs2.size → MemPlace.cell 3 off ∈ ps := fun off ho => by
    rw [e0, e1, e2]
    have : MemPlace.cell 3 off ∈ MemPlace.row ⟨3, 0, none⟩ cs2.size := MemPlace.mem_row.2 ⟨off, ho, by simp⟩
    simp only [List.mem_append]
    simp [this]
  have mem2 : ∀ off, off < cs2.size → ∃ c t, W.heap[3]? = some (.cells c t (0, 0)) := fun off ho => (hz 3 off (in2 off ho)).1
  have a2 := laid_ints (ns := wideL) hg2 (show Tryz.prog.underlying 243 = some (.array 19 3) by kernel_rfl) (show Tryz.prog.underlying 3 = some (.int .i64) by kernel_rfl) (by kernel_rfl) (by kernel_rfl) (by decide) hv2 hd2 mem2
  have in3 : ∀ off, off < cs3.size → MemPlace.cell 6 off ∈ ps := fun off ho => by
    rw [e0, e1, e2, e3]
    have : MemPlace.cell 6 off ∈ MemPlace.row ⟨6, 0, none⟩ cs3.size := MemPlace.mem_row.2 ⟨off, ho, by simp⟩
    simp only [List.mem_append]
    simp [this]
  have mem3 : ∀ off, off < cs3.size → ∃ c t, W.heap[6]? = some (.cells c t (0, 0)) := fun off ho => (hz 6 off (in3 off ho)).1
  have a3 := laid_ints (ns := fromL) hg3 (show Tryz.prog.underlying 243 = some (.array 19 3) by kernel_rfl) (show Tryz.prog.underlying 3 = some (.int .i64) by kernel_rfl) (by kernel_rfl) (by kernel_rfl) (by decide) hv3 hd3 mem3
  have in4 : ∀ off, off < cs4.size → MemPlace.cell 0 off ∈ ps := fun off ho => by
    rw [e0, e1, e2, e3, e4]
    have : MemPlace.cell 0 off ∈ MemPlace.row ⟨0, 0, none⟩ cs4.size := MemPlace.mem_row.2 ⟨off, ho, by simp⟩
    simp only [List.mem_append]
    simp [this]
  have mem4 : ∀ off, off < cs4.size → ∃ c t, W.heap[0]? = some (.cells c t (0, 0)) := fun off ho => (hz 0 off (in4 off ho)).1
  have a4 := laid_ints (ns := stepsL) hg4 (show Tryz.prog.underlying 121 = some (.array 16 41) by kernel_rfl) (show Tryz.prog.underlying 41 = some (.int .u32) by kernel_rfl) (by kernel_rfl) (by kernel_rfl) (by decide) hv4 hd4 mem4
  intro x hx
  simp only [gs0, List.mem_cons, List.mem_nil_iff, or_false] at hx
  rcases hx with rfl | rfl | rfl | rfl
  · exact ⟨by decide, a4.2⟩
  · exact ⟨by decide, a1.2⟩
  · exact ⟨by decide, a2.2⟩
  · exact ⟨by decide, a3.2⟩

theorem laid_drew {ng : Nat} {gs : List (Nat × List GV)} {w : World} (k : Nat) (h : Laid ng gs w) : Laid ng gs (w.drewN k) := h

set_option maxRecDepth 100000 in
theorem lifted (os : Os) (started : os.Started) (H : Type) (enc : TypeId × Value → H) :
    ReturnsInHanded {} Tryz.checked os 3 .any (fun w args => (Rows.shelfNilSpec.pre enc Tryz.prog Tryz.f3 [] false w args ∧ laidMetH Tryz.prog Rows.shelfNilRow.laid w) ∧ sizedMet enc Tryz.prog Tryz.f3 (OpenSpec.ofChange Rows.shelfNilSpec) false w args)
      (Rows.shelfNilSpec.post enc Tryz.prog Tryz.f3 false true false false) := by
  refine returnsInHanded_of_change_and (C := Tryz.checked) (X := fun w _ => laidMetH Tryz.prog Rows.shelfNilRow.laid w) (fun _ _ _ hh h => h.of_heap hh) own started (by kernel_rfl) Tryz.func3
    (ChangeSpec.witness_shaped (enc := enc) (C := Tryz.checked) (os := os) (X := fun w _ => laidMetH Tryz.prog Rows.shelfNilRow.laid w) false (World.laidAll Tryz.prog os Rows.shelfNilRow.laid) #[.int .i64 0, .slice none 0 0] 8 (World.laidAll_os _ _ _)
      (World.shaped_of_ZipB (by kernel_rfl) (by kernel_rfl)) (by kernel_rfl) (by kernel_rfl) (by kernel_rfl)
      (by rw [MakeChecks.laidMetH_plain _ _ _ (by kernel_rfl)]; exact laidMet_laidAll _ (by kernel_rfl) (by kernel_rfl))) ?_
  intro W base args ds gs before hval0 hW hc _ hL _
  have hval : ∀ (j : Nat) t v, Tryz.f3.params[j]? = some t → args[j]? = some v → Value.okWide Tryz.prog W .any base t v := hval0
  have hW' := hW
  obtain ⟨p, q, hA0, hV, rfl, _, _⟩ := hW
  have hA : DataW.TrodAll enc Tryz.prog W 0 (fun _ => true) true Tryz.f3.params.toList args.toList ds p := hA0
  rw [Tryz.params3] at hA hval
  obtain ⟨v0, v1, d0, d1, p0, p1, rfl, rfl, _, h0, h1⟩ := trodAll_two hA
  have r0 : R (env0 0 W) (.un (.i .i64)) v0 := arg_un (hval 0 3 v0 rfl rfl) (by kernel_rfl) _
  have r1 : R (env0 0 W) (.un .l) v1 := arg_un (hval 1 22 v1 rfl rfl) (by kernel_rfl) _
  simp only [R, UR] at r0 r1
  obtain ⟨n, rfl⟩ := r0
  obtain ⟨fu, h1⟩ := h1
  have hp : PacksAt W v1 := by
    obtain ⟨a, l, c, rfl⟩ := r1
    exact packs_at h1
  refine (law_any W n v1 hp (fun k => awake_true (W.drewN k) (laid_drew k (laid0 hL)))).mono fun e W' ⟨he, hf⟩ => ?_
  subst he
  refine ⟨_, rfl, post_true (by kernel_rfl) (by kernel_rfl) (by kernel_rfl) (tb := 4) (by kernel_rfl) (by kernel_rfl) ?_ rfl (fun gs' hg => by subst hg; rfl) hW' hf⟩
  intro t ht
  rw [Tryz.params3] at ht
  have hs : Tryz.prog.types.size = 297 := by kernel_rfl
  show t < Tryz.prog.types.size
  rw [hs]
  simp at ht
  rcases ht with rfl | rfl <;> decide
end Go.Proofs.YtpdaickealgnhaaGreatDoor
