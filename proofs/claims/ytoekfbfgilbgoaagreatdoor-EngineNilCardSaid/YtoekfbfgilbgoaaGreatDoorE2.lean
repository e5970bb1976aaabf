/- EngineNil: the row. -/
import Derived.Test.YtoekfbfgilbgoaaGreatDoorE1
import Derived.ChangeVars
import Derived.JoinedOf
import Derived.RowKit
import Derived.RowKitTokens
import Derived.ProofKit
import Derived.LaidMore
import Derived.OpenShut
import Derived.Lay
import Derived.Stop.Joined
namespace Go.Proofs.YtoekfbfgilbgoaaGreatDoor
open Go Go.Gh Go.ChangeShapes Go.WideShapes Go.ChangeAt Go.RowKit

theorem own : ownKnob Tryz.prog.godebug = none := by kernel_rfl
theorem exok : ExOk Tryz.prog X0 := ExOk.of2 (a := 191) (b := 359) rfl Tryz.func191 Tryz.func359 (by kernel_rfl) (by kernel_rfl) (by kernel_rfl) (by kernel_rfl) (by kernel_rfl) (by kernel_rfl) (by kernel_rfl) (by kernel_rfl)
set_option maxRecDepth 1000000 in
theorem fok : FOk Tryz.prog X0 fs0 := FOk.of rfl exok (by kernel_rfl) (by kernel_rfl) reached

/-- What the condition gives the run. -/
theorem laid0 {W : World} (h : laidMetH Tryz.prog Rows.engineNilRow.laid W) : Laid X0.ng gs0 W := by
  rw [MakeChecks.laidMetH_plain _ _ _ (by kernel_rfl)] at h
  obtain ⟨ps, hv, _, hz⟩ := h
  obtain ⟨g0, t0, cs0, f0, p0, q0, hg0, ht0, hv0, hd0, hv, e0⟩ := hv
  obtain ⟨g1, t1, cs1, f1, p1, q1, hg1, ht1, hv1, hd1, hv, e1⟩ := hv
  obtain ⟨g2, t2, cs2, f2, p2, q2, hg2, ht2, hv2, hd2, hv, e2⟩ := hv
  obtain ⟨g3, t3, cs3, f3, p3, q3, hg3, ht3, hv3, hd3, hv, e3⟩ := hv
  obtain ⟨g4, t4, cs4, f4, p4, q4, hg4, ht4, hv4, hd4, hv, e4⟩ := hv
  obtain ⟨g5, t5, cs5, f5, p5, q5, hg5, ht5, hv5, hd5, hv, e5⟩ := hv
  obtain ⟨g6, t6, cs6, f6, p6, q6, hg6, ht6, hv6, hd6, hv, e6⟩ := hv
  obtain ⟨g7, t7, cs7, f7, p7, q7, hg7, ht7, hv7, hd7, hv, e7⟩ := hv
  obtain ⟨g8, t8, cs8, f8, p8, q8, hg8, ht8, hv8, hd8, hv, e8⟩ := hv
  obtain ⟨g9, t9, cs9, f9, p9, q9, hg9, ht9, hv9, hd9, hv, e9⟩ := hv
  obtain rfl := Option.some.inj ((show Tryz.prog.globalNamed "internal/strconv.uint64pow10" = some 6 by kernel_rfl).symm.trans hg2)
  obtain rfl := Option.some.inj ((show Tryz.prog.globalNamed "haversack/little.steps" = some 0 by kernel_rfl).symm.trans hg9)
  obtain rfl := Option.some.inj ((show (Tryz.prog.globals[6]?).map (·.type) = some 479 by kernel_rfl).symm.trans ht2)
  obtain rfl := Option.some.inj ((show (Tryz.prog.globals[0]?).map (·.type) = some 319 by kernel_rfl).symm.trans ht9)
  have in2 : ∀ off, off < cs2.size → MemPlace.cell 6 off ∈ ps := fun off ho => by
    rw [e0, e1, e2]
    have : MemPlace.cell 6 off ∈ MemPlace.row ⟨6, 0, none⟩ cs2.size := MemPlace.mem_row.2 ⟨off, ho, by simp⟩
    simp only [List.mem_append]
    simp [this]
  have in9 : ∀ off, off < cs9.size → MemPlace.cell 0 off ∈ ps := fun off ho => by
    rw [e0, e1, e2, e3, e4, e5, e6, e7, e8, e9]
    have : MemPlace.cell 0 off ∈ MemPlace.row ⟨0, 0, none⟩ cs9.size := MemPlace.mem_row.2 ⟨off, ho, by simp⟩
    simp only [List.mem_append]
    simp [this]
  have mem2 : ∀ off, off < cs2.size → ∃ c t, W.heap[6]? = some (.cells c t (0, 0)) := fun off ho => (hz 6 off (in2 off ho)).1
  have mem9 : ∀ off, off < cs9.size → ∃ c t, W.heap[0]? = some (.cells c t (0, 0)) := fun off ho => (hz 0 off (in9 off ho)).1
  have a2 := laid_ints (ns := tens) hg2 (show Tryz.prog.underlying 479 = some (.array 20 243) by kernel_rfl) (show Tryz.prog.underlying 243 = some (.int .u64) by kernel_rfl) (by kernel_rfl) (by kernel_rfl) (by decide) hv2 hd2 mem2
  have a9 := laid_ints (ns := steps) hg9 (show Tryz.prog.underlying 319 = some (.array 16 122) by kernel_rfl) (show Tryz.prog.underlying 122 = some (.int .u32) by kernel_rfl) (by kernel_rfl) (by kernel_rfl) (by decide) hv9 hd9 mem9
  intro x hx
  simp only [gs0, List.mem_cons, List.mem_nil_iff, or_false] at hx
  rcases hx with rfl | rfl
  · exact ⟨by decide, a9.2⟩
  · exact ⟨by decide, a2.2⟩

set_option maxRecDepth 100000 in
theorem lifted (os : Os) (started : os.Started) (H : Type) (enc : TypeId × Value → H) :
    ReturnsInHanded {} Tryz.checked os 3 .any (fun w args => (Rows.engineNilSpec.pre enc Tryz.prog Tryz.f3 [] false w args ∧ laidMetH Tryz.prog Rows.engineNilRow.laid w) ∧ sizedMet enc Tryz.prog Tryz.f3 (OpenSpec.ofChange Rows.engineNilSpec) false w args)
      (Rows.engineNilSpec.post enc Tryz.prog Tryz.f3 false true false false) := by
  refine returnsInHanded_of_change_and (C := Tryz.checked) (X := fun w _ => laidMetH Tryz.prog Rows.engineNilRow.laid w) (fun _ _ _ hh h => h.of_heap hh) own started (by kernel_rfl) Tryz.func3
    (ChangeSpec.witness_shaped (enc := enc) (C := Tryz.checked) (os := os) (X := fun w _ => laidMetH Tryz.prog Rows.engineNilRow.laid w) false (World.laidAll Tryz.prog os Rows.engineNilRow.laid) #[.slice none 0 0, .agg #[.int .i64 0, .int .i64 0, .int .i64 0, .string .empty, .string .empty, .string .empty, .slice none 0 0]] 8 (World.laidAll_os _ _ _)
      (World.shaped_of_ZipB (by kernel_rfl) (by kernel_rfl)) (by kernel_rfl) (by kernel_rfl) (by kernel_rfl)
      (by rw [MakeChecks.laidMetH_plain _ _ _ (by kernel_rfl)]; exact laidMet_laidAll _ (by kernel_rfl) (by kernel_rfl))) ?_
  intro W base args ds gs before hval0 hW hc _ hL _
  have hval : ∀ (j : Nat) t v, Tryz.f3.params[j]? = some t → args[j]? = some v → Value.okWide Tryz.prog W .any base t v := hval0
  have hW' := hW
  obtain ⟨p, q, hA0, hV, rfl, _, _⟩ := hW
  have hA : DataW.TrodAll enc Tryz.prog W 0 (fun _ => true) true Tryz.f3.params.toList args.toList ds p := hA0
  rw [Tryz.params3] at hA hval
  obtain ⟨v0, v1, d0, d1, p0, p1, rfl, rfl, h0, h1, _⟩ := trodAll_two hA
  have r0 : ∀ E, R E (.un .l) v0 := fun E => arg_un (hval 0 22 v0 rfl rfl) (by kernel_rfl) E
  have r1 : ∀ E, R E (.agg [.un (.i .i64), .un (.i .i64), .un (.i .i64), .un .s, .un .s, .un .s, .un .l]) v1 := fun E => arg_un (hval 1 25 v1 rfl rfl) (by kernel_rfl) E
  refine (calls_true fok run0 (vals := [v0, v1]) (fun E => by simp only [args0, RL]; exact ⟨v0, _, rfl, r0 E, v1, _, rfl, r1 E, rfl⟩) (laid0 hL)).mono fun e W' ⟨he, hf⟩ => ?_
  subst he
  refine ⟨_, rfl, post_true (by kernel_rfl) (by kernel_rfl) (by kernel_rfl) (tb := 4) (by kernel_rfl) (by kernel_rfl) ?_ rfl (fun gs' hg => by subst hg; rfl) hW' hf⟩
  intro t ht
  rw [Tryz.params3] at ht
  have hs : Tryz.prog.types.size = 532 := by kernel_rfl
  show t < Tryz.prog.types.size
  rw [hs]
  simp at ht
  rcases ht with rfl | rfl <;> decide
end Go.Proofs.YtoekfbfgilbgoaaGreatDoor
