/- ShelfNil: what is known of the functions, kept calls and all; awake answers true, whatever the tape. -/
import Derived.Test.YtpdaickealgnhaaGreatDoorST
import Derived.Test.YtpdaickealgnhaaGreatDoorSRa
import Derived.Test.YtpdaickealgnhaaGreatDoorSRb
import Derived.Test.YtpdaickealgnhaaGreatDoorSRc
import Derived.Test.YtpdaickealgnhaaGreatDoorSM
import Derived.Test.YtpdaickealgnhaaGreatDoorSQ
namespace Go.Proofs.YtpdaickealgnhaaGreatDoor
open Go Go.Gh
theorem exok : ExOk Tryz.prog X0 := ExOk.of2 (a := 77) (b := 169) rfl Tryz.func77 Tryz.func169 (by kernel_rfl) (by kernel_rfl) (by kernel_rfl) (by kernel_rfl) (by kernel_rfl) (by kernel_rfl) (by kernel_rfl) (by kernel_rfl)
theorem fok_quiet {P : Program} {X : Cx} {w0 : World} {fs : T GFn} (H : FOk P X w0 fs) {f : Nat} (hf : (fs.get f).isSome = true) (hs : QuietOk P f) : FOk P X w0 (T.set fs f .quiet) where
  tb := H.tb
  ex := H.ex
  mx := H.mx
  fn g x h := by
    rw [T.get_set] at h
    by_cases e : g = f
    · rw [if_pos e] at h; cases h; subst e
      obtain ⟨y, hy⟩ := Option.isSome_iff_exists.1 hf
      obtain ⟨fn, c, h1, h2, h3, _⟩ := H.fn g y hy
      exact ⟨fn, c, h1, h2, h3, hs⟩
    · rw [if_neg e] at h; exact H.fn g x h
set_option maxRecDepth 1000000 in
theorem fok0 : ∀ w, FOk Tryz.prog X0 w fs0 := FOk.of rfl exok (by kernel_rfl) (by kernel_rfl) (List.range 222)
theorem trows_ok (w : World) : ∀ r ∈ trows, SumOk Tryz.prog X0 w 176 (keptCallF [] r.2.1 r.2.2) := by
  intro r hr
  unfold trows at hr
  rcases List.mem_append.1 hr with h | hr
  · exact rowsOk_mem fok0 turned0_ok w r h
  rcases List.mem_append.1 hr with h | hr
  · exact rowsOk_mem fok0 turned1_ok w r h
  rcases List.mem_append.1 hr with h | hr
  · exact rowsOk_mem fok0 turned2_ok w r h
  rcases List.mem_append.1 hr with h | hr
  · exact rowsOk_mem fok0 turned3_ok w r h
  rcases List.mem_append.1 hr with h | hr
  · exact rowsOk_mem fok0 turned4_ok w r h
  · exact rowsOk_mem fok0 turned5_ok w r hr
set_option maxRecDepth 1000000 in
theorem is176 : (fs0.get 176).isSome = true := by decide +kernel
theorem fok1 (w : World) : FOk Tryz.prog X0 w fs1 := (fok0 w).sum is176 (tabCall_ok (trows_ok w))
set_option maxRecDepth 1000000 in
theorem is167 : (fs1.get 167).isSome = true := by decide +kernel
theorem checkRows_ok (w : World) : ∀ r ∈ checkRows, SumOk Tryz.prog X0 w 167 (keptCallF [] r.1 r.2) := by
  intro r hr
  simp only [checkRows, List.mem_cons, List.mem_nil_iff, or_false] at hr
  rcases hr with rfl | rfl | rfl | rfl | rfl
  · exact keptRow_ok fok1 check0_ok w
  · exact keptRow_ok fok1 check1_ok w
  · exact keptRow_ok fok1 check2_ok w
  · exact keptRow_ok fok1 check3_ok w
  · exact keptRow_ok fok1 check4_ok w
theorem fok2 (w : World) : FOk Tryz.prog X0 w fs2 := (fok1 w).sum is167 (rowsCall_ok (checkRows_ok w))
set_option maxRecDepth 1000000 in
theorem is152 : (fs2.get 152).isSome = true := by decide +kernel
theorem codesRows_ok (w : World) : ∀ r ∈ codesRows, SumOk Tryz.prog X0 w 152 (keptCallF [] r.1 r.2) := by
  intro r hr
  simp only [codesRows, List.mem_cons, List.mem_nil_iff, or_false] at hr
  rcases hr with rfl | rfl | rfl | rfl | rfl
  · exact keptRow_ok fok2 codes0_ok w
  · exact keptRow_ok fok2 codes1_ok w
  · exact keptRow_ok fok2 codes2_ok w
  · exact keptRow_ok fok2 codes3_ok w
  · exact keptRow_ok fok2 codes4_ok w
theorem fok3 (w : World) : FOk Tryz.prog X0 w fs3 := (fok2 w).sum is152 (rowsCall_ok (codesRows_ok w))
set_option maxRecDepth 1000000 in
theorem is130 : (fs3.get 130).isSome = true := by decide +kernel
theorem limitRows_ok (w : World) : ∀ r ∈ limitRows, SumOk Tryz.prog X0 w 130 (keptCallF [] r.1 r.2) := by
  intro r hr
  simp only [limitRows, List.mem_cons, List.mem_nil_iff, or_false] at hr
  rcases hr with rfl | rfl | rfl
  · exact keptRow_ok fok3 limit0_ok w
  · exact keptRow_ok fok3 limit1_ok w
  · exact keptRow_ok fok3 limit2_ok w
theorem fok4 (w : World) : FOk Tryz.prog X0 w fs4 := (fok3 w).sum is130 (rowsCall_ok (limitRows_ok w))
set_option maxRecDepth 1000000 in
theorem is157 : (fs4.get 157).isSome = true := by decide +kernel
theorem packRows_ok (w : World) : ∀ r ∈ packRows, SumOk Tryz.prog X0 w 157 (keptCallF gsD r.1 r.2) := by
  intro r hr
  simp only [packRows, List.mem_cons, List.mem_nil_iff, or_false] at hr
  subst hr
  exact keptRow_ok fok4 pack0_ok w
theorem fok5 (w : World) : FOk Tryz.prog X0 w fs5 := (fok4 w).sum is157 (rowsCall_ok (packRows_ok w))
set_option maxRecDepth 1000000 in
theorem is78 : (fs5.get 78).isSome = true := by decide +kernel
theorem deflRows_ok (w : World) : ∀ r ∈ deflRows, SumOk Tryz.prog X0 w 78 (keptCallF gsD r.1 r.2) := by
  intro r hr
  simp only [deflRows, List.mem_cons, List.mem_nil_iff, or_false] at hr
  subst hr
  exact keptRow_ok fok5 defl0_ok w
theorem fok6 (w : World) : FOk Tryz.prog X0 w fs6 := (fok5 w).sum is78 (rowsCall_ok (deflRows_ok w))
set_option maxRecDepth 1000000 in
theorem is41 : (fs6.get 41).isSome = true := by decide +kernel
theorem moreRows_ok (w : World) : ∀ r ∈ moreRows, SumOk Tryz.prog X0 w 41 (keptCallF gsM r.1 r.2) := by
  intro r hr
  simp only [moreRows, List.mem_cons, List.mem_nil_iff, or_false] at hr
  rcases hr with rfl | rfl | rfl
  · exact keptRow_ok fok6 more0_ok w
  · exact keptRow_ok fok6 more1_ok w
  · exact keptRow_ok fok6 more2_ok w
theorem fok7 (w : World) : FOk Tryz.prog X0 w fs7 := (fok6 w).sum is41 (rowsCall_ok (moreRows_ok w))
set_option maxRecDepth 1000000 in
theorem is64 : (fs7.get 64).isSome = true := by decide +kernel
theorem fok8 (w : World) : FOk Tryz.prog X0 w fs8 := fok_quiet (fok7 w) is64 quiet64
theorem awake_true (w : World) (hl : Laid X0.ng gs0 w) : Calls Tryz.prog 7 #[] w fun e w' => e = .returned (.bool true) ∧ Fr w w' :=
  calls_true (fok8 w) run0 (vals := []) (fun E => by simp only [RL]) hl
#print axioms awake_true
end Go.Proofs.YtpdaickealgnhaaGreatDoor
