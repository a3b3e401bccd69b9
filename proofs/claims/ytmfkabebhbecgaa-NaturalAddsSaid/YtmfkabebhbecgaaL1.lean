/- awake of cylinderlaw01 as a walk: it returns true. -/
import Derived.Test.YtmfkabebhbecgaaFew
namespace Go.Proofs.Ytmfkabebhbecgaa.N
open Go.RowKit Go.Proofs.Ytmfkabebhbecgaa.Dig Go.Proofs.YtmfkabebhbecgaaW.PrintWords Go.Proofs.YtmfkabebhbecgaaW.PrintLast Go.Proofs.YtmfkabebhbecgaaW.PrintMore
set_option linter.unusedVariables false

theorem nd_awake : nd (4294967296 * 3) = [0, 3] := by decide +kernel

set_option maxHeartbeats 400000 in
theorem awake_any (w : World) : Calls Try.prog 12 #[] w fun e w' => e = .returned (.bool true) ∧ Below w.heap.size w w' := by
  go_enter Try.func12, Try.ntmps12
  go_wp2_with fail
  refine (of_any 4294967296 (by decide) _).mono ?_
  rintro e w1 ⟨v1, rfl, ho1, hb1⟩
  go_wp2_with fail
  refine (of_any 3 (by decide) _).mono ?_
  rintro e w2 ⟨v2, rfl, ho2, hb2⟩
  go_wp2_with fail
  refine (mul_any (ho1.rd.below hb2) ho2.rd (by decide +kernel) (by decide +kernel)).mono ?_
  rw [nv_nd, nv_nd]
  rintro e w3 ⟨v3, rfl, ho3, hb3⟩
  rw [nd_awake] at ho3
  obtain ⟨_, A, c, rfl, hc, hr⟩ := ho3.rd
  obtain ⟨ad, rfl, c0⟩ := at_zero hr (by simp)
  obtain ⟨ad2, e2, c1⟩ := at_nat hr (i := 1) (by simp)
  injection e2 with e2
  subst e2
  replace c0 : w3.cell? ad = some (.int .u32 0) := c0
  replace c1 : w3.cell? ⟨ad.block, ad.off + 1, none⟩ = some (.int .u32 3) := by simpa [Addr.add] using c1
  have B1 : Below w.heap.size w w1 := hb1
  have B2 := below_then B1 B1.size hb2
  have B3 := below_then B2 B2.size hb3
  clear ho1 ho2 ho3 hb1 hb2 hb3 hr
  go_wp2
  go_ret
  exact ⟨rfl, B3⟩
end Go.Proofs.Ytmfkabebhbecgaa.N
