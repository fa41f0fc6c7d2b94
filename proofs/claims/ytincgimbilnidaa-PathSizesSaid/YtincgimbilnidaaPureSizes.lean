/- The pure laws PathSizes and PathFan, over numbers and lists alone. No condition. -/
import Derived.Test.YtincgimbilnidaaMySizes
import Derived.Test.YtincgimbilnidaaMyFan
import Derived.OpenShut
namespace Go.Proofs.Ytincgimbilnidaa.Pure2
open Go.RowKit Go.Proofs.Ytincgimbilnidaa.PPathSizes Go.Proofs.Ytincgimbilnidaa.MyAll Go.Proofs.Ytincgimbilnidaa.MySizes Go.Proofs.Ytincgimbilnidaa.MyFan Go.Proofs.YtincgimbilnidaaW.PrintWords Go.Proofs.YtincgimbilnidaaW.PrintLast
theorem sizes_out (d : Int) (h : d < 1 ∨ 4 < d) : oubliettelaw07_PathSizes.f 30 d = some true := by
  have ha : oubliettelaw07_awake.f 30 = some true := by decide +kernel
  have hs : path_Slots.f d = some 0 := by
    unfold path_Slots.f
    by_cases h1 : d < 1
    · rw [if_pos h1]
    · rw [if_neg h1, if_pos (by omega)]
  have hr : oublietteref07_Slots.f 30 d = some 0 := by
    unfold oublietteref07_Slots.f
    by_cases h1 : d < 1
    · rw [if_pos h1]
    · rw [if_neg h1, if_pos (by omega)]
  have hn : path_Nodes.f d = some 0 := by unfold path_Nodes.f; rw [hs]; decide +kernel
  have h1 : oublietteref07_All.f 30 d = some [] := by unfold oublietteref07_All.f; rw [hr]; rfl
  have h2 : path_All.f 30 d = some [] := by unfold path_All.f; rw [hn]; rfl
  unfold oubliettelaw07_PathSizes.f
  rw [ha, h1, hs, hr, hn, h2]
  rfl
theorem PathSizes : oubliettelaw07_PathSizes.Pure := by
  intro d _
  by_cases h : d < 1 ∨ 4 < d
  · exact ⟨30, sizes_out d h⟩
  · have hd : d = 1 ∨ d = 2 ∨ d = 3 ∨ d = 4 := by omega
    refine ⟨300, ?_⟩
    rcases hd with rfl | rfl | rfl | rfl
    · decide +kernel
    · decide +kernel
    · decide +kernel
    · decide +kernel
theorem fan_mod (k : Nat) (a : Int) (h0 : 0 ≤ a) : oubliettelaw07_PathFan.f k a = oubliettelaw07_PathFan.f k (a % 4) := by
  have e : Int.tmod a 4 = Int.tmod (a % 4) 4 := by rw [Int.tmod_eq_emod_of_nonneg h0, Int.tmod_eq_emod_of_nonneg (by omega)]; omega
  unfold oubliettelaw07_PathFan.f
  rw [e]
theorem fan4 : ∀ i : Fin 4, oubliettelaw07_PathFan.f 4000 (i.val : Int) = some true := by decide +kernel
theorem PathFan : oubliettelaw07_PathFan.Pure := by
  intro a ha
  have h0 : 0 ≤ a := (bounds_u8 ha).1
  refine ⟨4000, ?_⟩
  rw [fan_mod _ _ h0]
  have := fan4 ⟨(a % 4).toNat, by omega⟩
  simpa only [Int.toNat_of_nonneg (show 0 ≤ a % 4 by omega)] using this
end Go.Proofs.Ytincgimbilnidaa.Pure2
