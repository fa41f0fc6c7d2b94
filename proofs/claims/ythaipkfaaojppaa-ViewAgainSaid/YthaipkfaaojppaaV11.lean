/- Bytes, and ViewFresh's closures, walked. -/
import Derived.Test.YthaipkfaaojppaaV10
import Derived.Test.YthaipkfaaojppaaPViewRunsx9
namespace Go.Proofs.Ythaipkfaaojppaa.Vw
open Go.RowKit Go.Proofs.YthaipkfaaojppaaW.PrintWords Go.Proofs.YthaipkfaaojppaaW.PrintLast Go.Proofs.YthaipkfaaojppaaW.PrintMore
open Go.Proofs.Ythaipkfaaojppaa.PViewRuns (oublietteref01_Bytes.f oublietteref01_Bytes.l0 oublietteref01_Bytes.calls)
set_option linter.unusedVariables false
theorem wrap_next {i n : Nat} (h : i < n) (hn : n ≤ 9223372036854775807) : wrap64 ((i : Int) + 1) = ((i + 1 : Nat) : Int) := by
  unfold wrap64
  omega
theorem bytes_l0 (x y : List Int) (hl : x.length = y.length) (hm : x.length ≤ 9223372036854775807) : ∀ (k i : Nat), i ≤ x.length → x.length < k + i → oublietteref01_Bytes.l0 k x y i = some (decide (x.drop i = y.drop i))
  | 0, i, h1, h2 => absurd h2 (by omega)
  | k + 1, i, h1, h2 => by
    unfold oublietteref01_Bytes.l0
    by_cases hlt : i < x.length
    · rw [if_pos (by omega), if_pos (by omega), if_pos (by omega), wrap_next hlt hm]
      have hd : ∀ (z : List Int) (hz : i < z.length), z.drop i = rd z i :: z.drop (i + 1) := fun z hz => by
        rw [List.drop_eq_getElem_cons hz]
        congr 1
        unfold rd
        rw [Int.toNat_natCast, List.getD_eq_getElem?_getD, List.getElem?_eq_getElem hz]
        rfl
      rw [bytes_l0 x y hl hm k (i + 1) (by omega) (by omega), hd x hlt, hd y (by omega)]
      by_cases e : rd x i = rd y i
      · rw [if_pos e, e]
        simp
      · rw [if_neg e]
        simp [e]
    · rw [if_neg (by omega), List.drop_eq_nil_of_le (by omega), List.drop_eq_nil_of_le (by omega)]
      simp
theorem bytes_f (x y : List Int) (hm : x.length ≤ 9223372036854775807) : oublietteref01_Bytes.f (x.length + 1) x y = some (decide (x = y)) := by
  unfold oublietteref01_Bytes.f
  by_cases hl : x.length = y.length
  · rw [if_pos (by omega)]
    exact bytes_l0 x y hl hm (x.length + 1) 0 (by omega) (by omega)
  · rw [if_neg (by omega)]
    have : x ≠ y := fun e => hl (by rw [e])
    simp [this]
theorem Bytes_walk (w : World) (v u : Value) (x y : List Int) (hv : RdB w v x) (hu : RdB w u y) : Calls Try.prog 21 #[v, u] w fun e w' => e = .returned (.bool (decide (x = y))) ∧ Drawn0 w w' := by
  obtain ⟨A, c, rfl, h1, h2⟩ := hv.slice
  obtain ⟨A', c', rfl, h3, h4⟩ := hu.slice
  exact oublietteref01_Bytes.calls (x.length + 1) A c x A' c' y _ w (C_int h2) h1 (C_int h4) h3 (bytes_f x y h2.2.1)
end Go.Proofs.Ythaipkfaaojppaa.Vw
