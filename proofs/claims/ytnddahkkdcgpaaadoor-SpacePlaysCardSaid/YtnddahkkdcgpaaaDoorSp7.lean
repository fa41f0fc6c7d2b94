/- The least bit that is set; the members of a set in order. -/
import Derived.Test.YtnddahkkdcgpaaaDoorSp6
import Derived.Shelf.Spec.TrailingZeros
namespace Go.Proofs.YtnddahkkdcgpaaaDoor.Sp
open Go.RowKit Go.Proofs.YtnddahkkdcgpaaaDoor Go.Proofs.YtnddahkkdcgpaaaDoorW.PrintWords Go.Proofs.YtnddahkkdcgpaaaDoorW.PrintLast Go.Proofs.YtnddahkkdcgpaaaDoorW.PrintMore
set_option linter.unusedVariables false
theorem tz_core (x k idx : Nat) (w : World) (hx0 : ((x : Int) == 0) = false)
    (key : IntKind.u64.wrap (bits BinOp.and IntKind.u64 (x : Int) (IntKind.u64.wrap (-(x : Int))) * 285870213051353865) / 288230376151711744 = (idx : Int))
    (hi : idx < 64) (hk : k < 64) (hcell : w.cell? ⟨0, idx, none⟩ = some (.int .u8 k)) :
    Calls Tryd.prog 30 #[.int .u64 x] w fun e w' => e = .returned (.int .i64 k) ∧ w' = w := by
  go_enter Tryd.func30, Tryd.ntmps30
  go_wp2_with (simp only [key])
  go_ret
  exact ⟨rfl, rfl⟩
theorem tz_walk (x : Nat) (h0 : x ≠ 0) (hx : x < 18446744073709551616) (w : World) (hT : TabAt 0 Lib.deBruijn64tab w) :
    Calls Tryd.prog 30 #[.int .u64 x] w fun e w' => e = .returned (.int .i64 (Lib.ctz 64 x : Nat)) ∧ w' = w := by
  obtain ⟨hlow, hk⟩ := Lib.lowest_bit 64 x h0 hx
  obtain ⟨hi, htab⟩ := Lib.deBruijn64_at _ hk
  have hcell := hT _ hi
  rw [htab] at hcell
  exact tz_core x _ _ w (by simp; omega) (tz64_key x _ hx h0 hlow) hi hk hcell
theorem ctz_spec (x : Nat) (h0 : x ≠ 0) (hx : x < 18446744073709551616) : x.testBit (Lib.ctz 64 x) = true ∧ (∀ j, j < Lib.ctz 64 x → x.testBit j = false) ∧ ∀ j, (x &&& (x - 1)).testBit j = (x.testBit j && !decide (j = Lib.ctz 64 x)) := by
  obtain ⟨m, hm, hk⟩ := Lib.ctzFrom_spec 64 x (by omega) hx
  have e : Lib.ctz 64 x = Lib.ctzFrom 64 x := by unfold Lib.ctz; rw [if_neg h0]
  rw [e]
  generalize Lib.ctzFrom 64 x = k at *
  have b1 : ∀ j, x.testBit j = (decide (k ≤ j) && (2 * m + 1).testBit (j - k)) := by
    intro j; rw [hm, Nat.mul_comm, ← Nat.shiftLeft_eq, Nat.testBit_shiftLeft]
  have e1 : x - 1 = 2 ^ k * (2 * m) + (2 ^ k - 1) := by
    have hp : 0 < 2 ^ k := Nat.pow_pos (by decide)
    have : x = 2 ^ k * (2 * m) + 2 ^ k := by rw [hm, Nat.mul_add, Nat.mul_one]
    omega
  have b2 : ∀ j, (x - 1).testBit j = if j < k then true else (2 * m).testBit (j - k) := by
    intro j
    have hp : 0 < 2 ^ k := Nat.pow_pos (by decide)
    rw [e1, Nat.testBit_two_pow_mul_add _ (by omega)]
    by_cases h : j < k
    · simp [h, Nat.testBit_two_pow_sub_one]
    · simp [h]
  refine ⟨by rw [b1]; simp, fun j hj => by rw [b1]; simp; omega, fun j => ?_⟩
  rw [Nat.testBit_and, b1, b2]
  by_cases h : j < k
  · have : ¬ k ≤ j := by omega
    simp [this]
  · by_cases h2 : j = k
    · subst h2; simp
    · obtain ⟨i, rfl⟩ : ∃ i, j = k + (i + 1) := ⟨j - k - 1, by omega⟩
      have h3 : k + (i + 1) - k = i + 1 := by omega
      rw [h3, if_neg h, Nat.testBit_succ, Nat.testBit_succ]
      have q1 : (2 * m + 1) / 2 = m := by omega
      have q2 : (2 * m) / 2 = m := by omega
      rw [q1, q2]
      simp
theorem ctz_lt (x : Nat) (h0 : x ≠ 0) (hx : x < 18446744073709551616) : Lib.ctz 64 x < 64 := (Lib.lowest_bit 64 x h0 hx).2
theorem low_lt (x : Nat) (h0 : x ≠ 0) : x &&& (x - 1) < x := Nat.lt_of_le_of_lt Nat.and_le_right (by omega)
/-- The bits of a word, in order. -/
def bitsOf (x : Nat) : List Nat := (List.range 64).filter (fun j => x.testBit j)
theorem filter_range_cons (p : Nat → Bool) (n k : Nat) (hk : k < n) (h : p k = true) (hl : ∀ j, j < k → p j = false) :
    (List.range n).filter p = k :: (List.range n).filter (fun j => p j && !decide (j = k)) := by
  obtain ⟨m, rfl⟩ : ∃ m, n = k + (m + 1) := ⟨n - k - 1, by omega⟩
  rw [List.range_add, List.filter_append, List.filter_append]
  have z1 : (List.range k).filter p = [] := by
    rw [List.filter_eq_nil_iff]
    intro a ha
    rw [hl a (by simpa using ha)]; decide
  have z2 : (List.range k).filter (fun j => p j && !decide (j = k)) = [] := by
    rw [List.filter_eq_nil_iff]
    intro a ha
    simp [hl a (by simpa using ha)]
  rw [z1, z2, List.nil_append, List.nil_append, List.range_succ_eq_map]
  simp only [List.map_cons, Nat.add_zero, List.filter_cons, h, if_true, decide_true, Bool.not_true, Bool.and_false]
  congr 1
  rw [if_neg (by decide)]
  apply List.filter_congr
  intro a ha
  simp only [List.map_map, List.mem_map] at ha
  obtain ⟨b, _, rfl⟩ := ha
  simp
theorem bitsOf_cons (x : Nat) (h0 : x ≠ 0) (hx : x < 18446744073709551616) : bitsOf x = Lib.ctz 64 x :: bitsOf (x &&& (x - 1)) := by
  obtain ⟨h1, h2, h3⟩ := ctz_spec x h0 hx
  unfold bitsOf
  rw [filter_range_cons _ 64 _ (ctz_lt x h0 hx) h1 h2]
  congr 1
  apply List.filter_congr
  intro j _
  rw [h3]
theorem bitsOf_zero : bitsOf 0 = [] := by decide
/-- The members of the words from k on. -/
def restF (F : Nat → Nat) : Nat → Nat → List Int
  | _, 0 => []
  | k, m + 1 => (bitsOf (F k)).map (fun j => ((64 * k + j : Nat) : Int)) ++ restF F (k + 1) m
def allF (F : Nat → Nat) : List Int := restF F 0 16
theorem restF_eq (F : Nat → Nat) : ∀ (m k : Nat), restF F k m = ((List.range (64 * m)).filter (fun i => mem F (64 * k + i))).map (fun i => ((64 * k + i : Nat) : Int))
  | 0, k => by simp [restF]
  | m + 1, k => by
    unfold restF
    rw [restF_eq F m (k + 1), show 64 * (m + 1) = 64 + 64 * m by omega, List.range_add, List.filter_append, List.map_append, List.filter_map, List.map_map]
    congr 1
    · unfold bitsOf
      congr 1
      apply List.filter_congr
      intro j hj
      have hj : j < 64 := by simpa using hj
      unfold mem
      rw [show (64 * k + j) / 64 = k by omega, show (64 * k + j) % 64 = j by omega]
    · have e : ∀ i, 64 * (k + 1) + i = 64 * k + (64 + i) := by intro i; omega
      simp only [e]
      rfl
theorem allF_eq (F : Nat → Nat) : allF F = ((List.range 1024).filter (mem F)).map (fun i => ((i : Nat) : Int)) := by
  unfold allF
  rw [restF_eq]
  simp
end Go.Proofs.YtnddahkkdcgpaaaDoor.Sp
