/- The count of the bits that are set, as the library computes it. -/
import Derived.Test.YtnddahkkdcgpaaaDoorSp1
import Derived.Laws.Bits128
namespace Go.Proofs.YtnddahkkdcgpaaaDoor.Sp
open Go.RowKit Go.Proofs.YtnddahkkdcgpaaaDoor Go.Proofs.YtnddahkkdcgpaaaDoorW.PrintWords Go.Proofs.YtnddahkkdcgpaaaDoorW.PrintLast Go.Proofs.YtnddahkkdcgpaaaDoorW.PrintMore
set_option linter.unusedVariables false
def cat8 (b0 b1 b2 b3 b4 b5 b6 b7 : Nat) : Nat := b0 + 256 * (b1 + 256 * (b2 + 256 * (b3 + 256 * (b4 + 256 * (b5 + 256 * (b6 + 256 * b7))))))
theorem and_split (a b m n : Nat) (ha : a < 256) (hm : m < 256) : (a + 256 * b) &&& (m + 256 * n) = (a &&& m) + 256 * (b &&& n) := by
  have h1 : a &&& m < 2 ^ 8 := Nat.and_lt_two_pow _ hm
  apply Nat.eq_of_testBit_eq
  intro i
  rw [Nat.testBit_and, show a + 256 * b = 2 ^ 8 * b + a by omega, show m + 256 * n = 2 ^ 8 * n + m by omega, show (a &&& m) + 256 * (b &&& n) = 2 ^ 8 * (b &&& n) + (a &&& m) by omega,
    Nat.testBit_two_pow_mul_add _ ha, Nat.testBit_two_pow_mul_add _ hm, Nat.testBit_two_pow_mul_add _ h1]
  by_cases h : i < 8 <;> simp [h]
theorem and_cat (a0 a1 a2 a3 a4 a5 a6 a7 m : Nat) (h0 : a0 < 256) (h1 : a1 < 256) (h2 : a2 < 256) (h3 : a3 < 256) (h4 : a4 < 256) (h5 : a5 < 256) (h6 : a6 < 256) (hm : m < 256) :
    cat8 a0 a1 a2 a3 a4 a5 a6 a7 &&& cat8 m m m m m m m m = cat8 (a0 &&& m) (a1 &&& m) (a2 &&& m) (a3 &&& m) (a4 &&& m) (a5 &&& m) (a6 &&& m) (a7 &&& m) := by
  unfold cat8
  rw [and_split _ _ _ _ h0 hm, and_split _ _ _ _ h1 hm, and_split _ _ _ _ h2 hm, and_split _ _ _ _ h3 hm, and_split _ _ _ _ h4 hm, and_split _ _ _ _ h5 hm, and_split _ _ _ _ h6 hm]
def p1 (b : Nat) : Nat := (b / 2 &&& 85) + (b &&& 85)
def p2 (b : Nat) : Nat := (p1 b / 4 &&& 51) + (p1 b &&& 51)
def pop8 (b : Nat) : Nat := (p2 b / 16 + p2 b) % 16
theorem p1_lt : ∀ b, b < 256 → p1 b < 171 := by decide +kernel
theorem p2_lt : ∀ b, b < 256 → p2 b % 16 ≤ 4 ∧ p2 b / 16 ≤ 4 ∧ p2 b < 69 := by decide +kernel
theorem pop8_le : ∀ b, b < 256 → pop8 b ≤ 8 := by decide +kernel
theorem pop8_eq : ∀ b, b < 256 → pop8 b = (List.range 8).countP (fun j => b.testBit j) := by decide +kernel
theorem hi1 : ∀ b, b < 256 → ∀ c, c < 2 → (b / 2 + 128 * c) &&& 85 = b / 2 &&& 85 := by decide +kernel
theorem hi2 : ∀ b, b < 256 → ∀ c, c < 4 → (b / 4 + 64 * c) &&& 51 = b / 4 &&& 51 := by decide +kernel
theorem step1 (b0 b1 b2 b3 b4 b5 b6 b7 : Nat) (h0 : b0 < 256) (h1 : b1 < 256) (h2 : b2 < 256) (h3 : b3 < 256) (h4 : b4 < 256) (h5 : b5 < 256) (h6 : b6 < 256) (h7 : b7 < 256) :
    (cat8 b0 b1 b2 b3 b4 b5 b6 b7 / 2 &&& 6148914691236517205) + (cat8 b0 b1 b2 b3 b4 b5 b6 b7 &&& 6148914691236517205) = cat8 (p1 b0) (p1 b1) (p1 b2) (p1 b3) (p1 b4) (p1 b5) (p1 b6) (p1 b7) := by
  have e : cat8 b0 b1 b2 b3 b4 b5 b6 b7 / 2 = cat8 (b0 / 2 + 128 * (b1 % 2)) (b1 / 2 + 128 * (b2 % 2)) (b2 / 2 + 128 * (b3 % 2)) (b3 / 2 + 128 * (b4 % 2)) (b4 / 2 + 128 * (b5 % 2)) (b5 / 2 + 128 * (b6 % 2)) (b6 / 2 + 128 * (b7 % 2)) (b7 / 2) := by unfold cat8; omega
  rw [e, show (6148914691236517205 : Nat) = cat8 85 85 85 85 85 85 85 85 from rfl, and_cat _ _ _ _ _ _ _ _ _ (by omega) (by omega) (by omega) (by omega) (by omega) (by omega) (by omega) (by decide), and_cat _ _ _ _ _ _ _ _ _ h0 h1 h2 h3 h4 h5 h6 (by decide),
    hi1 _ h0 _ (by omega), hi1 _ h1 _ (by omega), hi1 _ h2 _ (by omega), hi1 _ h3 _ (by omega), hi1 _ h4 _ (by omega), hi1 _ h5 _ (by omega), hi1 _ h6 _ (by omega)]
  unfold cat8 p1
  omega
theorem step2 (b0 b1 b2 b3 b4 b5 b6 b7 : Nat) (h0 : b0 < 256) (h1 : b1 < 256) (h2 : b2 < 256) (h3 : b3 < 256) (h4 : b4 < 256) (h5 : b5 < 256) (h6 : b6 < 256) (h7 : b7 < 256) :
    (cat8 (p1 b0) (p1 b1) (p1 b2) (p1 b3) (p1 b4) (p1 b5) (p1 b6) (p1 b7) / 4 &&& 3689348814741910323) + (cat8 (p1 b0) (p1 b1) (p1 b2) (p1 b3) (p1 b4) (p1 b5) (p1 b6) (p1 b7) &&& 3689348814741910323) = cat8 (p2 b0) (p2 b1) (p2 b2) (p2 b3) (p2 b4) (p2 b5) (p2 b6) (p2 b7) := by
  have g0 := p1_lt _ h0; have g1 := p1_lt _ h1; have g2 := p1_lt _ h2; have g3 := p1_lt _ h3; have g4 := p1_lt _ h4; have g5 := p1_lt _ h5; have g6 := p1_lt _ h6; have g7 := p1_lt _ h7
  unfold p2
  generalize p1 b0 = b0 at *; generalize p1 b1 = b1 at *; generalize p1 b2 = b2 at *; generalize p1 b3 = b3 at *; generalize p1 b4 = b4 at *; generalize p1 b5 = b5 at *; generalize p1 b6 = b6 at *; generalize p1 b7 = b7 at *
  have e : cat8 b0 b1 b2 b3 b4 b5 b6 b7 / 4 = cat8 (b0 / 4 + 64 * (b1 % 4)) (b1 / 4 + 64 * (b2 % 4)) (b2 / 4 + 64 * (b3 % 4)) (b3 / 4 + 64 * (b4 % 4)) (b4 / 4 + 64 * (b5 % 4)) (b5 / 4 + 64 * (b6 % 4)) (b6 / 4 + 64 * (b7 % 4)) (b7 / 4) := by unfold cat8; omega
  rw [e, show (3689348814741910323 : Nat) = cat8 51 51 51 51 51 51 51 51 from rfl, and_cat _ _ _ _ _ _ _ _ _ (by omega) (by omega) (by omega) (by omega) (by omega) (by omega) (by omega) (by decide), and_cat _ _ _ _ _ _ _ _ _ (by omega) (by omega) (by omega) (by omega) (by omega) (by omega) (by omega) (by decide),
    hi2 _ (by omega) _ (by omega), hi2 _ (by omega) _ (by omega), hi2 _ (by omega) _ (by omega), hi2 _ (by omega) _ (by omega), hi2 _ (by omega) _ (by omega), hi2 _ (by omega) _ (by omega), hi2 _ (by omega) _ (by omega)]
  unfold cat8
  omega
theorem step3 (b0 b1 b2 b3 b4 b5 b6 b7 : Nat) (h0 : b0 < 256) (h1 : b1 < 256) (h2 : b2 < 256) (h3 : b3 < 256) (h4 : b4 < 256) (h5 : b5 < 256) (h6 : b6 < 256) (h7 : b7 < 256) :
    (cat8 (p2 b0) (p2 b1) (p2 b2) (p2 b3) (p2 b4) (p2 b5) (p2 b6) (p2 b7) / 16 + cat8 (p2 b0) (p2 b1) (p2 b2) (p2 b3) (p2 b4) (p2 b5) (p2 b6) (p2 b7)) &&& 1085102592571150095 = cat8 (pop8 b0) (pop8 b1) (pop8 b2) (pop8 b3) (pop8 b4) (pop8 b5) (pop8 b6) (pop8 b7) := by
  have g0 := p2_lt _ h0; have g1 := p2_lt _ h1; have g2 := p2_lt _ h2; have g3 := p2_lt _ h3; have g4 := p2_lt _ h4; have g5 := p2_lt _ h5; have g6 := p2_lt _ h6; have g7 := p2_lt _ h7
  unfold pop8
  generalize p2 b0 = b0 at *; generalize p2 b1 = b1 at *; generalize p2 b2 = b2 at *; generalize p2 b3 = b3 at *; generalize p2 b4 = b4 at *; generalize p2 b5 = b5 at *; generalize p2 b6 = b6 at *; generalize p2 b7 = b7 at *
  have e : cat8 b0 b1 b2 b3 b4 b5 b6 b7 / 16 + cat8 b0 b1 b2 b3 b4 b5 b6 b7 = cat8 (b0 / 16 + b0 + 16 * (b1 % 16)) (b1 / 16 + b1 + 16 * (b2 % 16)) (b2 / 16 + b2 + 16 * (b3 % 16)) (b3 / 16 + b3 + 16 * (b4 % 16)) (b4 / 16 + b4 + 16 * (b5 % 16)) (b5 / 16 + b5 + 16 * (b6 % 16)) (b6 / 16 + b6 + 16 * (b7 % 16)) (b7 / 16 + b7) := by unfold cat8; omega
  have m15 : ∀ x : Nat, x &&& 15 = x % 16 := fun x => Nat.and_two_pow_sub_one_eq_mod x 4
  rw [e, show (1085102592571150095 : Nat) = cat8 15 15 15 15 15 15 15 15 from rfl, and_cat _ _ _ _ _ _ _ _ _ (by omega) (by omega) (by omega) (by omega) (by omega) (by omega) (by omega) (by decide)]
  simp only [m15, Nat.add_mul_mod_self_left]
def fold (x : Nat) : Nat := ((x + x / 256) + (x + x / 256) / 65536 + ((x + x / 256) + (x + x / 256) / 65536) / 4294967296) % 128
theorem fold_cat (c0 c1 c2 c3 c4 c5 c6 c7 : Nat) (h0 : c0 ≤ 8) (h1 : c1 ≤ 8) (h2 : c2 ≤ 8) (h3 : c3 ≤ 8) (h4 : c4 ≤ 8) (h5 : c5 ≤ 8) (h6 : c6 ≤ 8) (h7 : c7 ≤ 8) :
    fold (cat8 c0 c1 c2 c3 c4 c5 c6 c7) = c0 + c1 + c2 + c3 + c4 + c5 + c6 + c7 := by
  unfold fold
  have e1 : cat8 c0 c1 c2 c3 c4 c5 c6 c7 + cat8 c0 c1 c2 c3 c4 c5 c6 c7 / 256 = cat8 (c0 + c1) (c1 + c2) (c2 + c3) (c3 + c4) (c4 + c5) (c5 + c6) (c6 + c7) c7 := by unfold cat8; omega
  rw [e1]
  have e2 : cat8 (c0 + c1) (c1 + c2) (c2 + c3) (c3 + c4) (c4 + c5) (c5 + c6) (c6 + c7) c7 + cat8 (c0 + c1) (c1 + c2) (c2 + c3) (c3 + c4) (c4 + c5) (c5 + c6) (c6 + c7) c7 / 65536 = cat8 (c0 + c1 + (c2 + c3)) (c1 + c2 + (c3 + c4)) (c2 + c3 + (c4 + c5)) (c3 + c4 + (c5 + c6)) (c4 + c5 + (c6 + c7)) (c5 + c6 + c7) (c6 + c7) c7 := by unfold cat8; omega
  rw [e2]
  have e3 : cat8 (c0 + c1 + (c2 + c3)) (c1 + c2 + (c3 + c4)) (c2 + c3 + (c4 + c5)) (c3 + c4 + (c5 + c6)) (c4 + c5 + (c6 + c7)) (c5 + c6 + c7) (c6 + c7) c7 / 4294967296 = (c4 + c5 + (c6 + c7)) + 256 * ((c5 + c6 + c7) + 256 * ((c6 + c7) + 256 * c7)) := by unfold cat8; omega
  have e4 : ∀ A R D R' : Nat, A + D < 128 → (A + 256 * R + (D + 256 * R')) % 128 = A + D := by intro A R D R' h; omega
  rw [e3]
  unfold cat8
  rw [e4 _ _ _ _ (by omega)]
  omega
/-- How many of the word's bits below 8k are set. -/
def pop (x k : Nat) : Nat := (List.range k).countP (fun j => x.testBit j)
theorem pop_bytes (x : Nat) : pop x 64 = pop8 (x % 256) + pop8 (x / 256 % 256) + pop8 (x / 65536 % 256) + pop8 (x / 16777216 % 256) + pop8 (x / 4294967296 % 256) + pop8 (x / 1099511627776 % 256) + pop8 (x / 281474976710656 % 256) + pop8 (x / 72057594037927936 % 256) := by
  have key : ∀ k, pop x (8 * k + 8) = pop x (8 * k) + pop8 (x / 2 ^ (8 * k) % 256) := by
    intro k
    rw [pop8_eq _ (Nat.mod_lt _ (by decide))]
    unfold pop
    rw [List.range_add, List.countP_append, List.countP_map]
    congr 1
    apply List.countP_congr
    intro j hj
    have hj : j < 8 := by simpa using hj
    simp only [Function.comp]
    rw [show (256 : Nat) = 2 ^ 8 from rfl, Nat.testBit_mod_two_pow, Nat.testBit_div_two_pow]
    simp [hj, Nat.add_comm]
  have k0 := key 0; have k1 := key 1; have k2 := key 2; have k3 := key 3; have k4 := key 4; have k5 := key 5; have k6 := key 6; have k7 := key 7
  simp only [Nat.mul_zero, Nat.zero_add, Nat.pow_zero, Nat.div_one, Nat.reduceMul, Nat.reduceAdd, Nat.reducePow] at k0 k1 k2 k3 k4 k5 k6 k7
  have z : pop x 0 = 0 := rfl
  omega
def swar (x : Nat) : Nat :=
  let a := (x / 2 &&& 6148914691236517205) + (x &&& 6148914691236517205)
  let b := (a / 4 &&& 3689348814741910323) + (a &&& 3689348814741910323)
  let c := (b / 16 + b) &&& 1085102592571150095
  fold c
theorem swar_eq (x : Nat) (hx : x < 18446744073709551616) : swar x = pop x 64 := by
  rw [pop_bytes]
  have e : x = cat8 (x % 256) (x / 256 % 256) (x / 65536 % 256) (x / 16777216 % 256) (x / 4294967296 % 256) (x / 1099511627776 % 256) (x / 281474976710656 % 256) (x / 72057594037927936 % 256) := by unfold cat8; omega
  have h0 : x % 256 < 256 := by omega
  have h1 : x / 256 % 256 < 256 := by omega
  have h2 : x / 65536 % 256 < 256 := by omega
  have h3 : x / 16777216 % 256 < 256 := by omega
  have h4 : x / 4294967296 % 256 < 256 := by omega
  have h5 : x / 1099511627776 % 256 < 256 := by omega
  have h6 : x / 281474976710656 % 256 < 256 := by omega
  have h7 : x / 72057594037927936 % 256 < 256 := by omega
  generalize x % 256 = b0 at *; generalize x / 256 % 256 = b1 at *; generalize x / 65536 % 256 = b2 at *; generalize x / 16777216 % 256 = b3 at *; generalize x / 4294967296 % 256 = b4 at *; generalize x / 1099511627776 % 256 = b5 at *; generalize x / 281474976710656 % 256 = b6 at *; generalize x / 72057594037927936 % 256 = b7 at *
  subst e
  unfold swar
  simp only [step1 _ _ _ _ _ _ _ _ h0 h1 h2 h3 h4 h5 h6 h7, step2 _ _ _ _ _ _ _ _ h0 h1 h2 h3 h4 h5 h6 h7, step3 _ _ _ _ _ _ _ _ h0 h1 h2 h3 h4 h5 h6 h7]
  exact fold_cat _ _ _ _ _ _ _ _ (pop8_le _ h0) (pop8_le _ h1) (pop8_le _ h2) (pop8_le _ h3) (pop8_le _ h4) (pop8_le _ h5) (pop8_le _ h6) (pop8_le _ h7)
theorem pop_le (x k : Nat) : pop x k ≤ k := by
  unfold pop
  exact Nat.le_trans List.countP_le_length (by simp)
theorem and_u64 (a b : Nat) (ha : a < 18446744073709551616) (hb : b < 18446744073709551616) : bits .and .u64 (a : Int) (b : Int) = ((a &&& b : Nat) : Int) := bits_and_u64_nat a b ha hb
theorem wrapu (n : Nat) (h : n < 18446744073709551616) (i : Int) (e : i = (n : Int)) : IntKind.u64.wrap i = (n : Int) := by rw [e, IntKind.wrap_u64]; omega
set_option maxRecDepth 100000 in
set_option maxHeartbeats 4000000 in
theorem ones_f (x : Nat) (hx : x < 18446744073709551616) : PSpaceNone.bits_OnesCount64.f x = some ((pop x 64 : Nat) : Int) := by
  rw [← swar_eq x hx]
  obtain ⟨A, hA⟩ : ∃ A, A = (x / 2 &&& 6148914691236517205) + (x &&& 6148914691236517205) := ⟨_, rfl⟩
  obtain ⟨B, hB⟩ : ∃ B, B = (A / 4 &&& 3689348814741910323) + (A &&& 3689348814741910323) := ⟨_, rfl⟩
  obtain ⟨C, hC⟩ : ∃ C, C = (B / 16 + B) &&& 1085102592571150095 := ⟨_, rfl⟩
  have e : swar x = fold C := by rw [hC, hB, hA]; rfl
  rw [e]
  have lA : A < 18446744073709551616 := by
    have q1 : x / 2 &&& 6148914691236517205 ≤ 6148914691236517205 := Nat.and_le_right
    have q2 : x &&& 6148914691236517205 ≤ 6148914691236517205 := Nat.and_le_right
    omega
  have lB : B ≤ 7378697629483820646 := by
    have q1 : A / 4 &&& 3689348814741910323 ≤ 3689348814741910323 := Nat.and_le_right
    have q2 : A &&& 3689348814741910323 ≤ 3689348814741910323 := Nat.and_le_right
    omega
  have lC : C ≤ 1085102592571150095 := by rw [hC]; exact Nat.and_le_right
  have r1 : Go.bits .and .u64 ((x : Int) / 2) 6148914691236517205 = ((x / 2 &&& 6148914691236517205 : Nat) : Int) := and_u64 (x / 2) 6148914691236517205 (by omega) (by decide)
  have r2 : Go.bits .and .u64 (x : Int) 6148914691236517205 = ((x &&& 6148914691236517205 : Nat) : Int) := and_u64 x 6148914691236517205 hx (by decide)
  have r3 : IntKind.u64.wrap (((x / 2 &&& 6148914691236517205 : Nat) : Int) + ((x &&& 6148914691236517205 : Nat) : Int)) = (A : Int) := wrapu A lA _ (by rw [hA]; simp)
  have r4 : Go.bits .and .u64 ((A : Int) / 4) 3689348814741910323 = ((A / 4 &&& 3689348814741910323 : Nat) : Int) := and_u64 (A / 4) 3689348814741910323 (by omega) (by decide)
  have r5 : Go.bits .and .u64 (A : Int) 3689348814741910323 = ((A &&& 3689348814741910323 : Nat) : Int) := and_u64 A 3689348814741910323 lA (by decide)
  have r6 : IntKind.u64.wrap (((A / 4 &&& 3689348814741910323 : Nat) : Int) + ((A &&& 3689348814741910323 : Nat) : Int)) = (B : Int) := wrapu B (by omega) _ (by rw [hB]; simp)
  have r7 : IntKind.u64.wrap ((B : Int) / 16 + (B : Int)) = ((B / 16 + B : Nat) : Int) := wrapu _ (by omega) _ (by simp)
  have r8 : Go.bits .and .u64 ((B / 16 + B : Nat) : Int) 1085102592571150095 = (C : Int) := by rw [hC]; exact and_u64 (B / 16 + B) 1085102592571150095 (by omega) (by decide)
  obtain ⟨D, hD⟩ : ∃ D, D = C + C / 256 := ⟨_, rfl⟩
  have r9 : IntKind.u64.wrap ((C : Int) + (C : Int) / 256) = (D : Int) := wrapu D (by omega) _ (by rw [hD]; simp)
  obtain ⟨E, hE⟩ : ∃ E, E = D + D / 65536 := ⟨_, rfl⟩
  have r10 : IntKind.u64.wrap ((D : Int) + (D : Int) / 65536) = (E : Int) := wrapu E (by omega) _ (by rw [hE]; simp)
  obtain ⟨G, hG⟩ : ∃ G, G = E + E / 4294967296 := ⟨_, rfl⟩
  have r11 : IntKind.u64.wrap ((E : Int) + (E : Int) / 4294967296) = (G : Int) := wrapu G (by omega) _ (by rw [hG]; simp)
  have r12 : wrap64 (G : Int) = (G : Int) := by unfold wrap64; omega
  unfold PSpaceNone.bits_OnesCount64.f
  simp only [r1, r2, r3, r4, r5, r6, r7, r8, r9, r10, r11, r12, i64_and127]
  unfold fold
  rw [← hD, ← hE, ← hG]
  simp
theorem ones_walk (x : Nat) (hx : x < 18446744073709551616) (w : World) :
    Calls Tryd.prog 28 #[.int .u64 x] w fun e w' => e = .returned (.int .i64 (pop x 64 : Nat)) ∧ Drawn0 w w' := PSpaceNone.bits_OnesCount64.calls x _ w (ones_f x hx)
end Go.Proofs.YtnddahkkdcgpaaaDoor.Sp
