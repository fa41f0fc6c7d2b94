/- Sets of blocks as sixteen words; whether a block is among them; a block's turn. -/
import Derived.Test.YtnddahkkdcgpaaaDoorPSpaceNonex1
import Derived.Laws.Bits64
import Derived.Laws.Bits64b
import Derived.Lib.TrailingZeros
import Derived.Lib.Hide
import Derived.Deep.QuietTactic
import Derived.BigQuiet
import Derived.RegionTactic
import Derived.BigRegion
import Derived.ChangeAlike
namespace Go.Proofs.YtnddahkkdcgpaaaDoor.Sp
open Go.RowKit Go.Proofs.YtnddahkkdcgpaaaDoor
set_option linter.unusedVariables false
def upd (F : Nat → Nat) (k v : Nat) : Nat → Nat := fun i => if i = k then v else F i
def SetAt (w : World) (g o : Nat) (F : Nat → Nat) : Prop := ∀ i, i < 16 → w.cell? ⟨g, o + i, none⟩ = some (.int .u64 (F i)) ∧ w.frozen? ⟨g, o + i, none⟩ = false
def Words (F : Nat → Nat) : Prop := ∀ i, F i < 18446744073709551616
def mem (F : Nat → Nat) (i : Nat) : Bool := (F (i / 64)).testBit (i % 64)
def flipF (F : Nat → Nat) (i : Nat) : Nat → Nat := upd F (i / 64) (F (i / 64) ^^^ 2 ^ (i % 64))
theorem bit_word (x k : Nat) (hx : x < 18446744073709551616) : (bits BinOp.and IntKind.u64 ((x : Int) / 2 ^ k) 1 == 1) = x.testBit k := by
  have e : ((x : Int) / 2 ^ k) = ((x / 2 ^ k : Nat) : Int) := by simp
  rw [e, show (1 : Int) = ((1 : Nat) : Int) from rfl, bits_and_u64_nat _ _ (Nat.lt_of_le_of_lt (Nat.div_le_self _ _) hx) (by decide), Nat.and_one_is_mod, Nat.testBit_eq_decide_div_mod_eq]
  have hm := Nat.mod_two_eq_zero_or_one (x / 2 ^ k)
  rcases hm with h | h <;> simp [h]
theorem flip_word (x k : Nat) (hx : x < 18446744073709551616) (hk : k < 64) : bits BinOp.xor IntKind.u64 (x : Int) (IntKind.u64.wrap (2 ^ k)) = ((x ^^^ 2 ^ k : Nat) : Int) := by
  have h2 : 2 ^ k < 18446744073709551616 := Nat.lt_of_lt_of_le (Nat.pow_lt_pow_right (by decide) hk) (by decide)
  have e : IntKind.u64.wrap (2 ^ k) = ((2 ^ k : Nat) : Int) := by
    rw [IntKind.wrap_u64, show ((2 : Int) ^ k) = ((2 ^ k : Nat) : Int) from by simp]
    generalize 2 ^ k = p at h2
    omega
  rw [e, bits_xor_u64_nat _ _ hx h2]
theorem flip_words (F : Nat → Nat) (i : Nat) (h : Words F) : Words (flipF F i) := by
  intro j
  unfold flipF upd
  by_cases e : j = i / 64
  · rw [if_pos e]
    exact Nat.xor_lt_two_pow (n := 64) (h _) (Nat.pow_lt_pow_right (by decide) (Nat.mod_lt _ (by decide)))
  · rw [if_neg e]; exact h j
theorem mem_flip (F : Nat → Nat) (i j : Nat) : mem (flipF F i) j = (mem F j != decide (i = j)) := by
  unfold mem flipF upd
  by_cases e : j / 64 = i / 64
  · rw [if_pos e, Nat.testBit_xor, Nat.testBit_two_pow, e]
    by_cases e2 : i = j
    · subst e2; simp
    · have : ¬ i % 64 = j % 64 := by omega
      simp [this, e2]
  · rw [if_neg e]
    have : ¬ i = j := by rintro rfl; exact e rfl
    simp [this]
set_option maxRecDepth 100000 in
set_option maxHeartbeats 4000000 in
theorem has_walk (F : Nat → Nat) (w : World) (g o at' : Nat) (hF : Words F) (h : at' < 1024) (hs : SetAt w g o F) :
    Calls Tryd.prog 27 #[.pointer (some ⟨g, o, none⟩), .int .i64 at'] w fun e w' => e = .returned (.bool (mem F at')) ∧ w' = w := by
  obtain ⟨hc, hf⟩ := hs (at' / 64) (by omega)
  go_enter Tryd.func27, Tryd.ntmps27
  go_wp2
  rw [bit_word _ _ (hF _)]
  go_ret
  exact ⟨rfl, rfl⟩
theorem SetAt.flip {F : Nat → Nat} {w : World} {g o : Nat} (i : Nat) (h : i < 1024) (hs : SetAt w g o F) :
    SetAt (w.setCell ⟨g, o + i / 64, none⟩ (.int .u64 ((F (i / 64) ^^^ 2 ^ (i % 64) : Nat) : Int))).drew g o (flipF F i) := by
  intro j hj
  obtain ⟨hc, hf⟩ := hs j hj
  unfold flipF upd
  by_cases e : j = i / 64
  · subst e
    refine ⟨?_, ?_⟩
    · rw [if_pos rfl]
      exact World.cell?_setCell_same' w ⟨g, o + i / 64, none⟩ _ (by rw [hc]; rfl)
    · exact (World.frozen?_setCell ..).trans hf
  · rw [if_neg e]
    refine ⟨?_, ?_⟩
    · refine Eq.trans ?_ hc
      exact World.cell?_setCell_other _ _ _ _ (by intro hh; apply e; have := congrArg Addr.off hh; dsimp only at this; omega)
    · exact (World.frozen?_setCell ..).trans hf
set_option maxRecDepth 100000 in
set_option maxHeartbeats 4000000 in
theorem flip_walk (F : Nat → Nat) (w : World) (g o at' : Nat) (hF : Words F) (h : at' < 1024) (hs : SetAt w g o F) :
    Calls Tryd.prog 23 #[.pointer (some ⟨g, o, none⟩), .int .i64 at'] w fun e w' => (∃ v, e = .returned v) ∧ w' = (w.setCell ⟨g, o + at' / 64, none⟩ (.int .u64 ((F (at' / 64) ^^^ 2 ^ (at' % 64) : Nat) : Int))).drew := by
  obtain ⟨hc, hf⟩ := hs (at' / 64) (by omega)
  have hw := flip_word (F (at' / 64)) (at' % 64) (hF _) (by omega)
  go_enter Tryd.func23, Tryd.ntmps23
  go_wp2
  go_region
  go_wp2
  go_end0
  exact ⟨⟨_, rfl⟩, rfl⟩
end Go.Proofs.YtnddahkkdcgpaaaDoor.Sp
