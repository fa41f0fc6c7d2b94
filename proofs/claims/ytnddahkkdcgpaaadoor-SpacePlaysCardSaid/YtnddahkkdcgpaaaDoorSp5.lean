/- What was given back is free; a new space. -/
import Derived.Test.YtnddahkkdcgpaaaDoorSp4
namespace Go.Proofs.YtnddahkkdcgpaaaDoor.Sp
open Go.RowKit Go.Proofs.YtnddahkkdcgpaaaDoor Go.Proofs.YtnddahkkdcgpaaaDoorW.PrintWords Go.Proofs.YtnddahkkdcgpaaaDoorW.PrintLast Go.Proofs.YtnddahkkdcgpaaaDoorW.PrintMore
set_option linter.unusedVariables false
def orF (F B : Nat → Nat) (k : Nat) : Nat → Nat := fun i => if i < k then F i ||| B i else F i
theorem orF_lt (F B : Nat → Nat) (k : Nat) (hF : Words F) (hB : Words B) : Words (orF F B k) := by
  intro i
  unfold orF
  split
  · exact Nat.or_lt_two_pow (n := 64) (hF i) (hB i)
  · exact hF i
theorem mem_or (F B : Nat → Nat) (i : Nat) (h : i < 1024) : mem (orF F B 16) i = (mem F i || mem B i) := by
  unfold mem orF
  rw [if_pos (by omega), Nat.testBit_or]
theorem SetAt.orStep {w : World} {g : Nat} {F B : Nat → Nat} {k : Nat} (hk : k < 16) (h : SetAt w g 1 (orF F B k)) :
    SetAt (w.setCell ⟨g, 1 + k, none⟩ (.int .u64 ((F k ||| B k : Nat) : Int))).drew g 1 (orF F B (k + 1)) := by
  intro j hj
  obtain ⟨hc, hf⟩ := h j hj
  refine ⟨?_, (World.frozen?_setCell ..).trans hf⟩
  by_cases e : j = k
  · subst e
    unfold orF
    rw [if_pos (by omega)]
    exact World.cell?_setCell_same' w ⟨g, 1 + j, none⟩ _ (by rw [hc]; rfl)
  · have e2 : orF F B (k + 1) j = orF F B k j := by
      unfold orF
      by_cases h1 : j < k
      · rw [if_pos h1, if_pos (by omega)]
      · rw [if_neg h1, if_neg (by omega)]
    rw [e2]
    refine Eq.trans ?_ hc
    exact World.cell?_setCell_other _ _ _ _ (by intro hh; apply e; have := congrArg Addr.off hh; dsimp only at this; omega)
structure Mid (w w' : World) (g n : Nat) (F B : Nat → Nat) (k : Nat) : Prop where
  tch : Tch g w w'
  head : w'.cell? ⟨g, 0, none⟩ = some (.int .i64 n)
  free : SetAt w' g 1 (orF F B k)
  back : SetAt w' g 17 B
theorem Mid.step {w w' : World} {g n : Nat} {F B : Nat → Nat} {k : Nat} (h : Mid w w' g n F B k) (hk : k < 16) :
    Mid w (w'.setCell ⟨g, 1 + k, none⟩ (.int .u64 ((F k ||| B k : Nat) : Int))).drew g n F B (k + 1) :=
  ⟨(h.tch.set _ _).drew, head_other h.head (by omega), h.free.orStep hk, h.back.other (by omega)⟩
theorem head_other' {w : World} {g o' : Nat} {v u : Value} (h : w.cell? ⟨g, 0, none⟩ = some u) (ho : 0 < o') : (w.setCell ⟨g, o', none⟩ v).cell? ⟨g, 0, none⟩ = some u := head_other h ho
theorem SetAt.other' {F : Nat → Nat} {w : World} {g o o' : Nat} {v : Value} (h : SetAt w g o F) (ho : o' < o ∨ o + 16 ≤ o') : SetAt (w.setCell ⟨g, o', none⟩ v) g o F := h.other ho
def cutF (B : Nat → Nat) (k : Nat) : Nat → Nat := fun i => if i < k then 0 else B i
def setZ (w : World) (g : Nat) : Nat → World
  | 0 => w
  | k + 1 => (setZ w g k).setCell ⟨g, 17 + k, none⟩ (.int .u64 0)
theorem setZ_mid {w w1 : World} {g n : Nat} {F B : Nat → Nat} (h : Mid w w1 g n F B 16) : ∀ k, k ≤ 16 → Tch g w (setZ w1 g k) ∧ (setZ w1 g k).cell? ⟨g, 0, none⟩ = some (.int .i64 n) ∧ SetAt (setZ w1 g k) g 1 (orF F B 16) ∧ SetAt (setZ w1 g k) g 17 (cutF B k)
  | 0, _ => ⟨h.tch, h.head, h.free, h.back⟩
  | k + 1, hk => by
    obtain ⟨h1, h2, h3, h4⟩ := setZ_mid h k (by omega)
    refine ⟨h1.set _ _, head_other' h2 (by omega), h3.other' (by omega), ?_⟩
    intro j hj
    obtain ⟨hc, hf⟩ := h4 j hj
    refine ⟨?_, (World.frozen?_setCell ..).trans hf⟩
    by_cases e : j = k
    · subst e
      have : cutF B (j + 1) j = 0 := by unfold cutF; rw [if_pos (by omega)]
      rw [this]
      exact World.cell?_setCell_same' _ _ _ (by rw [hc]; rfl)
    · have e2 : cutF B (k + 1) j = cutF B k j := by
        unfold cutF
        by_cases h1 : j < k
        · rw [if_pos h1, if_pos (by omega)]
        · rw [if_neg h1, if_neg (by omega)]
      rw [e2]
      refine Eq.trans ?_ hc
      exact World.cell?_setCell_other _ _ _ _ (by intro hh; apply e; have := congrArg Addr.off hh; dsimp only at this; omega)
def zeroB (S : Nat → Nat) : Nat → Nat := fun i => if S i = 2 then 0 else S i
set_option maxRecDepth 100000 in
set_option maxHeartbeats 4000000 in
theorem Settle_walk (w : World) (g n : Nat) (S : Nat → Nat) (hR : Spc w g n S) :
    Calls Tryd.prog 11 #[.pointer (some ⟨g, 0, none⟩)] w fun e w' => e = .returned (.int .i64 (num n S 2 : Nat)) ∧ Spc w' g n (zeroB S) ∧ Tch g w w' := by
  obtain ⟨F, B, hR⟩ := hR
  have hh := hR.head
  have c := many_walk B w g 17 hR.wb hR.back
  rw [hR.cntB] at c
  have hR := Lib.hid hR
  go_enter Tryd.func11, Tryd.ntmps11
  go_wp2_with (go_at_call 25; refine c.mono ?_; clear c; rintro e w1 ⟨rfl, ⟨n1, rfl⟩⟩)
  clear hh
  go_loopw [11] (fun i wr => ∃ k : Nat, k ≤ 16 ∧ i = .int .i64 k ∧ Mid w wr g n F B k) (fun i _ => 16 - (intOf i).toNat)
  case atStart => exact ⟨0, by omega, rfl, Tch.drawn ⟨n1, rfl⟩, hR.out.head, hR.out.free, hR.out.back⟩
  case round =>
    obtain ⟨k, hk, rfl, hM⟩ := hrel
    by_cases hlt : k < 16
    · obtain ⟨hc, hf⟩ := hM.free k hlt
      obtain ⟨hc2, hf2⟩ := hM.back k hlt
      have ho : orF F B k k = F k := by unfold orF; rw [if_neg (by omega)]
      rw [ho] at hc
      have hw : bits .or .u64 (F k : Int) (B k : Int) = ((F k ||| B k : Nat) : Int) := bits_or_u64_nat _ _ (hR.out.wf k) (hR.out.wb k)
      have hS := Lib.hid (hM.step hlt)
      clear hM ho
      go_wp2_with fail
      go_region
      all_goals clear hc hf hc2 hf2
      all_goals go_wp2_with fail
      all_goals go_roundw
      case rel => exact ⟨k + 1, by omega, by go_num, hS.out⟩
      case measure => simp [intOf]; omega
    · have : k = 16 := by omega
      subst this
      have hM := Lib.hid hM
      have b0 := hM.out.back
      obtain ⟨c0, f0⟩ := b0 0 (by decide)
      obtain ⟨c1, f1⟩ := b0 1 (by decide)
      obtain ⟨c2, f2⟩ := b0 2 (by decide)
      obtain ⟨c3, f3⟩ := b0 3 (by decide)
      obtain ⟨c4, f4⟩ := b0 4 (by decide)
      obtain ⟨c5, f5⟩ := b0 5 (by decide)
      obtain ⟨c6, f6⟩ := b0 6 (by decide)
      obtain ⟨c7, f7⟩ := b0 7 (by decide)
      obtain ⟨c8, f8⟩ := b0 8 (by decide)
      obtain ⟨c9, f9⟩ := b0 9 (by decide)
      obtain ⟨c10, f10⟩ := b0 10 (by decide)
      obtain ⟨c11, f11⟩ := b0 11 (by decide)
      obtain ⟨c12, f12⟩ := b0 12 (by decide)
      obtain ⟨c13, f13⟩ := b0 13 (by decide)
      obtain ⟨c14, f14⟩ := b0 14 (by decide)
      obtain ⟨c15, f15⟩ := b0 15 (by decide)
      simp only [Nat.reduceAdd] at c0 f0 c1 f1 c2 f2 c3 f3 c4 f4 c5 f5 c6 f6 c7 f7 c8 f8 c9 f9 c10 f10 c11 f11 c12 f12 c13 f13 c14 f14 c15 f15
      clear b0
      go_wp2_with fail
      have hz := setZ_mid hM.out 16 (Nat.le_refl _)
      have n2 := hR.out.n2
      go_ret
      refine ⟨rfl, ⟨orF F B 16, cutF B 16, hR.out.n1, n2, hz.2.1, orF_lt _ _ _ hR.out.wf hR.out.wb, ?_, hz.2.2.1, hz.2.2.2, ?_, ?_, ?_⟩, hz.1⟩
      · intro i
        unfold cutF
        split
        · decide
        · exact hR.out.wb i
      · intro i hi
        rw [mem_or _ _ _ hi, hR.out.mf i hi, hR.out.mb i hi]
        unfold zeroB
        by_cases h1 : S i = 2
        · simp [h1]
        · simp [h1]
      · intro i hi
        have : mem (cutF B 16) i = false := by
          unfold mem cutF
          rw [if_pos (by omega)]
          simp
        rw [this]
        unfold zeroB
        by_cases h1 : S i = 2
        · simp [h1]
        · simp [h1]
      · intro i
        have := hR.out.le i
        unfold zeroB
        split <;> omega
end Go.Proofs.YtnddahkkdcgpaaaDoor.Sp
