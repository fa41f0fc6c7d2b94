/- The law SpaceLeast, walked. -/
import Derived.Test.YtnddahkkdcgpaaaDoorSp10
namespace Go.Proofs.YtnddahkkdcgpaaaDoor.Sp
open Go.RowKit Go.Proofs.YtnddahkkdcgpaaaDoor Go.Proofs.YtnddahkkdcgpaaaDoorW.PrintWords Go.Proofs.YtnddahkkdcgpaaaDoorW.PrintLast Go.Proofs.YtnddahkkdcgpaaaDoorW.PrintMore
set_option linter.unusedVariables false
def tkS (k : Nat) : Nat → Nat := fun i => if i < k then 1 else 0
theorem tkS_step (k : Nat) : upd (tkS k) k 1 = tkS (k + 1) := by
  funext i
  unfold upd tkS
  by_cases e : i = k
  · subst e; simp
  · by_cases h : i < k
    · simp [e, h, Nat.lt_succ_of_lt h]
    · have : ¬ i < k + 1 := by omega
      simp [e, h, this]
theorem tkS_zero : tkS 0 = fun _ => 0 := by funext i; simp [tkS]
theorem tkS_num (n : Nat) : num n (tkS n) 0 = 0 := by
  unfold num cnt
  rw [List.countP_eq_zero]
  intro i hi
  have : i < n := by simpa using hi
  simp [tkS, this]
structure LeastMid (w wr : World) (g n k : Nat) : Prop where
  spc : Spc wr g n (tkS k)
  bel : Below w.heap.size w wr
set_option maxRecDepth 100000 in
set_option maxHeartbeats 4000000 in
theorem SpaceLeast_walk (w : World) (a : Int) (h0 : 0 ≤ a) (h1 : a ≤ 65535) (hT : TabAt 0 Lib.deBruijn64tab w) : Calls Tryd.prog 4 #[.int .u16 a] w fun e w' => e = .returned (.bool true) ∧ Below w.heap.size w w' := by
  have hw0 : 0 < w.heap.size := cell_lt (hT 0 (by decide))
  have cA := awake_walk w hT
  obtain ⟨n, hn⟩ : ∃ n : Nat, 1 + a % 1024 = (n : Int) := ⟨(1 + a % 1024).toNat, by omega⟩
  have hn1 : 1 ≤ n := by omega
  have hn2 : n ≤ 1024 := by omega
  replace hT := Lib.hid hT
  go_enter Tryd.func4, Tryd.ntmps4
  go_wp2_with fail
  refine cA.mono ?_
  rintro e w1 ⟨rfl, hB1⟩
  clear cA
  have l1 := hB1.size
  replace hB1 := Lib.hid hB1
  go_wp2_with fail
  refine (New_walk w1 n hn1 hn2).mono ?_
  rintro e w2 ⟨rfl, hS2, hB2⟩
  have hM : LeastMid w w2 w1.heap.size n 0 := ⟨by rw [tkS_zero]; exact hS2, hB1.out.trans (hB2.mono l1)⟩
  obtain ⟨g, hg⟩ : ∃ g, g = w1.heap.size := ⟨_, rfl⟩
  simp only [← hg] at hM ⊢
  have hwg : w.heap.size ≤ g := by omega
  clear hS2 hB2 hB1 hg l1 h0 h1
  replace hM := Lib.hid hM
  go_wp2_with fail
  go_loopw [6] (fun i wr => ∃ k : Nat, k ≤ n ∧ i = .int .i64 k ∧ LeastMid w wr g n k) (fun i _ => n - (intOf i).toNat)
  case atStart => exact ⟨0, by omega, rfl, hM.out⟩
  case round =>
    obtain ⟨k, hk, rfl, hR⟩ := hrel
    have cT := fun h1 h2 => Take_least _ g n k (tkS k) hR.spc (Tab.below hT.out hR.bel hw0) h1 h2
    by_cases hlt : k < n
    · replace cT := cT hlt (by simp [tkS]) (fun j hj => by simp [tkS, hj])
      rw [tkS_step] at cT
      replace hR := Lib.hid hR
      go_wp2_with (go_at_call 12; refine cT.mono ?_; clear cT; rintro e w3 ⟨rfl, hS3, hk3⟩)
      go_roundw
      case rel => exact ⟨k + 1, by omega, by go_num, hS3, hR.out.bel.trans (hk3.below hwg hR.out.bel.size)⟩
      case measure => simp [intOf]; omega
    · have hk' : k = n := by omega
      subst hk'
      clear cT
      have cT := Take_none _ g k (tkS k) hR.spc (Tab.below hT.out hR.bel hw0) (fun j hj => by simp [tkS, hj])
      replace hR := Lib.hid hR
      go_wp2_with fail
      refine cT.mono ?_
      rintro e w3 ⟨rfl, hS3, hk3⟩
      have cF := Free_walk w3 g k _ hS3
      rw [tkS_num] at cF
      have hb := Lib.hid (hR.out.bel.trans (hk3.below hwg hR.out.bel.size))
      clear cT hS3 hk3
      go_wp2_with fail
      refine cF.mono ?_
      rintro e w4 ⟨rfl, hd⟩
      clear cF
      go_wp2_with fail
      go_ret
      exact ⟨rfl, hb.out.trans (hd.below.mono hb.out.size)⟩
end Go.Proofs.YtnddahkkdcgpaaaDoor.Sp
