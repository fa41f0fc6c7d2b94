/- awake; no space. -/
import Derived.Test.YtnddahkkdcgpaaaDoorSp9
import Derived.Test.YtnddahkkdcgpaaaDoorSp5
namespace Go.Proofs.YtnddahkkdcgpaaaDoor.Sp
open Go.RowKit Go.Proofs.YtnddahkkdcgpaaaDoor Go.Proofs.YtnddahkkdcgpaaaDoorW.PrintWords Go.Proofs.YtnddahkkdcgpaaaDoorW.PrintLast Go.Proofs.YtnddahkkdcgpaaaDoorW.PrintMore
set_option linter.unusedVariables false
theorem Take_nil (w : World) : Calls Tryd.prog 12 #[.pointer none] w fun e w' => e = .returned (.tuple #[.int .i64 0, .int .i64 201]) ∧ Below w.heap.size w w' := by
  go_enter Tryd.func12, Tryd.ntmps12
  go_wp2
  refine bodyPost_ret (v := .tuple #[.int .i64 0, .int .i64 201]) (by simp [results, Tryd.f12, go_sem]) rfl ?_
  exact ⟨rfl, (((Below.refl _ w).alloc (Nat.le_refl _) _).alloc (by simp) _).alloc (by simp; omega) _⟩
theorem Mark_nil (w : World) (a : Int) : Calls Tryd.prog 16 #[.pointer none, .int .i64 a] w fun e w' => e = .returned (.int .i64 201) ∧ w' = w := by
  go_enter Tryd.func16, Tryd.ntmps16
  go_wp2
  go_ret
  exact ⟨rfl, rfl⟩
theorem Give_nil (w : World) (a : Int) : Calls Tryd.prog 10 #[.pointer none, .int .i64 a] w fun e w' => e = .returned (.int .i64 201) ∧ w' = w := by
  go_enter Tryd.func10, Tryd.ntmps10
  go_wp2
  go_ret
  exact ⟨rfl, rfl⟩
theorem Undo_nil (w : World) (a : Int) : Calls Tryd.prog 18 #[.pointer none, .int .i64 a] w fun e w' => e = .returned (.int .i64 201) ∧ w' = w := by
  go_enter Tryd.func18, Tryd.ntmps18
  go_wp2
  go_ret
  exact ⟨rfl, rfl⟩
theorem Settle_nil (w : World) : Calls Tryd.prog 11 #[.pointer none] w fun e w' => e = .returned (.int .i64 0) ∧ w' = w := by
  go_enter Tryd.func11, Tryd.ntmps11
  go_wp2
  go_ret
  exact ⟨rfl, rfl⟩
theorem Free_nil (w : World) : Calls Tryd.prog 13 #[.pointer none] w fun e w' => e = .returned (.int .i64 0) ∧ w' = w := by
  go_enter Tryd.func13, Tryd.ntmps13
  go_wp2
  go_ret
  exact ⟨rfl, rfl⟩
theorem State_nil (w : World) (a : Int) : Calls Tryd.prog 21 #[.pointer none, .int .i64 a] w fun e w' => e = .returned (.int .i64 (-1)) ∧ w' = w := by
  go_enter Tryd.func21, Tryd.ntmps21
  go_wp2
  go_ret
  exact ⟨rfl, rfl⟩
theorem Take_least (w : World) (g n i : Nat) (S : Nat → Nat) (hR : Spc w g n S) (hT : TabAt 0 Lib.deBruijn64tab w) (hi : i < n) (h0 : S i = 0) (hl : ∀ j, j < i → S j ≠ 0) :
    Calls Tryd.prog 12 #[.pointer (some ⟨g, 0, none⟩)] w fun e w' => e = .returned (.tuple #[.int .i64 i, .int .i64 0]) ∧ Spc w' g n (upd S i 1) ∧ Tch g w w' := by
  refine (Take_walk w g n S hR hT).mono ?_
  rintro e w2 (⟨j, rfl, hj, hj0, hjl, hk⟩ | ⟨_, hno, _, _⟩)
  · have e : j = i := by
      rcases Nat.lt_trichotomy j i with h | h | h
      · exact absurd hj0 (hl j h)
      · exact h
      · exact absurd h0 (hjl i h)
    subst e
    exact ⟨rfl, hk.spc, hk.tch⟩
  · exact absurd h0 (hno i hi)
theorem Take_none (w : World) (g n : Nat) (S : Nat → Nat) (hR : Spc w g n S) (hT : TabAt 0 Lib.deBruijn64tab w) (hl : ∀ j, j < n → S j ≠ 0) :
    Calls Tryd.prog 12 #[.pointer (some ⟨g, 0, none⟩)] w fun e w' => e = .returned (.tuple #[.int .i64 0, .int .i64 28]) ∧ Spc w' g n S ∧ Tch g w w' := by
  refine (Take_walk w g n S hR hT).mono ?_
  rintro e w2 (⟨j, rfl, hj, hj0, hjl, hk⟩ | ⟨rfl, hno, ht, hs⟩)
  · exact absurd hj0 (hl j hj)
  · exact ⟨rfl, hs, ht⟩
theorem Tab.below {w W : World} {B : Nat} (hT : TabAt 0 Lib.deBruijn64tab w) (h : Below B w W) (hB : 0 < B) : TabAt 0 Lib.deBruijn64tab W := fun j hj => (h.cell (p := ⟨0, j, none⟩) hB).trans (hT j hj)
set_option maxRecDepth 100000 in
set_option maxHeartbeats 4000000 in
theorem awake_walk (w : World) (hT : TabAt 0 Lib.deBruijn64tab w) : Calls Tryd.prog 8 #[] w fun e w' => e = .returned (.bool true) ∧ Below w.heap.size w w' := by
  have hw0 : 0 < w.heap.size := cell_lt (hT 0 (by decide))
  have cN := New_walk w 1 (by decide) (by decide)
  obtain ⟨g, hg⟩ : ∃ g, g = w.heap.size := ⟨_, rfl⟩
  rw [← hg] at cN hw0 ⊢
  have hgw : g ≤ w.heap.size := by omega
  clear hg
  replace hT := Lib.hid hT
  go_enter Tryd.func8, Tryd.ntmps8
  go_wp2_with (go_at_call 9; refine cN.mono ?_; clear cN; rintro e w1 ⟨rfl, hS1, hB1⟩)
  have l1 := hB1.size
  refine (Take_least w1 g 1 0 _ hS1 (Tab.below hT.out hB1 hw0) (by decide) rfl (fun j hj => by omega)).mono ?_
  rintro e w2 ⟨rfl, hS2, hk2⟩
  have hB2 := hB1.trans (hk2.below (B := g) (Nat.le_refl _) (by omega))
  have l2 := hB2.size
  clear hk2 hS1 hB1
  go_wp2_with fail
  have hn : ∀ j, j < 1 → upd (fun _ => 0) 0 1 j ≠ 0 := by
    intro j hj
    obtain rfl : j = 0 := by omega
    decide
  refine (Take_none w2 g 1 _ hS2 (Tab.below hT.out hB2 hw0) hn).mono ?_
  rintro e w3 ⟨rfl, hS3, hk3⟩
  have hB3 := hB2.trans (hk3.below (B := g) (Nat.le_refl _) (by omega))
  have l3 := hB3.size
  clear hk3 hS2 hB2 hn
  have e4 : chF 1 (upd (fun _ => 0) 0 1) 0 1 = 0 := by decide
  have cG := Give_walk w3 g 1 _ 0 hS3
  rw [e4] at cG
  go_wp2_with fail
  refine cG.mono ?_
  rintro e w4 ⟨rfl, hk4⟩
  have hS4 := hk4.spc
  rw [if_pos e4] at hS4
  have hB4 := hB3.trans (hk4.tch.below (B := g) (Nat.le_refl _) (by omega))
  have l4 := hB4.size
  clear hk4 hS3 hB3 cG e4
  have e5 : num 1 (upd (upd (fun _ => 0) 0 1) (0 : Int).toNat 2) 2 = 1 := by decide
  have e6 : num 1 (zeroB (upd (upd (fun _ => 0) 0 1) (0 : Int).toNat 2)) 0 = 1 := by decide
  have cS := Settle_walk w4 g 1 _ hS4
  rw [e5] at cS
  clear e5
  generalize upd (upd (fun _ => 0) 0 1) (0 : Int).toNat 2 = S4 at *
  go_wp2_with fail
  refine cS.mono ?_
  rintro e w5 ⟨rfl, hS5, hk5⟩
  have hB5 := hB4.trans (hk5.below (B := g) (Nat.le_refl _) (by omega))
  have l5 := hB5.size
  clear hk5 hS4 hB4 cS
  have cF := Free_walk w5 g 1 _ hS5
  rw [e6] at cF
  go_wp2_with fail
  refine cF.mono ?_
  rintro e w6 ⟨rfl, hd⟩
  replace hB5 := Lib.hid hB5
  clear cF hS5 e6
  go_wp2_with fail
  go_ret
  exact ⟨rfl, hB5.out.trans ⟨hd.below.os, hd.below.tape, hd.below.output, hd.below.size, fun k hk => hd.below.block k (by omega)⟩⟩
set_option maxRecDepth 100000 in
set_option maxHeartbeats 4000000 in
theorem SpaceNone_walk (w : World) (a : Int) (hT : TabAt 0 Lib.deBruijn64tab w) : Calls Tryd.prog 6 #[.int .i64 a] w fun e w' => e = .returned (.bool true) ∧ Below w.heap.size w w' := by
  have cA := awake_walk w hT
  clear hT
  go_enter Tryd.func6, Tryd.ntmps6
  go_wp2_with fail
  refine cA.mono ?_
  rintro e w1 ⟨rfl, hB1⟩
  clear cA
  go_wp2_with fail
  refine (Take_nil w1).mono ?_
  rintro e w2 ⟨rfl, hB2⟩
  replace hB1 := hB1.trans (hB2.mono hB1.size)
  replace hB1 := Lib.hid hB1
  clear hB2
  go_wp2_with (first | (go_at_call 16; refine (Mark_nil w2 a).mono ?_; rintro e w ⟨rfl, rfl⟩) | (go_at_call 10; refine (Give_nil _ a).mono ?_; rintro e w ⟨rfl, rfl⟩) | (go_at_call 18; refine (Undo_nil _ a).mono ?_; rintro e w ⟨rfl, rfl⟩) | (go_at_call 11; refine (Settle_nil _).mono ?_; rintro e w ⟨rfl, rfl⟩) | (go_at_call 13; refine (Free_nil _).mono ?_; rintro e w ⟨rfl, rfl⟩) | (go_at_call 21; refine (State_nil _ a).mono ?_; rintro e w ⟨rfl, rfl⟩))
  go_ret
  exact ⟨rfl, hB1.out⟩
end Go.Proofs.YtnddahkkdcgpaaaDoor.Sp
