/- The law PathFan as a function over numbers and lists, and its walk. -/
import Derived.Test.YtincgimbilnidaaMyAll
namespace Go.Proofs.Ytincgimbilnidaa.MyFan
open Go.RowKit Go.Proofs.Ytincgimbilnidaa.PPathSizes Go.Proofs.Ytincgimbilnidaa.MyAll Go.Proofs.YtincgimbilnidaaW.PrintWords Go.Proofs.YtincgimbilnidaaW.PrintLast Go.Proofs.YtincgimbilnidaaW.PrintMore
attribute [local go_sem] max2_int min2_int max_two min_two max_three min_three max_four min_four
set_option linter.unusedVariables false
set_option linter.unusedSimpArgs false

mutual
def oubliettelaw07_PathFan.j0 : Nat → List (S33) → Bool → Option (Bool)
  | 0, _, _ => none
  | k + 1, x4, x29 => if x29 = true then (some false) else (oubliettelaw07_PathFan.l0 k x4 1)
def oubliettelaw07_PathFan.l0 : Nat → List (S33) → Int → Option (Bool)
  | 0, _, _ => none
  | k + 1, x4, x5 => if x5 < (x4.length : Int) then (oubliettelaw07_PathFan.l1 k x4 x5 false 0) else (some true)
def oubliettelaw07_PathFan.l1 : Nat → List (S33) → Int → Bool → Int → Option (Bool)
  | 0, _, _, _, _ => none
  | k + 1, x4, x5, x6, x7 => if x7 < x5 then (if x6 = true then (oubliettelaw07_PathFan.l1 k x4 x5 true (wrap64 (x7 + 1))) else (if 0 ≤ x7 then (if x7 < (x4.length : Int) then (if 0 ≤ x5 then (if x5 < (x4.length : Int) then (if ((rd_T33 x4 x7).f0) = (wrap64 (((rd_T33 x4 x5).f0) - 1)) then (oubliettelaw07_PathFan.l1 k x4 x5 (((rd_T33 x4 x7).f1) == (wrap64 (Int.tdiv ((rd_T33 x4 x5).f1) 4))) (wrap64 (x7 + 1))) else (oubliettelaw07_PathFan.l1 k x4 x5 false (wrap64 (x7 + 1)))) else (none)) else (none)) else (none)) else (none))) else (if x6 = true then (oubliettelaw07_PathFan.l0 k x4 (wrap64 (x5 + 1))) else (some false))
end
def oubliettelaw07_PathFan.f (k : Nat) (a0 : Int) : Option (Bool) := (oubliettelaw07_awake.f k).bind fun t127 => (if t127 = true then ((path_All.f k (wrap64 (1 + (wrap64 (Int.tmod a0 4))))).bind fun t128 => ((path_Slots.f (wrap64 (1 + (wrap64 (Int.tmod a0 4))))).bind fun t131 => (if (wrap64 (3 * (t128.length : Int))) = (wrap64 (t131 - 1)) then ((path_Nodes.f (wrap64 (1 + (wrap64 (Int.tmod a0 4))))).bind fun t132 => (oubliettelaw07_PathFan.j0 k t128 (t132 != (t128.length : Int)))) else (oubliettelaw07_PathFan.j0 k t128 true)))) else (some false))
theorem oubliettelaw07_PathFan.mono_l : ∀ k, (∀ y0 y1, LeO (oubliettelaw07_PathFan.j0 k y0 y1) (oubliettelaw07_PathFan.j0 (k + 1) y0 y1)) ∧ (∀ y0 y1, LeO (oubliettelaw07_PathFan.l0 k y0 y1) (oubliettelaw07_PathFan.l0 (k + 1) y0 y1)) ∧ (∀ y0 y1 y2 y3, LeO (oubliettelaw07_PathFan.l1 k y0 y1 y2 y3) (oubliettelaw07_PathFan.l1 (k + 1) y0 y1 y2 y3))
  | 0 => ⟨fun _ _ r h => by simp [oubliettelaw07_PathFan.j0] at h, fun _ _ r h => by simp [oubliettelaw07_PathFan.l0] at h, fun _ _ _ _ r h => by simp [oubliettelaw07_PathFan.l1] at h⟩
  | k + 1 => by
    obtain ⟨ih0, ih1, ih2⟩ := oubliettelaw07_PathFan.mono_l k
    refine ⟨?_, ?_, ?_⟩
    · intro y0 y1
      unfold oubliettelaw07_PathFan.j0
      repeat' first
      | (with_reducible exact ih0 _ _)
      | (with_reducible exact ih1 _ _)
      | (with_reducible exact ih2 _ _ _ _)
      | (with_reducible exact oubliettelaw07_awake.mono _)
      | (with_reducible exact path_All.mono _ _)
      | (with_reducible exact LeO.refl _)
      | (with_reducible exact LeO.none _)
      | (with_reducible refine LeO.ite ?_ ?_)
      | (with_reducible refine LeO.bind ?_ (fun _ => ?_))
      | exact ih0 _ _
      | exact ih1 _ _
      | exact ih2 _ _ _ _
      | exact oubliettelaw07_awake.mono _
      | exact path_All.mono _ _
      | exact LeO.none _
      | refine LeO.ite ?_ ?_
      | refine LeO.bind ?_ (fun _ => ?_)
    · intro y0 y1
      unfold oubliettelaw07_PathFan.l0
      repeat' first
      | (with_reducible exact ih0 _ _)
      | (with_reducible exact ih1 _ _)
      | (with_reducible exact ih2 _ _ _ _)
      | (with_reducible exact oubliettelaw07_awake.mono _)
      | (with_reducible exact path_All.mono _ _)
      | (with_reducible exact LeO.refl _)
      | (with_reducible exact LeO.none _)
      | (with_reducible refine LeO.ite ?_ ?_)
      | (with_reducible refine LeO.bind ?_ (fun _ => ?_))
      | exact ih0 _ _
      | exact ih1 _ _
      | exact ih2 _ _ _ _
      | exact oubliettelaw07_awake.mono _
      | exact path_All.mono _ _
      | exact LeO.none _
      | refine LeO.ite ?_ ?_
      | refine LeO.bind ?_ (fun _ => ?_)
    · intro y0 y1 y2 y3
      unfold oubliettelaw07_PathFan.l1
      repeat' first
      | (with_reducible exact ih0 _ _)
      | (with_reducible exact ih1 _ _)
      | (with_reducible exact ih2 _ _ _ _)
      | (with_reducible exact oubliettelaw07_awake.mono _)
      | (with_reducible exact path_All.mono _ _)
      | (with_reducible exact LeO.refl _)
      | (with_reducible exact LeO.none _)
      | (with_reducible refine LeO.ite ?_ ?_)
      | (with_reducible refine LeO.bind ?_ (fun _ => ?_))
      | exact ih0 _ _
      | exact ih1 _ _
      | exact ih2 _ _ _ _
      | exact oubliettelaw07_awake.mono _
      | exact path_All.mono _ _
      | exact LeO.none _
      | refine LeO.ite ?_ ?_
      | refine LeO.bind ?_ (fun _ => ?_)
theorem oubliettelaw07_PathFan.mono : ∀ a0 k, LeO (oubliettelaw07_PathFan.f k a0) (oubliettelaw07_PathFan.f (k + 1) a0) := by
  intro a0 k
  obtain ⟨ih0, ih1, ih2⟩ := oubliettelaw07_PathFan.mono_l k
  unfold oubliettelaw07_PathFan.f
  repeat' first
      | (with_reducible exact ih0 _ _)
      | (with_reducible exact ih1 _ _)
      | (with_reducible exact ih2 _ _ _ _)
      | (with_reducible exact oubliettelaw07_awake.mono _)
      | (with_reducible exact path_All.mono _ _)
      | (with_reducible exact LeO.refl _)
      | (with_reducible exact LeO.none _)
      | (with_reducible refine LeO.ite ?_ ?_)
      | (with_reducible refine LeO.bind ?_ (fun _ => ?_))
      | exact ih0 _ _
      | exact ih1 _ _
      | exact ih2 _ _ _ _
      | exact oubliettelaw07_awake.mono _
      | exact path_All.mono _ _
      | exact LeO.none _
      | refine LeO.ite ?_ ?_
      | refine LeO.bind ?_ (fun _ => ?_)
set_option maxHeartbeats 8000000 in
set_option maxRecDepth 100000 in
theorem oubliettelaw07_PathFan.calls (k : Nat) (a0 : Int) (r : Bool) (w : World) (h : oubliettelaw07_PathFan.f k a0 = some r) :
    Calls Try.prog 5 #[.int .u8 a0] w fun e w' => e = .returned (.bool r) ∧ Below w.heap.size w w' := by
  have HB := Aside0.mk (Below.refl w.heap.size w)
  have H : ((oubliettelaw07_awake.f k).bind fun t127 => (if t127 = true then ((path_All.f k (wrap64 (1 + (wrap64 (Int.tmod a0 4))))).bind fun t128 => ((path_Slots.f (wrap64 (1 + (wrap64 (Int.tmod a0 4))))).bind fun t131 => (if (wrap64 (3 * (t128.length : Int))) = (wrap64 (t131 - 1)) then ((path_Nodes.f (wrap64 (1 + (wrap64 (Int.tmod a0 4))))).bind fun t132 => (oubliettelaw07_PathFan.j0 k t128 (t132 != (t128.length : Int)))) else (oubliettelaw07_PathFan.j0 k t128 true)))) else (some false))) = some r := h
  clear h
  replace H := Option.bind_eq_some_iff.mp H
  obtain ⟨t127, A20, H⟩ := H
  replace H : (if t127 = true then ((path_All.f k (wrap64 (1 + (wrap64 (Int.tmod a0 4))))).bind fun t128 => ((path_Slots.f (wrap64 (1 + (wrap64 (Int.tmod a0 4))))).bind fun t131 => (if (wrap64 (3 * (t128.length : Int))) = (wrap64 (t131 - 1)) then ((path_Nodes.f (wrap64 (1 + (wrap64 (Int.tmod a0 4))))).bind fun t132 => (oubliettelaw07_PathFan.j0 k t128 (t132 != (t128.length : Int)))) else (oubliettelaw07_PathFan.j0 k t128 true)))) else (some false)) = some r := H
  have A2 := Aside0.mk A20
  clear A20
  by_cases c3 : t127 = true
  · subst c3
    have H1 : ((path_All.f k (wrap64 (1 + (wrap64 (Int.tmod a0 4))))).bind fun t128 => ((path_Slots.f (wrap64 (1 + (wrap64 (Int.tmod a0 4))))).bind fun t131 => (if (wrap64 (3 * (t128.length : Int))) = (wrap64 (t131 - 1)) then ((path_Nodes.f (wrap64 (1 + (wrap64 (Int.tmod a0 4))))).bind fun t132 => (oubliettelaw07_PathFan.j0 k t128 (t132 != (t128.length : Int)))) else (oubliettelaw07_PathFan.j0 k t128 true)))) = some r := by rw [if_pos rfl] at H; exact H
    clear H
    have H := H1
    clear H1
    replace H := Option.bind_eq_some_iff.mp H
    obtain ⟨t128, A40, H⟩ := H
    replace H : ((path_Slots.f (wrap64 (1 + (wrap64 (Int.tmod a0 4))))).bind fun t131 => (if (wrap64 (3 * (t128.length : Int))) = (wrap64 (t131 - 1)) then ((path_Nodes.f (wrap64 (1 + (wrap64 (Int.tmod a0 4))))).bind fun t132 => (oubliettelaw07_PathFan.j0 k t128 (t132 != (t128.length : Int)))) else (oubliettelaw07_PathFan.j0 k t128 true))) = some r := H
    have A4 := Aside0.mk A40
    clear A40
    have HC5 := Aside0.mk H
    clear H
    go_enter Try.func5, Try.ntmps5
    go_upto_region 5 with (first | (go_at_call 8; (with_reducible refine (oubliettelaw07_awake.calls k  true _ A2.out).mono ?_); rintro e w6 ⟨rfl, hb⟩; have n0_ := Aside0.mk (below_step (by repeat (first | (with_reducible first | exact HB.out | apply below_alloc | apply pw_below_drewN | apply below_drew1) | exact HB.out)) hb); clear HB; have HB := n0_; clear n0_; (try clear hb); (try clear hb2); (try clear hk); (try clear hi)) | (go_at_call 17; (with_reducible refine (path_All.calls k (wrap64 (1 + (wrap64 (Int.tmod a0 4)))) t128 _ A4.out).mono ?_); rintro e w7 ⟨v129, rfl, ho0, hb⟩; have n0_ := Aside0.mk (Kd.R_lower ho0 (below_size (by repeat (first | (with_reducible first | exact HB.out | apply below_alloc | apply pw_below_drewN | apply below_drew1) | exact HB.out)))); have n1_ := Aside0.mk (below_step (by repeat (first | (with_reducible first | exact HB.out | apply below_alloc | apply pw_below_drewN | apply below_drew1) | exact HB.out)) hb); clear HB; have HO130 := n0_; have HB := n1_; clear n0_ n1_; (try clear hb); (try clear hb2); (try clear hk); (try clear hi); (try clear ho0)))
    repeat (go_quiet (first | (go_at_call 8; (with_reducible refine (oubliettelaw07_awake.calls k  true _ A2.out).mono ?_); rintro e w6 ⟨rfl, hb⟩; have n0_ := Aside0.mk (below_step (by repeat (first | (with_reducible first | exact HB.out | apply below_alloc | apply pw_below_drewN | apply below_drew1) | exact HB.out)) hb); clear HB; have HB := n0_; clear n0_; (try clear hb); (try clear hb2); (try clear hk); (try clear hi)) | (go_at_call 17; (with_reducible refine (path_All.calls k (wrap64 (1 + (wrap64 (Int.tmod a0 4)))) t128 _ A4.out).mono ?_); rintro e w7 ⟨v129, rfl, ho0, hb⟩; have n0_ := Aside0.mk (Kd.R_lower ho0 (below_size (by repeat (first | (with_reducible first | exact HB.out | apply below_alloc | apply pw_below_drewN | apply below_drew1) | exact HB.out)))); have n1_ := Aside0.mk (below_step (by repeat (first | (with_reducible first | exact HB.out | apply below_alloc | apply pw_below_drewN | apply below_drew1) | exact HB.out)) hb); clear HB; have HO130 := n0_; have HB := n1_; clear n0_ n1_; (try clear hb); (try clear hb2); (try clear hk); (try clear hi); (try clear ho0))); go_upto_region 5 with (first | (go_at_call 8; (with_reducible refine (oubliettelaw07_awake.calls k  true _ A2.out).mono ?_); rintro e w6 ⟨rfl, hb⟩; have n0_ := Aside0.mk (below_step (by repeat (first | (with_reducible first | exact HB.out | apply below_alloc | apply pw_below_drewN | apply below_drew1) | exact HB.out)) hb); clear HB; have HB := n0_; clear n0_; (try clear hb); (try clear hb2); (try clear hk); (try clear hi)) | (go_at_call 17; (with_reducible refine (path_All.calls k (wrap64 (1 + (wrap64 (Int.tmod a0 4)))) t128 _ A4.out).mono ?_); rintro e w7 ⟨v129, rfl, ho0, hb⟩; have n0_ := Aside0.mk (Kd.R_lower ho0 (below_size (by repeat (first | (with_reducible first | exact HB.out | apply below_alloc | apply pw_below_drewN | apply below_drew1) | exact HB.out)))); have n1_ := Aside0.mk (below_step (by repeat (first | (with_reducible first | exact HB.out | apply below_alloc | apply pw_below_drewN | apply below_drew1) | exact HB.out)) hb); clear HB; have HO130 := n0_; have HB := n1_; clear n0_ n1_; (try clear hb); (try clear hb2); (try clear hk); (try clear hi); (try clear ho0))))
    (try simp only [Act.put, List.setIfInBounds_toArray, List.set_cons_zero, List.set_cons_succ])
    go_cut [29] (fun v29 wc => ∃ (kq : Nat) (x29_4 : Bool), v29 = .bool x29_4 ∧ Aside0 (oubliettelaw07_PathFan.j0 kq t128 x29_4 = some r) ∧ Aside0 (kq ≤ k) ∧ Aside0 (Kd.R k33 33 wc w.heap.size (fun _ => True) v129 t128) ∧ Aside0 (Below w.heap.size w wc))
    case first =>
      have H := HC5.out
      clear HC5
      replace H := Option.bind_eq_some_iff.mp H
      obtain ⟨t131, A80, H⟩ := H
      replace H : (if (wrap64 (3 * (t128.length : Int))) = (wrap64 (t131 - 1)) then ((path_Nodes.f (wrap64 (1 + (wrap64 (Int.tmod a0 4))))).bind fun t132 => (oubliettelaw07_PathFan.j0 k t128 (t132 != (t128.length : Int)))) else (oubliettelaw07_PathFan.j0 k t128 true)) = some r := H
      have A8 := Aside0.mk A80
      clear A80
      by_cases c9 : (wrap64 (3 * (t128.length : Int))) = (wrap64 (t131 - 1))
      · rw [if_pos c9] at H
        have c9b0 : ((wrap64 (3 * (t128.length : Int))) == (wrap64 (t131 - 1))) = true := beq_iff_eq.mpr c9
        have c9b1 : ((wrap64 (3 * (t128.length : Int))) != (wrap64 (t131 - 1))) = false := bne_eq_false_iff_eq.mpr c9
        clear c9
        (first | rw [c9b0] | (simp only [i64_w, i32_w]; rw [c9b0]) | skip)
        replace H := Option.bind_eq_some_iff.mp H
        obtain ⟨t132, A100, H⟩ := H
        replace H : (oubliettelaw07_PathFan.j0 k t128 (t132 != (t128.length : Int))) = some r := H
        have A10 := Aside0.mk A100
        clear A100
        have H' := Aside0.mk H
        clear H
        obtain ⟨Ao11, co11, eo11⟩ := Kd.R_slice HO130.out
        subst eo11
        go_wp2_with (first | (go_at_call 13; (with_reducible refine (path_Slots.calls (wrap64 (1 + (wrap64 (Int.tmod a0 4)))) t131 _ A8.out).mono ?_); rintro e w' ⟨rfl, ⟨nd, rfl⟩⟩; (try first | exact ⟨rfl, _, World.drewN_drewN _ _ _⟩ | exact ⟨rfl, _, Eq.trans (World.drewN_drewN _ _ _) (congrArg (World.drewN _) (Nat.add_assoc _ _ _))⟩)) | (go_at_call 15; (with_reducible refine (path_Nodes.calls (wrap64 (1 + (wrap64 (Int.tmod a0 4)))) t132 _ A10.out).mono ?_); rintro e w12 ⟨rfl, hb⟩; have n0_ := Aside0.mk (Kd.R_below (by (with_reducible repeat (first | apply Kd.R_alloc | apply Kd.R_drewN | apply Kd.R_drew)); exact HO130.out) hb); have n1_ := Aside0.mk (below_step (by repeat (first | (with_reducible first | exact HB.out | apply below_alloc | apply pw_below_drewN | apply below_drew1) | exact HB.out)) hb); clear HO130; clear HB; have HO130 := n0_; have HB := n1_; clear n0_ n1_; (try clear hb); (try clear hb2); (try clear hk); (try clear hi)))
        repeat (go_quiet (first | (go_at_call 13; (with_reducible refine (path_Slots.calls (wrap64 (1 + (wrap64 (Int.tmod a0 4)))) t131 _ A8.out).mono ?_); rintro e w' ⟨rfl, ⟨nd, rfl⟩⟩; (try first | exact ⟨rfl, _, World.drewN_drewN _ _ _⟩ | exact ⟨rfl, _, Eq.trans (World.drewN_drewN _ _ _) (congrArg (World.drewN _) (Nat.add_assoc _ _ _))⟩)) | (go_at_call 15; (with_reducible refine (path_Nodes.calls (wrap64 (1 + (wrap64 (Int.tmod a0 4)))) t132 _ A10.out).mono ?_); rintro e w12 ⟨rfl, hb⟩; have n0_ := Aside0.mk (Kd.R_below (by (with_reducible repeat (first | apply Kd.R_alloc | apply Kd.R_drewN | apply Kd.R_drew)); exact HO130.out) hb); have n1_ := Aside0.mk (below_step (by repeat (first | (with_reducible first | exact HB.out | apply below_alloc | apply pw_below_drewN | apply below_drew1) | exact HB.out)) hb); clear HO130; clear HB; have HO130 := n0_; have HB := n1_; clear n0_ n1_; (try clear hb); (try clear hb2); (try clear hk); (try clear hi))); try go_wp2_with (first | (go_at_call 13; (with_reducible refine (path_Slots.calls (wrap64 (1 + (wrap64 (Int.tmod a0 4)))) t131 _ A8.out).mono ?_); rintro e w' ⟨rfl, ⟨nd, rfl⟩⟩; (try first | exact ⟨rfl, _, World.drewN_drewN _ _ _⟩ | exact ⟨rfl, _, Eq.trans (World.drewN_drewN _ _ _) (congrArg (World.drewN _) (Nat.add_assoc _ _ _))⟩)) | (go_at_call 15; (with_reducible refine (path_Nodes.calls (wrap64 (1 + (wrap64 (Int.tmod a0 4)))) t132 _ A10.out).mono ?_); rintro e w12 ⟨rfl, hb⟩; have n0_ := Aside0.mk (Kd.R_below (by (with_reducible repeat (first | apply Kd.R_alloc | apply Kd.R_drewN | apply Kd.R_drew)); exact HO130.out) hb); have n1_ := Aside0.mk (below_step (by repeat (first | (with_reducible first | exact HB.out | apply below_alloc | apply pw_below_drewN | apply below_drew1) | exact HB.out)) hb); clear HO130; clear HB; have HO130 := n0_; have HB := n1_; clear n0_ n1_; (try clear hb); (try clear hb2); (try clear hk); (try clear hi))))
        go_meet
        case rel => exact ⟨_, ((t132 != (t128.length : Int))), (by first | rfl | (simp; done) | (simp [*]; done)), H', ⟨by first | omega | exact Nat.le_refl _⟩, ⟨by (with_reducible repeat (first | apply Kd.R_alloc | apply Kd.R_drewN | apply Kd.R_drew)); exact HO130.out⟩, ⟨by repeat (first | (with_reducible first | exact HB.out | apply below_alloc | apply pw_below_drewN | apply below_drew1) | exact HB.out)⟩⟩
      · rw [if_neg c9] at H
        have c9b0 : ((wrap64 (3 * (t128.length : Int))) == (wrap64 (t131 - 1))) = false := beq_eq_false_iff_ne.mpr c9
        have c9b1 : ((wrap64 (3 * (t128.length : Int))) != (wrap64 (t131 - 1))) = true := bne_iff_ne.mpr c9
        (first | rw [c9b0] | (simp only [i64_w, i32_w]; rw [c9b0]) | skip)
        have H' := Aside0.mk H
        clear H
        obtain ⟨Ao13, co13, eo13⟩ := Kd.R_slice HO130.out
        subst eo13
        go_wp2_with (first | (go_at_call 13; (with_reducible refine (path_Slots.calls (wrap64 (1 + (wrap64 (Int.tmod a0 4)))) t131 _ A8.out).mono ?_); rintro e w' ⟨rfl, ⟨nd, rfl⟩⟩; (try first | exact ⟨rfl, _, World.drewN_drewN _ _ _⟩ | exact ⟨rfl, _, Eq.trans (World.drewN_drewN _ _ _) (congrArg (World.drewN _) (Nat.add_assoc _ _ _))⟩)))
        repeat (go_quiet (first | (go_at_call 13; (with_reducible refine (path_Slots.calls (wrap64 (1 + (wrap64 (Int.tmod a0 4)))) t131 _ A8.out).mono ?_); rintro e w' ⟨rfl, ⟨nd, rfl⟩⟩; (try first | exact ⟨rfl, _, World.drewN_drewN _ _ _⟩ | exact ⟨rfl, _, Eq.trans (World.drewN_drewN _ _ _) (congrArg (World.drewN _) (Nat.add_assoc _ _ _))⟩))); try go_wp2_with (first | (go_at_call 13; (with_reducible refine (path_Slots.calls (wrap64 (1 + (wrap64 (Int.tmod a0 4)))) t131 _ A8.out).mono ?_); rintro e w' ⟨rfl, ⟨nd, rfl⟩⟩; (try first | exact ⟨rfl, _, World.drewN_drewN _ _ _⟩ | exact ⟨rfl, _, Eq.trans (World.drewN_drewN _ _ _) (congrArg (World.drewN _) (Nat.add_assoc _ _ _))⟩))))
        go_meet
        case rel => exact ⟨_, (true), (by first | rfl | (simp; done) | (simp [*]; done)), H', ⟨by first | omega | exact Nat.le_refl _⟩, ⟨by (with_reducible repeat (first | apply Kd.R_alloc | apply Kd.R_drewN | apply Kd.R_drew)); exact HO130.out⟩, ⟨by repeat (first | (with_reducible first | exact HB.out | apply below_alloc | apply pw_below_drewN | apply below_drew1) | exact HB.out)⟩⟩
    case rest =>
      clear HC5
      try clear p2
      try clear c3
      try clear c5
      try clear p6
      try clear c9
      try clear c9b0
      try clear c9b1
      obtain ⟨kq, x29_4, rfl, HA, HJ4, HO_4, HB⟩ := hcut
      cases kq with
      | zero => exact absurd HA.out (by simp [oubliettelaw07_PathFan.j0])
      | succ kj4 =>
        have H := HA.out
        clear HA
        simp only [oubliettelaw07_PathFan.j0] at H
        by_cases c14 : x29_4 = true
        · subst c14
          have H1 : (some false) = some r := by rw [if_pos rfl] at H; exact H
          clear H
          have H := H1
          clear H1
          obtain rfl := Option.some.inj H
          go_wp2
          repeat (go_quiet (fail); try go_wp2)
          go_ret
          exact ⟨by first | rfl | (simp [errW_none, errW_some] <;> rfl) | (simp [*, errW_none, errW_some] <;> rfl), by repeat (first | (with_reducible first | exact HB.out | apply below_alloc | apply pw_below_drewN | apply below_drew1) | exact HB.out)⟩
        · replace c14 := Bool.eq_false_iff.mpr c14
          subst c14
          have H1 : (oubliettelaw07_PathFan.l0 kj4 t128 1) = some r := by rw [if_neg (show ¬ (false = true) by decide)] at H; exact H
          clear H
          have H := H1
          clear H1
          have H' := Aside0.mk H
          clear H
          go_wp2
          repeat (go_quiet (fail); try go_wp2)
          go_loopg [5] kj4 (fun kq v5 w' => ∃ (x5_2 : Int), v5 = .int .i64 x5_2 ∧ Aside0 (oubliettelaw07_PathFan.l0 kq t128 x5_2 = some r) ∧ Aside0 (kq ≤ kj4) ∧ Aside0 (Kd.R k33 33 w' w.heap.size (fun _ => True) v129 t128) ∧ Aside0 (Below w.heap.size w w'))
          case atStart => exact ⟨(1), (by first | rfl | (simp; done) | (simp [*]; done)), H', ⟨Nat.le_refl _⟩, ⟨by (with_reducible repeat (first | apply Kd.R_alloc | apply Kd.R_drewN | apply Kd.R_drew)); exact HO_4.out⟩, ⟨by repeat (first | (with_reducible first | exact HB.out | apply below_alloc | apply pw_below_drewN | apply below_drew1) | exact HB.out)⟩⟩
          case round =>
            clear H'
            try clear c1
            try clear p2
            try clear c3
            try clear c5
            try clear p6
            try clear c9
            try clear c9b0
            try clear c9b1
            try clear c14
            try clear p2
            try clear p6
            obtain ⟨x5_2, rfl, HA, HK2, HO_4, HB⟩ := hrel
            cases gk with
            | zero => exact absurd HA.out (by simp [oubliettelaw07_PathFan.l0])
            | succ k2 =>
              have H := HA.out
              clear HA
              simp only [oubliettelaw07_PathFan.l0] at H
              by_cases c15 : x5_2 < (t128.length : Int)
              · rw [if_pos c15] at H
                have c15b0 : decide (x5_2 < (t128.length : Int)) = true := decide_eq_true c15
                clear c15
                have H' := Aside0.mk H
                clear H
                obtain ⟨Ao16, co16, eo16⟩ := Kd.R_slice HO_4.out
                subst eo16
                go_wp2
                repeat (go_quiet (fail); try go_wp2)
                go_loopg [6, 7] k2 (fun kq v6 v7 w' => ∃ (x6_3 : Bool) (x7_3 : Int), v6 = .bool x6_3 ∧ v7 = .int .i64 x7_3 ∧ Aside0 (oubliettelaw07_PathFan.l1 kq t128 x5_2 x6_3 x7_3 = some r) ∧ Aside0 (kq ≤ k2) ∧ Aside0 (Kd.R k33 33 w' w.heap.size (fun _ => True) (.slice Ao16 t128.length co16) t128) ∧ Aside0 (Below w.heap.size w w'))
                case atStart => exact ⟨(false), (0), (by first | rfl | (simp; done) | (simp [*]; done)), (by first | rfl | (simp; done) | (simp [*]; done)), H', ⟨Nat.le_refl _⟩, ⟨by (with_reducible repeat (first | apply Kd.R_alloc | apply Kd.R_drewN | apply Kd.R_drew)); exact HO_4.out⟩, ⟨by repeat (first | (with_reducible first | exact HB.out | apply below_alloc | apply pw_below_drewN | apply below_drew1) | exact HB.out)⟩⟩
                case round =>
                  clear H'
                  try clear c1
                  try clear p2
                  try clear c3
                  try clear c5
                  try clear p6
                  try clear c9
                  try clear c9b0
                  try clear c9b1
                  try clear c14
                  try clear c15
                  try clear c15b0
                  try clear p2
                  try clear p6
                  obtain ⟨x6_3, x7_3, rfl, rfl, HA, HK3, HO_4, HB⟩ := hrel
                  cases gk with
                  | zero => exact absurd HA.out (by simp [oubliettelaw07_PathFan.l1])
                  | succ k3 =>
                    have H := HA.out
                    clear HA
                    simp only [oubliettelaw07_PathFan.l1] at H
                    by_cases c17 : x7_3 < x5_2
                    · rw [if_pos c17] at H
                      have c17b0 : decide (x7_3 < x5_2) = true := decide_eq_true c17
                      clear c17
                      by_cases c18 : x6_3 = true
                      · subst c18
                        have H1 : (oubliettelaw07_PathFan.l1 k3 t128 x5_2 true (wrap64 (x7_3 + 1))) = some r := by rw [if_pos rfl] at H; exact H
                        clear H
                        have H := H1
                        clear H1
                        have H' := Aside0.mk H
                        clear H
                        go_wp2
                        repeat (go_quiet (fail); try go_wp2)
                        go_roundg k3
                        case measure => have := HJ4.out; have := HK2.out; have := HK3.out; omega
                        case rel => exact ⟨(true), (wrap64 (x7_3 + 1)), (by first | rfl | (simp; done) | (simp [*]; done)), (by first | rfl | (simp; done) | (simp [*]; done)), H', ⟨by have := HJ4.out; have := HK2.out; have := HK3.out; omega⟩, ⟨by (with_reducible repeat (first | apply Kd.R_alloc | apply Kd.R_drewN | apply Kd.R_drew)); exact HO_4.out⟩, ⟨by repeat (first | (with_reducible first | exact HB.out | apply below_alloc | apply pw_below_drewN | apply below_drew1) | exact HB.out)⟩⟩
                      · replace c18 := Bool.eq_false_iff.mpr c18
                        subst c18
                        have H1 : (if 0 ≤ x7_3 then (if x7_3 < (t128.length : Int) then (if 0 ≤ x5_2 then (if x5_2 < (t128.length : Int) then (if ((rd_T33 t128 x7_3).f0) = (wrap64 (((rd_T33 t128 x5_2).f0) - 1)) then (oubliettelaw07_PathFan.l1 k3 t128 x5_2 (((rd_T33 t128 x7_3).f1) == (wrap64 (Int.tdiv ((rd_T33 t128 x5_2).f1) 4))) (wrap64 (x7_3 + 1))) else (oubliettelaw07_PathFan.l1 k3 t128 x5_2 false (wrap64 (x7_3 + 1)))) else (none)) else (none)) else (none)) else (none)) = some r := by rw [if_neg (show ¬ (false = true) by decide)] at H; exact H
                        clear H
                        have H := H1
                        clear H1
                        by_cases c19 : 0 ≤ x7_3
                        · rw [if_pos c19] at H
                          have c19b0 : decide (0 ≤ x7_3) = true := decide_eq_true c19
                          clear c19
                          by_cases c20 : x7_3 < (t128.length : Int)
                          · rw [if_pos c20] at H
                            have c20b0 : decide (x7_3 < (t128.length : Int)) = true := decide_eq_true c20
                            clear c20
                            by_cases c21 : 0 ≤ x5_2
                            · rw [if_pos c21] at H
                              have c21b0 : decide (0 ≤ x5_2) = true := decide_eq_true c21
                              clear c21
                              by_cases c22 : x5_2 < (t128.length : Int)
                              · rw [if_pos c22] at H
                                have c22b0 : decide (x5_2 < (t128.length : Int)) = true := decide_eq_true c22
                                clear c22
                                by_cases c23 : ((rd_T33 t128 x7_3).f0) = (wrap64 (((rd_T33 t128 x5_2).f0) - 1))
                                · rw [if_pos c23] at H
                                  have c23b0 : (((rd_T33 t128 x7_3).f0) == (wrap64 (((rd_T33 t128 x5_2).f0) - 1))) = true := beq_iff_eq.mpr c23
                                  have c23b1 : (((rd_T33 t128 x7_3).f0) != (wrap64 (((rd_T33 t128 x5_2).f0) - 1))) = false := bne_eq_false_iff_eq.mpr c23
                                  clear c23
                                  have H' := Aside0.mk H
                                  clear H
                                  have p133 : 0 ≤ (x7_3 : Int) := of_decide_eq_true (by first | (with_reducible assumption) | assumption)
                                  have q133 : x7_3 < (t128.length : Int) := of_decide_eq_true (by first | (with_reducible assumption) | assumption)
                                  obtain ⟨ad133, e133, hx133_0, hx133_1⟩ := at_T33 (Kd.R_reads' HO_4.out).2.2 x7_3 p133 q133
                                  cases e133
                                  replace p133 := eq_true p133
                                  replace q133 := eq_true q133
                                  have p134 : 0 ≤ (x5_2 : Int) := of_decide_eq_true (by first | (with_reducible assumption) | assumption)
                                  have q134 : x5_2 < (t128.length : Int) := of_decide_eq_true (by first | (with_reducible assumption) | assumption)
                                  obtain ⟨ad134, e134, hx134_0, hx134_1⟩ := at_T33 (Kd.R_reads' HO_4.out).2.2 x5_2 p134 q134
                                  obtain rfl : ad133 = ad134 := (by injection e134)
                                  replace p134 := eq_true p134
                                  replace q134 := eq_true q134
                                  have p135 : 0 ≤ (x7_3 : Int) := of_decide_eq_true (by first | (with_reducible assumption) | assumption)
                                  have q135 : x7_3 < (t128.length : Int) := of_decide_eq_true (by first | (with_reducible assumption) | assumption)
                                  obtain ⟨ad135, e135, hx135_0, hx135_1⟩ := at_T33 (Kd.R_reads' HO_4.out).2.2 x7_3 p135 q135
                                  obtain rfl : ad133 = ad135 := (by injection e135)
                                  replace p135 := eq_true p135
                                  replace q135 := eq_true q135
                                  have p136 : 0 ≤ (x5_2 : Int) := of_decide_eq_true (by first | (with_reducible assumption) | assumption)
                                  have q136 : x5_2 < (t128.length : Int) := of_decide_eq_true (by first | (with_reducible assumption) | assumption)
                                  obtain ⟨ad136, e136, hx136_0, hx136_1⟩ := at_T33 (Kd.R_reads' HO_4.out).2.2 x5_2 p136 q136
                                  obtain rfl : ad133 = ad136 := (by injection e136)
                                  replace p136 := eq_true p136
                                  replace q136 := eq_true q136
                                  go_wp2
                                  repeat (go_quiet (fail); try go_wp2)
                                  go_roundg k3
                                  case measure => have := HJ4.out; have := HK2.out; have := HK3.out; omega
                                  case rel => exact ⟨((((rd_T33 t128 x7_3).f1) == (wrap64 (Int.tdiv ((rd_T33 t128 x5_2).f1) 4)))), (wrap64 (x7_3 + 1)), (by first | rfl | (simp; done) | (simp [*]; done)), (by first | rfl | (simp; done) | (simp [*]; done)), H', ⟨by have := HJ4.out; have := HK2.out; have := HK3.out; omega⟩, ⟨by (with_reducible repeat (first | apply Kd.R_alloc | apply Kd.R_drewN | apply Kd.R_drew)); exact HO_4.out⟩, ⟨by repeat (first | (with_reducible first | exact HB.out | apply below_alloc | apply pw_below_drewN | apply below_drew1) | exact HB.out)⟩⟩
                                · rw [if_neg c23] at H
                                  have c23b0 : (((rd_T33 t128 x7_3).f0) == (wrap64 (((rd_T33 t128 x5_2).f0) - 1))) = false := beq_eq_false_iff_ne.mpr c23
                                  have c23b1 : (((rd_T33 t128 x7_3).f0) != (wrap64 (((rd_T33 t128 x5_2).f0) - 1))) = true := bne_iff_ne.mpr c23
                                  have H' := Aside0.mk H
                                  clear H
                                  have p133 : 0 ≤ (x7_3 : Int) := of_decide_eq_true (by first | (with_reducible assumption) | assumption)
                                  have q133 : x7_3 < (t128.length : Int) := of_decide_eq_true (by first | (with_reducible assumption) | assumption)
                                  obtain ⟨ad133, e133, hx133_0, hx133_1⟩ := at_T33 (Kd.R_reads' HO_4.out).2.2 x7_3 p133 q133
                                  cases e133
                                  replace p133 := eq_true p133
                                  replace q133 := eq_true q133
                                  have p134 : 0 ≤ (x5_2 : Int) := of_decide_eq_true (by first | (with_reducible assumption) | assumption)
                                  have q134 : x5_2 < (t128.length : Int) := of_decide_eq_true (by first | (with_reducible assumption) | assumption)
                                  obtain ⟨ad134, e134, hx134_0, hx134_1⟩ := at_T33 (Kd.R_reads' HO_4.out).2.2 x5_2 p134 q134
                                  obtain rfl : ad133 = ad134 := (by injection e134)
                                  replace p134 := eq_true p134
                                  replace q134 := eq_true q134
                                  go_wp2
                                  repeat (go_quiet (fail); try go_wp2)
                                  go_roundg k3
                                  case measure => have := HJ4.out; have := HK2.out; have := HK3.out; omega
                                  case rel => exact ⟨(false), (wrap64 (x7_3 + 1)), (by first | rfl | (simp; done) | (simp [*]; done)), (by first | rfl | (simp; done) | (simp [*]; done)), H', ⟨by have := HJ4.out; have := HK2.out; have := HK3.out; omega⟩, ⟨by (with_reducible repeat (first | apply Kd.R_alloc | apply Kd.R_drewN | apply Kd.R_drew)); exact HO_4.out⟩, ⟨by repeat (first | (with_reducible first | exact HB.out | apply below_alloc | apply pw_below_drewN | apply below_drew1) | exact HB.out)⟩⟩
                              · rw [if_neg c22] at H
                                exact absurd H (by simp)
                            · rw [if_neg c21] at H
                              exact absurd H (by simp)
                          · rw [if_neg c20] at H
                            exact absurd H (by simp)
                        · rw [if_neg c19] at H
                          exact absurd H (by simp)
                    · rw [if_neg c17] at H
                      have c17b0 : decide (x7_3 < x5_2) = false := decide_eq_false c17
                      clear c17
                      by_cases c24 : x6_3 = true
                      · subst c24
                        have H1 : (oubliettelaw07_PathFan.l0 k3 t128 (wrap64 (x5_2 + 1))) = some r := by rw [if_pos rfl] at H; exact H
                        clear H
                        have H := H1
                        clear H1
                        have H' := Aside0.mk H
                        clear H
                        go_wp2
                        repeat (go_quiet (fail); try go_wp2)
                        go_roundg k3
                        case measure => have := HJ4.out; have := HK2.out; have := HK3.out; omega
                        case rel => exact ⟨(wrap64 (x5_2 + 1)), (by first | rfl | (simp; done) | (simp [*]; done)), H', ⟨by have := HJ4.out; have := HK2.out; have := HK3.out; omega⟩, ⟨by (with_reducible repeat (first | apply Kd.R_alloc | apply Kd.R_drewN | apply Kd.R_drew)); exact HO_4.out⟩, ⟨by repeat (first | (with_reducible first | exact HB.out | apply below_alloc | apply pw_below_drewN | apply below_drew1) | exact HB.out)⟩⟩
                      · replace c24 := Bool.eq_false_iff.mpr c24
                        subst c24
                        have H1 : (some false) = some r := by rw [if_neg (show ¬ (false = true) by decide)] at H; exact H
                        clear H
                        have H := H1
                        clear H1
                        obtain rfl := Option.some.inj H
                        go_wp2
                        repeat (go_quiet (fail); try go_wp2)
                        go_ret
                        exact ⟨by first | rfl | (simp [errW_none, errW_some] <;> rfl) | (simp [*, errW_none, errW_some] <;> rfl), by repeat (first | (with_reducible first | exact HB.out | apply below_alloc | apply pw_below_drewN | apply below_drew1) | exact HB.out)⟩
              · rw [if_neg c15] at H
                have c15b0 : decide (x5_2 < (t128.length : Int)) = false := decide_eq_false c15
                clear c15
                obtain rfl := Option.some.inj H
                obtain ⟨Ao25, co25, eo25⟩ := Kd.R_slice HO_4.out
                subst eo25
                go_wp2
                repeat (go_quiet (fail); try go_wp2)
                go_ret
                exact ⟨by first | rfl | (simp [errW_none, errW_some] <;> rfl) | (simp [*, errW_none, errW_some] <;> rfl), by repeat (first | (with_reducible first | exact HB.out | apply below_alloc | apply pw_below_drewN | apply below_drew1) | exact HB.out)⟩
  · replace c3 := Bool.eq_false_iff.mpr c3
    subst c3
    have H1 : (some false) = some r := by rw [if_neg (show ¬ (false = true) by decide)] at H; exact H
    clear H
    have H := H1
    clear H1
    obtain rfl := Option.some.inj H
    go_enter Try.func5, Try.ntmps5
    go_wp2_with (first | (go_at_call 8; (with_reducible refine (oubliettelaw07_awake.calls k  false _ A2.out).mono ?_); rintro e w26 ⟨rfl, hb⟩; have n0_ := Aside0.mk (below_step (by repeat (first | (with_reducible first | exact HB.out | apply below_alloc | apply pw_below_drewN | apply below_drew1) | exact HB.out)) hb); clear HB; have HB := n0_; clear n0_; (try clear hb); (try clear hb2); (try clear hk); (try clear hi)))
    repeat (go_quiet (first | (go_at_call 8; (with_reducible refine (oubliettelaw07_awake.calls k  false _ A2.out).mono ?_); rintro e w26 ⟨rfl, hb⟩; have n0_ := Aside0.mk (below_step (by repeat (first | (with_reducible first | exact HB.out | apply below_alloc | apply pw_below_drewN | apply below_drew1) | exact HB.out)) hb); clear HB; have HB := n0_; clear n0_; (try clear hb); (try clear hb2); (try clear hk); (try clear hi))); try go_wp2_with (first | (go_at_call 8; (with_reducible refine (oubliettelaw07_awake.calls k  false _ A2.out).mono ?_); rintro e w26 ⟨rfl, hb⟩; have n0_ := Aside0.mk (below_step (by repeat (first | (with_reducible first | exact HB.out | apply below_alloc | apply pw_below_drewN | apply below_drew1) | exact HB.out)) hb); clear HB; have HB := n0_; clear n0_; (try clear hb); (try clear hb2); (try clear hk); (try clear hi))))
    go_ret
    exact ⟨by first | rfl | (simp [errW_none, errW_some] <;> rfl) | (simp [*, errW_none, errW_some] <;> rfl), by repeat (first | (with_reducible first | exact HB.out | apply below_alloc | apply pw_below_drewN | apply below_drew1) | exact HB.out)⟩

/-- THE ONE PURE STATEMENT of oubliettelaw07_PathFan: yours. -/
def oubliettelaw07_PathFan.Pure : Prop := ∀ (a0 : Int), (Lit.int .u8 a0).wf = true → ∃ k, oubliettelaw07_PathFan.f k a0 = some true
theorem oubliettelaw07_PathFan.walk (P : oubliettelaw07_PathFan.Pure) (a0 : Int) (w : World) (w0 : (Lit.int .u8 a0).wf = true) :
    Calls Try.prog 5 #[.int .u8 a0] w fun e w' => e = .returned (.bool true) ∧ Below w.heap.size w w' := by
  obtain ⟨k, h⟩ := P a0 w0
  refine (oubliettelaw07_PathFan.calls k a0 true w h).mono ?_
  rintro e w' ⟨rfl, hd⟩
  exact ⟨rfl, hd⟩

end Go.Proofs.Ytincgimbilnidaa.MyFan
