-- PRINTED BY print.sh 35421559b90ae4d0a3588c463048766b98c2df88dd9212a6774a882060cdf62d: not written by this session
import Derived.Test.YtincgimbilnidaaPPathSizesx0
import Derived.Test.YtincgimbilnidaaPPathSizesx1
namespace Go.Proofs.Ytincgimbilnidaa.PPathSizes
open Go.RowKit Go.Proofs.YtincgimbilnidaaW.PrintWords Go.Proofs.YtincgimbilnidaaW.PrintLast Go.Proofs.YtincgimbilnidaaW.PrintMore
attribute [local go_sem] max2_int min2_int max_two min_two max_three min_three max_four min_four   -- for this text's walks alone
set_option linter.unusedVariables false
set_option linter.unusedSimpArgs false

attribute [local go_sem high] eqA33
/-! ### path_Slots: function 13 -/
def path_Slots.f (a0 : Int) : Option (Int) := if a0 < 1 then (some 0) else (if a0 > 4 then (some 0) else (if 0 ≤ (IntKind.u64.wrap (2 * (IntKind.u64.wrap (a0)))) then (some (shl .i64 1 (IntKind.u64.wrap (2 * (IntKind.u64.wrap (a0)))))) else (none)))
set_option maxHeartbeats 8000000 in
set_option maxRecDepth 100000 in
theorem path_Slots.calls (a0 : Int) (r : Int) (w : World) (h : path_Slots.f a0 = some r) :
    Calls Try.prog 13 #[.int .i64 a0] w fun e w' => e = .returned (.int .i64 r) ∧ Drawn0 w w' := by
  have H : (if a0 < 1 then (some 0) else (if a0 > 4 then (some 0) else (if 0 ≤ (IntKind.u64.wrap (2 * (IntKind.u64.wrap (a0)))) then (some (shl .i64 1 (IntKind.u64.wrap (2 * (IntKind.u64.wrap (a0)))))) else (none)))) = some r := h
  clear h
  by_cases c2 : a0 < 1
  · rw [if_pos c2] at H
    have c2b0 : decide (a0 < 1) = true := decide_eq_true c2
    clear c2
    obtain rfl := Option.some.inj H
    go_enter Try.func13, Try.ntmps13
    go_wp2
    go_ret
    exact ⟨by first | rfl | (simp; done) | (simp [*]; done), by repeat (first | exact Drawn0.refl _ | apply Drawn0.step)⟩
  · rw [if_neg c2] at H
    have c2b0 : decide (a0 < 1) = false := decide_eq_false c2
    clear c2
    by_cases c3 : a0 > 4
    · rw [if_pos c3] at H
      have c3b0 : decide (4 < a0) = true := decide_eq_true c3
      clear c3
      obtain rfl := Option.some.inj H
      go_enter Try.func13, Try.ntmps13
      go_wp2
      go_ret
      exact ⟨by first | rfl | (simp; done) | (simp [*]; done), by repeat (first | exact Drawn0.refl _ | apply Drawn0.step)⟩
    · rw [if_neg c3] at H
      have c3b0 : decide (4 < a0) = false := decide_eq_false c3
      clear c3
      obtain ⟨ji4, hji4⟩ : ∃ j_ : Int, (IntKind.u64.wrap (2 * (IntKind.u64.wrap (a0)))) = j_ := ⟨_, rfl⟩
      replace H : (if 0 ≤ (ji4) then (some (shl .i64 1 (ji4))) else (none)) = some r := by first | (rw [hji4] at H; exact H) | (simp only [hji4] at H ⊢; exact H)
      by_cases c5 : 0 ≤ (ji4)
      · rw [if_pos c5] at H
        have c5b0 := eq_true c5
        have c5b1 : decide (0 ≤ (ji4)) = true := decide_eq_true c5
        clear c5
        obtain ⟨ji6, hji6⟩ : ∃ j_ : Int, (shl .i64 1 (ji4)) = j_ := ⟨_, rfl⟩
        replace H : (some ji6) = some r := by first | (rw [hji6] at H; exact H) | (simp only [hji6] at H ⊢; exact H)
        have hji6_ : (IntKind.i64.wrap (1 * 2 ^ min (ji4).toNat 64)) = ji6 := hji6
        have hji6z : (ji4) ≤ 64 → (IntKind.i64.wrap (1 * 2 ^ (ji4).toNat)) = ji6 := shl_small hji6
        have hji6u : (IntKind.i64.wrap (2 ^ min (ji4).toNat 64)) = ji6 := by have h_ := hji6_; rw [Int.one_mul] at h_; exact h_
        have hji6v : (ji4) ≤ 64 → (IntKind.i64.wrap (2 ^ (ji4).toNat)) = ji6 := fun hle_ => by have h_ := hji6z hle_; rw [Int.one_mul] at h_; exact h_
        have hji6y : (wrap64 (1 * 2 ^ min (ji4).toNat 64)) = ji6 := (i64_w _).symm.trans hji6_
        have hji6x : (ji4) ≤ 64 → (wrap64 (1 * 2 ^ (ji4).toNat)) = ji6 := fun h_ => (i64_w _).symm.trans (hji6z h_)
        obtain rfl := Option.some.inj H
        go_enter Try.func13, Try.ntmps13
        go_wp2
        go_ret
        exact ⟨by first | rfl | (simp; done) | (simp only [← hji4, ← hji6] <;> (first | rfl | simp)) | (simp [*]; done), by repeat (first | exact Drawn0.refl _ | apply Drawn0.step)⟩
      · rw [if_neg c5] at H
        exact absurd H (by simp)

/-! ### path_Way: function 9 -/
mutual
def path_Way.j0 : Nat → Int → Int → Bool → Option (List Int)
  | 0, _, _, _ => none
  | k + 1, x0, x1, x14 => if x14 = true then (some ([] : List Int)) else (if 0 ≤ x0 then (if (x0 : Int).toNat ≤ 35184372088832 then (path_Way.l0 k x0 x1 (List.replicate (x0 : Int).toNat 0) x0 0) else (none)) else (none))
def path_Way.l0 : Nat → Int → Int → List Int → Int → Int → Option (List Int)
  | 0, _, _, _, _, _ => none
  | k + 1, x0, x1, x5, x17, x18 => if x18 < x17 then (if 0 ≤ (IntKind.u64.wrap (2 * (IntKind.u64.wrap (x18)))) then (if 0 ≤ (wrap64 ((wrap64 (x0 - 1)) - x18)) then (if (wrap64 ((wrap64 (x0 - 1)) - x18)) < (x5.length : Int) then (path_Way.l0 k x0 x1 (x5.set ((wrap64 ((wrap64 (x0 - 1)) - x18)) : Int).toNat (Go.bits .and .i64 (shr .i64 x1 (IntKind.u64.wrap (2 * (IntKind.u64.wrap (x18))))) 3)) x17 (wrap64 (x18 + 1))) else (none)) else (none)) else (none)) else (some x5)
end
def path_Way.f (k : Nat) (a0 : Int) (a1 : Int) : Option (List Int) := if a1 < 0 then (path_Way.j0 k a0 a1 true) else ((path_Slots.f a0).bind fun t101 => (path_Way.j0 k a0 a1 (decide (a1 ≥ t101))))
theorem path_Way.mono_l : ∀ k, (∀ y0 y1 y2, LeO (path_Way.j0 k y0 y1 y2) (path_Way.j0 (k + 1) y0 y1 y2)) ∧ (∀ y0 y1 y2 y3 y4, LeO (path_Way.l0 k y0 y1 y2 y3 y4) (path_Way.l0 (k + 1) y0 y1 y2 y3 y4))
  | 0 => ⟨fun _ _ _ r h => by simp [path_Way.j0] at h, fun _ _ _ _ _ r h => by simp [path_Way.l0] at h⟩
  | k + 1 => by
    obtain ⟨ih0, ih1⟩ := path_Way.mono_l k
    refine ⟨?_, ?_⟩
    · intro y0 y1 y2
      unfold path_Way.j0
      repeat' first
      | (with_reducible exact ih0 _ _ _)
      | (with_reducible exact ih1 _ _ _ _ _)
      | (with_reducible exact LeO.refl _)
      | (with_reducible exact LeO.none _)
      | (with_reducible refine LeO.ite ?_ ?_)
      | (with_reducible refine LeO.bind ?_ (fun _ => ?_))
      | exact ih0 _ _ _
      | exact ih1 _ _ _ _ _
      | exact LeO.none _
      | refine LeO.ite ?_ ?_
      | refine LeO.bind ?_ (fun _ => ?_)
    · intro y0 y1 y2 y3 y4
      unfold path_Way.l0
      repeat' first
      | (with_reducible exact ih0 _ _ _)
      | (with_reducible exact ih1 _ _ _ _ _)
      | (with_reducible exact LeO.refl _)
      | (with_reducible exact LeO.none _)
      | (with_reducible refine LeO.ite ?_ ?_)
      | (with_reducible refine LeO.bind ?_ (fun _ => ?_))
      | exact ih0 _ _ _
      | exact ih1 _ _ _ _ _
      | exact LeO.none _
      | refine LeO.ite ?_ ?_
      | refine LeO.bind ?_ (fun _ => ?_)
theorem path_Way.mono : ∀ a0 a1 k, LeO (path_Way.f k a0 a1) (path_Way.f (k + 1) a0 a1) := by
  intro a0 a1 k
  obtain ⟨ih0, ih1⟩ := path_Way.mono_l k
  unfold path_Way.f
  repeat' first
      | (with_reducible exact ih0 _ _ _)
      | (with_reducible exact ih1 _ _ _ _ _)
      | (with_reducible exact LeO.refl _)
      | (with_reducible exact LeO.none _)
      | (with_reducible refine LeO.ite ?_ ?_)
      | (with_reducible refine LeO.bind ?_ (fun _ => ?_))
      | exact ih0 _ _ _
      | exact ih1 _ _ _ _ _
      | exact LeO.none _
      | refine LeO.ite ?_ ?_
      | refine LeO.bind ?_ (fun _ => ?_)
set_option maxHeartbeats 8000000 in
set_option maxRecDepth 100000 in
theorem path_Way.calls (k : Nat) (a0 : Int) (a1 : Int) (r : List Int) (w : World) (h : path_Way.f k a0 a1 = some r) :
    Calls Try.prog 9 #[.int .i64 a0, .int .i64 a1] w fun e w' => ∃ v0_ : Value, e = .returned (v0_) ∧ Kd.R (Kd.int .i64) 3 w' w.heap.size (fun _ => True) v0_ r ∧ Below w.heap.size w w' := by
  have HB := Aside0.mk (Below.refl w.heap.size w)
  have H : (if a1 < 0 then (path_Way.j0 k a0 a1 true) else ((path_Slots.f a0).bind fun t101 => (path_Way.j0 k a0 a1 (decide (a1 ≥ t101))))) = some r := h
  clear h
  have HC3 := Aside0.mk H
  clear H
  go_enter Try.func9, Try.ntmps9
  go_upto_region 1 with (fail)
  go_cut [14] (fun v14 wc => ∃ (kq : Nat) (x14_2 : Bool), v14 = .bool x14_2 ∧ Aside0 (path_Way.j0 kq a0 a1 x14_2 = some r) ∧ Aside0 (kq ≤ k) ∧ Aside0 (Below w.heap.size w wc))
  case first =>
    have H := HC3.out
    clear HC3
    by_cases c4 : a1 < 0
    · rw [if_pos c4] at H
      have c4b0 : decide (a1 < 0) = true := decide_eq_true c4
      clear c4
      (first | rw [c4b0] | (simp only [i64_w, i32_w]; rw [c4b0]) | skip)
      have H' := Aside0.mk H
      clear H
      go_wp2
      go_meet
      case rel => exact ⟨_, (true), (by first | rfl | (simp; done) | (simp [*]; done)), H', ⟨by first | omega | exact Nat.le_refl _⟩, ⟨by repeat (first | (with_reducible first | exact HB.out | apply below_alloc | apply pw_below_drewN | apply below_drew1) | exact HB.out)⟩⟩
    · rw [if_neg c4] at H
      have c4b0 : decide (a1 < 0) = false := decide_eq_false c4
      clear c4
      (first | rw [c4b0] | (simp only [i64_w, i32_w]; rw [c4b0]) | skip)
      replace H := Option.bind_eq_some_iff.mp H
      obtain ⟨t101, A50, H⟩ := H
      replace H : (path_Way.j0 k a0 a1 (decide (a1 ≥ t101))) = some r := H
      have A5 := Aside0.mk A50
      clear A50
      have H' := Aside0.mk H
      clear H
      go_wp2_with (first | (go_at_call 13; (with_reducible refine (path_Slots.calls a0 t101 _ A5.out).mono ?_); rintro e w' ⟨rfl, ⟨nd, rfl⟩⟩))
      go_meet
      case rel => exact ⟨_, (decide (a1 ≥ t101)), (by first | rfl | (simp; done) | (simp [*]; done)), H', ⟨by first | omega | exact Nat.le_refl _⟩, ⟨by repeat (first | (with_reducible first | exact HB.out | apply below_alloc | apply pw_below_drewN | apply below_drew1) | exact HB.out)⟩⟩
  case rest =>
    clear HC3
    try clear p2
    try clear c4
    try clear c4b0
    obtain ⟨kq, x14_2, rfl, HA, HJ2, HB⟩ := hcut
    cases kq with
    | zero => exact absurd HA.out (by simp [path_Way.j0])
    | succ kj2 =>
      have H := HA.out
      clear HA
      simp only [path_Way.j0] at H
      by_cases c6 : x14_2 = true
      · subst c6
        have H1 : (some ([] : List Int)) = some r := by rw [if_pos rfl] at H; exact H
        clear H
        have H := H1
        clear H1
        obtain rfl := Option.some.inj H
        go_wp2
        go_ret
        exact ⟨_, by first | rfl | (simp [errW_none, errW_some] <;> rfl) | (simp [*, errW_none, errW_some] <;> rfl), by first | exact Kd.R_nil _ _ _ _ _ | exact Kd.N_nil _ _ _ _ _ | exact Kd.V_nil _ _ _ _ _ | exact Kd.Q_nil _ _ _ _ _ | exact Kd.S_nil _ _ _ _ _, by repeat (first | (with_reducible first | exact HB.out | apply below_alloc | apply pw_below_drewN | apply below_drew1) | exact HB.out)⟩
      · replace c6 := Bool.eq_false_iff.mpr c6
        subst c6
        have H1 : (if 0 ≤ a0 then (if (a0 : Int).toNat ≤ 35184372088832 then (path_Way.l0 kj2 a0 a1 (List.replicate (a0 : Int).toNat 0) a0 0) else (none)) else (none)) = some r := by rw [if_neg (show ¬ (false = true) by decide)] at H; exact H
        clear H
        have H := H1
        clear H1
        by_cases c7 : 0 ≤ a0
        · rw [if_pos c7] at H
          have c7b0 := eq_true c7
          have c7b1 : decide (0 ≤ a0) = true := decide_eq_true c7
          clear c7
          by_cases c8 : (a0 : Int).toNat ≤ 35184372088832
          · rw [if_pos c8] at H
            have c8b0 := eq_true c8
            have c8b1 : decide ((a0 : Int).toNat ≤ 35184372088832) = true := decide_eq_true c8
            clear c8
            obtain ⟨y102, hy102⟩ : ∃ y_ : List Int, y_ = (List.replicate (a0 : Int).toNat 0) := ⟨_, rfl⟩
            replace H : (path_Way.l0 kj2 a0 a1 y102 a0 0) = some r := by first | (rw [hy102]; with_reducible exact H) | (have H2_ := (Option.bind_some _ _).symm.trans H; rw [hy102]; with_reducible exact H2_) | (have H2_ := (Option.bind_some _ _).symm.trans H; with_reducible exact H2_) | with_reducible exact H | (rw [hy102]; exact H) | exact H
            have Ny102 := Aside0.mk hy102
            clear hy102
            have H' := Aside0.mk H
            clear H
            go_wp2_with (first | ((with_reducible refine gate_dst (N := 16) rfl ?_); refine Kd.R_make (Kd.int .i64) _ 3 rfl (N := 16) rfl 23 _ _ rfl a0 rfl rfl Try.underlying23 (.int .i64 0) 8 info3 rfl (by decide) (by omega) 0 (ok := fun _ => True) (okp := fun _ => True) rfl (fun _ hk => hk) trivial (of_decide_eq_true (by first | (with_reducible assumption) | assumption)) (Nat.le_trans (Nat.mul_le_mul_right _ (of_decide_eq_true (by first | (with_reducible assumption) | assumption) : a0.toNat ≤ 35184372088832)) (by omega)) (Below.refl _ _) (Nat.le_refl _) ?_; intro v103 w9 ho10 hb hg_ hnew_; clear hg_ hnew_; (first | rw [← Ny102.out] at ho10 | (simp only [Int.reduceToNat] at ho10; rw [← Ny102.out] at ho10)); have n0_ := Aside0.mk (Kd.R_lower ho10 (below_size (by repeat (first | (with_reducible first | exact HB.out | apply below_alloc | apply pw_below_drewN | apply below_drew1) | exact HB.out)))); have n1_ := Aside0.mk (below_step (by repeat (first | (with_reducible first | exact HB.out | apply below_alloc | apply pw_below_drewN | apply below_drew1) | exact HB.out)) hb); clear HB; have HO104 := n0_; have HB := n1_; clear n0_ n1_; clear hb ho10))
            go_loopg [18] kj2 (fun kq v18 w' => ∃ (x5_2 : List Int) (x18_2 : Int), v18 = .int .i64 x18_2 ∧ Aside0 (path_Way.l0 kq a0 a1 x5_2 a0 x18_2 = some r) ∧ Aside0 (kq ≤ kj2) ∧ Aside0 (Kd.R (Kd.int .i64) 3 w' w.heap.size (fun _ => True) v103 x5_2) ∧ Aside0 (Below w.heap.size w w'))
            case atStart => exact ⟨(y102), (0), (by first | rfl | (simp; done) | (simp [*]; done)), H', ⟨Nat.le_refl _⟩, ⟨by (with_reducible repeat (first | apply Kd.R_alloc | apply Kd.R_drewN | apply Kd.R_drew)); exact HO104.out⟩, ⟨by repeat (first | (with_reducible first | exact HB.out | apply below_alloc | apply pw_below_drewN | apply below_drew1) | exact HB.out)⟩⟩
            case round =>
              clear H'
              try clear p2
              try clear c4
              try clear c4b0
              try clear c6
              try clear c7
              try clear c7b0
              try clear c7b1
              try clear c8
              try clear c8b0
              try clear c8b1
              try clear c9
              try clear p2
              obtain ⟨x5_2, x18_2, rfl, HA, HK2, HO_5, HB⟩ := hrel
              cases gk with
              | zero => exact absurd HA.out (by simp [path_Way.l0])
              | succ k2 =>
                have H := HA.out
                clear HA
                simp only [path_Way.l0] at H
                by_cases c11 : x18_2 < a0
                · rw [if_pos c11] at H
                  have c11b0 : decide (x18_2 < a0) = true := decide_eq_true c11
                  clear c11
                  obtain ⟨ji12, hji12⟩ : ∃ j_ : Int, (IntKind.u64.wrap (2 * (IntKind.u64.wrap (x18_2)))) = j_ := ⟨_, rfl⟩
                  replace H : (if 0 ≤ (ji12) then (if 0 ≤ (wrap64 ((wrap64 (a0 - 1)) - x18_2)) then (if (wrap64 ((wrap64 (a0 - 1)) - x18_2)) < (x5_2.length : Int) then (path_Way.l0 k2 a0 a1 (x5_2.set ((wrap64 ((wrap64 (a0 - 1)) - x18_2)) : Int).toNat (Go.bits .and .i64 (shr .i64 a1 (ji12)) 3)) a0 (wrap64 (x18_2 + 1))) else (none)) else (none)) else (none)) = some r := by first | (rw [hji12] at H; exact H) | (simp only [hji12] at H ⊢; exact H)
                  by_cases c13 : 0 ≤ (ji12)
                  · rw [if_pos c13] at H
                    have c13b0 := eq_true c13
                    have c13b1 : decide (0 ≤ (ji12)) = true := decide_eq_true c13
                    clear c13
                    obtain ⟨ji14, hji14⟩ : ∃ j_ : Int, (shr .i64 a1 (ji12)) = j_ := ⟨_, rfl⟩
                    replace H : (if 0 ≤ (wrap64 ((wrap64 (a0 - 1)) - x18_2)) then (if (wrap64 ((wrap64 (a0 - 1)) - x18_2)) < (x5_2.length : Int) then (path_Way.l0 k2 a0 a1 (x5_2.set ((wrap64 ((wrap64 (a0 - 1)) - x18_2)) : Int).toNat (Go.bits .and .i64 (ji14) 3)) a0 (wrap64 (x18_2 + 1))) else (none)) else (none)) = some r := by first | (rw [hji14] at H; exact H) | (simp only [hji14] at H ⊢; exact H)
                    have hji14_ : (a1 / 2 ^ min (ji12).toNat 64) = ji14 := hji14
                    have hji14z : (ji12) ≤ 64 → (a1 / 2 ^ (ji12).toNat) = ji14 := shr_small hji14
                    obtain ⟨ji15, hji15⟩ : ∃ j_ : Int, (wrap64 ((wrap64 (a0 - 1)) - x18_2)) = j_ := ⟨_, rfl⟩
                    replace H : (if 0 ≤ (ji15) then (if (ji15) < (x5_2.length : Int) then (path_Way.l0 k2 a0 a1 (x5_2.set ((ji15) : Int).toNat (Go.bits .and .i64 (ji14) 3)) a0 (wrap64 (x18_2 + 1))) else (none)) else (none)) = some r := by first | (rw [hji15] at H; exact H) | (simp only [hji15] at H ⊢; exact H)
                    have hji15w : (IntKind.i64.wrap ((wrap64 (a0 - 1)) - x18_2)) = ji15 := (i64_w _).trans hji15
                    by_cases c16 : 0 ≤ (ji15)
                    · rw [if_pos c16] at H
                      have c16b0 : decide (0 ≤ (ji15)) = true := decide_eq_true c16
                      clear c16
                      by_cases c17 : (ji15) < (x5_2.length : Int)
                      · rw [if_pos c17] at H
                        have c17b0 : decide ((ji15) < (x5_2.length : Int)) = true := decide_eq_true c17
                        clear c17
                        obtain ⟨y105, hy105⟩ : ∃ y_ : List Int, y_ = (x5_2.set ((ji15) : Int).toNat (Go.bits .and .i64 (ji14) 3)) := ⟨_, rfl⟩
                        replace H : (path_Way.l0 k2 a0 a1 y105 a0 (wrap64 (x18_2 + 1))) = some r := by first | (rw [hy105]; with_reducible exact H) | (have H2_ := (Option.bind_some _ _).symm.trans H; rw [hy105]; with_reducible exact H2_) | (have H2_ := (Option.bind_some _ _).symm.trans H; with_reducible exact H2_) | with_reducible exact H | (rw [hy105]; exact H) | exact H
                        have Ny105 := Aside0.mk hy105
                        clear hy105
                        have H' := Aside0.mk H
                        clear H
                        have p18 : 0 ≤ ((ji15) : Int) := of_decide_eq_true (by first | (with_reducible assumption) | assumption)
                        have q18 : ((ji15) : Int) < ((x5_2.length : Int) : Int) := of_decide_eq_true (by first | (with_reducible assumption) | assumption)
                        obtain ⟨go18, co18, eo18, gb18, gl18, cl18, HG18⟩ := Kd.R_form HO_5.out (by omega)
                        (first | cases eo18 | (injection eo18 with ea_ en_ ec_; (first | subst ea_ | (injection ea_ with ea_; subst ea_)); subst ec_; clear en_))
                        have GB18 := Aside0.mk gb18
                        have GG18 := Aside0.mk HG18
                        clear gb18 gl18 HG18
                        obtain ⟨hx18_0, hf18_0⟩ := Kd.R_celln 0 HO_5.out ((ji15) : Int) p18 q18
                        replace p18 := eq_true p18
                        replace q18 := eq_true q18
                        have HP19 := Kd.R_putg HO_5.out ((ji15) : Int) (Go.bits .and .i64 (ji14) 3)
                        go_wp2_with (first | ((with_reducible refine gate_store (t := 3) (p := 32) rfl ?_); refine store_event (t := 3) (p := 32) (v := ?vo_w20) (w1 := (wr.setCell ⟨go18, ((ji15) : Int).toNat, none⟩ (.int .i64 (Go.bits .and .i64 (ji14) 3)))) ?hg ?ho ?hn ?hr ?_; (case ho => rfl); (case hg => rfl); (case hn => rfl); (case hr => first | (go_simp; done) | (go_simp; rfl)); intro w20 hw; have hg : wr.grownBy w20 (some go18) := (by rw [hw]; exact HP19.2); have hp_ : Kd.R (Kd.int .i64) 3 w20 w.heap.size (fun _ => True) (.slice (some ⟨go18, 0, none⟩) x5_2.length co18) y105 := (by rw [hw, Ny105.out]; exact HP19.1); clear HP19; have n0_ := Aside0.mk (hp_); have n1_ := Aside0.mk ((by rw [hw]; exact below_set (HB.out) GB18.out : Below w.heap.size w w20)); clear HO_5; clear HB; have HO_5 := n0_; have HB := n1_; clear n0_ n1_; clear hg hw hp_))
                        go_roundg k2
                        case measure => have := HJ2.out; have := HK2.out; omega
                        case rel => exact ⟨(y105), (wrap64 (x18_2 + 1)), (by first | rfl | (simp; done) | (simp [*]; done)), H', ⟨by have := HJ2.out; have := HK2.out; omega⟩, ⟨by (with_reducible repeat (first | apply Kd.R_alloc | apply Kd.R_drewN | apply Kd.R_drew)); exact HO_5.out⟩, ⟨by repeat (first | (with_reducible first | exact HB.out | apply below_alloc | apply pw_below_drewN | apply below_drew1) | exact HB.out)⟩⟩
                      · rw [if_neg c17] at H
                        exact absurd H (by simp)
                    · rw [if_neg c16] at H
                      exact absurd H (by simp)
                  · rw [if_neg c13] at H
                    exact absurd H (by simp)
                · rw [if_neg c11] at H
                  have c11b0 : decide (x18_2 < a0) = false := decide_eq_false c11
                  clear c11
                  obtain rfl := Option.some.inj H
                  go_wp2
                  go_ret
                  exact ⟨_, by first | rfl | (simp [errW_none, errW_some] <;> rfl) | (simp [*, errW_none, errW_some] <;> rfl), by (with_reducible repeat (first | apply Kd.R_alloc | apply Kd.R_drewN | apply Kd.R_drew)); exact HO_5.out, by repeat (first | (with_reducible first | exact HB.out | apply below_alloc | apply pw_below_drewN | apply below_drew1) | exact HB.out)⟩
          · rw [if_neg c8] at H
            exact absurd H (by simp)
        · rw [if_neg c7] at H
          exact absurd H (by simp)

/-! ### path_Nodes: function 15 -/
def path_Nodes.f (a0 : Int) : Option (Int) := (path_Slots.f a0).bind fun t106 => ((path_Slots.f a0).bind fun t107 => (some (wrap64 (Int.tdiv (wrap64 (t106 - (mn 1 t107))) 3))))
set_option maxHeartbeats 8000000 in
set_option maxRecDepth 100000 in
theorem path_Nodes.calls (a0 : Int) (r : Int) (w : World) (h : path_Nodes.f a0 = some r) :
    Calls Try.prog 15 #[.int .i64 a0] w fun e w' => e = .returned (.int .i64 r) ∧ Below w.heap.size w w' := by
  have HB := Aside0.mk (Below.refl w.heap.size w)
  have H : ((path_Slots.f a0).bind fun t106 => ((path_Slots.f a0).bind fun t107 => (some (wrap64 (Int.tdiv (wrap64 (t106 - (mn 1 t107))) 3))))) = some r := h
  clear h
  replace H := Option.bind_eq_some_iff.mp H
  obtain ⟨t106, A20, H⟩ := H
  replace H : ((path_Slots.f a0).bind fun t107 => (some (wrap64 (Int.tdiv (wrap64 (t106 - (mn 1 t107))) 3)))) = some r := H
  have A2 := Aside0.mk A20
  clear A20
  replace H := Option.bind_eq_some_iff.mp H
  obtain ⟨t107, A30, H⟩ := H
  replace H : (some (wrap64 (Int.tdiv (wrap64 (t106 - (mn 1 t107))) 3))) = some r := H
  have A3 := Aside0.mk A30
  clear A30
  obtain ⟨ji4, hji4⟩ : ∃ j_ : Int, (mn 1 t107) = j_ := ⟨_, rfl⟩
  replace H : (some (wrap64 (Int.tdiv (wrap64 (t106 - (ji4))) 3))) = some r := by first | (rw [hji4] at H; exact H) | (simp only [hji4] at H ⊢; exact H)
  (try rw [hji4] at A2)
  (try rw [hji4] at A3)
  (try (have hji4h : ji4 ≤ 1 := by (rw [← hji4]; unfold mn; (repeat' split) <;> omega)))
  (try (have hji4g : ji4 ≤ 64 := by omega))
  have hji4_ : (if t107 < 1 then t107 else 1) = ji4 := hji4
  obtain rfl := Option.some.inj H
  go_enter Try.func15, Try.ntmps15
  go_wp2_with (first | ((with_reducible refine gate_callee (f := 13) rfl ?_); refine goesL_ (some 4) rfl rfl Try.func13 (by kernel_rfl) rfl #[.int .i64 a0] rfl (by (try simp only [List.map_toArray, List.map_cons, List.map_nil]); first | done | rfl | (simp only [List.length_drop, List.length_take]; rfl)) ?_; (with_reducible refine (path_Slots.calls a0 t106 _ A2.out).mono ?_); rintro e w' ⟨rfl, ⟨nd, rfl⟩⟩; refine ⟨_, rfl, ?_⟩) | ((with_reducible refine gate_callee (f := 13) rfl ?_); refine goesL_ (some 6) rfl rfl Try.func13 (by kernel_rfl) rfl #[.int .i64 a0] rfl (by (try simp only [List.map_toArray, List.map_cons, List.map_nil]); first | done | rfl | (simp only [List.length_drop, List.length_take]; rfl)) ?_; (with_reducible refine (path_Slots.calls a0 t107 _ A3.out).mono ?_); rintro e w' ⟨rfl, ⟨nd, rfl⟩⟩; refine ⟨_, rfl, ?_⟩))
  go_ret
  exact ⟨by first | rfl | (simp [errW_none, errW_some] <;> rfl) | (simp only [← hji4]; first | rfl | (simp [errW_none, errW_some] <;> rfl)) | (simp [*, errW_none, errW_some] <;> rfl), by repeat (first | (with_reducible first | exact HB.out | apply below_alloc | apply pw_below_drewN | apply below_drew1) | exact HB.out)⟩

/-! ### oubliettelaw07_awake: function 8 -/
def oubliettelaw07_awake.f (k : Nat)  : Option (Bool) := (path_Way.f k 2 6).bind fun t108 => ((path_Slots.f 2).bind fun t111 => (if t111 = 16 then ((path_Nodes.f 2).bind fun t112 => (if t112 = 5 then (if (t108.length : Int) = 2 then (if 0 < (t108.length : Int) then (if (rd t108 0) = 1 then (if 1 < (t108.length : Int) then (some ((rd t108 1) == 2)) else (none)) else (some false)) else (none)) else (some false)) else (some false))) else (some false)))
theorem oubliettelaw07_awake.mono : ∀ k, LeO (oubliettelaw07_awake.f k ) (oubliettelaw07_awake.f (k + 1) ) := by
  intro  k
  unfold oubliettelaw07_awake.f
  repeat' first
      | (with_reducible exact path_Way.mono _ _ _)
      | (with_reducible exact LeO.refl _)
      | (with_reducible exact LeO.none _)
      | (with_reducible refine LeO.ite ?_ ?_)
      | (with_reducible refine LeO.bind ?_ (fun _ => ?_))
      | exact path_Way.mono _ _ _
      | exact LeO.none _
      | refine LeO.ite ?_ ?_
      | refine LeO.bind ?_ (fun _ => ?_)
set_option maxHeartbeats 8000000 in
set_option maxRecDepth 100000 in
theorem oubliettelaw07_awake.calls (k : Nat)  (r : Bool) (w : World) (h : oubliettelaw07_awake.f k  = some r) :
    Calls Try.prog 8 #[] w fun e w' => e = .returned (.bool r) ∧ Below w.heap.size w w' := by
  have HB := Aside0.mk (Below.refl w.heap.size w)
  have H : ((path_Way.f k 2 6).bind fun t108 => ((path_Slots.f 2).bind fun t111 => (if t111 = 16 then ((path_Nodes.f 2).bind fun t112 => (if t112 = 5 then (if (t108.length : Int) = 2 then (if 0 < (t108.length : Int) then (if (rd t108 0) = 1 then (if 1 < (t108.length : Int) then (some ((rd t108 1) == 2)) else (none)) else (some false)) else (none)) else (some false)) else (some false))) else (some false)))) = some r := h
  clear h
  replace H := Option.bind_eq_some_iff.mp H
  obtain ⟨t108, A10, H⟩ := H
  replace H : ((path_Slots.f 2).bind fun t111 => (if t111 = 16 then ((path_Nodes.f 2).bind fun t112 => (if t112 = 5 then (if (t108.length : Int) = 2 then (if 0 < (t108.length : Int) then (if (rd t108 0) = 1 then (if 1 < (t108.length : Int) then (some ((rd t108 1) == 2)) else (none)) else (some false)) else (none)) else (some false)) else (some false))) else (some false))) = some r := H
  have A1 := Aside0.mk A10
  clear A10
  replace H := Option.bind_eq_some_iff.mp H
  obtain ⟨t111, A20, H⟩ := H
  replace H : (if t111 = 16 then ((path_Nodes.f 2).bind fun t112 => (if t112 = 5 then (if (t108.length : Int) = 2 then (if 0 < (t108.length : Int) then (if (rd t108 0) = 1 then (if 1 < (t108.length : Int) then (some ((rd t108 1) == 2)) else (none)) else (some false)) else (none)) else (some false)) else (some false))) else (some false)) = some r := H
  have A2 := Aside0.mk A20
  clear A20
  by_cases c3 : t111 = 16
  · rw [if_pos c3] at H
    have c3b0 : (t111 == 16) = true := beq_iff_eq.mpr c3
    have c3b1 : (t111 != 16) = false := bne_eq_false_iff_eq.mpr c3
    clear c3
    replace H := Option.bind_eq_some_iff.mp H
    obtain ⟨t112, A40, H⟩ := H
    replace H : (if t112 = 5 then (if (t108.length : Int) = 2 then (if 0 < (t108.length : Int) then (if (rd t108 0) = 1 then (if 1 < (t108.length : Int) then (some ((rd t108 1) == 2)) else (none)) else (some false)) else (none)) else (some false)) else (some false)) = some r := H
    have A4 := Aside0.mk A40
    clear A40
    by_cases c5 : t112 = 5
    · rw [if_pos c5] at H
      have c5b0 : (t112 == 5) = true := beq_iff_eq.mpr c5
      have c5b1 : (t112 != 5) = false := bne_eq_false_iff_eq.mpr c5
      clear c5
      by_cases c6 : (t108.length : Int) = 2
      · rw [if_pos c6] at H
        have c6b0 : ((t108.length : Int) == 2) = true := beq_iff_eq.mpr c6
        have c6b1 : ((t108.length : Int) != 2) = false := bne_eq_false_iff_eq.mpr c6
        clear c6
        by_cases c7 : 0 < (t108.length : Int)
        · rw [if_pos c7] at H
          have c7b0 : decide (0 < (t108.length : Int)) = true := decide_eq_true c7
          have c7b1 : decide (0 < t108.length) = true := decide_eq_true (by omega)
          clear c7
          by_cases c8 : (rd t108 0) = 1
          · rw [if_pos c8] at H
            have c8b0 : ((rd t108 0) == 1) = true := beq_iff_eq.mpr c8
            have c8b1 : ((rd t108 0) != 1) = false := bne_eq_false_iff_eq.mpr c8
            clear c8
            by_cases c9 : 1 < (t108.length : Int)
            · rw [if_pos c9] at H
              have c9b0 : decide (1 < (t108.length : Int)) = true := decide_eq_true c9
              have c9b1 : decide (1 < t108.length) = true := decide_eq_true (by omega)
              clear c9
              obtain rfl := Option.some.inj H
              go_enter Try.func8, Try.ntmps8
              go_wp2_with (first | ((with_reducible refine gate_callee (f := 9) rfl ?_); refine goesL_ (some 2) rfl rfl Try.func9 (by kernel_rfl) rfl #[.int .i64 2, .int .i64 6] rfl (by (try simp only [List.map_toArray, List.map_cons, List.map_nil]); first | done | rfl | (simp only [List.length_drop, List.length_take]; rfl)) ?_; (with_reducible refine (path_Way.calls k 2 6 t108 _ A1.out).mono ?_); rintro e w10 ⟨v109, rfl, ho0, hb⟩; refine ⟨_, rfl, ?_⟩; have n0_ := Aside0.mk (Kd.R_lower ho0 (below_size (by repeat (first | (with_reducible first | exact HB.out | apply below_alloc | apply pw_below_drewN | apply below_drew1) | exact HB.out)))); have n1_ := Aside0.mk (below_step (by repeat (first | (with_reducible first | exact HB.out | apply below_alloc | apply pw_below_drewN | apply below_drew1) | exact HB.out)) hb); clear HB; have HO110 := n0_; have HB := n1_; clear n0_ n1_; (try clear hb); (try clear hb2); (try clear hk); (try clear hi); (try clear ho0)) | ((with_reducible refine gate_callee (f := 13) rfl ?_); refine goesL_ (some 3) rfl rfl Try.func13 (by kernel_rfl) rfl #[.int .i64 2] rfl (by (try simp only [List.map_toArray, List.map_cons, List.map_nil]); first | done | rfl | (simp only [List.length_drop, List.length_take]; rfl)) ?_; (with_reducible refine (path_Slots.calls 2 t111 _ A2.out).mono ?_); rintro e w' ⟨rfl, ⟨nd, rfl⟩⟩; refine ⟨_, rfl, ?_⟩) | (go_at_call 15; (with_reducible refine (path_Nodes.calls 2 t112 _ A4.out).mono ?_); rintro e w11 ⟨rfl, hb⟩; have n0_ := Aside0.mk (Kd.R_below (by (with_reducible repeat (first | apply Kd.R_alloc | apply Kd.R_drewN | apply Kd.R_drew)); exact HO110.out) hb); have n1_ := Aside0.mk (below_step (by repeat (first | (with_reducible first | exact HB.out | apply below_alloc | apply pw_below_drewN | apply below_drew1) | exact HB.out)) hb); clear HO110; clear HB; have HO110 := n0_; have HB := n1_; clear n0_ n1_; (try clear hb); (try clear hb2); (try clear hk); (try clear hi); obtain ⟨Ao12, co12, eo12⟩ := Kd.R_slice HO110.out; subst eo12; have p113 : 0 ≤ (0 : Int) := (by omega); have q113 : 0 < (t108.length : Int) := of_decide_eq_true (by first | (with_reducible assumption) | assumption); obtain ⟨ad113, e113, hx113_0⟩ := Kd.at_int (Kd.R_reads' HO110.out).2.2 0 p113 q113; cases e113; have qi113 : (0 < t108.length) = True := eq_true (by omega); (try rw [show ((0 : Int)).toNat = 0 from rfl] at hx113_0); (try rw [Addr.add_zero'] at hx113_0); replace p113 := eq_true p113; replace q113 := eq_true q113; have p114 : 0 ≤ (1 : Int) := (by omega); have q114 : 1 < (t108.length : Int) := of_decide_eq_true (by first | (with_reducible assumption) | assumption); obtain ⟨ad114, e114, hx114_0⟩ := Kd.at_int (Kd.R_reads' HO110.out).2.2 1 p114 q114; obtain rfl : ad113 = ad114 := (by injection e114); (try simp only [show (1 : Int).toNat = 1 from rfl, Nat.reduceMul, Nat.reduceEqDiff, Go.Addr.add, ↓reduceIte] at hx114_0); have qi114 : (1 < t108.length) = True := eq_true (by omega); (try rw [show ((1 : Int)).toNat = 1 from rfl] at hx114_0); replace p114 := eq_true p114; replace q114 := eq_true q114))
              go_ret
              exact ⟨by first | rfl | (simp [errW_none, errW_some] <;> rfl) | (simp [*, errW_none, errW_some] <;> rfl), by repeat (first | (with_reducible first | exact HB.out | apply below_alloc | apply pw_below_drewN | apply below_drew1) | exact HB.out)⟩
            · rw [if_neg c9] at H
              exact absurd H (by simp)
          · rw [if_neg c8] at H
            have c8b0 : ((rd t108 0) == 1) = false := beq_eq_false_iff_ne.mpr c8
            have c8b1 : ((rd t108 0) != 1) = true := bne_iff_ne.mpr c8
            obtain rfl := Option.some.inj H
            go_enter Try.func8, Try.ntmps8
            go_wp2_with (first | ((with_reducible refine gate_callee (f := 9) rfl ?_); refine goesL_ (some 2) rfl rfl Try.func9 (by kernel_rfl) rfl #[.int .i64 2, .int .i64 6] rfl (by (try simp only [List.map_toArray, List.map_cons, List.map_nil]); first | done | rfl | (simp only [List.length_drop, List.length_take]; rfl)) ?_; (with_reducible refine (path_Way.calls k 2 6 t108 _ A1.out).mono ?_); rintro e w13 ⟨v109, rfl, ho0, hb⟩; refine ⟨_, rfl, ?_⟩; have n0_ := Aside0.mk (Kd.R_lower ho0 (below_size (by repeat (first | (with_reducible first | exact HB.out | apply below_alloc | apply pw_below_drewN | apply below_drew1) | exact HB.out)))); have n1_ := Aside0.mk (below_step (by repeat (first | (with_reducible first | exact HB.out | apply below_alloc | apply pw_below_drewN | apply below_drew1) | exact HB.out)) hb); clear HB; have HO110 := n0_; have HB := n1_; clear n0_ n1_; (try clear hb); (try clear hb2); (try clear hk); (try clear hi); (try clear ho0)) | ((with_reducible refine gate_callee (f := 13) rfl ?_); refine goesL_ (some 3) rfl rfl Try.func13 (by kernel_rfl) rfl #[.int .i64 2] rfl (by (try simp only [List.map_toArray, List.map_cons, List.map_nil]); first | done | rfl | (simp only [List.length_drop, List.length_take]; rfl)) ?_; (with_reducible refine (path_Slots.calls 2 t111 _ A2.out).mono ?_); rintro e w' ⟨rfl, ⟨nd, rfl⟩⟩; refine ⟨_, rfl, ?_⟩) | (go_at_call 15; (with_reducible refine (path_Nodes.calls 2 t112 _ A4.out).mono ?_); rintro e w14 ⟨rfl, hb⟩; have n0_ := Aside0.mk (Kd.R_below (by (with_reducible repeat (first | apply Kd.R_alloc | apply Kd.R_drewN | apply Kd.R_drew)); exact HO110.out) hb); have n1_ := Aside0.mk (below_step (by repeat (first | (with_reducible first | exact HB.out | apply below_alloc | apply pw_below_drewN | apply below_drew1) | exact HB.out)) hb); clear HO110; clear HB; have HO110 := n0_; have HB := n1_; clear n0_ n1_; (try clear hb); (try clear hb2); (try clear hk); (try clear hi); obtain ⟨Ao15, co15, eo15⟩ := Kd.R_slice HO110.out; subst eo15; have p113 : 0 ≤ (0 : Int) := (by omega); have q113 : 0 < (t108.length : Int) := of_decide_eq_true (by first | (with_reducible assumption) | assumption); obtain ⟨ad113, e113, hx113_0⟩ := Kd.at_int (Kd.R_reads' HO110.out).2.2 0 p113 q113; cases e113; have qi113 : (0 < t108.length) = True := eq_true (by omega); (try rw [show ((0 : Int)).toNat = 0 from rfl] at hx113_0); (try rw [Addr.add_zero'] at hx113_0); replace p113 := eq_true p113; replace q113 := eq_true q113))
            go_ret
            exact ⟨by first | rfl | (simp [errW_none, errW_some] <;> rfl) | (simp [*, errW_none, errW_some] <;> rfl), by repeat (first | (with_reducible first | exact HB.out | apply below_alloc | apply pw_below_drewN | apply below_drew1) | exact HB.out)⟩
        · rw [if_neg c7] at H
          exact absurd H (by simp)
      · rw [if_neg c6] at H
        have c6b0 : ((t108.length : Int) == 2) = false := beq_eq_false_iff_ne.mpr c6
        have c6b1 : ((t108.length : Int) != 2) = true := bne_iff_ne.mpr c6
        obtain rfl := Option.some.inj H
        go_enter Try.func8, Try.ntmps8
        go_wp2_with (first | ((with_reducible refine gate_callee (f := 9) rfl ?_); refine goesL_ (some 2) rfl rfl Try.func9 (by kernel_rfl) rfl #[.int .i64 2, .int .i64 6] rfl (by (try simp only [List.map_toArray, List.map_cons, List.map_nil]); first | done | rfl | (simp only [List.length_drop, List.length_take]; rfl)) ?_; (with_reducible refine (path_Way.calls k 2 6 t108 _ A1.out).mono ?_); rintro e w16 ⟨v109, rfl, ho0, hb⟩; refine ⟨_, rfl, ?_⟩; have n0_ := Aside0.mk (Kd.R_lower ho0 (below_size (by repeat (first | (with_reducible first | exact HB.out | apply below_alloc | apply pw_below_drewN | apply below_drew1) | exact HB.out)))); have n1_ := Aside0.mk (below_step (by repeat (first | (with_reducible first | exact HB.out | apply below_alloc | apply pw_below_drewN | apply below_drew1) | exact HB.out)) hb); clear HB; have HO110 := n0_; have HB := n1_; clear n0_ n1_; (try clear hb); (try clear hb2); (try clear hk); (try clear hi); (try clear ho0)) | ((with_reducible refine gate_callee (f := 13) rfl ?_); refine goesL_ (some 3) rfl rfl Try.func13 (by kernel_rfl) rfl #[.int .i64 2] rfl (by (try simp only [List.map_toArray, List.map_cons, List.map_nil]); first | done | rfl | (simp only [List.length_drop, List.length_take]; rfl)) ?_; (with_reducible refine (path_Slots.calls 2 t111 _ A2.out).mono ?_); rintro e w' ⟨rfl, ⟨nd, rfl⟩⟩; refine ⟨_, rfl, ?_⟩) | (go_at_call 15; (with_reducible refine (path_Nodes.calls 2 t112 _ A4.out).mono ?_); rintro e w17 ⟨rfl, hb⟩; have n0_ := Aside0.mk (Kd.R_below (by (with_reducible repeat (first | apply Kd.R_alloc | apply Kd.R_drewN | apply Kd.R_drew)); exact HO110.out) hb); have n1_ := Aside0.mk (below_step (by repeat (first | (with_reducible first | exact HB.out | apply below_alloc | apply pw_below_drewN | apply below_drew1) | exact HB.out)) hb); clear HO110; clear HB; have HO110 := n0_; have HB := n1_; clear n0_ n1_; (try clear hb); (try clear hb2); (try clear hk); (try clear hi); obtain ⟨Ao18, co18, eo18⟩ := Kd.R_slice HO110.out; subst eo18))
        go_ret
        exact ⟨by first | rfl | (simp [errW_none, errW_some] <;> rfl) | (simp [*, errW_none, errW_some] <;> rfl), by repeat (first | (with_reducible first | exact HB.out | apply below_alloc | apply pw_below_drewN | apply below_drew1) | exact HB.out)⟩
    · rw [if_neg c5] at H
      have c5b0 : (t112 == 5) = false := beq_eq_false_iff_ne.mpr c5
      have c5b1 : (t112 != 5) = true := bne_iff_ne.mpr c5
      obtain rfl := Option.some.inj H
      go_enter Try.func8, Try.ntmps8
      go_wp2_with (first | ((with_reducible refine gate_callee (f := 9) rfl ?_); refine goesL_ (some 2) rfl rfl Try.func9 (by kernel_rfl) rfl #[.int .i64 2, .int .i64 6] rfl (by (try simp only [List.map_toArray, List.map_cons, List.map_nil]); first | done | rfl | (simp only [List.length_drop, List.length_take]; rfl)) ?_; (with_reducible refine (path_Way.calls k 2 6 t108 _ A1.out).mono ?_); rintro e w19 ⟨v109, rfl, ho0, hb⟩; refine ⟨_, rfl, ?_⟩; have n0_ := Aside0.mk (Kd.R_lower ho0 (below_size (by repeat (first | (with_reducible first | exact HB.out | apply below_alloc | apply pw_below_drewN | apply below_drew1) | exact HB.out)))); have n1_ := Aside0.mk (below_step (by repeat (first | (with_reducible first | exact HB.out | apply below_alloc | apply pw_below_drewN | apply below_drew1) | exact HB.out)) hb); clear HB; have HO110 := n0_; have HB := n1_; clear n0_ n1_; (try clear hb); (try clear hb2); (try clear hk); (try clear hi); (try clear ho0)) | ((with_reducible refine gate_callee (f := 13) rfl ?_); refine goesL_ (some 3) rfl rfl Try.func13 (by kernel_rfl) rfl #[.int .i64 2] rfl (by (try simp only [List.map_toArray, List.map_cons, List.map_nil]); first | done | rfl | (simp only [List.length_drop, List.length_take]; rfl)) ?_; (with_reducible refine (path_Slots.calls 2 t111 _ A2.out).mono ?_); rintro e w' ⟨rfl, ⟨nd, rfl⟩⟩; refine ⟨_, rfl, ?_⟩) | (go_at_call 15; (with_reducible refine (path_Nodes.calls 2 t112 _ A4.out).mono ?_); rintro e w20 ⟨rfl, hb⟩; have n0_ := Aside0.mk (Kd.R_below (by (with_reducible repeat (first | apply Kd.R_alloc | apply Kd.R_drewN | apply Kd.R_drew)); exact HO110.out) hb); have n1_ := Aside0.mk (below_step (by repeat (first | (with_reducible first | exact HB.out | apply below_alloc | apply pw_below_drewN | apply below_drew1) | exact HB.out)) hb); clear HO110; clear HB; have HO110 := n0_; have HB := n1_; clear n0_ n1_; (try clear hb); (try clear hb2); (try clear hk); (try clear hi)))
      go_ret
      exact ⟨by first | rfl | (simp [errW_none, errW_some] <;> rfl) | (simp [*, errW_none, errW_some] <;> rfl), by repeat (first | (with_reducible first | exact HB.out | apply below_alloc | apply pw_below_drewN | apply below_drew1) | exact HB.out)⟩
  · rw [if_neg c3] at H
    have c3b0 : (t111 == 16) = false := beq_eq_false_iff_ne.mpr c3
    have c3b1 : (t111 != 16) = true := bne_iff_ne.mpr c3
    obtain rfl := Option.some.inj H
    go_enter Try.func8, Try.ntmps8
    go_wp2_with (first | ((with_reducible refine gate_callee (f := 9) rfl ?_); refine goesL_ (some 2) rfl rfl Try.func9 (by kernel_rfl) rfl #[.int .i64 2, .int .i64 6] rfl (by (try simp only [List.map_toArray, List.map_cons, List.map_nil]); first | done | rfl | (simp only [List.length_drop, List.length_take]; rfl)) ?_; (with_reducible refine (path_Way.calls k 2 6 t108 _ A1.out).mono ?_); rintro e w21 ⟨v109, rfl, ho0, hb⟩; refine ⟨_, rfl, ?_⟩; have n0_ := Aside0.mk (Kd.R_lower ho0 (below_size (by repeat (first | (with_reducible first | exact HB.out | apply below_alloc | apply pw_below_drewN | apply below_drew1) | exact HB.out)))); have n1_ := Aside0.mk (below_step (by repeat (first | (with_reducible first | exact HB.out | apply below_alloc | apply pw_below_drewN | apply below_drew1) | exact HB.out)) hb); clear HB; have HO110 := n0_; have HB := n1_; clear n0_ n1_; (try clear hb); (try clear hb2); (try clear hk); (try clear hi); (try clear ho0)) | ((with_reducible refine gate_callee (f := 13) rfl ?_); refine goesL_ (some 3) rfl rfl Try.func13 (by kernel_rfl) rfl #[.int .i64 2] rfl (by (try simp only [List.map_toArray, List.map_cons, List.map_nil]); first | done | rfl | (simp only [List.length_drop, List.length_take]; rfl)) ?_; (with_reducible refine (path_Slots.calls 2 t111 _ A2.out).mono ?_); rintro e w' ⟨rfl, ⟨nd, rfl⟩⟩; refine ⟨_, rfl, ?_⟩))
    go_ret
    exact ⟨by first | rfl | (simp [errW_none, errW_some] <;> rfl) | (simp [*, errW_none, errW_some] <;> rfl), by repeat (first | (with_reducible first | exact HB.out | apply below_alloc | apply pw_below_drewN | apply below_drew1) | exact HB.out)⟩

/-! ### oublietteref07_Power: function 19 -/
def oublietteref07_Power.l0 : Nat → Int → Int → Int → Option (Int)
  | 0, _, _, _ => none
  | k + 1, x0, x3, x4 => if x4 < x0 then (oublietteref07_Power.l0 k x0 (wrap64 (x3 * 4)) (wrap64 (x4 + 1))) else (some x3)
def oublietteref07_Power.f (k : Nat) (a0 : Int) : Option (Int) := oublietteref07_Power.l0 k a0 1 0
theorem oublietteref07_Power.mono_l : ∀ k, (∀ y0 y1 y2, LeO (oublietteref07_Power.l0 k y0 y1 y2) (oublietteref07_Power.l0 (k + 1) y0 y1 y2))
  | 0 => fun _ _ _ r h => by simp [oublietteref07_Power.l0] at h
  | k + 1 => by
    have ih0 := oublietteref07_Power.mono_l k
    · intro y0 y1 y2
      unfold oublietteref07_Power.l0
      repeat' first
      | (with_reducible exact ih0 _ _ _)
      | (with_reducible exact LeO.refl _)
      | (with_reducible exact LeO.none _)
      | (with_reducible refine LeO.ite ?_ ?_)
      | (with_reducible refine LeO.bind ?_ (fun _ => ?_))
      | exact ih0 _ _ _
      | exact LeO.none _
      | refine LeO.ite ?_ ?_
      | refine LeO.bind ?_ (fun _ => ?_)
theorem oublietteref07_Power.mono : ∀ a0 k, LeO (oublietteref07_Power.f k a0) (oublietteref07_Power.f (k + 1) a0) := by
  intro a0 k
  have ih0 := oublietteref07_Power.mono_l k
  unfold oublietteref07_Power.f
  repeat' first
      | (with_reducible exact ih0 _ _ _)
      | (with_reducible exact LeO.refl _)
      | (with_reducible exact LeO.none _)
      | (with_reducible refine LeO.ite ?_ ?_)
      | (with_reducible refine LeO.bind ?_ (fun _ => ?_))
      | exact ih0 _ _ _
      | exact LeO.none _
      | refine LeO.ite ?_ ?_
      | refine LeO.bind ?_ (fun _ => ?_)
set_option maxHeartbeats 8000000 in
set_option maxRecDepth 100000 in
theorem oublietteref07_Power.calls (k : Nat) (a0 : Int) (r : Int) (w : World) (h : oublietteref07_Power.f k a0 = some r) :
    Calls Try.prog 19 #[.int .i64 a0] w fun e w' => e = .returned (.int .i64 r) ∧ Drawn0 w w' := by
  have H : (oublietteref07_Power.l0 k a0 1 0) = some r := h
  clear h
  have H' := Aside0.mk H
  clear H
  go_enter Try.func19, Try.ntmps19
  go_wp2
  go_loopg [3, 4] k (fun kq v3 v4 w' => ∃ (x3_1 : Int) (x4_1 : Int), v3 = .int .i64 x3_1 ∧ v4 = .int .i64 x4_1 ∧ Aside0 (oublietteref07_Power.l0 kq a0 x3_1 x4_1 = some r) ∧ Aside0 (kq ≤ k) ∧ Drawn0 w w')
  case atStart => exact ⟨(1), (0), (by first | rfl | (simp; done) | (simp [*]; done)), (by first | rfl | (simp; done) | (simp [*]; done)), H', ⟨Nat.le_refl _⟩, by repeat (first | exact Drawn0.refl _ | apply Drawn0.step)⟩
  case round =>
    clear H'
    try clear c1
    obtain ⟨x3_1, x4_1, rfl, rfl, HA, HK1, ⟨m1, rfl⟩⟩ := hrel
    cases gk with
    | zero => exact absurd HA.out (by simp [oublietteref07_Power.l0])
    | succ k1 =>
      have H := HA.out
      clear HA
      simp only [oublietteref07_Power.l0] at H
      by_cases c2 : x4_1 < a0
      · rw [if_pos c2] at H
        have c2b0 : decide (x4_1 < a0) = true := decide_eq_true c2
        clear c2
        have H' := Aside0.mk H
        clear H
        go_wp2
        go_roundg k1
        case measure => have := HK1.out; omega
        case rel => exact ⟨(wrap64 (x3_1 * 4)), (wrap64 (x4_1 + 1)), (by first | rfl | (simp; done) | (simp [*]; done)), (by first | rfl | (simp; done) | (simp [*]; done)), H', ⟨by have := HK1.out; omega⟩, by repeat (first | exact Drawn0.refl _ | apply Drawn0.step)⟩
      · rw [if_neg c2] at H
        have c2b0 : decide (x4_1 < a0) = false := decide_eq_false c2
        clear c2
        obtain rfl := Option.some.inj H
        go_wp2
        go_ret
        exact ⟨by first | rfl | (simp; done) | (simp [*]; done), by repeat (first | exact Drawn0.refl _ | apply Drawn0.step)⟩

/-! ### oublietteref07_Slots: function 14 -/
def oublietteref07_Slots.f (k : Nat) (a0 : Int) : Option (Int) := if a0 < 1 then (some 0) else (if a0 > 4 then (some 0) else ((oublietteref07_Power.f k a0).bind fun t115 => (some t115)))
theorem oublietteref07_Slots.mono : ∀ a0 k, LeO (oublietteref07_Slots.f k a0) (oublietteref07_Slots.f (k + 1) a0) := by
  intro a0 k
  unfold oublietteref07_Slots.f
  repeat' first
      | (with_reducible exact oublietteref07_Power.mono _ _)
      | (with_reducible exact LeO.refl _)
      | (with_reducible exact LeO.none _)
      | (with_reducible refine LeO.ite ?_ ?_)
      | (with_reducible refine LeO.bind ?_ (fun _ => ?_))
      | exact oublietteref07_Power.mono _ _
      | exact LeO.none _
      | refine LeO.ite ?_ ?_
      | refine LeO.bind ?_ (fun _ => ?_)
set_option maxHeartbeats 8000000 in
set_option maxRecDepth 100000 in
theorem oublietteref07_Slots.calls (k : Nat) (a0 : Int) (r : Int) (w : World) (h : oublietteref07_Slots.f k a0 = some r) :
    Calls Try.prog 14 #[.int .i64 a0] w fun e w' => e = .returned (.int .i64 r) ∧ Drawn0 w w' := by
  have H : (if a0 < 1 then (some 0) else (if a0 > 4 then (some 0) else ((oublietteref07_Power.f k a0).bind fun t115 => (some t115)))) = some r := h
  clear h
  by_cases c2 : a0 < 1
  · rw [if_pos c2] at H
    have c2b0 : decide (a0 < 1) = true := decide_eq_true c2
    clear c2
    obtain rfl := Option.some.inj H
    go_enter Try.func14, Try.ntmps14
    go_wp2
    go_ret
    exact ⟨by first | rfl | (simp; done) | (simp [*]; done), by repeat (first | exact Drawn0.refl _ | apply Drawn0.step)⟩
  · rw [if_neg c2] at H
    have c2b0 : decide (a0 < 1) = false := decide_eq_false c2
    clear c2
    by_cases c3 : a0 > 4
    · rw [if_pos c3] at H
      have c3b0 : decide (4 < a0) = true := decide_eq_true c3
      clear c3
      obtain rfl := Option.some.inj H
      go_enter Try.func14, Try.ntmps14
      go_wp2
      go_ret
      exact ⟨by first | rfl | (simp; done) | (simp [*]; done), by repeat (first | exact Drawn0.refl _ | apply Drawn0.step)⟩
    · rw [if_neg c3] at H
      have c3b0 : decide (4 < a0) = false := decide_eq_false c3
      clear c3
      replace H := Option.bind_eq_some_iff.mp H
      obtain ⟨t115, A40, H⟩ := H
      replace H : (some t115) = some r := H
      have A4 := Aside0.mk A40
      clear A40
      obtain rfl := Option.some.inj H
      go_enter Try.func14, Try.ntmps14
      go_wp2_with (first | ((with_reducible refine gate_callee (f := 19) rfl ?_); refine goesL_ (some 10) rfl rfl Try.func19 (by kernel_rfl) rfl #[.int .i64 a0] rfl (by (try simp only [List.map_toArray, List.map_cons, List.map_nil]); first | done | rfl | (simp only [List.length_drop, List.length_take]; rfl)) ?_; (with_reducible refine (oublietteref07_Power.calls k a0 t115 _ A4.out).mono ?_); rintro e w' ⟨rfl, ⟨nd, rfl⟩⟩; refine ⟨_, rfl, ?_⟩))
      go_ret
      exact ⟨by first | rfl | (simp; done) | (simp [*]; done), by repeat (first | exact Drawn0.refl _ | apply Drawn0.step)⟩

/-! ### oublietteref07_All: function 12 -/
mutual
def oublietteref07_All.l0 : Nat → Int → List (S33) → Int → Option ((List (S33)))
  | 0, _, _, _ => none
  | k + 1, x0, x3, x4 => if x4 < x0 then (oublietteref07_All.l1 k x0 x3 x4 0) else (some x3)
def oublietteref07_All.l1 : Nat → Int → List (S33) → Int → Int → Option ((List (S33)))
  | 0, _, _, _, _ => none
  | k + 1, x0, x3, x4, x5 => (oublietteref07_Power.f k x4).bind fun t117 => (if x5 < t117 then (if x3.length < 8796093022208 then (oublietteref07_All.l1 k x0 (x3 ++ [(⟨x4, x5⟩ : S33)]) x4 (wrap64 (x5 + 1))) else (none)) else (oublietteref07_All.l0 k x0 x3 (wrap64 (x4 + 1))))
end
def oublietteref07_All.f (k : Nat) (a0 : Int) : Option ((List (S33))) := (oublietteref07_Slots.f k a0).bind fun t116 => (if t116 = 0 then (some ([] : List (S33))) else (oublietteref07_All.l0 k a0 ([] : List (S33)) 0))
theorem oublietteref07_All.mono_l : ∀ k, (∀ y0 y1 y2, LeO (oublietteref07_All.l0 k y0 y1 y2) (oublietteref07_All.l0 (k + 1) y0 y1 y2)) ∧ (∀ y0 y1 y2 y3, LeO (oublietteref07_All.l1 k y0 y1 y2 y3) (oublietteref07_All.l1 (k + 1) y0 y1 y2 y3))
  | 0 => ⟨fun _ _ _ r h => by simp [oublietteref07_All.l0] at h, fun _ _ _ _ r h => by simp [oublietteref07_All.l1] at h⟩
  | k + 1 => by
    obtain ⟨ih0, ih1⟩ := oublietteref07_All.mono_l k
    refine ⟨?_, ?_⟩
    · intro y0 y1 y2
      unfold oublietteref07_All.l0
      repeat' first
      | (with_reducible exact ih0 _ _ _)
      | (with_reducible exact ih1 _ _ _ _)
      | (with_reducible exact oublietteref07_Power.mono _ _)
      | (with_reducible exact oublietteref07_Slots.mono _ _)
      | (with_reducible exact LeO.refl _)
      | (with_reducible exact LeO.none _)
      | (with_reducible refine LeO.ite ?_ ?_)
      | (with_reducible refine LeO.bind ?_ (fun _ => ?_))
      | exact ih0 _ _ _
      | exact ih1 _ _ _ _
      | exact oublietteref07_Power.mono _ _
      | exact oublietteref07_Slots.mono _ _
      | exact LeO.none _
      | refine LeO.ite ?_ ?_
      | refine LeO.bind ?_ (fun _ => ?_)
    · intro y0 y1 y2 y3
      unfold oublietteref07_All.l1
      repeat' first
      | (with_reducible exact ih0 _ _ _)
      | (with_reducible exact ih1 _ _ _ _)
      | (with_reducible exact oublietteref07_Power.mono _ _)
      | (with_reducible exact oublietteref07_Slots.mono _ _)
      | (with_reducible exact LeO.refl _)
      | (with_reducible exact LeO.none _)
      | (with_reducible refine LeO.ite ?_ ?_)
      | (with_reducible refine LeO.bind ?_ (fun _ => ?_))
      | exact ih0 _ _ _
      | exact ih1 _ _ _ _
      | exact oublietteref07_Power.mono _ _
      | exact oublietteref07_Slots.mono _ _
      | exact LeO.none _
      | refine LeO.ite ?_ ?_
      | refine LeO.bind ?_ (fun _ => ?_)
theorem oublietteref07_All.mono : ∀ a0 k, LeO (oublietteref07_All.f k a0) (oublietteref07_All.f (k + 1) a0) := by
  intro a0 k
  obtain ⟨ih0, ih1⟩ := oublietteref07_All.mono_l k
  unfold oublietteref07_All.f
  repeat' first
      | (with_reducible exact ih0 _ _ _)
      | (with_reducible exact ih1 _ _ _ _)
      | (with_reducible exact oublietteref07_Power.mono _ _)
      | (with_reducible exact oublietteref07_Slots.mono _ _)
      | (with_reducible exact LeO.refl _)
      | (with_reducible exact LeO.none _)
      | (with_reducible refine LeO.ite ?_ ?_)
      | (with_reducible refine LeO.bind ?_ (fun _ => ?_))
      | exact ih0 _ _ _
      | exact ih1 _ _ _ _
      | exact oublietteref07_Power.mono _ _
      | exact oublietteref07_Slots.mono _ _
      | exact LeO.none _
      | refine LeO.ite ?_ ?_
      | refine LeO.bind ?_ (fun _ => ?_)
set_option maxHeartbeats 8000000 in
set_option maxRecDepth 100000 in
theorem oublietteref07_All.calls (k : Nat) (a0 : Int) (r : List (S33)) (w : World) (h : oublietteref07_All.f k a0 = some r) :
    Calls Try.prog 12 #[.int .i64 a0] w fun e w' => ∃ v0_ : Value, e = .returned (v0_) ∧ Kd.R k33 33 w' w.heap.size (fun _ => True) v0_ r ∧ Below w.heap.size w w' := by
  have hu33 := Try.underlying33
  have HB := Aside0.mk (Below.refl w.heap.size w)
  have H : ((oublietteref07_Slots.f k a0).bind fun t116 => (if t116 = 0 then (some ([] : List (S33))) else (oublietteref07_All.l0 k a0 ([] : List (S33)) 0))) = some r := h
  clear h
  replace H := Option.bind_eq_some_iff.mp H
  obtain ⟨t116, A20, H⟩ := H
  replace H : (if t116 = 0 then (some ([] : List (S33))) else (oublietteref07_All.l0 k a0 ([] : List (S33)) 0)) = some r := H
  have A2 := Aside0.mk A20
  clear A20
  by_cases c3 : t116 = 0
  · rw [if_pos c3] at H
    have c3b0 : (t116 == 0) = true := beq_iff_eq.mpr c3
    have c3b1 : (t116 != 0) = false := bne_eq_false_iff_eq.mpr c3
    clear c3
    obtain rfl := Option.some.inj H
    go_enter Try.func12, Try.ntmps12
    go_wp2_with (first | ((with_reducible refine gate_callee (f := 14) rfl ?_); refine goesL_ (some 7) rfl rfl Try.func14 (by kernel_rfl) rfl #[.int .i64 a0] rfl (by (try simp only [List.map_toArray, List.map_cons, List.map_nil]); first | done | rfl | (simp only [List.length_drop, List.length_take]; rfl)) ?_; (with_reducible refine (oublietteref07_Slots.calls k a0 t116 _ A2.out).mono ?_); rintro e w' ⟨rfl, ⟨nd, rfl⟩⟩; refine ⟨_, rfl, ?_⟩))
    go_ret
    exact ⟨_, by first | rfl | (simp [errW_none, errW_some] <;> rfl) | (simp [*, errW_none, errW_some] <;> rfl), by first | exact Kd.R_nil _ _ _ _ _ | exact Kd.N_nil _ _ _ _ _ | exact Kd.V_nil _ _ _ _ _ | exact Kd.Q_nil _ _ _ _ _ | exact Kd.S_nil _ _ _ _ _, by repeat (first | (with_reducible first | exact HB.out | apply below_alloc | apply pw_below_drewN | apply below_drew1) | exact HB.out)⟩
  · rw [if_neg c3] at H
    have c3b0 : (t116 == 0) = false := beq_eq_false_iff_ne.mpr c3
    have c3b1 : (t116 != 0) = true := bne_iff_ne.mpr c3
    have H' := Aside0.mk H
    clear H
    go_enter Try.func12, Try.ntmps12
    go_wp2_with (first | ((with_reducible refine gate_callee (f := 14) rfl ?_); refine goesL_ (some 7) rfl rfl Try.func14 (by kernel_rfl) rfl #[.int .i64 a0] rfl (by (try simp only [List.map_toArray, List.map_cons, List.map_nil]); first | done | rfl | (simp only [List.length_drop, List.length_take]; rfl)) ?_; (with_reducible refine (oublietteref07_Slots.calls k a0 t116 _ A2.out).mono ?_); rintro e w' ⟨rfl, ⟨nd, rfl⟩⟩; refine ⟨_, rfl, ?_⟩))
    go_loopg [3, 4] k (fun kq v3 v4 w' => ∃ (x3_1 : List (S33)) (x4_1 : Int), v4 = .int .i64 x4_1 ∧ Aside0 (oublietteref07_All.l0 kq a0 x3_1 x4_1 = some r) ∧ Aside0 (kq ≤ k) ∧ Aside0 (Kd.R k33 33 w' w.heap.size (fun _ => True) v3 x3_1) ∧ Aside0 (Below w.heap.size w w'))
    case atStart => exact ⟨(([] : List (S33))), (0), (by first | rfl | (simp; done) | (simp [*]; done)), H', ⟨Nat.le_refl _⟩, ⟨by first | exact Kd.R_nil _ _ _ _ _ | exact Kd.N_nil _ _ _ _ _ | exact Kd.V_nil _ _ _ _ _ | exact Kd.Q_nil _ _ _ _ _ | exact Kd.S_nil _ _ _ _ _⟩, ⟨by repeat (first | (with_reducible first | exact HB.out | apply below_alloc | apply pw_below_drewN | apply below_drew1) | exact HB.out)⟩⟩
    case round =>
      clear H'
      try clear c1
      try clear p2
      try clear c3
      try clear c3b0
      try clear c3b1
      obtain ⟨x3_1, x4_1, rfl, HA, HK1, HO_3, HB⟩ := hrel
      cases gk with
      | zero => exact absurd HA.out (by simp [oublietteref07_All.l0])
      | succ k1 =>
        have H := HA.out
        clear HA
        simp only [oublietteref07_All.l0] at H
        by_cases c4 : x4_1 < a0
        · rw [if_pos c4] at H
          have c4b0 : decide (x4_1 < a0) = true := decide_eq_true c4
          clear c4
          have H' := Aside0.mk H
          clear H
          go_wp2
          go_loopg [3, 5] k1 (fun kq v3 v5 w' => ∃ (x3_2 : List (S33)) (x5_2 : Int), v5 = .int .i64 x5_2 ∧ Aside0 (oublietteref07_All.l1 kq a0 x3_2 x4_1 x5_2 = some r) ∧ Aside0 (kq ≤ k1) ∧ Aside0 (Kd.R k33 33 w' w.heap.size (fun _ => True) v3 x3_2) ∧ Aside0 (Below w.heap.size w w'))
          case atStart => exact ⟨(x3_1), (0), (by first | rfl | (simp; done) | (simp [*]; done)), H', ⟨Nat.le_refl _⟩, ⟨by (with_reducible repeat (first | apply Kd.R_alloc | apply Kd.R_drewN | apply Kd.R_drew)); exact HO_3.out⟩, ⟨by repeat (first | (with_reducible first | exact HB.out | apply below_alloc | apply pw_below_drewN | apply below_drew1) | exact HB.out)⟩⟩
          case round =>
            clear H'
            try clear c1
            try clear p2
            try clear c3
            try clear c3b0
            try clear c3b1
            try clear c4
            try clear c4b0
            try clear p2
            obtain ⟨x3_2, x5_2, rfl, HA, HK2, HO_3, HB⟩ := hrel
            cases gk with
            | zero => exact absurd HA.out (by simp [oublietteref07_All.l1])
            | succ k2 =>
              have H := HA.out
              clear HA
              simp only [oublietteref07_All.l1] at H
              replace H := Option.bind_eq_some_iff.mp H
              obtain ⟨t117, A50, H⟩ := H
              replace H : (if x5_2 < t117 then (if x3_2.length < 8796093022208 then (oublietteref07_All.l1 k2 a0 (x3_2 ++ [(⟨x4_1, x5_2⟩ : S33)]) x4_1 (wrap64 (x5_2 + 1))) else (none)) else (oublietteref07_All.l0 k2 a0 x3_2 (wrap64 (x4_1 + 1)))) = some r := H
              have A5 := Aside0.mk A50
              clear A50
              by_cases c6 : x5_2 < t117
              · rw [if_pos c6] at H
                have c6b0 : decide (x5_2 < t117) = true := decide_eq_true c6
                clear c6
                by_cases c7 : x3_2.length < 8796093022208
                · rw [if_pos c7] at H
                  have LMc7 := Aside0.mk c7
                  clear c7
                  obtain ⟨y118, hy118⟩ : ∃ y_ : List (S33), y_ = (x3_2 ++ [(⟨x4_1, x5_2⟩ : S33)]) := ⟨_, rfl⟩
                  replace H : (oublietteref07_All.l1 k2 a0 y118 x4_1 (wrap64 (x5_2 + 1))) = some r := by first | (rw [hy118]; with_reducible exact H) | (have H2_ := (Option.bind_some _ _).symm.trans H; rw [hy118]; with_reducible exact H2_) | (have H2_ := (Option.bind_some _ _).symm.trans H; with_reducible exact H2_) | with_reducible exact H | (rw [hy118]; exact H) | exact H
                  have Ny118 := Aside0.mk hy118
                  clear hy118
                  have H' := Aside0.mk H
                  clear H
                  go_wp2_with (first | ((with_reducible refine gate_callee (f := 19) rfl ?_); refine goesL_ (some 17) rfl rfl Try.func19 (by kernel_rfl) rfl #[.int .i64 x4_1] rfl (by (try simp only [List.map_toArray, List.map_cons, List.map_nil]); first | done | rfl | (simp only [List.length_drop, List.length_take]; rfl)) ?_; (with_reducible refine (oublietteref07_Power.calls k2 x4_1 t117 _ A5.out).mono ?_); rintro e w' ⟨rfl, ⟨nd, rfl⟩⟩; refine ⟨_, rfl, ?_⟩) | ((with_reducible refine gate_builtin (b := .append) (xs := #[.tmp 21, .tmp 25]) rfl ?_); at_builtin; refine Kd.R_append k33 (w0 := w) w.heap.size rfl (.tmp 21) (.tmp 25) 27 33 (.agg #[(.int .i64 0), (.int .i64 0)]) 16 rfl Try.underlying27 info33 rfl (by decide) (by omega) u3 x3_2 (⟨x4_1, x5_2⟩ : S33) [.int .i64 x4_1, .int .i64 x5_2] (fun _ => True) (fun _ => False) rfl rfl ?aP (fun _ hk => hk.elim) ?aF ?aO ?aB ?aS ?aL ?_; (case aP => exact k33_mkM _ _ _ (⟨x4_1, x5_2⟩ : S33)); (case aB => exact (by repeat (first | (with_reducible first | exact HB.out | apply below_alloc | apply pw_below_drewN | apply below_drew1) | exact HB.out))); (case aF => exact (fun _ _ => trivial)); (case aO => exact (by (with_reducible repeat (first | apply Kd.R_alloc | apply Kd.R_drewN | apply Kd.R_drew)); exact HO_3.out)); (case aS => exact (below_size (by repeat (first | (with_reducible first | exact HB.out | apply below_alloc | apply pw_below_drewN | apply below_drew1) | exact HB.out)))); (case aL => have := LMc7.out; omega); intro v119 w8 ho hb hg hat; rw [← Ny118.out] at ho; have n0_ := Aside0.mk (hb); have n1_ := Aside0.mk (ho); clear HB; clear HO_3; have HB := n0_; have HO120 := n1_; clear n0_ n1_; clear ho hb hg hat))
                  go_roundg k2
                  case measure => have := HK1.out; have := HK2.out; omega
                  case rel => exact ⟨(y118), (wrap64 (x5_2 + 1)), (by first | rfl | (simp; done) | (simp [*]; done)), H', ⟨by have := HK1.out; have := HK2.out; omega⟩, ⟨by (with_reducible repeat (first | apply Kd.R_alloc | apply Kd.R_drewN | apply Kd.R_drew)); exact HO120.out⟩, ⟨by repeat (first | (with_reducible first | exact HB.out | apply below_alloc | apply pw_below_drewN | apply below_drew1) | exact HB.out)⟩⟩
                · rw [if_neg c7] at H
                  exact absurd H (by simp)
              · rw [if_neg c6] at H
                have c6b0 : decide (x5_2 < t117) = false := decide_eq_false c6
                clear c6
                have H' := Aside0.mk H
                clear H
                go_wp2_with (first | ((with_reducible refine gate_callee (f := 19) rfl ?_); refine goesL_ (some 17) rfl rfl Try.func19 (by kernel_rfl) rfl #[.int .i64 x4_1] rfl (by (try simp only [List.map_toArray, List.map_cons, List.map_nil]); first | done | rfl | (simp only [List.length_drop, List.length_take]; rfl)) ?_; (with_reducible refine (oublietteref07_Power.calls k2 x4_1 t117 _ A5.out).mono ?_); rintro e w' ⟨rfl, ⟨nd, rfl⟩⟩; refine ⟨_, rfl, ?_⟩))
                go_roundg k2
                case measure => have := HK1.out; have := HK2.out; omega
                case rel => exact ⟨(x3_2), (wrap64 (x4_1 + 1)), (by first | rfl | (simp; done) | (simp [*]; done)), H', ⟨by have := HK1.out; have := HK2.out; omega⟩, ⟨by (with_reducible repeat (first | apply Kd.R_alloc | apply Kd.R_drewN | apply Kd.R_drew)); exact HO_3.out⟩, ⟨by repeat (first | (with_reducible first | exact HB.out | apply below_alloc | apply pw_below_drewN | apply below_drew1) | exact HB.out)⟩⟩
        · rw [if_neg c4] at H
          have c4b0 : decide (x4_1 < a0) = false := decide_eq_false c4
          clear c4
          obtain rfl := Option.some.inj H
          go_wp2
          go_ret
          exact ⟨_, by first | rfl | (simp [errW_none, errW_some] <;> rfl) | (simp [*, errW_none, errW_some] <;> rfl), by (with_reducible repeat (first | apply Kd.R_alloc | apply Kd.R_drewN | apply Kd.R_drew)); exact HO_3.out, by repeat (first | (with_reducible first | exact HB.out | apply below_alloc | apply pw_below_drewN | apply below_drew1) | exact HB.out)⟩

/-! ### oublietteref07_Spots: function 16 -/
def oublietteref07_Spots.l0 : Nat → List (S33) → List (S33) → Int → Option (Bool)
  | 0, _, _, _ => none
  | k + 1, x0, x1, x5 => if x5 < (x0.length : Int) then (if 0 ≤ x5 then (if x5 < (x1.length : Int) then (if (!(((rd_T33 x0 x5).f0) == ((rd_T33 x1 x5).f0)) || (!(((rd_T33 x0 x5).f1) == ((rd_T33 x1 x5).f1)))) = true then (some false) else (oublietteref07_Spots.l0 k x0 x1 (wrap64 (x5 + 1)))) else (none)) else (none)) else (some true)
def oublietteref07_Spots.f (k : Nat) (l0 : List (S33)) (l1 : List (S33)) : Option (Bool) := if (l0.length : Int) = (l1.length : Int) then (oublietteref07_Spots.l0 k l0 l1 0) else (some false)
theorem oublietteref07_Spots.mono_l : ∀ k, (∀ y0 y1 y2, LeO (oublietteref07_Spots.l0 k y0 y1 y2) (oublietteref07_Spots.l0 (k + 1) y0 y1 y2))
  | 0 => fun _ _ _ r h => by simp [oublietteref07_Spots.l0] at h
  | k + 1 => by
    have ih0 := oublietteref07_Spots.mono_l k
    · intro y0 y1 y2
      unfold oublietteref07_Spots.l0
      repeat' first
      | (with_reducible exact ih0 _ _ _)
      | (with_reducible exact LeO.refl _)
      | (with_reducible exact LeO.none _)
      | (with_reducible refine LeO.ite ?_ ?_)
      | (with_reducible refine LeO.bind ?_ (fun _ => ?_))
      | exact ih0 _ _ _
      | exact LeO.none _
      | refine LeO.ite ?_ ?_
      | refine LeO.bind ?_ (fun _ => ?_)
theorem oublietteref07_Spots.mono : ∀ a0 a1 k, LeO (oublietteref07_Spots.f k a0 a1) (oublietteref07_Spots.f (k + 1) a0 a1) := by
  intro a0 a1 k
  have ih0 := oublietteref07_Spots.mono_l k
  unfold oublietteref07_Spots.f
  repeat' first
      | (with_reducible exact ih0 _ _ _)
      | (with_reducible exact LeO.refl _)
      | (with_reducible exact LeO.none _)
      | (with_reducible refine LeO.ite ?_ ?_)
      | (with_reducible refine LeO.bind ?_ (fun _ => ?_))
      | exact ih0 _ _ _
      | exact LeO.none _
      | refine LeO.ite ?_ ?_
      | refine LeO.bind ?_ (fun _ => ?_)
set_option maxHeartbeats 8000000 in
set_option maxRecDepth 100000 in
theorem oublietteref07_Spots.calls (k : Nat) (A0 : Option Addr) (c0 : Nat) (l0 : List (S33)) (A1 : Option Addr) (c1 : Nat) (l1 : List (S33)) (r : Bool) (w : World) (hr0 : Kd.C k33 w A0 l0.length l0) (hc0 : l0.length ≤ c0) (hr1 : Kd.C k33 w A1 l1.length l1) (hc1 : l1.length ≤ c1) (h : oublietteref07_Spots.f k l0 l1 = some r) :
    Calls Try.prog 16 #[.slice A0 l0.length c0, .slice A1 l1.length c1] w fun e w' => e = .returned (.bool r) ∧ Drawn0 w w' := by
  have hu33 := Try.underlying33
  have HR0 := Aside0.mk hr0
  have HC0 := Aside0.mk hc0
  clear hr0 hc0
  have HR1 := Aside0.mk hr1
  have HC1 := Aside0.mk hc1
  clear hr1 hc1
  have H : (if (l0.length : Int) = (l1.length : Int) then (oublietteref07_Spots.l0 k l0 l1 0) else (some false)) = some r := h
  clear h
  by_cases c3 : (l0.length : Int) = (l1.length : Int)
  · rw [if_pos c3] at H
    have c3b0 : ((l0.length : Int) == (l1.length : Int)) = true := beq_iff_eq.mpr c3
    have c3b1 : ((l0.length : Int) != (l1.length : Int)) = false := bne_eq_false_iff_eq.mpr c3
    have c3b2 : (l0.length == l1.length) = true := by first | simpa using c3 | (simp at c3 ⊢; omega)
    clear c3
    have H' := Aside0.mk H
    clear H
    go_enter Try.func16, Try.ntmps16
    go_wp2
    repeat (go_quiet (fail); try go_wp2)
    go_loopg [5] k (fun kq v5 w' => ∃ (x5_1 : Int), v5 = .int .i64 x5_1 ∧ Aside0 (oublietteref07_Spots.l0 kq l0 l1 x5_1 = some r) ∧ Aside0 (kq ≤ k) ∧ Drawn0 w w')
    case atStart => exact ⟨(0), (by first | rfl | (simp; done) | (simp [*]; done)), H', ⟨Nat.le_refl _⟩, by repeat (first | exact Drawn0.refl _ | apply Drawn0.step)⟩
    case round =>
      clear H'
      try clear c1
      try clear p2
      try clear c3
      try clear c3b0
      try clear c3b1
      try clear c3b2
      obtain ⟨x5_1, rfl, HA, HK1, ⟨m1, rfl⟩⟩ := hrel
      cases gk with
      | zero => exact absurd HA.out (by simp [oublietteref07_Spots.l0])
      | succ k1 =>
        have H := HA.out
        clear HA
        simp only [oublietteref07_Spots.l0] at H
        by_cases c4 : x5_1 < (l0.length : Int)
        · rw [if_pos c4] at H
          have c4b0 : decide (x5_1 < (l0.length : Int)) = true := decide_eq_true c4
          clear c4
          by_cases c5 : 0 ≤ x5_1
          · rw [if_pos c5] at H
            have c5b0 : decide (0 ≤ x5_1) = true := decide_eq_true c5
            clear c5
            by_cases c6 : x5_1 < (l1.length : Int)
            · rw [if_pos c6] at H
              have c6b0 : decide (x5_1 < (l1.length : Int)) = true := decide_eq_true c6
              clear c6
              by_cases c7 : (!(((rd_T33 l0 x5_1).f0) == ((rd_T33 l1 x5_1).f0)) || (!(((rd_T33 l0 x5_1).f1) == ((rd_T33 l1 x5_1).f1)))) = true
              · rw [if_pos c7] at H
                have c7b0 : (!(((rd_T33 l0 x5_1).f0) == ((rd_T33 l1 x5_1).f0)) || (!(((rd_T33 l0 x5_1).f1) == ((rd_T33 l1 x5_1).f1)))) = true := c7
                clear c7
                obtain rfl := Option.some.inj H
                have p121 : 0 ≤ (x5_1 : Int) := of_decide_eq_true (by first | (with_reducible assumption) | assumption)
                have q121 : x5_1 < (l0.length : Int) := of_decide_eq_true (by first | (with_reducible assumption) | assumption)
                obtain ⟨ad121, e121, hx121_0, hx121_1⟩ := at_T33 HR0.out x5_1 p121 q121
                cases e121
                replace p121 := eq_true p121
                replace q121 := eq_true q121
                have p122 : 0 ≤ (x5_1 : Int) := of_decide_eq_true (by first | (with_reducible assumption) | assumption)
                have q122 : x5_1 < (l1.length : Int) := of_decide_eq_true (by first | (with_reducible assumption) | assumption)
                obtain ⟨ad122, e122, hx122_0, hx122_1⟩ := at_T33 HR1.out x5_1 p122 q122
                cases e122
                replace p122 := eq_true p122
                replace q122 := eq_true q122
                go_wp2
                repeat (go_quiet (fail); try go_wp2)
                go_ret
                exact ⟨by first | rfl | (simp; done) | (simp [*]; done), by repeat (first | exact Drawn0.refl _ | apply Drawn0.step)⟩
              · rw [if_neg c7] at H
                have c7b0 : (!(((rd_T33 l0 x5_1).f0) == ((rd_T33 l1 x5_1).f0)) || (!(((rd_T33 l0 x5_1).f1) == ((rd_T33 l1 x5_1).f1)))) = false := by simpa using c7
                clear c7
                have H' := Aside0.mk H
                clear H
                have p121 : 0 ≤ (x5_1 : Int) := of_decide_eq_true (by first | (with_reducible assumption) | assumption)
                have q121 : x5_1 < (l0.length : Int) := of_decide_eq_true (by first | (with_reducible assumption) | assumption)
                obtain ⟨ad121, e121, hx121_0, hx121_1⟩ := at_T33 HR0.out x5_1 p121 q121
                cases e121
                replace p121 := eq_true p121
                replace q121 := eq_true q121
                have p122 : 0 ≤ (x5_1 : Int) := of_decide_eq_true (by first | (with_reducible assumption) | assumption)
                have q122 : x5_1 < (l1.length : Int) := of_decide_eq_true (by first | (with_reducible assumption) | assumption)
                obtain ⟨ad122, e122, hx122_0, hx122_1⟩ := at_T33 HR1.out x5_1 p122 q122
                cases e122
                replace p122 := eq_true p122
                replace q122 := eq_true q122
                go_wp2
                repeat (go_quiet (fail); try go_wp2)
                go_roundg k1
                case measure => have := HK1.out; omega
                case rel => exact ⟨(wrap64 (x5_1 + 1)), (by first | rfl | (simp; done) | (simp [*]; done)), H', ⟨by have := HK1.out; omega⟩, by repeat (first | exact Drawn0.refl _ | apply Drawn0.step)⟩
            · rw [if_neg c6] at H
              exact absurd H (by simp)
          · rw [if_neg c5] at H
            exact absurd H (by simp)
        · rw [if_neg c4] at H
          have c4b0 : decide (x5_1 < (l0.length : Int)) = false := decide_eq_false c4
          clear c4
          obtain rfl := Option.some.inj H
          go_wp2
          repeat (go_quiet (fail); try go_wp2)
          go_ret
          exact ⟨by first | rfl | (simp; done) | (simp [*]; done), by repeat (first | exact Drawn0.refl _ | apply Drawn0.step)⟩
  · rw [if_neg c3] at H
    have c3b0 : ((l0.length : Int) == (l1.length : Int)) = false := beq_eq_false_iff_ne.mpr c3
    have c3b1 : ((l0.length : Int) != (l1.length : Int)) = true := bne_iff_ne.mpr c3
    have c3b2 : (l0.length == l1.length) = false := by first | simpa using c3 | (simp at c3 ⊢; omega)
    obtain rfl := Option.some.inj H
    go_enter Try.func16, Try.ntmps16
    go_wp2
    repeat (go_quiet (fail); try go_wp2)
    go_ret
    exact ⟨by first | rfl | (simp; done) | (simp [*]; done), by repeat (first | exact Drawn0.refl _ | apply Drawn0.step)⟩

end Go.Proofs.Ytincgimbilnidaa.PPathSizes
