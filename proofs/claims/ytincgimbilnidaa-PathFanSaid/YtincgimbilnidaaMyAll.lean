/- What path.All comes to: the printed function's list, by a walk of this session's (the printed walk of it does not build). -/
import Derived.Test.YtincgimbilnidaaPPathSizesx2
namespace Go.Proofs.Ytincgimbilnidaa.MyAll
open Go.RowKit Go.Proofs.Ytincgimbilnidaa.PPathSizes Go.Proofs.YtincgimbilnidaaW.PrintWords Go.Proofs.YtincgimbilnidaaW.PrintLast Go.Proofs.YtincgimbilnidaaW.PrintMore
attribute [local go_sem] max2_int min2_int max_two min_two max_three min_three max_four min_four
set_option linter.unusedVariables false
set_option linter.unusedSimpArgs false

/-! ### path_All: function 17 -/
def path_All.l0 : Nat → List (S33) → Int → Int → Option ((List (S33)))
  | 0, _, _, _ => none
  | k + 1, x3, x7, x8 => if x8 < x7 then (if (x3.length : Int) = 0 then (if x3.length < 8796093022208 then (path_All.l0 k (x3 ++ [(⟨0, 0⟩ : S33)]) x7 (wrap64 (x8 + 1))) else (none)) else (if 0 ≤ (wrap64 ((x3.length : Int) - 1)) then (if (wrap64 ((x3.length : Int) - 1)) < (x3.length : Int) then (if 0 ≤ (IntKind.u64.wrap (2 * (IntKind.u64.wrap ((rd_T33 x3 (wrap64 ((x3.length : Int) - 1))).f0)))) then (if (wrap64 (((rd_T33 x3 (wrap64 ((x3.length : Int) - 1))).f1) + 1)) = (shl .i64 1 (IntKind.u64.wrap (2 * (IntKind.u64.wrap ((rd_T33 x3 (wrap64 ((x3.length : Int) - 1))).f0))))) then (if x3.length < 8796093022208 then (path_All.l0 k (x3 ++ [(⟨wrap64 (((rd_T33 x3 (wrap64 ((x3.length : Int) - 1))).f0) + 1), 0⟩ : S33)]) x7 (wrap64 (x8 + 1))) else (none)) else (if x3.length < 8796093022208 then (path_All.l0 k (x3 ++ [(⟨(rd_T33 x3 (wrap64 ((x3.length : Int) - 1))).f0, wrap64 (((rd_T33 x3 (wrap64 ((x3.length : Int) - 1))).f1) + 1)⟩ : S33)]) x7 (wrap64 (x8 + 1))) else (none))) else (none)) else (none)) else (none))) else (some x3)
def path_All.f (k : Nat) (a0 : Int) : Option ((List (S33))) := (path_Nodes.f a0).bind fun t115 => (path_All.l0 k ([] : List (S33)) t115 0)
theorem path_All.mono_l : ∀ k, (∀ y0 y1 y2, LeO (path_All.l0 k y0 y1 y2) (path_All.l0 (k + 1) y0 y1 y2))
  | 0 => fun _ _ _ r h => by simp [path_All.l0] at h
  | k + 1 => by
    have ih0 := path_All.mono_l k
    · intro y0 y1 y2
      unfold path_All.l0
      repeat' first
      | (with_reducible exact ih0 _ _ _)
      | (with_reducible exact LeO.refl _)
      | (with_reducible exact LeO.none _)
      | (with_reducible refine LeO.ite ?_ ?_)
      | (with_reducible refine LeO.bind ?_ (fun _ => ?_))
      | exact ih0 _ _ _
      | exact LeO.none _
      | refine LeO.ite ?_ ?_
      | refine LeO.bind ?_ (fun _ => ?_)
theorem path_All.mono : ∀ a0 k, LeO (path_All.f k a0) (path_All.f (k + 1) a0) := by
  intro a0 k
  have ih0 := path_All.mono_l k
  unfold path_All.f
  repeat' first
      | (with_reducible exact ih0 _ _ _)
      | (with_reducible exact LeO.refl _)
      | (with_reducible exact LeO.none _)
      | (with_reducible refine LeO.ite ?_ ?_)
      | (with_reducible refine LeO.bind ?_ (fun _ => ?_))
      | exact ih0 _ _ _
      | exact LeO.none _
      | refine LeO.ite ?_ ?_
      | refine LeO.bind ?_ (fun _ => ?_)
set_option maxHeartbeats 8000000 in
set_option maxRecDepth 100000 in
theorem path_All.calls (k : Nat) (a0 : Int) (r : List (S33)) (w : World) (h : path_All.f k a0 = some r) :
    Calls Try.prog 17 #[.int .i64 a0] w fun e w' => ∃ v0_ : Value, e = .returned (v0_) ∧ Kd.R k33 33 w' w.heap.size (fun _ => True) v0_ r ∧ Below w.heap.size w w' := by
  have hu33 := Try.underlying33
  have HB := Aside0.mk (Below.refl w.heap.size w)
  have H : ((path_Nodes.f a0).bind fun t115 => (path_All.l0 k ([] : List (S33)) t115 0)) = some r := h
  clear h
  replace H := Option.bind_eq_some_iff.mp H
  obtain ⟨t115, A20, H⟩ := H
  replace H : (path_All.l0 k ([] : List (S33)) t115 0) = some r := H
  have A2 := Aside0.mk A20
  clear A20
  have H' := Aside0.mk H
  clear H
  go_enter Try.func17, Try.ntmps17
  go_wp2_with (first | ((with_reducible refine gate_callee (f := 15) rfl ?_); refine goesL_ (some 7) rfl rfl Try.func15 (by kernel_rfl) rfl #[.int .i64 a0] rfl (by (try simp only [List.map_toArray, List.map_cons, List.map_nil]); first | done | rfl | (simp only [List.length_drop, List.length_take]; rfl)) ?_; (with_reducible refine (path_Nodes.calls a0 t115 _ A2.out).mono ?_); rintro e w3 ⟨rfl, hb⟩; refine ⟨_, rfl, ?_⟩; have n0_ := Aside0.mk (below_step (by repeat (first | (with_reducible first | exact HB.out | apply below_alloc | apply pw_below_drewN | apply below_drew1) | exact HB.out)) hb); clear HB; have HB := n0_; clear n0_; (try clear hb); (try clear hb2); (try clear hk); (try clear hi)))
  go_loopg [3, 8] k (fun kq v3 v8 w' => ∃ (x3_1 : List (S33)) (x8_1 : Int), v8 = .int .i64 x8_1 ∧ Aside0 (path_All.l0 kq x3_1 t115 x8_1 = some r) ∧ Aside0 (kq ≤ k) ∧ Aside0 (Kd.R k33 33 w' w.heap.size (fun _ => True) v3 x3_1) ∧ Aside0 (Below w.heap.size w w'))
  case atStart => exact ⟨(([] : List (S33))), (0), (by first | rfl | (simp; done) | (simp [*]; done)), H', ⟨Nat.le_refl _⟩, ⟨by first | exact Kd.R_nil _ _ _ _ _ | exact Kd.N_nil _ _ _ _ _ | exact Kd.V_nil _ _ _ _ _ | exact Kd.Q_nil _ _ _ _ _ | exact Kd.S_nil _ _ _ _ _⟩, ⟨by repeat (first | (with_reducible first | exact HB.out | apply below_alloc | apply pw_below_drewN | apply below_drew1) | exact HB.out)⟩⟩
  case round =>
    clear H'
    try clear c1
    try clear p2
    obtain ⟨x3_1, x8_1, rfl, HA, HK1, HO_3, HB⟩ := hrel
    cases gk with
    | zero => exact absurd HA.out (by simp [path_All.l0])
    | succ k1 =>
      have H := HA.out
      clear HA
      simp only [path_All.l0] at H
      by_cases c4 : x8_1 < t115
      · rw [if_pos c4] at H
        have c4b0 : decide (x8_1 < t115) = true := decide_eq_true c4
        clear c4
        by_cases c5 : (x3_1.length : Int) = 0
        · rw [if_pos c5] at H
          have c5b0 : ((x3_1.length : Int) == 0) = true := beq_iff_eq.mpr c5
          have c5b1 : ((x3_1.length : Int) != 0) = false := bne_eq_false_iff_eq.mpr c5
          clear c5
          by_cases c6 : x3_1.length < 8796093022208
          · rw [if_pos c6] at H
            have LMc6 := Aside0.mk c6
            clear c6
            obtain ⟨y116, hy116⟩ : ∃ y_ : List (S33), y_ = (x3_1 ++ [(⟨0, 0⟩ : S33)]) := ⟨_, rfl⟩
            replace H : (path_All.l0 k1 y116 t115 (wrap64 (x8_1 + 1))) = some r := by first | (rw [hy116]; with_reducible exact H) | (have H2_ := (Option.bind_some _ _).symm.trans H; rw [hy116]; with_reducible exact H2_) | (have H2_ := (Option.bind_some _ _).symm.trans H; with_reducible exact H2_) | with_reducible exact H | (rw [hy116]; exact H) | exact H
            have Ny116 := Aside0.mk hy116
            clear hy116
            have H' := Aside0.mk H
            clear H
            obtain ⟨Ao7, co7, eo7⟩ := Kd.R_slice HO_3.out
            subst eo7
            go_wp2_with (first | ((with_reducible refine gate_builtin (b := .append) (xs := #[.tmp 14, .tmp 16]) rfl ?_); at_builtin; refine Kd.R_append k33 (w0 := w) w.heap.size rfl (.tmp 14) (.tmp 16) 27 33 (.agg #[(.int .i64 0), (.int .i64 0)]) 16 rfl Try.underlying27 info33 rfl (by decide) (by omega) (.slice Ao7 x3_1.length co7) x3_1 (⟨0, 0⟩ : S33) [.int .i64 0, .int .i64 0] (fun _ => True) (fun _ => False) rfl rfl ?aP (fun _ hk => hk.elim) ?aF ?aO ?aB ?aS ?aL ?_; (case aP => exact k33_mkM _ _ _ (⟨0, 0⟩ : S33)); (case aB => exact (by repeat (first | (with_reducible first | exact HB.out | apply below_alloc | apply pw_below_drewN | apply below_drew1) | exact HB.out))); (case aF => exact (fun _ _ => trivial)); (case aO => exact (by (with_reducible repeat (first | apply Kd.R_alloc | apply Kd.R_drewN | apply Kd.R_drew)); exact HO_3.out)); (case aS => exact (below_size (by repeat (first | (with_reducible first | exact HB.out | apply below_alloc | apply pw_below_drewN | apply below_drew1) | exact HB.out)))); (case aL => have := LMc6.out; omega); intro v117 w8 ho hb hg hat; rw [← Ny116.out] at ho; have n0_ := Aside0.mk (hb); have n1_ := Aside0.mk (ho); clear HB; clear HO_3; have HB := n0_; have HO118 := n1_; clear n0_ n1_; clear ho hb hg hat))
            go_roundg k1
            case measure => have := HK1.out; omega
            case rel => exact ⟨(y116), (wrap64 (x8_1 + 1)), (by first | rfl | (simp; done) | (simp [*]; done)), H', ⟨by have := HK1.out; omega⟩, ⟨by (with_reducible repeat (first | apply Kd.R_alloc | apply Kd.R_drewN | apply Kd.R_drew)); exact HO118.out⟩, ⟨by repeat (first | (with_reducible first | exact HB.out | apply below_alloc | apply pw_below_drewN | apply below_drew1) | exact HB.out)⟩⟩
          · rw [if_neg c6] at H
            exact absurd H (by simp)
        · rw [if_neg c5] at H
          have c5b0 : ((x3_1.length : Int) == 0) = false := beq_eq_false_iff_ne.mpr c5
          have c5b1 : ((x3_1.length : Int) != 0) = true := bne_iff_ne.mpr c5
          have c5b2 : ¬ (x3_1 = []) := fun h_ => c5 (by rw [h_]; rfl)
          obtain ⟨ji9, hji9⟩ : ∃ j_ : Int, (wrap64 ((x3_1.length : Int) - 1)) = j_ := ⟨_, rfl⟩
          replace H : (if 0 ≤ (ji9) then (if (ji9) < (x3_1.length : Int) then (if 0 ≤ (IntKind.u64.wrap (2 * (IntKind.u64.wrap ((rd_T33 x3_1 (ji9)).f0)))) then (if (wrap64 (((rd_T33 x3_1 (ji9)).f1) + 1)) = (shl .i64 1 (IntKind.u64.wrap (2 * (IntKind.u64.wrap ((rd_T33 x3_1 (ji9)).f0))))) then (if x3_1.length < 8796093022208 then (path_All.l0 k1 (x3_1 ++ [(⟨wrap64 (((rd_T33 x3_1 (ji9)).f0) + 1), 0⟩ : S33)]) t115 (wrap64 (x8_1 + 1))) else (none)) else (if x3_1.length < 8796093022208 then (path_All.l0 k1 (x3_1 ++ [(⟨(rd_T33 x3_1 (ji9)).f0, wrap64 (((rd_T33 x3_1 (ji9)).f1) + 1)⟩ : S33)]) t115 (wrap64 (x8_1 + 1))) else (none))) else (none)) else (none)) else (none)) = some r := by first | (rw [hji9] at H; exact H) | (simp only [hji9] at H ⊢; exact H)
          have hji9w : (IntKind.i64.wrap ((x3_1.length : Int) - 1)) = ji9 := (i64_w _).trans hji9
          by_cases c10 : 0 ≤ (ji9)
          · rw [if_pos c10] at H
            have c10b0 : decide (0 ≤ (ji9)) = true := decide_eq_true c10
            clear c10
            by_cases c11 : (ji9) < (x3_1.length : Int)
            · rw [if_pos c11] at H
              have c11b0 : decide ((ji9) < (x3_1.length : Int)) = true := decide_eq_true c11
              clear c11
              obtain ⟨ji12, hji12⟩ : ∃ j_ : Int, (IntKind.u64.wrap (2 * (IntKind.u64.wrap ((rd_T33 x3_1 (ji9)).f0)))) = j_ := ⟨_, rfl⟩
              replace H : (if 0 ≤ (ji12) then (if (wrap64 (((rd_T33 x3_1 (ji9)).f1) + 1)) = (shl .i64 1 (ji12)) then (if x3_1.length < 8796093022208 then (path_All.l0 k1 (x3_1 ++ [(⟨wrap64 (((rd_T33 x3_1 (ji9)).f0) + 1), 0⟩ : S33)]) t115 (wrap64 (x8_1 + 1))) else (none)) else (if x3_1.length < 8796093022208 then (path_All.l0 k1 (x3_1 ++ [(⟨(rd_T33 x3_1 (ji9)).f0, wrap64 (((rd_T33 x3_1 (ji9)).f1) + 1)⟩ : S33)]) t115 (wrap64 (x8_1 + 1))) else (none))) else (none)) = some r := by first | (rw [hji12] at H; exact H) | (simp only [hji12] at H ⊢; exact H)
              by_cases c13 : 0 ≤ (ji12)
              · rw [if_pos c13] at H
                have c13b0 := eq_true c13
                have c13b1 : decide (0 ≤ (ji12)) = true := decide_eq_true c13
                clear c13
                obtain ⟨ji14, hji14⟩ : ∃ j_ : Int, (shl .i64 1 (ji12)) = j_ := ⟨_, rfl⟩
                replace H : (if (wrap64 (((rd_T33 x3_1 (ji9)).f1) + 1)) = (ji14) then (if x3_1.length < 8796093022208 then (path_All.l0 k1 (x3_1 ++ [(⟨wrap64 (((rd_T33 x3_1 (ji9)).f0) + 1), 0⟩ : S33)]) t115 (wrap64 (x8_1 + 1))) else (none)) else (if x3_1.length < 8796093022208 then (path_All.l0 k1 (x3_1 ++ [(⟨(rd_T33 x3_1 (ji9)).f0, wrap64 (((rd_T33 x3_1 (ji9)).f1) + 1)⟩ : S33)]) t115 (wrap64 (x8_1 + 1))) else (none))) = some r := by first | (rw [hji14] at H; exact H) | (simp only [hji14] at H ⊢; exact H)
                have hji14_ : (IntKind.i64.wrap (1 * 2 ^ min (ji12).toNat 64)) = ji14 := hji14
                have hji14z : (ji12) ≤ 64 → (IntKind.i64.wrap (1 * 2 ^ (ji12).toNat)) = ji14 := shl_small hji14
                have hji14u : (IntKind.i64.wrap (2 ^ min (ji12).toNat 64)) = ji14 := by have h_ := hji14_; rw [Int.one_mul] at h_; exact h_
                have hji14v : (ji12) ≤ 64 → (IntKind.i64.wrap (2 ^ (ji12).toNat)) = ji14 := fun hle_ => by have h_ := hji14z hle_; rw [Int.one_mul] at h_; exact h_
                have hji14y : (wrap64 (1 * 2 ^ min (ji12).toNat 64)) = ji14 := (i64_w _).symm.trans hji14_
                have hji14x : (ji12) ≤ 64 → (wrap64 (1 * 2 ^ (ji12).toNat)) = ji14 := fun h_ => (i64_w _).symm.trans (hji14z h_)
                by_cases c15 : (wrap64 (((rd_T33 x3_1 (ji9)).f1) + 1)) = (ji14)
                · rw [if_pos c15] at H
                  have c15b0 : ((wrap64 (((rd_T33 x3_1 (ji9)).f1) + 1)) == (ji14)) = true := beq_iff_eq.mpr c15
                  have c15b1 : ((wrap64 (((rd_T33 x3_1 (ji9)).f1) + 1)) != (ji14)) = false := bne_eq_false_iff_eq.mpr c15
                  clear c15
                  by_cases c16 : x3_1.length < 8796093022208
                  · rw [if_pos c16] at H
                    have LMc16 := Aside0.mk c16
                    clear c16
                    obtain ⟨y121, hy121⟩ : ∃ y_ : List (S33), y_ = (x3_1 ++ [(⟨wrap64 (((rd_T33 x3_1 (ji9)).f0) + 1), 0⟩ : S33)]) := ⟨_, rfl⟩
                    replace H : (path_All.l0 k1 y121 t115 (wrap64 (x8_1 + 1))) = some r := by first | (rw [hy121]; with_reducible exact H) | (have H2_ := (Option.bind_some _ _).symm.trans H; rw [hy121]; with_reducible exact H2_) | (have H2_ := (Option.bind_some _ _).symm.trans H; with_reducible exact H2_) | with_reducible exact H | (rw [hy121]; exact H) | exact H
                    have Ny121 := Aside0.mk hy121
                    clear hy121
                    have H' := Aside0.mk H
                    clear H
                    obtain ⟨Ao17, co17, eo17⟩ := Kd.R_slice HO_3.out
                    subst eo17
                    have p119 : 0 ≤ ((ji9) : Int) := of_decide_eq_true (by first | (with_reducible assumption) | assumption)
                    have q119 : (ji9) < (x3_1.length : Int) := of_decide_eq_true (by first | (with_reducible assumption) | assumption)
                    obtain ⟨ad119, e119, hx119_0, hx119_1⟩ := at_T33 (Kd.R_reads' HO_3.out).2.2 (ji9) p119 q119
                    cases e119
                    replace p119 := eq_true p119
                    replace q119 := eq_true q119
                    go_wp2_with (first | ((with_reducible refine gate_builtin (b := .append) (xs := #[.tmp 39, .tmp 41]) rfl ?_); at_builtin; refine Kd.R_append k33 (w0 := w) w.heap.size rfl (.tmp 39) (.tmp 41) 27 33 (.agg #[(.int .i64 0), (.int .i64 0)]) 16 rfl Try.underlying27 info33 rfl (by decide) (by omega) (.slice (some ad119) x3_1.length co17) x3_1 (⟨wrap64 (((rd_T33 x3_1 (ji9)).f0) + 1), 0⟩ : S33) [.int .i64 (wrap64 (((rd_T33 x3_1 (ji9)).f0) + 1)), .int .i64 0] (fun _ => True) (fun _ => False) rfl (by first | (go_simp; done) | (go_simp; rfl)) ?aP (fun _ hk => hk.elim) ?aF ?aO ?aB ?aS ?aL ?_; (case aP => exact k33_mkM _ _ _ (⟨wrap64 (((rd_T33 x3_1 (ji9)).f0) + 1), 0⟩ : S33)); (case aB => exact (by repeat (first | (with_reducible first | exact HB.out | apply below_alloc | apply pw_below_drewN | apply below_drew1) | exact HB.out))); (case aF => exact (fun _ _ => trivial)); (case aO => exact (by (with_reducible repeat (first | apply Kd.R_alloc | apply Kd.R_drewN | apply Kd.R_drew)); exact HO_3.out)); (case aS => exact (below_size (by repeat (first | (with_reducible first | exact HB.out | apply below_alloc | apply pw_below_drewN | apply below_drew1) | exact HB.out)))); (case aL => have := LMc16.out; omega); intro v122 w20 ho hb hg hat; rw [← Ny121.out] at ho; have n0_ := Aside0.mk (hb); have n1_ := Aside0.mk (ho); clear HB; clear HO_3; have HB := n0_; have HO123 := n1_; clear n0_ n1_; clear ho hb hg hat))
                    go_roundg k1
                    case measure => have := HK1.out; omega
                    case rel => exact ⟨(y121), (wrap64 (x8_1 + 1)), (by first | rfl | (simp; done) | (simp [*]; done)), H', ⟨by have := HK1.out; omega⟩, ⟨by (with_reducible repeat (first | apply Kd.R_alloc | apply Kd.R_drewN | apply Kd.R_drew)); exact Kd.R_mono HO123.out (fun _ hk => trivial)⟩, ⟨by repeat (first | (with_reducible first | exact HB.out | apply below_alloc | apply pw_below_drewN | apply below_drew1) | exact HB.out)⟩⟩
                  · rw [if_neg c16] at H
                    exact absurd H (by simp)
                · rw [if_neg c15] at H
                  have c15b0 : ((wrap64 (((rd_T33 x3_1 (ji9)).f1) + 1)) == (ji14)) = false := beq_eq_false_iff_ne.mpr c15
                  have c15b1 : ((wrap64 (((rd_T33 x3_1 (ji9)).f1) + 1)) != (ji14)) = true := bne_iff_ne.mpr c15
                  by_cases c21 : x3_1.length < 8796093022208
                  · rw [if_pos c21] at H
                    have LMc21 := Aside0.mk c21
                    clear c21
                    obtain ⟨y124, hy124⟩ : ∃ y_ : List (S33), y_ = (x3_1 ++ [(⟨(rd_T33 x3_1 (ji9)).f0, wrap64 (((rd_T33 x3_1 (ji9)).f1) + 1)⟩ : S33)]) := ⟨_, rfl⟩
                    replace H : (path_All.l0 k1 y124 t115 (wrap64 (x8_1 + 1))) = some r := by first | (rw [hy124]; with_reducible exact H) | (have H2_ := (Option.bind_some _ _).symm.trans H; rw [hy124]; with_reducible exact H2_) | (have H2_ := (Option.bind_some _ _).symm.trans H; with_reducible exact H2_) | with_reducible exact H | (rw [hy124]; exact H) | exact H
                    have Ny124 := Aside0.mk hy124
                    clear hy124
                    have H' := Aside0.mk H
                    clear H
                    obtain ⟨Ao22, co22, eo22⟩ := Kd.R_slice HO_3.out
                    subst eo22
                    have p119 : 0 ≤ ((ji9) : Int) := of_decide_eq_true (by first | (with_reducible assumption) | assumption)
                    have q119 : (ji9) < (x3_1.length : Int) := of_decide_eq_true (by first | (with_reducible assumption) | assumption)
                    obtain ⟨ad119, e119, hx119_0, hx119_1⟩ := at_T33 (Kd.R_reads' HO_3.out).2.2 (ji9) p119 q119
                    cases e119
                    replace p119 := eq_true p119
                    replace q119 := eq_true q119
                    go_wp2_with (first | ((with_reducible refine gate_builtin (b := .append) (xs := #[.tmp 39, .tmp 41]) rfl ?_); at_builtin; refine Kd.R_append k33 (w0 := w) w.heap.size rfl (.tmp 39) (.tmp 41) 27 33 (.agg #[(.int .i64 0), (.int .i64 0)]) 16 rfl Try.underlying27 info33 rfl (by decide) (by omega) (.slice (some ad119) x3_1.length co22) x3_1 (⟨(rd_T33 x3_1 (ji9)).f0, wrap64 (((rd_T33 x3_1 (ji9)).f1) + 1)⟩ : S33) [.int .i64 ((rd_T33 x3_1 (ji9)).f0), .int .i64 (wrap64 (((rd_T33 x3_1 (ji9)).f1) + 1))] (fun _ => True) (fun _ => False) rfl (by first | (go_simp; done) | (go_simp; rfl)) ?aP (fun _ hk => hk.elim) ?aF ?aO ?aB ?aS ?aL ?_; (case aP => exact k33_mkM _ _ _ (⟨(rd_T33 x3_1 (ji9)).f0, wrap64 (((rd_T33 x3_1 (ji9)).f1) + 1)⟩ : S33)); (case aB => exact (by repeat (first | (with_reducible first | exact HB.out | apply below_alloc | apply pw_below_drewN | apply below_drew1) | exact HB.out))); (case aF => exact (fun _ _ => trivial)); (case aO => exact (by (with_reducible repeat (first | apply Kd.R_alloc | apply Kd.R_drewN | apply Kd.R_drew)); exact HO_3.out)); (case aS => exact (below_size (by repeat (first | (with_reducible first | exact HB.out | apply below_alloc | apply pw_below_drewN | apply below_drew1) | exact HB.out)))); (case aL => have := LMc21.out; omega); intro v125 w25 ho hb hg hat; rw [← Ny124.out] at ho; have n0_ := Aside0.mk (hb); have n1_ := Aside0.mk (ho); clear HB; clear HO_3; have HB := n0_; have HO126 := n1_; clear n0_ n1_; clear ho hb hg hat))
                    go_roundg k1
                    case measure => have := HK1.out; omega
                    case rel => exact ⟨(y124), (wrap64 (x8_1 + 1)), (by first | rfl | (simp; done) | (simp [*]; done)), H', ⟨by have := HK1.out; omega⟩, ⟨by (with_reducible repeat (first | apply Kd.R_alloc | apply Kd.R_drewN | apply Kd.R_drew)); exact Kd.R_mono HO126.out (fun _ hk => trivial)⟩, ⟨by repeat (first | (with_reducible first | exact HB.out | apply below_alloc | apply pw_below_drewN | apply below_drew1) | exact HB.out)⟩⟩
                  · rw [if_neg c21] at H
                    exact absurd H (by simp)
              · rw [if_neg c13] at H
                exact absurd H (by simp)
            · rw [if_neg c11] at H
              exact absurd H (by simp)
          · rw [if_neg c10] at H
            exact absurd H (by simp)
      · rw [if_neg c4] at H
        have c4b0 : decide (x8_1 < t115) = false := decide_eq_false c4
        clear c4
        obtain rfl := Option.some.inj H
        go_wp2
        go_ret
        exact ⟨_, by first | rfl | (simp [errW_none, errW_some] <;> rfl) | (simp [*, errW_none, errW_some] <;> rfl), by (with_reducible repeat (first | apply Kd.R_alloc | apply Kd.R_drewN | apply Kd.R_drew)); exact HO_3.out, by repeat (first | (with_reducible first | exact HB.out | apply below_alloc | apply pw_below_drewN | apply below_drew1) | exact HB.out)⟩

end Go.Proofs.Ytincgimbilnidaa.MyAll
