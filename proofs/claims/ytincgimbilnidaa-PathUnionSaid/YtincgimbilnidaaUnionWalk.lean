/- The law PathUnion, walked. -/
import Derived.Test.YtincgimbilnidaaUnionFacts
import Derived.Test.YtincgimbilnidaaOneWalk
import Derived.Test.YtincgimbilnidaaPPathSizesx1
import Derived.Deep.QuietTactic
import Derived.BigQuiet
namespace Go.Proofs.Ytincgimbilnidaa.MyAbove
open Go.RowKit Go.Sort Go.Proofs.Ytincgimbilnidaa.PPathSizes Go.Proofs.YtincgimbilnidaaW.PrintWords Go.Proofs.YtincgimbilnidaaW.PrintLast Go.Proofs.YtincgimbilnidaaW.PrintMore
set_option linter.unusedVariables false
attribute [local go_sem high] eqA33
def Spots (w : World) (A : Option Addr) (ys : List (Int × Int)) : Prop := ∀ i, i < ys.length → ∃ g, A = some ⟨g, 0, none⟩ ∧ w.cell? ⟨g, i * 2, none⟩ = some (.int .i64 (ys.getD i (0, 0)).1) ∧ w.cell? ⟨g, i * 2 + 1, none⟩ = some (.int .i64 (ys.getD i (0, 0)).2)
theorem OutRow.spots {w : World} {base : Nat} {v : Value} {ys : List (Int × Int)} (h : OutRow w base v ys) : ∃ A c, v = .slice A ys.length c ∧ Spots w A ys := by
  by_cases h0 : 0 < ys.length
  · obtain ⟨g, cap, rfl, hc⟩ := h.form h0
    exact ⟨_, cap, rfl, fun i hi => ⟨g, rfl, hc i hi⟩⟩
  · obtain ⟨A, c, rfl⟩ := own_slice h.own
    exact ⟨A, c, rfl, fun i hi => absurd hi (by omega)⟩
theorem filt_append (S : Int) (a b : List Int) : filt S (a ++ b) = filt S a ++ filt S b := by simp [filt]
theorem OutRow.bel {w w' : World} {base : Nat} {v : Value} {ys : List (Int × Int)} (h : OutRow w base v ys) (hb : Below w.heap.size w w') : OutRow w' base v ys := ⟨pw_own_below h.own hb⟩
theorem mem_take_succ (X : List (Int × Int)) (p : Int × Int) (j : Nat) (h : j < X.length) : p ∈ X.take (j + 1) ↔ p ∈ X.take j ∨ X.getD j (0, 0) = p := by
  rw [List.take_add_one, List.mem_append]
  simp [h, eq_comm]
def in1 (X : List (Int × Int)) (p : Int × Int) (j : Nat) : Int := if p ∈ X.take j then 1 else 0
def in2 (c : Int) (Y : List (Int × Int)) (p : Int × Int) (j : Nat) : Int := c + 2 * in1 Y p j
theorem in1_zero (X p) : in1 X p 0 = 0 := by simp [in1]
theorem in1_yes (X p j) (h : j < X.length) (e : X.getD j (0, 0) = p) : in1 X p (j + 1) = 1 := by
  unfold in1; rw [if_pos ((mem_take_succ X p j h).2 (.inr e))]
theorem in1_no (X p j) (h : j < X.length) (e : X.getD j (0, 0) ≠ p) : in1 X p (j + 1) = in1 X p j := by
  unfold in1
  by_cases h1 : p ∈ X.take j
  · rw [if_pos h1, if_pos ((mem_take_succ X p j h).2 (.inl h1))]
  · rw [if_neg h1, if_neg (fun hh => ((mem_take_succ X p j h).1 hh).elim h1 e)]
theorem in1_bd (X p j) : in1 X p j = 0 ∨ in1 X p j = 1 := by unfold in1; split <;> simp
theorem in1_end (X p) : in1 X p X.length = if p ∈ X then 1 else 0 := by simp [in1]
set_option maxHeartbeats 8000000 in
set_option maxRecDepth 100000 in
theorem PathUnion_walk (a0 : Int) (h0 : 0 ≤ a0) (h0' : a0 ≤ 255) (A1 : Option Addr) (c1 : Nat) (l1 : List Int) (A2 : Option Addr) (c2 : Nat) (l2 : List Int) (w : World) (hR1 : ReadsInt w .i64 A1 l1.length l1) (hR2 : ReadsInt w .i64 A2 l2.length l2)
    (hm1 : l1.length ≤ 9223372036854775807) (hm2 : l2.length ≤ 9223372036854775807) :
    Calls Try.prog 7 #[.int .u8 a0, .slice A1 l1.length c1, .slice A2 l2.length c2] w fun e w' => e = .returned (.bool true) ∧ Below w.heap.size w w' := by
  by_cases hl1 : 100 < l1.length
  · clear hR1 hR2
    go_enter Try.func7, Try.ntmps7
    go_wp2_with (first | (go_at_call 8; refine (oubliettelaw07_awake.calls 20 true _ awake_true).mono ?_; rintro e w1 ⟨rfl, hb1⟩))
    go_ret
    exact ⟨rfl, hb1⟩
  by_cases hl2 : 100 < l2.length
  · clear hR1 hR2
    go_enter Try.func7, Try.ntmps7
    go_wp2_with (first | (go_at_call 8; refine (oubliettelaw07_awake.calls 20 true _ awake_true).mono ?_; rintro e w1 ⟨rfl, hb1⟩))
    go_ret
    exact ⟨rfl, hb1⟩
  obtain ⟨d, hd⟩ : ∃ d : Nat, 1 + a0 % 4 = (d : Int) := ⟨(1 + a0 % 4).toNat, by omega⟩
  have hd1 : 1 ≤ d := by omega
  have hd4 : d ≤ 4 := by omega
  obtain ⟨S, hS1, hS2, hS3⟩ := slots_of d hd1 hd4
  have hS0 : 4 ≤ S := by omega
  have hS4 : S ≤ 256 := by omega
  have HS1 := Lib.hid hS1
  have HR1 := Lib.hid hR1
  have HR2 := Lib.hid hR2
  clear hS1 hS2 hS3 hR1 hR2
  go_enter Try.func7, Try.ntmps7
  go_wp2_with (first | (go_at_call 8; refine (oubliettelaw07_awake.calls 20 true _ awake_true).mono ?_; rintro e w1 ⟨rfl, hb1⟩))
  obtain ⟨X, hX⟩ : ∃ X, X = levelsF d (filt S l1) := ⟨_, rfl⟩
  obtain ⟨Y, hY⟩ : ∃ Y, Y = levelsF d (filt S l2) := ⟨_, rfl⟩
  obtain ⟨Z, hZ⟩ : ∃ Z, Z = levelsF d (filt S (l1 ++ l2)) := ⟨_, rfl⟩
  refine (above_any d S A1 c1 l1 w1 HS1.out hd1 hd4 (by omega) hS4 (HR1.out.below hb1) (by omega) X hX).mono ?_
  rintro e w2 ⟨vx, rfl, hOX, hB2⟩
  have hbb2 : Below w.heap.size w w2 := hb1.trans (hB2.out.mono hb1.size)
  have HX := Lib.hid hX
  have HY := Lib.hid hY
  have HZ := Lib.hid hZ
  clear hX hY hZ
  go_wp2_with fail
  refine (above_any d S A2 c2 l2 w2 HS1.out hd1 hd4 (by omega) hS4 (HR2.out.below hbb2) (by omega) Y HY.out).mono ?_
  rintro e w3 ⟨vy, rfl, hOY, hB3⟩
  have hbb3 : Below w.heap.size w w3 := hbb2.trans (hB3.out.mono hbb2.size)
  replace hOX := hOX.bel hB3.out
  have hO0 : (w3.alloc (.cells #[] 3)).ownsRow w3.heap.size 3 1 (.slice (some ⟨w3.heap.size, 0, none⟩) 0 0) 0 (nums .i64 []) := own_lit w3 w3.heap.size 3 .i64 [] (Nat.le_refl _) (by simp)
  have hB0 : Below w3.heap.size w3 (w3.alloc (.cells #[] 3)) := (Below.refl _ _).alloc (Nat.le_refl _) _
  have hR1' := (HR1.out.below hbb3).below hB0
  replace hO0 := Lib.hid hO0
  replace hB0 := Lib.hid hB0
  replace hR1' := Lib.hid hR1'
  go_wp2_with (first | (at_builtin; refine print_append_row (w0 := w3) w3.heap.size rfl (.tmp 37) (.tmp 38) 23 3 .i64 8 rfl Try.underlying23 info3 (by decide) (.slice (some ⟨w3.heap.size, 0, none⟩) 0 0) [] l1 A1 l1.length c1 rfl rfl hO0.out hR1'.out hB0.out hB0.out.size (by simp only [List.length_nil]; omega) ?_; intro v4 w4 ho4 hb4 hg4 hat4; clear hat4 hg4; replace ho4 := Lib.hid ho4; have hR2' := Lib.hid ((HR2.out.below hbb3).below hb4)) | (at_builtin; refine print_append_row (w0 := w3) w3.heap.size rfl (.tmp 39) (.tmp 40) 23 3 .i64 8 rfl Try.underlying23 info3 (by decide) v4 ([] ++ l1) l2 A2 l2.length c2 rfl rfl ho4.out hR2'.out hb4 hb4.size (by simp only [List.length_append, List.length_nil]; omega) ?_; intro v5 w5 ho5 hb5 hg5 hat5; clear hat5 hg5 hR2' ho4 hb4; replace ho5 := Lib.hid ho5))
  obtain ⟨A5, c5, rfl, hR5⟩ := own_reads ho5.out
  have e5 : ([] ++ l1 ++ l2 : List Int) = l1 ++ l2 := by simp
  rw [e5] at hR5
  rw [e5]
  have hl5 : (l1 ++ l2).length = l1.length + l2.length := List.length_append
  refine (above_any d S A5 c5 (l1 ++ l2) w5 HS1.out hd1 hd4 (by omega) hS4 hR5 (by omega) Z HZ.out).mono ?_
  rintro e w6 ⟨vz, rfl, hOZ, hB6⟩
  have hBw : Below w.heap.size w w6 := hbb3.trans ((hb5.mono hbb3.size).trans (hB6.out.mono (Nat.le_trans hbb3.size hb5.size)))
  have hB36 : Below w3.heap.size w3 w6 := hb5.trans (hB6.out.mono hb5.size)
  replace hOX := hOX.bel hB36
  replace hOY := hOY.bel hB36
  obtain ⟨AX, cX, rfl, hSX⟩ := hOX.spots
  obtain ⟨AY, cY, rfl, hSY⟩ := hOY.spots
  obtain ⟨AZ, cZ, rfl, hSZ⟩ := hOZ.spots
  have lX : X.length ≤ 1000 := by
    have := levels_len d (filt S l1); rw [← HX.out] at this
    have h2 : (filt S l1).length ≤ l1.length := List.length_filter_le _ _
    have h3 : d * (filt S l1).length ≤ 4 * 100 := Nat.mul_le_mul hd4 (by omega)
    omega
  have lY : Y.length ≤ 1000 := by
    have := levels_len d (filt S l2); rw [← HY.out] at this
    have h2 : (filt S l2).length ≤ l2.length := List.length_filter_le _ _
    have h3 : d * (filt S l2).length ≤ 4 * 100 := Nat.mul_le_mul hd4 (by omega)
    omega
  have lZ : Z.length ≤ 1000 := by
    have := levels_len d (filt S (l1 ++ l2)); rw [← HZ.out] at this
    have h2 : (filt S (l1 ++ l2)).length ≤ (l1 ++ l2).length := List.length_filter_le _ _
    have h3 : d * (filt S (l1 ++ l2)).length ≤ 4 * 200 := Nat.mul_le_mul hd4 (by omega)
    omega
  have hall : cntF X Y Z = X.length + Y.length := by
    rw [HX.out, HY.out, HZ.out, show filt S (l1 ++ l2) = filt S l1 ++ filt S l2 from filt_append S l1 l2]
    exact cntF_all d _ _
  have hsub : ∀ p ∈ Z, p ∈ X ∨ p ∈ Y := by
    intro p hp
    rw [HZ.out, filt_append] at hp
    rw [HX.out, HY.out]
    exact (levels_union d _ _ p).1 hp
  replace hall := Lib.hid hall
  replace hsub := Lib.hid hsub
  replace hSX := Lib.hid hSX
  replace hSY := Lib.hid hSY
  replace hSZ := Lib.hid hSZ
  replace hBw := Lib.hid hBw
  clear ho5 hR5 e5 hl5 hOX hOY hOZ hB6 hb5 hB36 HX HY HZ hbb3 hB3 hbb2 hB2 hb1 hO0 hB0 hR1' HR1 HR2 HS1
  go_wp2_with fail
  go_loopw [11, 12] (fun m i wr => ∃ k : Nat, k ≤ Z.length ∧ m = .int .i64 (cntF X Y (Z.take k)) ∧ i = .int .i64 k ∧ Drawn0 w6 wr) (fun m i _ => Z.length - (intOf i).toNat)
  case atStart => exact ⟨0, by omega, by simp [cntF], rfl, Drawn0.refl _⟩
  case round =>
    obtain ⟨k, hk1, rfl, rfl, ⟨n, rfl⟩⟩ := hrel
    have hCb := cntF_bd X Y (Z.take k)
    have hCt : (Z.take k).length = k := by simp [hk1]
    rw [hCt] at hCb
    by_cases hlt : k < Z.length
    · have hCs : cntF X Y (Z.take (k + 1)) = cntF X Y (Z.take k) + hitF X Y (Z.getD k (0, 0)) := by
        rw [List.take_add_one]
        simp only [List.getElem?_eq_getElem hlt, Option.toList_some, cntF_snoc, List.getD_eq_getElem?_getD, Option.getD_some]
      have hpm : Z.getD k (0, 0) ∈ Z := by simp [hlt]
      replace hpm := hsub.out _ hpm
      obtain ⟨gz, rfl, hz1, hz2⟩ := hSZ.out k hlt
      obtain ⟨p, hp⟩ : ∃ p, p = Z.getD k (0, 0) := ⟨_, rfl⟩
      obtain ⟨C, hC⟩ : ∃ C, C = cntF X Y (Z.take k) := ⟨_, rfl⟩
      rw [← hp] at hz1 hz2 hCs hpm
      rw [← hC] at hCs hCb ⊢
      replace hpm := Lib.hid hpm
      replace hCs := Lib.hid hCs
      clear hp hC hCt
      obtain ⟨p1, p2⟩ := p
      simp only at hz1 hz2
      replace hz1 := Lib.hid hz1
      replace hz2 := Lib.hid hz2
      go_wp2_with fail
      go_loopw [13, 14] (fun m i wr => ∃ j : Nat, j ≤ X.length ∧ m = .int .i64 (in1 X (p1, p2) j) ∧ i = .int .i64 j ∧ Drawn0 w6 wr) (fun m i _ => X.length - (intOf i).toNat)
      case atStart => exact ⟨0, by omega, by simp [in1], rfl, ⟨n, rfl⟩⟩
      case round =>
        obtain ⟨j, hj1, rfl, rfl, ⟨n1, rfl⟩⟩ := hrel
        by_cases hjlt : j < X.length
        · obtain ⟨gx, rfl, hx1, hx2⟩ := hSX.out j hjlt
          have hyes := in1_yes X (p1, p2) j hjlt
          have hno := in1_no X (p1, p2) j hjlt
          have hbd := in1_bd X (p1, p2) j
          obtain ⟨c0, hc0⟩ : ∃ c0, c0 = in1 X (p1, p2) j := ⟨_, rfl⟩
          rw [← hc0] at hbd hno ⊢
          clear hc0
          obtain ⟨q, hq⟩ : ∃ q, q = X.getD j (0, 0) := ⟨_, rfl⟩
          rw [← hq] at hx1 hx2 hyes hno
          clear hq
          obtain ⟨q1, q2⟩ := q
          simp only at hx1 hx2
          replace hz1 := hz1.out
          replace hz2 := hz2.out
          by_cases e : q1 = p1 ∧ q2 = p2
          · obtain ⟨rfl, rfl⟩ := e
            have hv := Lib.hid (hyes rfl)
            clear hyes hno
            rcases hbd with rfl | rfl
            all_goals
              go_wp2_with fail
              go_quiet (fail)
              go_wp2_with fail
              go_roundw
              case rel => exact ⟨j + 1, by omega, by rw [hv.out]; rfl, by go_num, ⟨n1 + nq, rfl⟩⟩
              case measure => simp [intOf]; omega
          · have hv := Lib.hid (hno (by simpa using e))
            clear hyes hno hbd
            have e : ¬ (q1 = p1 ∧ q2 = p2) := e
            go_wp2_with fail
            go_quiet (fail)
            go_wp2_with fail
            all_goals first
            | (rename_i hcond; exfalso; refine e ?_; simpa using hcond; done)
            | skip
            go_roundw
            case rel => exact ⟨j + 1, by omega, by rw [hv.out], by go_num, ⟨n1 + nq, rfl⟩⟩
            case measure => simp [intOf]; omega
        · have hje : j = X.length := by omega
          subst hje
          have hbd := in1_bd X (p1, p2) X.length
          have hce := in1_end X (p1, p2)
          obtain ⟨c0, hc0⟩ : ∃ c0, c0 = in1 X (p1, p2) X.length := ⟨_, rfl⟩
          rw [← hc0] at hbd hce ⊢
          clear hc0
          replace hce := Lib.hid hce
          go_wp2_with fail
          go_loopw [13, 15] (fun m i wr => ∃ j : Nat, j ≤ Y.length ∧ m = .int .i64 (in2 c0 Y (p1, p2) j) ∧ i = .int .i64 j ∧ Drawn0 w6 wr) (fun m i _ => Y.length - (intOf i).toNat)
          case atStart => exact ⟨0, by omega, by simp [in1, in2], rfl, ⟨n1, rfl⟩⟩
          case round =>
            obtain ⟨j, hj1, rfl, rfl, ⟨n2, rfl⟩⟩ := hrel
            by_cases hjlt : j < Y.length
            · obtain ⟨gy, rfl, hy1, hy2⟩ := hSY.out j hjlt
              have hyes := in1_yes Y (p1, p2) j hjlt
              have hno := in1_no Y (p1, p2) j hjlt
              have hbdy := in1_bd Y (p1, p2) j
              unfold in2
              obtain ⟨c1, hc1⟩ : ∃ c1, c1 = in1 Y (p1, p2) j := ⟨_, rfl⟩
              rw [← hc1] at hbdy hno ⊢
              clear hc1
              obtain ⟨q, hq⟩ : ∃ q, q = Y.getD j (0, 0) := ⟨_, rfl⟩
              rw [← hq] at hy1 hy2 hyes hno
              clear hq
              obtain ⟨q1, q2⟩ := q
              simp only at hy1 hy2
              replace hz1 := hz1.out
              replace hz2 := hz2.out
              by_cases e : q1 = p1 ∧ q2 = p2
              · obtain ⟨rfl, rfl⟩ := e
                have hv := Lib.hid (hyes rfl)
                clear hyes hno
                rcases hbd with rfl | rfl <;> rcases hbdy with rfl | rfl
                all_goals
                  simp only [Int.mul_zero, Int.add_zero, Int.zero_add, Int.mul_one, show (1 : Int) + 2 = 3 from rfl]
                  go_wp2_with fail
                  go_quiet (fail)
                  go_wp2_with fail
                  go_roundw
                  case rel => exact ⟨j + 1, by omega, by rw [hv.out]; rfl, by go_num, ⟨n2 + nq, rfl⟩⟩
                  case measure => simp [intOf]; omega
              · have hv := Lib.hid (hno (by simpa using e))
                clear hyes hno hbdy hbd
                have e : ¬ (q1 = p1 ∧ q2 = p2) := e
                obtain ⟨c2, hc2⟩ : ∃ c2, c2 = c0 + 2 * c1 := ⟨_, rfl⟩
                rw [← hc2]
                replace hc2 := Lib.hid hc2
                go_wp2_with fail
                go_quiet (fail)
                go_wp2_with fail
                all_goals first
                | (rename_i hcond; exfalso; refine e ?_; simpa using hcond; done)
                | skip
                go_roundw
                case rel => exact ⟨j + 1, by omega, by rw [hv.out, hc2.out], by go_num, ⟨n2 + nq, rfl⟩⟩
                case measure => simp [intOf]; omega
            · have hje : j = Y.length := by omega
              subst hje
              have hbdy := in1_bd Y (p1, p2) Y.length
              have hcey := in1_end Y (p1, p2)
              unfold in2
              obtain ⟨c1, hc1⟩ : ∃ c1, c1 = in1 Y (p1, p2) Y.length := ⟨_, rfl⟩
              rw [← hc1] at hbdy hcey ⊢
              clear hc1
              have hne : ¬ (c0 = 0 ∧ c1 = 0) := by
                rintro ⟨rfl, rfl⟩
                rcases hpm.out with h | h
                · have := hce.out; rw [if_pos h] at this; omega
                · rw [if_pos h] at hcey; omega
              have hh : hitF X Y (p1, p2) = c0 + c1 := by
                unfold hitF; rw [hce.out, hcey]
              have hCn := hCs.out
              rw [hh] at hCn
              replace hCn := Lib.hid hCn
              clear hCs hh hcey hpm
              rcases hbd with rfl | rfl <;> rcases hbdy with rfl | rfl
              · exact absurd ⟨rfl, rfl⟩ hne
              all_goals
                clear hne
                have b11 : bits .and .i64 1 1 = 1 := by decide
                have b21 : bits .and .i64 2 1 = 0 := by decide
                have b31 : bits .and .i64 3 1 = 1 := by decide
                simp only [Int.mul_zero, Int.add_zero, Int.zero_add, Int.mul_one, show (1 : Int) + 2 = 3 from rfl]
                go_wp2_with fail
                go_roundw
                case rel => exact ⟨k + 1, by omega, by rw [hCn.out]; go_num, by go_num, ⟨n2, rfl⟩⟩
                case measure => simp [intOf]; omega
    · have hke : k = Z.length := by omega
      subst hke
      rw [List.take_length, hall.out]
      rw [List.take_length, hall.out] at hCb
      go_wp2_with fail
      go_ret
      exact ⟨rfl, hBw.out.trans ((Drawn0.mk ⟨n, rfl⟩ : Drawn0 w6 (w6.drewN n)).below.mono hBw.out.size)⟩
end Go.Proofs.Ytincgimbilnidaa.MyAbove
