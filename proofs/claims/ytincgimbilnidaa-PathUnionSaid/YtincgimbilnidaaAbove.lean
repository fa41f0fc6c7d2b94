/- What path.Above comes to. -/
import Derived.Test.YtincgimbilnidaaAboveFacts
namespace Go.Proofs.Ytincgimbilnidaa.MyAbove
open Go.RowKit Go.Sort Go.Proofs.Ytincgimbilnidaa.PPathSizes Go.Proofs.YtincgimbilnidaaW.PrintWords Go.Proofs.YtincgimbilnidaaW.PrintLast Go.Proofs.YtincgimbilnidaaW.PrintMore
set_option linter.unusedVariables false
theorem BlockAt.far {w w' : World} {base g cap : Nat} {v : Value} {xs : List Int} {ys : List (Int × Int)} (hb : BlockAt w base g cap xs) (h : OutRow w base v ys) (hg : w.grownBy w' v.ownBlock) : BlockAt w' base g cap xs := by
  obtain ⟨cur, h1, h2, h3⟩ := hb.row
  have hne : some g ≠ v.ownBlock := by
    have := own_type_ne hb.own.own h.own (by decide)
    simpa [Value.ownBlock] using this
  exact ⟨hb.lo, hb.fits, hb.most, cur, (hg.block g (Array.getElem?_eq_some_iff.1 h1).1 hne).trans h1, h2, h3⟩
theorem OutRow.snoc {w : World} {base : Nat} {v : Value} {O : List (Int × Int)} {p : Int × Int} (h : w.ownsRow base 33 2 v (O.length + 1) (O.flatMap spotC ++ spotC p)) : OutRow w base v (O ++ [p]) := by
  refine ⟨?_⟩
  simpa using h
theorem spot_one (p : Int × Int) : ∀ u ∈ spotC p, u.oneCell' = true := by
  intro u hu
  simp only [List.mem_cons, List.mem_nil_iff, or_false] at hu
  rcases hu with rfl | rfl <;> rfl
def SomeAbove (w : World) (r : List (Int × Int)) : Ending → World → Prop := fun e w' => ∃ v, e = .returned v ∧ OutRow w' w.heap.size v r ∧ Bel w w'
set_option maxHeartbeats 4000000 in
set_option maxRecDepth 100000 in
theorem above_any (d : Nat) (s : Int) (A : Option Addr) (c : Nat) (zs : List Int) (w : World) (hs : path_Slots.f d = some s) (hd : 1 ≤ d) (hd4 : d ≤ 4) (hs0 : 0 ≤ s) (hs1 : s ≤ 256)
    (hR : ReadsInt w .i64 A zs.length zs) (hlen : zs.length ≤ 1000)
    (T : List (Int × Int)) (hT : T = levelsF d (filt s zs)) :
    Calls Try.prog 18 #[.int .i64 d, .slice A zs.length c] w (SomeAbove w T) := by
  have HT0 := Lib.hid hT
  clear hT
  have HR := Lib.hid hR
  have HS := Lib.hid hs
  clear hR hs
  go_enter Try.func18, Try.ntmps18
  go_wp2_with fail
  go_loopw [5, 15] (fun v i wr => ∃ k : Nat, k ≤ zs.length ∧ i = .int .i64 k ∧ AtRow wr w.heap.size v (filt s (zs.take k)) ∧ Bel w wr) (fun _ i _ => zs.length - (intOf i).toNat)
  case atStart => exact ⟨0, Nat.zero_le _, rfl, ⟨own_nil _ _ _ _⟩, ⟨Below.refl _ _⟩⟩
  case round =>
    obtain ⟨k, hk, rfl, hA, hB⟩ := hrel
    by_cases hlt : k < zs.length
    · obtain ⟨ad, rfl, hc⟩ := (ReadsInt.below HR.out hB.out).at_ (k : Int) (by omega) (by omega)
      have hsn := Lib.hid (filt_snoc s zs k hlt)
      have e : rd zs (k : Int) = zs.getD k 0 := rfl
      rw [e] at hc
      obtain ⟨x, hx⟩ : ∃ x, x = zs.getD k 0 := ⟨_, rfl⟩
      rw [← hx] at hsn hc
      rw [Int.toNat_natCast] at hc
      clear hx e
      by_cases h1 : 0 ≤ x
      · by_cases h2 : x < s
        · rw [if_pos ⟨h1, h2⟩] at hsn
          have hl : (filt s (zs.take k)).length ≤ 1000 := by unfold filt; exact Nat.le_trans (List.length_filter_le _ _) (by rw [List.length_take]; omega)
          go_wp2_with (first | (go_at_call 13; refine (path_Slots.calls d s _ HS.out).mono ?_; rintro e w' ⟨rfl, hd'⟩; replace hA := hA.drawn hd'; replace hB := hB.drawn hd'; clear hd') | (at_builtin; refine print_append_num (w0 := w) w.heap.size rfl (.tmp 27) (.tmp 29) 23 3 .i64 8 rfl Try.underlying23 info3 (by decide) u5 (filt s (zs.take k)) x rfl rfl (AtRow.own hA) hB.out (hB.out.size) (by omega) ?_; intro v1 w1 ho hb hg hat; rw [← hsn.out] at ho; replace hA : AtRow w1 w.heap.size v1 _ := ⟨ho⟩; replace hB : Bel w w1 := ⟨hb⟩; clear ho hb hg hat))
          go_roundw
          case rel => exact ⟨k + 1, by omega, by go_num, hA, hB⟩
          case measure => simp [intOf]; omega
        · rw [if_neg (fun h => h2 h.2), List.append_nil] at hsn
          go_wp2_with (first | (go_at_call 13; refine (path_Slots.calls d s _ HS.out).mono ?_; rintro e w' ⟨rfl, hd'⟩; replace hA := hA.drawn hd'; replace hB := hB.drawn hd'; clear hd'))
          go_roundw
          case rel => exact ⟨k + 1, by omega, by go_num, by rw [hsn.out]; exact hA, hB⟩
          case measure => simp [intOf]; omega
      · rw [if_neg (fun h => h1 h.1), List.append_nil] at hsn
        go_wp2
        go_roundw
        case rel => exact ⟨k + 1, by omega, by go_num, by rw [hsn.out]; exact hA, hB⟩
        case measure => simp [intOf]; omega
    · rw [List.take_of_length_le (by omega)] at hA
      have hA0 : ∀ x ∈ filt s zs, 0 ≤ x ∧ x < 256 := by
        intro x hx
        have := (List.mem_filter.1 hx).2
        simp only [Bool.and_eq_true, decide_eq_true_eq] at this
        omega
      have hl0 : (filt s zs).length ≤ 1000 := Nat.le_trans (List.length_filter_le _ _) hlen
      obtain ⟨A0, hA00⟩ : ∃ A0, A0 = filt s zs := ⟨_, rfl⟩
      rw [← hA00] at hA hA0 hl0
      replace hA00 := Lib.hid hA00
      clear HR
      have HA0 := Lib.hid hA0
      clear hA0
      go_wp2_with fail
      have HT : Hid (T = [] ++ levelsF d A0) := Lib.hid (by rw [HT0.out, hA00.out]; rfl)
      clear HT0 hA00
      go_loopw [5, 8, 9] (fun v o l wq => ∃ (lv : Int) (m : Nat) (B : List Int) (O : List (Int × Int)), l = .int .i64 lv ∧ Hid (lv = (m : Int) - 1) ∧ -1 ≤ lv ∧ lv ≤ 3 ∧ AtRow wq w.heap.size v B ∧ OutRow wq w.heap.size o O ∧ Hid (T = O ++ levelsF m B) ∧ Hid (∀ x, x ∈ B → 0 ≤ x ∧ x < 256) ∧ B.length ≤ 1000 ∧ O.length ≤ 1000 * (3 - lv).toNat ∧ Bel w wq) (fun _ _ l _ => (intOf l + 1).toNat)
      case atStart => exact ⟨_, d, A0, [], rfl, Lib.hid rfl, by omega, by omega, hA, ⟨own_nil _ _ _ _⟩, HT, HA0, hl0, by simp, hB⟩
      case round =>
        clear hA hB HA0 hl0 HT
        obtain ⟨lv, m, B, O, rfl, Hlv, hlo, hhi, hA, hO, HT, HB, hlB, hlO, hBe⟩ := hrel
        by_cases hz : 0 ≤ lv
        · by_cases hB0 : B = []
          · subst hB0
            obtain ⟨Aa, cc, rfl⟩ := own_slice hA.own
            go_wp2
            go_ret
            have hTO : T = O := by rw [HT.out]; cases m <;> simp [levelsF]
            exact ⟨_, rfl, by rw [hTO]; exact hO, hBe⟩
          · obtain ⟨g, cap, rfl, hBk⟩ := hA.block hB0
            have hpos : 0 < B.length := List.length_pos_iff.2 hB0
            clear hA
            go_wp2_with fail
            have hmx : BlockAt wr w.heap.size g cap (mixF 0 B) := by rw [mixF_zero]; exact hBk
            obtain ⟨wo, hwo⟩ : ∃ wo, wo = wr := ⟨_, rfl⟩
            rw [← hwo] at hmx hO hBe ⊢
            clear hwo hBk
            go_loopw [45] (fun i wq => ∃ j : Nat, j ≤ B.length ∧ i = .int .i64 j ∧ BlockAt wq w.heap.size g cap (mixF j B) ∧ OutRow wq w.heap.size u8 O ∧ Bel w wq) (fun i _ => B.length - (intOf i).toNat)
            case atStart => exact ⟨0, Nat.zero_le _, rfl, hmx, hO, hBe⟩
            case round =>
              clear hmx hO hBe
              obtain ⟨j, hj, rfl, hM, hO, hBe⟩ := hrel
              by_cases hjt : j < B.length
              · have hc1 := hM.cell j (by rw [mixF_length]; exact hjt)
                rw [mixF_at j B hjt] at hc1
                have hf1 := hM.free j
                have hx := HB.out (B.getD j 0) (by rw [List.getD_eq_getElem?_getD, List.getElem?_eq_getElem hjt]; simp)
                have hst := hM.set j (B.getD j 0 / 4)
                rw [mixF_set j B hjt] at hst
                have hgr := grownBy_set wr g j (.int .i64 (B.getD j 0 / 4))
                have hO' := hO.far hM hgr
                have hBe' := hBe.grown hgr hM.lo
                obtain ⟨x, hxx⟩ : ∃ x, x = B.getD j 0 := ⟨_, rfl⟩
                rw [← hxx] at hc1 hx hst hO' hBe'
                clear hgr hxx
                go_wp2
                go_roundw
                case rel => exact ⟨j + 1, by omega, by go_num, hst, hO', hBe'⟩
                case measure => simp [intOf]; omega
              · obtain rfl : j = B.length := by omega
                rw [mixF_all] at hM
                have hml : (B.map (· / 4)).length = B.length := by simp
                have hr := rising_at g cap (B.map (· / 4)) w wr hM (by omega)
                have hRl := risF_len (B.map (· / 4))
                have hRm : ∀ x, x ∈ risF (B.map (· / 4)) → 0 ≤ x ∧ x < 256 := by
                  intro x hx
                  obtain ⟨y, hy, rfl⟩ := List.mem_map.1 (risF_mem _ x hx)
                  have := HB.out y hy
                  omega
                rw [hml] at hr hRl
                have hm : ∃ m', m = m' + 1 ∧ lv = (m' : Int) := ⟨m - 1, by have := Hlv.out; omega, by have := Hlv.out; omega⟩
                obtain ⟨m', rfl, hlm⟩ := hm
                have HT' : Hid (T = (O ++ (risF (B.map (· / 4))).map (fun i => (lv, i))) ++ levelsF m' (risF (B.map (· / 4)))) := Lib.hid (by rw [HT.out, levelsF, if_neg hB0, ← hlm, List.append_assoc])
                obtain ⟨R, hR⟩ : ∃ R, R = risF (B.map (· / 4)) := ⟨_, rfl⟩
                rw [← hR] at hr hRl hRm HT'
                have HRm := Lib.hid hRm
                have Hlm := Lib.hid hlm
                clear hRm hml hR HT hB0 hlm Hlv HB
                go_wp2_with (go_at_call 20; refine hr.mono ?_; rintro e w1 ⟨rfl, hg1, hM1⟩)
                replace hO := hO.far hM hg1
                replace hBe := hBe.grown hg1 hM.lo
                clear hM hg1 hr
                obtain ⟨wo1, hwo1⟩ : ∃ wo1, wo1 = w1 := ⟨_, rfl⟩
                rw [← hwo1] at hM1 hO hBe ⊢
                clear hwo1
                go_loopw [8, 59] (fun o i wq => ∃ j : Nat, j ≤ R.length ∧ i = .int .i64 j ∧ BlockAt wq w.heap.size g cap R ∧ OutRow wq w.heap.size o (O ++ (R.take j).map (fun i => (lv, i))) ∧ Bel w wq) (fun _ i _ => R.length - (intOf i).toNat)
                case atStart => exact ⟨0, Nat.zero_le _, rfl, hM1, by simpa using hO, hBe⟩
                case round =>
                  clear hM1 hO hBe
                  obtain ⟨q, hq, rfl, hM, hO, hBe⟩ := hrel
                  by_cases hqt : q < R.length
                  · have hc1 := hM.cell q hqt
                    have e1 : O ++ (R.take (q + 1)).map (fun i => (lv, i)) = (O ++ (R.take q).map (fun i => (lv, i))) ++ [(lv, R.getD q 0)] := by
                      rw [List.take_succ_eq_append_getElem hqt, List.map_append, ← List.append_assoc, show R.getD q 0 = R[q] from by simp [List.getD_eq_getElem?_getD, hqt]]
                      rfl
                    have E1 := Lib.hid e1
                    have hOl : (O ++ (R.take q).map (fun i => (lv, i))).length ≤ 5000 := by simp; omega
                    clear e1
                    obtain ⟨x, hxx⟩ : ∃ x, x = R.getD q 0 := ⟨_, rfl⟩
                    obtain ⟨O1, hO1⟩ : ∃ O1, O1 = O ++ (R.take q).map (fun i => (lv, i)) := ⟨_, rfl⟩
                    rw [← hxx] at hc1 E1
                    rw [← hO1] at hO hOl E1
                    clear hxx hO1
                    go_wp2_with (first | (at_builtin; refine print_append_cells (w0 := w) w.heap.size rfl (.tmp 63) (.tmp 67) 27 33 (.agg #[.int .i64 0, .int .i64 0]) 2 16 rfl Try.underlying27 info33 rfl (by decide) (by decide) _ O1.length (O1.flatMap spotC) (spotC (lv, x)) rfl rfl rfl (spot_one (lv, x)) (OutRow.own hO) hBe.out (hBe.out.size) (by omega) ?_; intro v1 w2 ho hb hg hat; replace hM := hM.far hO hg; replace hO := OutRow.snoc ho; replace hBe : Bel w w2 := ⟨hb⟩; rw [← E1.out] at hO; clear ho hb hg hat))
                    go_roundw
                    case rel => exact ⟨q + 1, by omega, by go_num, hM, hO, hBe⟩
                    case measure => simp [intOf]; omega
                  · rw [List.take_of_length_le (by omega)] at hO
                    go_wp2
                    go_roundw
                    case rel => exact ⟨lv - 1, m', R, O ++ R.map (fun i => (lv, i)), by go_num, Lib.hid (by rw [Hlm.out]), by omega, by omega, hM.own, hO, HT', HRm, by omega, by simp; omega, hBe⟩
                    case measure => simp [intOf]; omega
        · go_wp2
          go_ret
          have hTO : T = O := by
            have h0 : m = 0 := by have := Hlv.out; omega
            rw [HT.out, h0]; simp [levelsF]
          exact ⟨_, rfl, by rw [hTO]; exact hO, hBe⟩
end Go.Proofs.Ytincgimbilnidaa.MyAbove
