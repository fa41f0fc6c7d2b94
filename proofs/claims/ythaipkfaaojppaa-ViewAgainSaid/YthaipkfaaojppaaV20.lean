/- ViewRuns, walked. -/
import Derived.Test.YthaipkfaaojppaaV19
namespace Go.Proofs.Ythaipkfaaojppaa.Vw
open Go.RowKit Go.Proofs.YthaipkfaaojppaaW.PrintWords Go.Proofs.YthaipkfaaojppaaW.PrintLast Go.Proofs.YthaipkfaaojppaaW.PrintMore
set_option linter.unusedVariables false
theorem cell_blk {w : World} {q : Nat} {u : Value} {t : TypeId} (h : w.heap[q]? = some (.cells #[u] t (0, 0))) : w.cell? ⟨q, 0, none⟩ = some u := by simp [World.cell?, h]
theorem runs_next {w w9 : World} {vp M g s p8 a8 i n : Nat} {f : Int → Option (List Int)} {bl : List (List Int)} {kn : List Bool} {v1 v2 : Value} (hA : At w w9 vp M g s n f bl kn) (hn : n ≤ 200) (c8 : w9.cell? ⟨p8, 0, none⟩ = some (.slice (some ⟨a8, 0, none⟩) 2 2)) (e0 : w9.cell? ⟨a8, 0, none⟩ = some v1) (e1 : w9.cell? ⟨a8, 1, none⟩ = some v2) :
    RunsMid w (w9.alloc (.cells #[.int .i64 ((i : Int) + 1)] 3)) vp M g s p8 a8 w9.heap.size (i + 1) bl kn v1 v2 := by
  have hb : Below w9.heap.size w9 (w9.alloc (.cells #[.int .i64 ((i : Int) + 1)] 3)) := (Below.refl _ _).alloc (Nat.le_refl _) _
  have c := Cm.below hb
  refine ⟨⟨n, f, hn, hA.ofBelow hb⟩, c _ _ c8, c _ _ e0, c _ _ e1, ?_⟩
  have := blk_new' (w := w9) rfl #[.int .i64 ((i : Int) + 1)] 3
  rw [show ((i + 1 : Nat) : Int) = (i : Int) + 1 by omega]
  exact cell_blk this
theorem frozen_blk {w : World} {q : Nat} {u : Value} {t : TypeId} (h : w.heap[q]? = some (.cells #[u] t (0, 0))) : w.frozen? ⟨q, 0, none⟩ = false := by simp [World.frozen?, h]
set_option maxRecDepth 100000 in
set_option maxHeartbeats 8000000 in
theorem ViewRuns_walk (w : World) (AB : Option Addr) (bl : List (List Int)) (cB : Nat) (AK : Option Addr) (kn : List Bool) (cK : Nat) (A : Option Addr) (ds : List DoR) (c : Nat) (A2 : Option Addr) (ds2 : List DoR) (c2 : Nat) (hG : Given w AB bl AK kn A ds) (hC2 : Scr w A2 ds2) (hW2 : Wild ds2) :
    Calls Try.prog 3 #[.agg #[.slice AB bl.length cB, .slice AK kn.length cK], .slice A ds.length c, .slice A2 ds2.length c2] w fun e w' => e = .returned (.bool true) ∧ Below w.heap.size w w' := by
  have hmf : ∀ (fn : Fn) (first cap : Array Value) (w : World), (Instr.makeFunc fn first cap).run Try.prog w = .ok (.func fn first cap) w := fun _ _ _ _ => rfl
  obtain ⟨W0, hW0⟩ : ∃ W0, W0 = w.alloc (.cells #[.slice AB bl.length cB, .slice AK kn.length cK] 25) := ⟨_, rfl⟩
  have hb00 : Below w.heap.size w W0 := by rw [hW0]; exact (Below.refl _ _).alloc (Nat.le_refl _) _
  have hblk0 : W0.heap[w.heap.size]? = some (.cells #[.slice AB bl.length cB, .slice AK kn.length cK] 25 (0, 0)) := by rw [hW0]; exact blk_new' rfl _ _
  have hR0 := hG.raw (s := w.heap.size) (cB := cB) (cK := cK) (Cm.below hb00) (by simp [World.cell?, hblk0]) (by simp [World.cell?, hblk0])
  have hC0 := hG.script.cm (Cm.below hb00)
  have hC20 := hC2.cm (Cm.below hb00)
  have hWd := hG.wild
  have cA := awake_walk W0
  have hz : W0.heap.size = w.heap.size + 1 := by rw [hW0]; simp
  replace hG := Lib.hid hG
  replace hb00 := Lib.hid hb00
  replace hR0 := Lib.hid hR0
  replace hC0 := Lib.hid hC0
  replace hC20 := Lib.hid hC20
  replace hWd := Lib.hid hWd
  replace hW2 := Lib.hid hW2
  clear hblk0 hC2
  go_enter Try.func3, Try.ntmps3
  go_wp2_with (first
    | (go_at_call 7; rw [← hW0]; refine cA.mono ?_; clear cA; rintro e W1 ⟨rfl, hB1⟩; have cM := may_walk W1 w.heap.size bl kn A c ds (hR0.out.cm (Cm.below hB1)) (hC0.out.cm (Cm.below hB1)) hWd.out; replace hB1 := Lib.hid hB1))
  refine cM.mono ?_
  clear cM
  rintro e W2 ⟨⟨b, rfl, hok⟩, hB2⟩
  have hB02 : Below W0.heap.size W0 W2 := hB1.out.trans (hB2.mono hB1.out.size)
  cases b with
  | false =>
    have hBw : Below w.heap.size w W2 := hb00.out.trans (hB02.mono (by omega))
    clear hok hB2 hB02
    replace hBw := Lib.hid hBw
    go_wp2_with fail
    go_ret
    exact ⟨rfl, hBw.out⟩
  | true =>
    have ok := hok rfl
    have cM := may_walk W2 w.heap.size bl kn A2 c2 ds2 (hR0.out.cm (Cm.below hB02)) (hC20.out.cm (Cm.below hB02)) hW2.out
    replace hB02 := Lib.hid hB02
    replace ok := Lib.hid ok
    clear hok hB2 hB1
    go_wp2_with fail
    refine cM.mono ?_
    clear cM
    rintro e W3 ⟨⟨b, rfl, hok⟩, hB3⟩
    have hB03 : Below W0.heap.size W0 W3 := hB02.out.trans (hB3.mono hB02.out.size)
    have hBw : Below w.heap.size w W3 := hb00.out.trans (hB03.mono (by omega))
    cases b with
    | false =>
      clear hok hB3 hB03
      replace hBw := Lib.hid hBw
      go_wp2_with fail
      go_ret
      exact ⟨rfl, hBw.out⟩
    | true =>
      have ok2 := hok rfl
      have hS3 := ok2.src (hR0.out.cm (Cm.below hB03))
      have hT3 := ok.out.tame hWd.out
      have hT32 := ok2.tame hW2.out
      have hC3 := hC0.out.cm (Cm.below hB03)
      have hC32 := hC20.out.cm (Cm.below hB03)
      have cN := New_walk W3 w.heap.size
      have hz3 := hB03.size
      clear hok hB3 ok ok2 hR0 hC0 hC20 hWd hW2 hB02 hB03 hG hW0
      replace hS3 := Lib.hid hS3
      replace hT3 := Lib.hid hT3
      replace hT32 := Lib.hid hT32
      replace hC3 := Lib.hid hC3
      replace hC32 := Lib.hid hC32
      replace hBw := Lib.hid hBw
      go_wp2_with (go_at_call 9; refine cN.mono ?_; clear cN; rintro e W4 ⟨rfl, hV, hB4⟩; replace hV := Lib.hid hV; replace hB4 := Lib.hid hB4)
      have h0 := runs_start (v1 := .slice A ds.length c) (v2 := .slice A2 ds2.length c2) hV.out hB4.out hS3.out (Nat.le_refl _)
      replace h0 := Lib.hid h0
      clear hB4 hV
      go_loopg [9] 2 (fun gh v9 wr => ∃ (i p9 : Nat), i ≤ 2 ∧ gh = 2 - i ∧ v9 = .pointer (some ⟨p9, 0, none⟩) ∧ RunsMid W3 wr (W3.heap.size + 1) W3.heap.size W4.heap.size w.heap.size (W4.heap.size + 1 + 1) (W4.heap.size + 1) p9 i bl kn (.slice A ds.length c) (.slice A2 ds2.length c2))
      case atStart => exact ⟨0, _, by omega, rfl, rfl, h0.out⟩
      case round =>
        obtain ⟨i, p9, hi, hgi, rfl, hX⟩ := hrel
        clear h0
        obtain ⟨⟨n, f, hn, hA⟩, c8, e0, e1, c9⟩ := hX
        by_cases hlt : i < 2
        · obtain ⟨d, Ad, cd, ei, hCd, hTd⟩ : ∃ (d : List DoR) (Ad : Option Addr) (cd : Nat), wr.cell? ⟨W4.heap.size + 1, i, none⟩ = some (.slice Ad d.length cd) ∧ Scr W3 Ad d ∧ Tame d := by
            rcases (show i = 0 ∨ i = 1 by omega) with rfl | rfl
            · exact ⟨ds, A, c, e0, hC3.out, hT3.out⟩
            · exact ⟨ds2, A2, c2, e1, hC32.out, hT32.out⟩
          have hbq : Below wr.heap.size wr (wr.alloc (.cells #[.slice none 0 0] 22)) := (Below.refl _ _).alloc (Nat.le_refl _) _
          have hAq := hA.ofBelow hbq
          have cq := Cm.below hbq
          have q8 := cq _ _ c8
          have q9 := cq _ _ c9
          have qi := cq _ _ ei
          have qe0 := cq _ _ e0
          have qe1 := cq _ _ e1
          have hbl : (wr.alloc (.cells #[.slice none 0 0] 22)).heap[wr.heap.size]? = some (.cells #[.slice none 0 0] 22 (0, 0)) := blk_new' rfl _ _
          have l8 : W4.heap.size + 1 + 1 < wr.heap.size := cell_lt c8
          have la : W4.heap.size + 1 < wr.heap.size := cell_lt ei
          have l9 : p9 < wr.heap.size := cell_lt c9
          have lg : W4.heap.size < wr.heap.size := cell_lt hA.box
          have lv : W3.heap.size + 1 < wr.heap.size := cell_lt hA.vw.map
          have hblk := hAq.vw.own.blk
          have bx := hAq.box
          have hwr := hA.bel.size
          have cS := hAq.seen (q := wr.heap.size) 12 #[.pointer (some ⟨W4.heap.size, 0, none⟩), .pointer (some ⟨W4.heap.size + 1 + 1, 0, none⟩), .pointer (some ⟨p9, 0, none⟩), .pointer (some ⟨wr.heap.size, 0, none⟩)] (playF (getF bl kn) d (fun _ => none) []) en12 (fun W hW hT => clo12 hW (by omega) (by omega) (by omega) (by omega) (by omega) (hT.cm hblk _ _ q8) (hT.cm hblk _ _ q9) hlt (hT.cm hblk _ _ qi) (hCd.cm (Cm.below hW.bel)) hTd (hT.cm hblk _ _ (cell_blk hbl)) ((hT.frozen hblk (cell_blk hbl)).trans (frozen_blk hbl))) hbl (by omega) (by omega) (by omega) hS3.out
          have hil : (i : Int) < 2 := by omega
          replace hA := Lib.hid hA
          replace hAq := Lib.hid hAq
          replace hCd := Lib.hid hCd
          replace hTd := Lib.hid hTd
          replace hblk := Lib.hid hblk
          clear hbq cq hbl ei e0 e1
          cases hr : playF (getF bl kn) d (fun _ => none) [] with
          | done f' seen =>
            rw [hr] at cS
            unfold SeenPost at cS
            have hsl := len_play d _ _ hr
            have cR := fun W (hS : Src W w.heap.size bl kn) (hC : Scr W Ad d) => Run_walk W w.heap.size bl kn Ad cd d hS hC hTd.out
            simp only [hr] at cR
            unfold RunPost at cR
            have fw := hTd.out.few
            replace hsl := Lib.hid hsl
            replace hr := Lib.hid hr
            go_wp2_with (first
              | (go_at_call 11; refine cS.mono ?_; clear cS; rintro e w5 ⟨rfl, ⟨v, hv, ok5, hR5⟩, ⟨n5, hn5, hA5⟩, ht5⟩; have k8 := ht5.cell hblk.out q8 (show W4.heap.size + 1 + 1 ≠ wr.heap.size by omega); have k9 := ht5.cell hblk.out q9 (show p9 ≠ wr.heap.size by omega); have ki := ht5.cell hblk.out qi (show W4.heap.size + 1 ≠ wr.heap.size by omega); have ke0 := ht5.cell hblk.out qe0 (show W4.heap.size + 1 ≠ wr.heap.size by omega); have ke1 := ht5.cell hblk.out qe1 (show W4.heap.size + 1 ≠ wr.heap.size by omega); have cR' := cR w5 hA5.src (hCd.out.cm (Cm.below hA5.bel)); clear cR; replace hR5 := Lib.hid (show R44 w5 v seen from Kd.R_reads hR5); replace hA5 := Lib.hid hA5; replace ht5 := Lib.hid ht5; clear q8 q9 qi qe0 qe1 c8 c9 bx)
              | (go_at_call 14; refine cR'.mono ?_; clear cR'; rintro e w6 ⟨⟨v1, v2, puts, rfl, hfq, hin, hpl, ⟨ok1, hN1⟩, ⟨ok2, hN2⟩⟩, hB6⟩; subst hfq; have hA6 := hA5.out.ofBelow hB6; have b6 := hA6.box; have cC := hA6.changesR (by omega); have hw1 : R44 w6 v1 seen := Kd.N_reads hN1; have hw2 : R59 w6 v2 (Vw.chS puts []) := Kd.N_reads hN2; replace hw1 := Lib.hid hw1; replace hw2 := Lib.hid hw2; replace hB6 := Lib.hid hB6; replace hin := Lib.hid hin; replace hA6 := Lib.hid hA6; clear hN1 hN2)
              | (go_at_call 16; refine cC.mono ?_; clear cC; rintro e w7 ⟨⟨v7, ks, rfl, hK, hR7⟩, hA7, hB7⟩; rw [← chS_put hK hin.out] at hR7; have cP := Puts_same w7 v7 v2 (Vw.chS puts []) hR7 (hw2.out.below hB7) (by have := len_chS puts []; simp only [List.length_nil] at this; omega); have hB57 := hB6.out.trans (hB7.mono hB6.out.size); replace hB57 := Lib.hid hB57; replace hA7 := Lib.hid hA7; replace hB7 := Lib.hid hB7; clear hR7 hK)
              | (go_at_call 15; refine cP.mono ?_; clear cP; rintro e w8 ⟨rfl, hD8⟩; have hB58 := hB57.out.trans (hD8.below.mono hB57.out.size); have hv8 := (Cm.below hB58) _ _ hv; have cL := Lists_same w8 v v1 seen (hR5.out.below hB58) ((hw1.out.below hB7.out).below hD8.below) (by have := hsl.out; simp only [List.length_nil] at this; omega); replace hB58 := Lib.hid hB58; replace hD8 := Lib.hid hD8)
              | (go_at_call 17; refine cL.mono ?_; clear cL; rintro e w9 ⟨rfl, hD9⟩; have hB59 := hB58.out.trans (hD9.below.mono hB58.out.size); have cm9 := Cm.below hB59; have m8 := cm9 _ _ k8; have m9 := cm9 _ _ k9; have me0 := cm9 _ _ ke0; have me1 := cm9 _ _ ke1; have hA9 := hA5.out.ofBelow hB59; replace hA9 := Lib.hid hA9; replace hD9 := Lib.hid hD9; clear cm9 hB59))
            go_roundg (2 - (i + 1))
            case measure => omega
            case rel => exact ⟨i + 1, _, by omega, rfl, rfl, runs_next hA9.out hn5 m8 me0 me1⟩
          | wants k f' =>
            rw [hr] at cS
            unfold SeenPost at cS
            have cR := fun W (hS : Src W w.heap.size bl kn) (hC : Scr W Ad d) => Run_walk W w.heap.size bl kn Ad cd d hS hC hTd.out
            simp only [hr] at cR
            unfold RunPost at cR
            replace hr := Lib.hid hr
            go_wp2_with (first
              | (go_at_call 11; refine cS.mono ?_; clear cS; rintro e w5 ⟨rfl, hA5, ht5⟩; have k8 := ht5.cell hblk.out q8 (show W4.heap.size + 1 + 1 ≠ wr.heap.size by omega); have k9 := ht5.cell hblk.out q9 (show p9 ≠ wr.heap.size by omega); have ki := ht5.cell hblk.out qi (show W4.heap.size + 1 ≠ wr.heap.size by omega); have ke0 := ht5.cell hblk.out qe0 (show W4.heap.size + 1 ≠ wr.heap.size by omega); have ke1 := ht5.cell hblk.out qe1 (show W4.heap.size + 1 ≠ wr.heap.size by omega); have cR' := cR w5 hA5.src (hCd.out.cm (Cm.below hA5.bel)); clear cR; replace hA5 := Lib.hid hA5; replace ht5 := Lib.hid ht5; clear q8 q9 qi qe0 qe1 c8 c9 bx)
              | (go_at_call 14; refine cR'.mono ?_; clear cR'; rintro e w6 ⟨⟨v1, rfl⟩, hB6⟩; have hA6 := hA5.out.ofBelow hB6; have b6 := hA6.box; have cC := hA6.changesR (by omega); replace hB6 := Lib.hid hB6; replace hA6 := Lib.hid hA6)
              | (go_at_call 16; refine cC.mono ?_; clear cC; rintro e w7 ⟨⟨v7, ks, rfl, hK, hR7⟩, hA7, hB7⟩; obtain rfl : ks = [] := keys_none hK (fun _ _ => rfl); have cP := Puts_same w7 v7 (.slice none 0 0) [] hR7 (R59.nil _) (by simp); have hB57 := hB6.out.trans (hB7.mono hB6.out.size); replace hB57 := Lib.hid hB57; replace hA7 := Lib.hid hA7; replace hB7 := Lib.hid hB7; clear hR7 hK)
              | (go_at_call 15; refine cP.mono ?_; clear cP; rintro e w8 ⟨rfl, hD8⟩; have hB58 := hB57.out.trans (hD8.below.mono hB57.out.size); have cm9 := Cm.below hB58; have m8 := cm9 _ _ k8; have m9 := cm9 _ _ k9; have me0 := cm9 _ _ ke0; have me1 := cm9 _ _ ke1; have hA9 := hA5.out.ofBelow hB58; replace hA9 := Lib.hid hA9; replace hD8 := Lib.hid hD8; clear cm9 hB58))
            go_roundg (2 - (i + 1))
            case measure => omega
            case rel => exact ⟨i + 1, _, by omega, rfl, rfl, runs_next hA9.out (by omega) m8 me0 me1⟩
        · obtain rfl : i = 2 := by omega
          replace hA := Lib.hid hA
          clear e0 e1
          go_wp2_with fail
          go_ret
          exact ⟨rfl, hBw.out.trans (hA.out.bel.mono hBw.out.size)⟩
end Go.Proofs.Ythaipkfaaojppaa.Vw
