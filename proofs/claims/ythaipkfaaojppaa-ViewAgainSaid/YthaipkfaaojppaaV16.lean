/- ViewOwn, walked. -/
import Derived.Test.YthaipkfaaojppaaV15
namespace Go.Proofs.Ythaipkfaaojppaa.Vw
open Go.RowKit Go.Proofs.YthaipkfaaojppaaW.PrintWords Go.Proofs.YthaipkfaaojppaaW.PrintLast Go.Proofs.YthaipkfaaojppaaW.PrintMore
set_option linter.unusedVariables false
def owW (w : World) (AB : Option Addr) (nB cB : Nat) (AK : Option Addr) (nK cK : Nat) (A : Option Addr) (nD c : Nat) : World :=
  (w.alloc (.cells #[.slice AB nB cB, .slice AK nK cK] 25)).alloc (.cells #[.slice A nD c] 26)
structure OwAt (w W : World) (AB : Option Addr) (nB cB : Nat) (AK : Option Addr) (nK cK : Nat) (A : Option Addr) (nD c : Nat) : Prop where
  bel : Below w.heap.size w W
  size : W.heap.size = w.heap.size + 1 + 1
  s0 : W.cell? ⟨w.heap.size, 0, none⟩ = some (.slice AB nB cB)
  s1 : W.cell? ⟨w.heap.size, 1, none⟩ = some (.slice AK nK cK)
  p0 : W.cell? ⟨w.heap.size + 1, 0, none⟩ = some (.slice A nD c)
theorem ow_at (w : World) (AB : Option Addr) (nB cB : Nat) (AK : Option Addr) (nK cK : Nat) (A : Option Addr) (nD c : Nat) : OwAt w (owW w AB nB cB AK nK cK A nD c) AB nB cB AK nK cK A nD c := by
  unfold owW
  have s1 : (w.alloc (.cells #[.slice AB nB cB, .slice AK nK cK] 25)).heap.size = w.heap.size + 1 := by simp
  have a0 := blk_new' (w := w) rfl #[.slice AB nB cB, .slice AK nK cK] 25
  have ba : Below w.heap.size w (w.alloc (.cells #[.slice AB nB cB, .slice AK nK cK] 25)) := (Below.refl _ w).alloc (Nat.le_refl _) _
  generalize w.alloc (.cells #[.slice AB nB cB, .slice AK nK cK] 25) = a at s1 a0 ba
  have s2 : (a.alloc (.cells #[.slice A nD c] 26)).heap.size = w.heap.size + 1 + 1 := by simp [s1]
  have b0 := (Go.Deep.blk_alloc_lt a (.cells #[.slice A nD c] 26) w.heap.size (by omega)).trans a0
  have b1 := blk_new' s1 #[.slice A nD c] 26
  have bb := ba.alloc (by omega) (.cells #[.slice A nD c] 26)
  exact ⟨bb, s2, by simp [World.cell?, b0], by simp [World.cell?, b0], by simp [World.cell?, b1]⟩
set_option maxRecDepth 100000 in
set_option maxHeartbeats 8000000 in
theorem ViewOwn_walk (w : World) (AB : Option Addr) (bl : List (List Int)) (cB : Nat) (AK : Option Addr) (kn : List Bool) (cK : Nat) (A : Option Addr) (ds : List DoR) (c : Nat) (hG : Given w AB bl AK kn A ds) :
    Calls Try.prog 5 #[.agg #[.slice AB bl.length cB, .slice AK kn.length cK], .slice A ds.length c] w fun e w' => e = .returned (.bool true) ∧ Below w.heap.size w w' := by
  have hmf : ∀ (fn : Fn) (first cap : Array Value) (w : World), (Instr.makeFunc fn first cap).run Try.prog w = .ok (.func fn first cap) w := fun _ _ _ _ => rfl
  obtain ⟨W0, hW0⟩ : ∃ W0, W0 = owW w AB bl.length cB AK kn.length cK A ds.length c := ⟨_, rfl⟩
  have hF := ow_at w AB bl.length cB AK kn.length cK A ds.length c
  rw [← hW0] at hF
  have hR0 := hG.raw (Cm.below hF.bel) hF.s0 hF.s1
  have hC0 := hG.script.cm (Cm.below hF.bel)
  have hWd := hG.wild
  have cA := awake_walk W0
  have hp0 := hF.p0
  have hz := hF.size
  unfold owW at hW0
  replace hG := Lib.hid hG
  replace hF := Lib.hid hF
  replace hR0 := Lib.hid hR0
  replace hC0 := Lib.hid hC0
  replace hWd := Lib.hid hWd
  go_enter Try.func5, Try.ntmps5
  go_wp2_with (first
    | (go_at_call 7; rw [← hW0]; refine cA.mono ?_; clear cA; rintro e W1 ⟨rfl, hB1⟩; have p1 := (Cm.below hB1) _ _ hp0; have cM := may_walk W1 w.heap.size bl kn A c ds (hR0.out.cm (Cm.below hB1)) (hC0.out.cm (Cm.below hB1)) hWd.out; replace hB1 := Lib.hid hB1))
  refine cM.mono ?_
  clear cM
  rintro e W2 ⟨⟨b, rfl, hok⟩, hB2⟩
  have hBw : Below w.heap.size w W2 := (hF.out.bel.trans (hB1.out.mono (by omega))).trans (hB2.mono (by have := hB1.out.size; omega))
  cases b with
  | false =>
    clear hok hB2 p1
    replace hBw := Lib.hid hBw
    go_wp2_with fail
    go_ret
    exact ⟨rfl, hBw.out⟩
  | true =>
    have ok := hok rfl
    have hB02 : Below W0.heap.size W0 W2 := hB1.out.trans (hB2.mono hB1.out.size)
    have hS2 := ok.src (hR0.out.cm (Cm.below hB02))
    have hT2 := ok.tame hWd.out
    have hC2 := hC0.out.cm (Cm.below hB02)
    have p2 := (Cm.below hB02) _ _ hp0
    have hz2 := hB02.size
    have cN := New_walk W2 w.heap.size
    have hpl : w.heap.size + 1 < W2.heap.size := by omega
    clear hok hB2 p1 ok hR0 hC0 hWd hB02
    replace hS2 := Lib.hid hS2
    replace hT2 := Lib.hid hT2
    replace hC2 := Lib.hid hC2
    replace hBw := Lib.hid hBw
    replace p2 := Lib.hid p2
    clear hp0 hW0 hF hB1 hG
    go_wp2_with (first
      | (go_at_call 9; refine cN.mono ?_; clear cN; rintro e W3 ⟨rfl, hV, hB3⟩; have h0 : At W2 (W3.alloc (Obj.cells #[Value.pointer (some { block := W2.heap.size + 1, off := 0 })] 30)) (W2.heap.size + 1) W2.heap.size W3.heap.size w.heap.size 0 (fun _ => none) bl kn := (by
          have hb2 : Below W3.heap.size W3 (W3.alloc (Obj.cells #[Value.pointer (some { block := W2.heap.size + 1, off := 0 })] 30)) := (Below.refl _ _).alloc (Nat.le_refl _) _
          have hs1 := hB3.size
          exact ⟨hB3.trans (hb2.mono (by omega)), hV.below hb2, (hS2.out.cm (Cm.below hB3)).cm (Cm.below hb2), by simp, by omega⟩); have hs3 := hB3.size; have hv3 : W2.heap.size + 1 < W3.heap.size := cell_lt hV.map; clear hV hB3; have hs4 : (W3.alloc (Obj.cells #[Value.pointer (some { block := W2.heap.size + 1, off := 0 })] 30)).heap.size = W3.heap.size + 1 := (by simp); have hb4 := blk_new' hs4 #[.bool true] 4; have h4 := h0.ofBelow (wr1 := (W3.alloc (Obj.cells #[Value.pointer (some { block := W2.heap.size + 1, off := 0 })] 30)).alloc (.cells #[.bool true] 4)) ((Below.refl _ _).alloc (Nat.le_refl _) _); have bx := h4.box; have c1 := h4.own19 ⟨hpl, p2.out⟩ hC2.out hT2.out hS2.out (by omega) (by omega) (by omega) hb4; clear h0 h4 hb4 hs4)
      | (go_at_call 11; refine c1.mono ?_; clear c1; rintro e W5 ⟨rfl, hb5, hA5⟩; have hE5 : OwnEnd W2 W5 (W2.heap.size + 1) W2.heap.size W3.heap.size w.heap.size ds.length (W3.heap.size + 1) (fP ds ds.length) bl kn := ⟨hA5, hb5⟩; clear bx hA5 hb5; replace hE5 := Lib.hid hE5))
    go_loopg [9, 10] ds.length (fun gh v u wr => ∃ i : Nat, i ≤ ds.length ∧ gh = ds.length - i ∧ v = .int .i64 (numF ds i : Nat) ∧ u = .int .i64 i ∧ OwnEnd W2 wr (W2.heap.size + 1) W2.heap.size W3.heap.size w.heap.size ds.length (W3.heap.size + 1) (fP ds ds.length) bl kn)
    case atStart => exact ⟨0, by omega, rfl, rfl, rfl, hE5.out⟩
    case round =>
      obtain ⟨i, hi, hgi, rfl, rfl, hX⟩ := hrel
      clear hE5
      have hcm := Cm.below hX.st.bel
      have pc := hcm _ _ p2.out
      have few := hT2.out.few
      have hnum := numF_le ds i
      by_cases hlt : i < ds.length
      · obtain ⟨d, hd⟩ : ∃ d, ds[i]? = some d := ⟨_, List.getElem?_eq_getElem hlt⟩
        have hns := numF_succ hd
        obtain ⟨nu, hnu⟩ : ∃ nu, nu = numF ds i := ⟨_, rfl⟩
        obtain ⟨sl, hsl⟩ : ∃ sl, sl = d.slot := ⟨_, rfl⟩
        rw [← hnu, ← hsl] at hns
        rw [← hnu] at hnum
        simp only [← hnu]
        replace hns := Lib.hid hns
        replace hX := Lib.hid hX
        replace hd := Lib.hid hd
        replace hsl := Lib.hid hsl
        clear hnu
        go_wp2_with fail
        go_loopg [11, 12] i (fun gh v u wx => ∃ k : Nat, k ≤ i ∧ gh = i - k ∧ v = .bool (fP ds k sl).isNone ∧ u = .int .i64 k ∧ OwnEnd W2 wx (W2.heap.size + 1) W2.heap.size W3.heap.size w.heap.size ds.length (W3.heap.size + 1) (fP ds ds.length) bl kn)
        case atStart => exact ⟨0, by omega, rfl, rfl, rfl, hX.out⟩
        case round =>
          obtain ⟨k, hk, hgk, rfl, rfl, hY⟩ := hrel
          clear hX pc hcm
          by_cases hki : k < i
          · obtain ⟨dk, hdk⟩ : ∃ d, ds[k]? = some d := ⟨_, List.getElem?_eq_getElem (by omega)⟩
            have hcm := Cm.below hY.st.bel
            have pc := hcm _ _ p2.out
            obtain ⟨x, vi, rfl, _, k1, _, _⟩ := (hC2.out.cm hcm) i d hd.out
            obtain ⟨y, vk, ey, _, k2, _, _⟩ := (hC2.out.cm hcm) k dk hdk
            injection ey with ey
            subst ey
            rw [← hsl.out] at k1
            obtain ⟨sk, hsk⟩ : ∃ sl, sl = dk.slot := ⟨_, rfl⟩
            rw [← hsk] at k2
            have hnx := fP_succ hdk
            rw [← hsk] at hnx
            have hnext : (fP ds (k + 1) sl).isNone = (if sl = sk then false else (fP ds k sl).isNone) := by
              rw [hnx]
              unfold updO
              by_cases e : sl = sk
              · simp [e]
              · simp [e]
            replace hY := Lib.hid hY
            replace hnext := Lib.hid hnext
            clear hnx hsk hdk
            cases hb : (fP ds k sl).isNone with
            | true =>
              by_cases e : sk = sl
              · subst e
                have hnext' := hnext.out
                rw [if_pos rfl] at hnext'
                replace hnext' := Lib.hid hnext'
                clear hnext hcm hb
                go_wp2_with fail
                go_quiet (fail)
                go_wp2_with fail
                go_roundg (i - (k + 1))
                case measure => omega
                case rel => exact ⟨k + 1, by omega, rfl, by rw [hnext'.out], by go_num, hY.out.below (Drawn0.mk ⟨nq, rfl⟩ : Drawn0 _ _).below⟩
              · have hnext' := hnext.out
                rw [if_neg (fun e' => e e'.symm), hb] at hnext'
                have e1 : (sk != sl) = true := by simpa using e
                replace hnext' := Lib.hid hnext'
                clear hnext hcm hb
                go_wp2_with fail
                go_quiet (fail)
                go_wp2_with fail
                go_roundg (i - (k + 1))
                case measure => omega
                case rel => exact ⟨k + 1, by omega, rfl, by rw [hnext'.out], by go_num, hY.out.below (Drawn0.mk ⟨nq, rfl⟩ : Drawn0 _ _).below⟩
            | false =>
              have hnext' := hnext.out
              rw [hb, ite_self] at hnext'
              replace hnext' := Lib.hid hnext'
              clear hnext hcm hb
              go_wp2_with fail
              go_quiet (fail)
              go_wp2_with fail
              go_roundg (i - (k + 1))
              case measure => omega
              case rel => exact ⟨k + 1, by omega, rfl, by rw [hnext'.out], by go_num, hY.out.below (Drawn0.mk ⟨nq, rfl⟩ : Drawn0 _ _).below⟩
          · obtain rfl : k = i := by omega
            cases hb : (fP ds k sl).isNone with
            | true =>
              have hns' := hns.out
              rw [hb, if_pos rfl] at hns'
              replace hY := Lib.hid hY
              replace hns' := Lib.hid hns'
              clear hns hb
              go_wp2_with fail
              go_roundg (ds.length - (k + 1))
              case measure => omega
              case rel => exact ⟨k + 1, by omega, rfl, by rw [hns'.out]; go_num, by go_num, hY.out⟩
            | false =>
              have hns' := hns.out
              rw [hb, if_neg (by decide), Nat.add_zero] at hns'
              replace hY := Lib.hid hY
              replace hns' := Lib.hid hns'
              clear hns hb
              go_wp2_with fail
              go_roundg (ds.length - (k + 1))
              case measure => omega
              case rel => exact ⟨k + 1, by omega, rfl, by rw [hns'.out]; rfl, by go_num, hY.out⟩
      · obtain rfl : i = ds.length := by omega
        have rc := hX.rc
        have bx := hX.st.box
        have cC := hX.st.changes (by omega)
        have hbl := hX.st.bel
        have hkn := fun ks (h : KeysOf (fP ds ds.length) ks) => keys_num h (fP_in hT2.out.in64 _)
        obtain ⟨nu, hnu⟩ : ∃ nu, nu = numF ds ds.length := ⟨_, rfl⟩
        simp only [← hnu] at hkn ⊢
        rw [← hnu] at hnum
        replace hX := Lib.hid hX
        replace hkn := Lib.hid hkn
        replace hbl := Lib.hid hbl
        clear hnu hcm
        go_wp2_with (go_at_call 16; refine cC.mono ?_; clear cC; rintro e W9 ⟨⟨A9, c9, ks, rfl, hK⟩, hA9⟩; obtain rfl := hkn.out ks hK; replace hA9 := Lib.hid hA9; clear hkn hK)
        go_ret
        exact ⟨rfl, hBw.out.trans (hA9.out.bel.mono hBw.out.size)⟩
end Go.Proofs.Ythaipkfaaojppaa.Vw
