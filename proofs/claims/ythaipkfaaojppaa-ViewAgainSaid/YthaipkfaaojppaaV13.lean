/- ViewFresh, walked. -/
import Derived.Test.YthaipkfaaojppaaV12
namespace Go.Proofs.Ythaipkfaaojppaa.Vw
open Go.RowKit Go.Proofs.YthaipkfaaojppaaW.PrintWords Go.Proofs.YthaipkfaaojppaaW.PrintLast Go.Proofs.YthaipkfaaojppaaW.PrintMore
set_option linter.unusedVariables false
/-- What a law is given: a source by its two rows, a script. -/
structure Given (w : World) (AB : Option Addr) (bl : List (List Int)) (AK : Option Addr) (kn : List Bool) (A : Option Addr) (ds : List DoR) : Prop where
  blocks : RowB w AB bl
  known : RowK w AK kn
  script : Scr w A ds
  lenB : bl.length ≤ 9223372036854775807
  lenK : kn.length ≤ 9223372036854775807
  small : ∀ i, i < bl.length → (bl.getD i []).length ≤ 281474976710656
  wild : Wild ds
theorem Given.raw {w wr : World} {AB AK A : Option Addr} {bl : List (List Int)} {kn : List Bool} {ds : List DoR} (h : Given w AB bl AK kn A ds) {s cB cK : Nat} (c : Cm w wr)
    (h0 : wr.cell? ⟨s, 0, none⟩ = some (.slice AB bl.length cB)) (h1 : wr.cell? ⟨s, 1, none⟩ = some (.slice AK kn.length cK)) : Raw wr s bl kn :=
  ⟨⟨AB, cB, h0, h.blocks.cm c⟩, ⟨AK, cK, h1, h.known.cm c⟩, h.lenB, h.lenK, h.small⟩
def frW (w : World) (AB : Option Addr) (nB cB : Nat) (AK : Option Addr) (nK cK : Nat) (A : Option Addr) (nD c : Nat) (k : Int) : World :=
  ((w.alloc (.cells #[.slice AB nB cB, .slice AK nK cK] 25)).alloc (.cells #[.slice A nD c] 26)).alloc (.cells #[.int .i64 k] 3)
structure FrAt (w W : World) (AB : Option Addr) (nB cB : Nat) (AK : Option Addr) (nK cK : Nat) (A : Option Addr) (nD c : Nat) (k : Int) : Prop where
  bel : Below w.heap.size w W
  size : W.heap.size = w.heap.size + 1 + 1 + 1
  s0 : W.cell? ⟨w.heap.size, 0, none⟩ = some (.slice AB nB cB)
  s1 : W.cell? ⟨w.heap.size, 1, none⟩ = some (.slice AK nK cK)
  p0 : W.cell? ⟨w.heap.size + 1, 0, none⟩ = some (.slice A nD c)
  k0 : W.cell? ⟨w.heap.size + 1 + 1, 0, none⟩ = some (.int .i64 k)
theorem fr_at (w : World) (AB : Option Addr) (nB cB : Nat) (AK : Option Addr) (nK cK : Nat) (A : Option Addr) (nD c : Nat) (k : Int) : FrAt w (frW w AB nB cB AK nK cK A nD c k) AB nB cB AK nK cK A nD c k := by
  unfold frW
  have s1 : (w.alloc (.cells #[.slice AB nB cB, .slice AK nK cK] 25)).heap.size = w.heap.size + 1 := by simp
  have a0 := blk_new' (w := w) rfl #[.slice AB nB cB, .slice AK nK cK] 25
  have ba : Below w.heap.size w (w.alloc (.cells #[.slice AB nB cB, .slice AK nK cK] 25)) := (Below.refl _ w).alloc (Nat.le_refl _) _
  generalize w.alloc (.cells #[.slice AB nB cB, .slice AK nK cK] 25) = a at s1 a0 ba
  have s2 : (a.alloc (.cells #[.slice A nD c] 26)).heap.size = w.heap.size + 1 + 1 := by simp [s1]
  have b0 := (Go.Deep.blk_alloc_lt a (.cells #[.slice A nD c] 26) w.heap.size (by omega)).trans a0
  have b1 := blk_new' s1 #[.slice A nD c] 26
  have bb := ba.alloc (by omega) (.cells #[.slice A nD c] 26)
  generalize a.alloc (.cells #[.slice A nD c] 26) = b at s2 b0 b1 bb
  have s3 : (b.alloc (.cells #[.int .i64 k] 3)).heap.size = w.heap.size + 1 + 1 + 1 := by simp [s2]
  have c0 := (Go.Deep.blk_alloc_lt b (.cells #[.int .i64 k] 3) w.heap.size (by omega)).trans b0
  have c1 := (Go.Deep.blk_alloc_lt b (.cells #[.int .i64 k] 3) (w.heap.size + 1) (by omega)).trans b1
  have c2 := blk_new' s2 #[.int .i64 k] 3
  have bc := bb.alloc (by omega) (.cells #[.int .i64 k] 3)
  exact ⟨bc, s3, by simp [World.cell?, c0], by simp [World.cell?, c0], by simp [World.cell?, c1], by simp [World.cell?, c2]⟩
set_option maxRecDepth 100000 in
set_option maxHeartbeats 8000000 in
theorem ViewFresh_walk (w : World) (AB : Option Addr) (bl : List (List Int)) (cB : Nat) (AK : Option Addr) (kn : List Bool) (cK : Nat) (A : Option Addr) (ds : List DoR) (c : Nat) (k : Int) (hG : Given w AB bl AK kn A ds) (hk : In64 k) :
    Calls Try.prog 6 #[.agg #[.slice AB bl.length cB, .slice AK kn.length cK], .slice A ds.length c, .int .i64 k] w fun e w' => e = .returned (.bool true) ∧ Below w.heap.size w w' := by
  have hmf : ∀ (fn : Fn) (first cap : Array Value) (w : World), (Instr.makeFunc fn first cap).run Try.prog w = .ok (.func fn first cap) w := fun _ _ _ _ => rfl
  obtain ⟨W0, hW0⟩ : ∃ W0, W0 = frW w AB bl.length cB AK kn.length cK A ds.length c k := ⟨_, rfl⟩
  have hF := fr_at w AB bl.length cB AK kn.length cK A ds.length c k
  rw [← hW0] at hF
  have hR0 := hG.raw (Cm.below hF.bel) hF.s0 hF.s1
  have hC0 := hG.script.cm (Cm.below hF.bel)
  have hWd := hG.wild
  have cA := awake_walk W0
  have hp0 := hF.p0
  have hz := hF.size
  unfold frW at hW0
  replace hG := Lib.hid hG
  replace hk := Lib.hid hk
  replace hF := Lib.hid hF
  replace hR0 := Lib.hid hR0
  replace hC0 := Lib.hid hC0
  replace hWd := Lib.hid hWd
  go_enter Try.func6, Try.ntmps6
  go_wp2_with (first
    | (go_at_call 7; rw [← hW0]; refine cA.mono ?_; clear cA; rintro e W1 ⟨rfl, hB1⟩; have p1 := (Cm.below hB1) _ _ hp0; have cM := may_walk W1 w.heap.size bl kn A c ds (hR0.out.cm (Cm.below hB1)) (hC0.out.cm (Cm.below hB1)) hWd.out; replace hB1 := Lib.hid hB1))
  refine cM.mono ?_
  clear cM
  rintro e W2 ⟨⟨b, rfl, hok⟩, hB2⟩
  have hBw : Below w.heap.size w W2 := (hF.out.bel.trans (hB1.out.mono (by omega))).trans (hB2.mono (by have := hB1.out.size; omega))
  cases b with
  | false =>
    clear hok hB2 p1
    replace hBw := Lib.hid hBw
    go_wp2_with fail
    go_ret
    exact ⟨rfl, hBw.out⟩
  | true =>
    have ok := hok rfl
    have hB02 : Below W0.heap.size W0 W2 := hB1.out.trans (hB2.mono hB1.out.size)
    have hS2 := ok.src (hR0.out.cm (Cm.below hB02))
    have hT2 := ok.tame hWd.out
    have hC2 := hC0.out.cm (Cm.below hB02)
    have p2 := (Cm.below hB02) _ _ hp0
    have k2 := (Cm.below hB02) _ _ hF.out.k0
    have hz2 := hB02.size
    have cN := New_walk W2 w.heap.size
    have hpl : w.heap.size + 1 < W2.heap.size := by omega
    clear hok hB2 p1 ok hR0 hC0 hWd hB02
    replace hS2 := Lib.hid hS2
    replace hT2 := Lib.hid hT2
    replace hC2 := Lib.hid hC2
    replace hBw := Lib.hid hBw
    replace p2 := Lib.hid p2
    replace k2 := Lib.hid k2
    clear hp0 hW0 hF hB1 hG
    go_wp2_with (first
      | (go_at_call 9; refine cN.mono ?_; clear cN; rintro e W3 ⟨rfl, hV, hB3⟩; have h0 : At W2 (W3.alloc (Obj.cells #[Value.pointer (some { block := W2.heap.size + 1, off := 0 })] 30)) (W2.heap.size + 1) W2.heap.size W3.heap.size w.heap.size 0 (fun _ => none) bl kn := (by
          have hb2 : Below W3.heap.size W3 (W3.alloc (Obj.cells #[Value.pointer (some { block := W2.heap.size + 1, off := 0 })] 30)) := (Below.refl _ _).alloc (Nat.le_refl _) _
          have hs1 := hB3.size
          exact ⟨hB3.trans (hb2.mono (by omega)), hV.below hb2, (hS2.out.cm (Cm.below hB3)).cm (Cm.below hb2), by simp, by omega⟩); have hs3 := hB3.size; clear hV hB3; have c1 := h0.play23 ⟨hpl, p2.out⟩ hC2.out hT2.out; clear h0)
      | (go_at_call 11; refine c1.mono ?_; clear c1; rintro e W5 ⟨⟨x1, y1, rfl⟩, n1, f1, hn1, hA5⟩; have b5 := (hA5.ofBelow (wr1 := W5.alloc (.cells #[.slice none 0 0] 44)) ((Below.refl _ _).alloc (Nat.le_refl _) _)).box))
    have hA6 := hA5.ofBelow (wr1 := W5.alloc (.cells #[.slice none 0 0] 44)) ((Below.refl _ _).alloc (Nat.le_refl _) _)
    have hg5 : W3.heap.size < W5.heap.size := cell_lt hA5.box
    have hv5 : W2.heap.size + 1 < W5.heap.size := cell_lt hA5.vw.map
    have z6 : (W5.alloc (.cells #[.slice none 0 0] 44)).frozen? ⟨W5.heap.size, 0, none⟩ = false := by simp
    have u6 : (W5.alloc (.cells #[.slice none 0 0] 44)).cell? ⟨W5.heap.size, 0, none⟩ = some (.slice none 0 0) := by simp
    cases hgk : getF bl kn k with
    | some b =>
      have c2 := hA6.see24 (p := w.heap.size + 1 + 1) W5.heap.size k hk.out b hgk _ hS2.out k2.out u6 z6 (by omega) (by omega) (by omega) (by omega) (by omega)
      replace hA5 := Lib.hid hA5
      replace hA6 := Lib.hid hA6
      replace hgk := Lib.hid hgk
      clear u6 z6
      go_wp2_with (first
        | (go_at_call 11; refine c2.mono ?_; clear c2; rintro e W7 ⟨rfl, ⟨v, h8, hr⟩, hA7⟩; have cG := Get_some W7 w.heap.size bl kn k b hA7.src hgk.out; have k7 := (Cm.below hA7.bel) _ _ k2.out; have b7 := hA7.box; replace hA7 := Lib.hid hA7; replace hr := Lib.hid hr; clear b5)
        | (go_at_call 10; refine cG.mono ?_; clear cG; rintro e W8 ⟨⟨u, rfl, hru⟩, rfl⟩; replace hru := Lib.hid hru)
        | (go_at_call 21; refine (Bytes_walk _ _ _ b b hr.out hru.out).mono ?_; rintro e W9 ⟨rfl, hD9⟩; have hA9 := hA7.out.ofBelow hD9.below; have b9 := hA9.box; have cC := hA9.changes (by omega); replace hA9 := Lib.hid hA9; clear b7; replace hD9 := Lib.hid hD9; rw [decide_eq_true rfl])
        | (go_at_call 16; refine cC.mono ?_; clear cC; rintro e W10 ⟨⟨A5, c5, ks, rfl, hK⟩, hA10⟩; obtain rfl : ks = [] := keys_none hK (fun x hx => rfl); replace hA10 := Lib.hid hA10; clear hK))
      go_ret
      exact ⟨rfl, hBw.out.trans (hA10.out.bel.mono hBw.out.size)⟩
    | none =>
      have c2 := hA6.wants24 (p := w.heap.size + 1 + 1) W5.heap.size k hk.out hgk k2.out
      replace hA5 := Lib.hid hA5
      replace hA6 := Lib.hid hA6
      replace hgk := Lib.hid hgk
      clear u6 z6
      go_wp2_with (first
        | (go_at_call 11; refine c2.mono ?_; clear c2; rintro e W7 ⟨rfl, hA7⟩; have cG := Get_none W7 w.heap.size bl kn k hA7.src hgk.out; have k7 := (Cm.below hA7.bel) _ _ k2.out; have b7 := hA7.box; have cC := hA7.changes (by omega); replace hA7 := Lib.hid hA7; clear b5)
        | (go_at_call 10; refine cG.mono ?_; clear cG; rintro e W8 ⟨rfl, rfl⟩)
        | (go_at_call 16; refine cC.mono ?_; clear cC; rintro e W10 ⟨⟨A5, c5, ks, rfl, hK⟩, hA10⟩; obtain rfl : ks = [] := keys_none hK (fun x hx => rfl); replace hA10 := Lib.hid hA10; clear hK))
      go_ret
      exact ⟨rfl, hBw.out.trans (hA10.out.bel.mono hBw.out.size)⟩
end Go.Proofs.Ythaipkfaaojppaa.Vw
