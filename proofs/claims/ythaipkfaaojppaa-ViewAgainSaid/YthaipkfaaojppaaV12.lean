/- ViewFresh's closures, walked; the law. -/
import Derived.Test.YthaipkfaaojppaaV11
namespace Go.Proofs.Ythaipkfaaojppaa.Vw
open Go.RowKit Go.Proofs.YthaipkfaaojppaaW.PrintWords Go.Proofs.YthaipkfaaojppaaW.PrintLast Go.Proofs.YthaipkfaaojppaaW.PrintMore
set_option linter.unusedVariables false
theorem en23 : ∀ (args : Array Value) (w : World), (callFunc 23 args).run Try.prog w = .ok (.enter 23 args) w := enters_of Try.func23 (by kernel_rfl) rfl
theorem en24 : ∀ (args : Array Value) (w : World), (callFunc 24 args).run Try.prog w = .ok (.enter 24 args) w := enters_of Try.func24 (by kernel_rfl) rfl
section
variable {w wr wr1 : World} {vp M g s n n1 : Nat} {f f1 : Int → Option (List Int)} {bl : List (List Int)} {kn : List Bool} {ds : List DoR} {A : Option Addr} {c p : Nat}
set_option maxRecDepth 100000 in
set_option maxHeartbeats 4000000 in
theorem clo23 (h : At w wr vp M g s n f bl kn) (hn : n ≤ 100) (hp : wr.cell? ⟨p, 0, none⟩ = some (.slice A ds.length c)) (hC : Scr wr A ds) (hT : Tame ds) :
    Calls Try.prog 23 #[.pointer (some ⟨g, 0, none⟩), .pointer (some ⟨p, 0, none⟩)] wr fun e w' =>
      match playF (getF bl kn) ds f [] with
      | .done f' _ => e = .returned (.tuple #[]) ∧ (∃ n', n' ≤ 200 ∧ Vw w' vp (gv s) M n' f') ∧ Tch M wr w'
      | .wants k f' => e = .panicked (wantedV k) ∧ (∃ n', n' ≤ 200 ∧ Vw w' vp (gv s) M n' f') ∧ Tch M wr w' := by
  have cP := play_walk wr vp s M n f bl kn A c ds h.vw (by omega) h.src hC hT
  have hb := h.box
  cases hr : playF (getF bl kn) ds f [] with
  | done f' seen =>
    rw [hr] at cP
    unfold PlayPost at cP
    replace h := Lib.hid h
    replace hC := Lib.hid hC
    replace hT := Lib.hid hT
    clear hr
    dsimp only
    go_enter Try.func23, Try.ntmps23
    go_wp2_with (go_at_call 13; refine cP.mono ?_; clear cP; rintro e w1 ⟨⟨v, rfl, hR⟩, ⟨n', hn', hV⟩, hT1⟩; replace hV := Lib.hid hV; replace hT1 := Lib.hid hT1; clear hR)
    go_end0
    exact ⟨rfl, ⟨n', by omega, hV.out⟩, hT1.out⟩
  | wants k f' =>
    rw [hr] at cP
    unfold PlayPost at cP
    replace h := Lib.hid h
    replace hC := Lib.hid hC
    replace hT := Lib.hid hT
    clear hr
    dsimp only
    go_enter Try.func23, Try.ntmps23
    go_wp2_with (go_at_call 13; refine cP.mono ?_; clear cP; rintro e w1 ⟨rfl, ⟨n', hn', hV⟩, hT1⟩)
    first | exact ⟨rfl, rfl, ⟨n', by omega, hV⟩, hT1⟩ | exact ⟨rfl, ⟨n', by omega, hV⟩, hT1⟩
/-- A run of the first closure, however it ends. -/
theorem At.play23 (h : At w wr vp M g s n f bl kn) (hp : p < w.heap.size ∧ w.cell? ⟨p, 0, none⟩ = some (.slice A ds.length c)) (hC : Scr w A ds) (hT : Tame ds) :
    Calls Try.prog 11 #[.pointer (some ⟨vp, 0, none⟩), .func (.func 23) #[] #[.pointer (some ⟨g, 0, none⟩), .pointer (some ⟨p, 0, none⟩)]] wr fun e w' => (∃ a b, e = .returned (.tuple #[a, b])) ∧ ∃ n1 f1, n1 ≤ 200 ∧ At w w' vp M g s n1 f1 bl kn := by
  cases hr : playF (getF bl kn) ds (fun _ => none) [] with
  | done f' seen =>
    refine (h.run 23 _ f' en23 (fun W hA _ => ?_)).mono ?_
    · have := clo23 hA (by omega) (Cm.below hA.bel _ _ hp.2) (hC.cm (Cm.below hA.bel)) hT
      rw [hr] at this
      exact this
    · rintro e w' ⟨rfl, n1, hn1, hA⟩
      exact ⟨⟨_, _, rfl⟩, n1, _, hn1, hA⟩
  | wants k f' =>
    refine (h.runWants 23 _ k en23 (fun W hA _ => ?_)).mono ?_
    · have := clo23 hA (by omega) (Cm.below hA.bel _ _ hp.2) (hC.cm (Cm.below hA.bel)) hT
      rw [hr] at this
      exact this.mono fun e w' ⟨q1, ⟨n', _, q2⟩, q3⟩ => ⟨q1, ⟨n', f', q2⟩, q3⟩
    · rintro e w' ⟨rfl, hA⟩
      exact ⟨⟨_, _, rfl⟩, 0, _, by omega, hA⟩
set_option maxRecDepth 100000 in
set_option maxHeartbeats 4000000 in
theorem clo24_some (h : At w wr vp M g s n f bl kn) (q8 : Nat) (k : Int) (hk : In64 k) (b : List Int) (hf : f k = none) (hg : getF bl kn k = some b) (u : Value) (hp : wr.cell? ⟨p, 0, none⟩ = some (.int .i64 k)) (h8 : wr.cell? ⟨q8, 0, none⟩ = some u) (hz : wr.frozen? ⟨q8, 0, none⟩ = false) :
    Calls Try.prog 24 #[.pointer (some ⟨g, 0, none⟩), .pointer (some ⟨p, 0, none⟩), .pointer (some ⟨q8, 0, none⟩)] wr fun e w' => e = .returned (.tuple #[]) ∧ ∃ v w1, Below wr.heap.size wr w1 ∧ FrB w1 wr.heap.size v b ∧ w' = w1.setCell ⟨q8, 0, none⟩ v := by
  have cS := See_get wr vp s M n f k bl kn b h.vw hk hf h.src hg (getF_small h.src hg)
  have hb := h.box
  have hq8 : q8 < wr.heap.size := cell_lt h8
  have hu1 : ∀ w1, Below wr.heap.size wr w1 → w1.cell? ⟨q8, 0, none⟩ = some u ∧ w1.frozen? ⟨q8, 0, none⟩ = false := fun w1 hB => ⟨(hB.cell hq8).trans h8, (World.frozen?_of_block (w := wr) (hB.block q8 hq8)).trans hz⟩
  replace h := Lib.hid h
  replace hu1 := Lib.hid hu1
  clear hf hg h8 hz
  go_enter Try.func24, Try.ntmps24
  go_wp2_with (go_at_call 22; refine cS.mono ?_; clear cS; rintro e w1 ⟨⟨v, rfl, hF⟩, hB1⟩; obtain ⟨Ao, co, rfl⟩ := own_slice hF; obtain ⟨x1, x2⟩ := hu1.out w1 hB1; replace hF := Lib.hid hF; replace hB1 := Lib.hid hB1)
  go_end0
  exact ⟨rfl, _, w1, hB1.out, hF.out, rfl⟩
set_option maxRecDepth 100000 in
set_option maxHeartbeats 4000000 in
theorem clo24_none (h : At w wr vp M g s n f bl kn) (q8 : Nat) (k : Int) (hk : In64 k) (hf : f k = none) (hg : getF bl kn k = none) (hp : wr.cell? ⟨p, 0, none⟩ = some (.int .i64 k)) :
    Calls Try.prog 24 #[.pointer (some ⟨g, 0, none⟩), .pointer (some ⟨p, 0, none⟩), .pointer (some ⟨q8, 0, none⟩)] wr fun e w' => e = .panicked (wantedV k) ∧ w' = wr := by
  have cS := See_wants wr vp s M n f k bl kn h.vw hk hf h.src hg
  have hb := h.box
  replace h := Lib.hid h
  clear hf hg
  go_enter Try.func24, Try.ntmps24
  go_wp2_with (go_at_call 22; refine cS.mono ?_; clear cS; rintro e w1 ⟨rfl, rfl⟩)
  first | exact ⟨rfl, rfl, rfl⟩ | exact ⟨rfl, rfl⟩
/-- A run that sees what the source knows. -/
theorem At.see24 (h : At w wr vp M g s n f bl kn) (q8 : Nat) (k : Int) (hk : In64 k) (b : List Int) (hg : getF bl kn k = some b) (u : Value) (hsrc : Src w s bl kn) (hp : w.cell? ⟨p, 0, none⟩ = some (.int .i64 k)) (h8 : wr.cell? ⟨q8, 0, none⟩ = some u) (hz : wr.frozen? ⟨q8, 0, none⟩ = false) (hg0 : w.heap.size ≤ g) (h80 : w.heap.size ≤ q8) (hgq : g ≠ q8) (hvq : vp ≠ q8) (hMq : M ≠ q8) :
    Calls Try.prog 11 #[.pointer (some ⟨vp, 0, none⟩), .func (.func 24) #[] #[.pointer (some ⟨g, 0, none⟩), .pointer (some ⟨p, 0, none⟩), .pointer (some ⟨q8, 0, none⟩)]] wr fun e w' => e = .returned (.tuple #[.int .i64 0, .bool true]) ∧ (∃ v, w'.cell? ⟨q8, 0, none⟩ = some v ∧ RdB w' v b) ∧ At w w' vp M g s 0 (fun _ => none) bl kn := by
  have hq8 : q8 < wr.heap.size := cell_lt h8
  have hMl := h.vw.own.lt
  have hvl : vp < wr.heap.size := cell_lt h.vw.map
  have hgl : g < wr.heap.size := cell_lt h.box
  have hblk := h.vw.own.blk
  refine (Run_ok wr vp M n (gv s) f 24 _ (fun i => i = M ∨ i = q8) (.inl rfl) (fun i hi => by rcases hi with rfl | rfl; exact hMl; exact hq8) h.vw (fun W w1 => Vw w1 vp (gv s) M 0 (fun _ => none) ∧ w1.cell? ⟨g, 0, none⟩ = some (.pointer (some ⟨vp, 0, none⟩)) ∧ ∃ v, w1.cell? ⟨q8, 0, none⟩ = some v ∧ FrB w1 wr.heap.size v b) en24 (fun W hV hT => ?_)).mono ?_
  · have hA := h.tch hT hV
    have hsW := hT.size
    have hbW := hV.own.blk
    have h8W := hT.cm hblk _ _ h8
    refine (clo24_some hA q8 k hk b rfl hg u (Cm.below hA.bel _ _ hp) h8W ((hT.frozen hblk h8).trans hz)).mono ?_
    rintro e w' ⟨rfl, v, w1, hB, hF, rfl⟩
    have hs1 := hB.size
    have h81 := (hB.cell (p := ⟨q8, 0, none⟩) (show q8 < W.heap.size by omega)).trans h8W
    have keep : ∀ i, i ≠ q8 → (w1.setCell ⟨q8, 0, none⟩ v).heap[i]? = w1.heap[i]? := fun i hi => Below.heap_setCell _ _ _ _ hi
    have hV1 := hV.below hB
    have hFb : ∀ i, v.ownBlock = some i → i ≠ q8 := fun i hi e => by have := own_base hF i hi; omega
    refine ⟨rfl, ⟨hB.os, hB.tape, hB.output, ?_, fun i hi hn => (keep i (fun e => hn (.inr e))).trans (hB.block i hi)⟩, ⟨?_, ?_, Own.empty_same hV1.own (keep M hMq)⟩, ?_, v, World.cell?_setCell_same' _ _ _ (by rw [h81]; rfl), own_weaken (hF.move (fun i hi => keep i (hFb i hi))) (by omega)⟩
    · simp only [World.setCell, Array.size_modify]
      exact hs1
    · exact (World.cell?_of_block (w := w1) (keep vp hvq)).trans hV1.get
    · exact (World.cell?_of_block (w := w1) (keep vp hvq)).trans hV1.map
    · exact (World.cell?_of_block (w := w1) (keep g hgq)).trans ((hB.cell (p := ⟨g, 0, none⟩) (show g < W.heap.size by omega)).trans (hT.cm hblk _ _ h.box))
  · rintro e w' ⟨rfl, W, w1, ⟨hV, hbx, v, hv, hF⟩, hE⟩
    have hb2 := h.bel.trans (hE.tch.below (B := w.heap.size) (fun i hi => by rcases hi with rfl | rfl; exact h.low; exact h80) h.bel.size)
    refine ⟨rfl, ⟨v, (World.cell?_of_block (w := w1) (hE.old q8 hq8)).trans hv, ?_⟩, ⟨hb2, hE.vw hV hvl hMl, hsrc.cm (Cm.below hb2), (World.cell?_of_block (w := w1) (hE.old g hgl)).trans hbx, h.low⟩⟩
    exact FrB.reads (hF.move (fun i hi => by
      obtain ⟨cells, hc⟩ := own_typed hF i hi
      exact hE.typ i cells 5 _ (by decide) (by decide) hc))
theorem At.wants24 (h : At w wr vp M g s n f bl kn) (q8 : Nat) (k : Int) (hk : In64 k) (hg : getF bl kn k = none) (hp : w.cell? ⟨p, 0, none⟩ = some (.int .i64 k)) :
    Calls Try.prog 11 #[.pointer (some ⟨vp, 0, none⟩), .func (.func 24) #[] #[.pointer (some ⟨g, 0, none⟩), .pointer (some ⟨p, 0, none⟩), .pointer (some ⟨q8, 0, none⟩)]] wr fun e w' => e = .returned (.tuple #[.int .i64 k, .bool false]) ∧ At w w' vp M g s 0 (fun _ => none) bl kn :=
  h.runWants 24 _ k en24 (fun W hA _ => (clo24_none hA q8 k hk rfl hg (Cm.below hA.bel _ _ hp)).mono fun e w' ⟨q1, q2⟩ => ⟨q1, ⟨0, (fun _ => none), q2 ▸ hA.vw⟩, q2 ▸ Tch.refl _ _⟩)
end
end Go.Proofs.Ythaipkfaaojppaa.Vw
