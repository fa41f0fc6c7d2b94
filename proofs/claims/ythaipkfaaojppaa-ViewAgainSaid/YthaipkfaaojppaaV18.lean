/- The closures that play and keep what was seen; a run of them. -/
import Derived.Test.YthaipkfaaojppaaV17
import Derived.Test.YthaipkfaaojppaaV14
import Derived.Deep.RegionHeld3
import Derived.StillTailTactics
namespace Go.Proofs.Ythaipkfaaojppaa.Vw
open Go.RowKit Go.Proofs.YthaipkfaaojppaaW.PrintWords Go.Proofs.YthaipkfaaojppaaW.PrintLast Go.Proofs.YthaipkfaaojppaaW.PrintMore
set_option linter.unusedVariables false
theorem en12 : ∀ (args : Array Value) (w : World), (callFunc 12 args).run Try.prog w = .ok (.enter 12 args) w := enters_of Try.func12 (by kernel_rfl) rfl
theorem en18 : ∀ (args : Array Value) (w : World), (callFunc 18 args).run Try.prog w = .ok (.enter 18 args) w := enters_of Try.func18 (by kernel_rfl) rfl
/-- How a closure ends that plays and keeps what was seen at block q. -/
def KeepPost (W : World) (vp s M q : Nat) : Res → Ending → World → Prop
  | .done f' seen, e, w' => e = .returned (.tuple #[]) ∧ ∃ v w1, kB.R 44 w1 W.heap.size (fun k => W.heap.size ≤ k) v seen ∧ (∃ n', n' ≤ 200 ∧ Vw w1 vp (gv s) M n' f') ∧ Tch M W w1 ∧ w' = w1.setCell ⟨q, 0, none⟩ v
  | .wants k f', e, w' => e = .panicked (wantedV k) ∧ (∃ n', Vw w' vp (gv s) M n' f') ∧ Tch M W w'
section
variable {w W wr wr1 : World} {vp M g s n n1 q : Nat} {f f1 : Int → Option (List Int)} {bl : List (List Int)} {kn : List Bool} {ds : List DoR} {A : Option Addr} {c p : Nat} {u : Value}
set_option maxRecDepth 100000 in
set_option maxHeartbeats 4000000 in
theorem clo18 (h : At w wr vp M g s 0 (fun _ => none) bl kn) (hp : wr.cell? ⟨p, 0, none⟩ = some (.slice A ds.length c)) (hC : Scr wr A ds) (hT : Tame ds) (hq : wr.cell? ⟨q, 0, none⟩ = some u) (hz : wr.frozen? ⟨q, 0, none⟩ = false) :
    Calls Try.prog 18 #[.pointer (some ⟨g, 0, none⟩), .pointer (some ⟨p, 0, none⟩), .pointer (some ⟨q, 0, none⟩)] wr (KeepPost wr vp s M q (playF (getF bl kn) ds (fun _ => none) [])) := by
  have cP := play_walk wr vp s M 0 (fun _ => none) bl kn A c ds h.vw (by omega) h.src hC hT
  have hb := h.box
  have hm := h.vw.own.blk
  cases hr : playF (getF bl kn) ds (fun _ => none) [] with
  | done f' seen =>
    rw [hr] at cP
    unfold PlayPost at cP
    unfold KeepPost
    replace h := Lib.hid h
    replace hC := Lib.hid hC
    replace hT := Lib.hid hT
    replace hm := Lib.hid hm
    clear hr
    go_enter Try.func18, Try.ntmps18
    go_wp2_with (go_at_call 13; refine cP.mono ?_; clear cP; rintro e w1 ⟨⟨v, rfl, hR⟩, ⟨n', hn', hV⟩, hT1⟩; obtain ⟨Ao, co, rfl⟩ := Kd.R_slice hR; have q1 := hT1.cm hm.out _ _ hq; have z1 := (hT1.frozen hm.out hq).trans hz; replace hV := Lib.hid hV; replace hT1 := Lib.hid hT1; replace hR := Lib.hid hR)
    go_end0
    exact ⟨rfl, _, w1, hR.out, ⟨n', by omega, hV.out⟩, hT1.out, rfl⟩
  | wants k f' =>
    rw [hr] at cP
    unfold PlayPost at cP
    unfold KeepPost
    replace h := Lib.hid h
    replace hC := Lib.hid hC
    replace hT := Lib.hid hT
    clear hr
    go_enter Try.func18, Try.ntmps18
    go_wp2_with (go_at_call 13; refine cP.mono ?_; clear cP; rintro e w1 ⟨rfl, ⟨n', hn', hV⟩, hT1⟩)
    first | exact ⟨rfl, rfl, ⟨n', hV⟩, hT1⟩ | exact ⟨rfl, ⟨n', hV⟩, hT1⟩
set_option maxRecDepth 100000 in
set_option maxHeartbeats 4000000 in
theorem clo12 {p9 a8 i : Nat} (h : At w wr vp M g s n f bl kn) (hn : n ≤ 100) (d0 : p ≠ q) (d1 : p9 ≠ q) (d2 : a8 ≠ q) (d3 : g ≠ q) (hp : wr.cell? ⟨p, 0, none⟩ = some (.slice (some ⟨a8, 0, none⟩) 2 2)) (hi : wr.cell? ⟨p9, 0, none⟩ = some (.int .i64 i)) (hi2 : i < 2) (ha : wr.cell? ⟨a8, i, none⟩ = some (.slice A ds.length c)) (hC : Scr wr A ds) (hT : Tame ds) (hq : wr.cell? ⟨q, 0, none⟩ = some u) (hz : wr.frozen? ⟨q, 0, none⟩ = false) :
    Calls Try.prog 12 #[.pointer (some ⟨g, 0, none⟩), .pointer (some ⟨p, 0, none⟩), .pointer (some ⟨p9, 0, none⟩), .pointer (some ⟨q, 0, none⟩)] wr (KeepPost wr vp s M q (playF (getF bl kn) ds f [])) := by
  have cP := play_walk wr.drew vp s M n f bl kn A c ds h.vw.drew (by omega) (h.src.cm (Cm.below (Below.refl _ _).drew)) (hC.cm (Cm.below (Below.refl _ _).drew)) hT
  have hb := h.box
  have hm := h.vw.own.blk
  have il : (i : Int) < 2 := by omega
  cases hr : playF (getF bl kn) ds f [] with
  | done f' seen =>
    rw [hr] at cP
    unfold PlayPost at cP
    unfold KeepPost
    have hT0 : Tch M wr wr.drew := Tch.ofBelow (Below.refl _ _).drew
    replace h := Lib.hid h
    replace hC := Lib.hid hC
    replace hT := Lib.hid hT
    replace hm := Lib.hid hm
    replace hT0 := Lib.hid hT0
    clear hr
    go_enter Try.func12, Try.ntmps12
    go_wp2_with fail
    go_region_held3 (fun w' => w'.cell? ⟨p, 0, none⟩ = some (.slice (some ⟨a8, 0, none⟩) 2 2) ∧ w'.cell? ⟨p9, 0, none⟩ = some (.int .i64 i) ∧ w'.cell? ⟨a8, i, none⟩ = some (.slice A ds.length c) ∧ w'.cell? ⟨g, 0, none⟩ = some (.pointer (some ⟨vp, 0, none⟩)))
      (first | go_keep | exact ⟨t0, t1, t2, t3⟩)
      (first
        | (go_at_call 13; (with_reducible refine cP.mono ?_); clear cP; rintro e w1 ⟨⟨v, rfl, hR⟩, ⟨n', hn', hV⟩, hT1⟩; obtain ⟨Ao, co, rfl⟩ := Kd.R_slice hR; have hT2 := hT0.out.trans hT1; have q1 := hT2.cm hm.out _ _ hq; have z1 := (hT2.frozen hm.out hq).trans hz; have r0 := hT2.cm hm.out _ _ hp; have r1 := hT2.cm hm.out _ _ hi; have r2 := hT2.cm hm.out _ _ ha; have r3 := hT2.cm hm.out _ _ hb; have t0 := setfar (R := q) (u := .slice Ao seen.length co) r0 d0; have t1 := setfar (R := q) (u := .slice Ao seen.length co) r1 d1; have t2 := setfar (R := q) (u := .slice Ao seen.length co) r2 d2; have t3 := setfar (R := q) (u := .slice Ao seen.length co) r3 d3; replace hV := Lib.hid hV; replace hT2 := Lib.hid hT2; replace hR := Lib.hid hR; clear hT1))
    all_goals
      go_end0
      exact ⟨rfl, _, w1, hR.out, ⟨n', by omega, hV.out⟩, hT2.out, rfl⟩
  | wants k f' =>
    rw [hr] at cP
    unfold PlayPost at cP
    unfold KeepPost
    have hT0 : Tch M wr wr.drew := Tch.ofBelow (Below.refl _ _).drew
    replace h := Lib.hid h
    replace hC := Lib.hid hC
    replace hT := Lib.hid hT
    replace hT0 := Lib.hid hT0
    clear hr
    go_enter Try.func12, Try.ntmps12
    go_wp2_with fail
    go_still_tail 5, (by kernel_rfl)
    change wpList _ _ _ _ _ wr.drew
    go_wp2_with (go_at_call 13; refine cP.mono ?_; clear cP; rintro e w1 ⟨rfl, ⟨n', hn', hV⟩, hT1⟩; have hT2 := hT0.out.trans hT1)
    all_goals first | exact ⟨rfl, rfl, ⟨n', hV⟩, hT2⟩ | exact ⟨rfl, ⟨n', hV⟩, hT2⟩
theorem VwT.setBox {T : Nat → Prop} {gg : Value} (h : VwT wr vp gg M n f T) {cells : Array Value} {t : TypeId} (hb : wr.heap[q]? = some (.cells cells t (0, 0))) (ht : t ≠ 5) (h1 : q ≠ vp) (h2 : q ≠ M) (v : Value) : VwT (wr.setCell ⟨q, 0, none⟩ v) vp gg M n f T := by
  have keep : ∀ i, i ≠ q → (wr.setCell ⟨q, 0, none⟩ v).heap[i]? = wr.heap[i]? := fun i hi => Below.heap_setCell _ _ _ _ hi
  refine ⟨(World.cell?_of_block (w := wr) (keep vp h1.symm)).trans h.get, (World.cell?_of_block (w := wr) (keep vp h1.symm)).trans h.map, h.own.move (keep M h2.symm) (fun b _ _ hc => keep b (fun e => ?_))⟩
  obtain ⟨cs, hc⟩ := hc
  rw [e, hb] at hc
  injection hc with hc
  injection hc with _ hc
  exact ht hc
/-- How a run ends of a closure that plays and keeps. -/
def SeenPost (w wr : World) (vp M g s q : Nat) (bl : List (List Int)) (kn : List Bool) : Res → Ending → World → Prop
  | .done f' seen, e, w' => e = .returned (.tuple #[.int .i64 0, .bool true]) ∧ (∃ v, w'.cell? ⟨q, 0, none⟩ = some v ∧ ∃ ok, kB.R 44 w' w.heap.size ok v seen) ∧ (∃ n', n' ≤ 200 ∧ At w w' vp M g s n' f' bl kn) ∧ TchS (fun i => i = M ∨ i = q) wr w'
  | .wants k f', e, w' => e = .returned (.tuple #[.int .i64 k, .bool false]) ∧ At w w' vp M g s 0 (fun _ => none) bl kn ∧ TchS (fun i => i = M ∨ i = q) wr w'
/-- A run of a closure that plays and keeps. -/
theorem At.seen (h : At w wr vp M g s n f bl kn) (G : Nat) (cap : Array Value) (r : Res) (hen : ∀ (args : Array Value) (w : World), (callFunc G args).run Try.prog w = .ok (.enter G args) w)
    (hc : ∀ W, At w W vp M g s 0 (fun _ => none) bl kn → Tch M wr W → Calls Try.prog G cap W (KeepPost W vp s M q r)) (hb : wr.heap[q]? = some (.cells #[u] 22 (0, 0))) (hq0 : w.heap.size ≤ q) (hqv : q ≠ vp) (hqg : q ≠ g) (hS : Src w s bl kn) :
    Calls Try.prog 11 #[.pointer (some ⟨vp, 0, none⟩), .func (.func G) #[] cap] wr (SeenPost w wr vp M g s q bl kn r) := by
  cases r with
  | wants k f' =>
    refine (Run_wants wr vp M n (gv s) f G cap (fun k => k = M) rfl (fun k hk => by rw [hk]; exact h.vw.own.lt) h.vw (fun _ _ => True) k hen (fun W hV hT => ?_)).mono ?_
    · exact (hc W (h.tch hT hV) hT).mono fun e w' ⟨h1, ⟨n', h2⟩, h3⟩ => ⟨h1, TchS.of h3 rfl, ⟨n', f', h2⟩, trivial⟩
    · rintro e w' ⟨rfl, hV, W, w1, _, hE⟩
      exact ⟨rfl, h.tch hE.tch.tch hV, TchS.of hE.tch.tch (.inl rfl)⟩
  | done f' seen =>
    have hMl := h.vw.own.lt
    have hvl : vp < wr.heap.size := cell_lt h.vw.map
    have hgl : g < wr.heap.size := cell_lt h.box
    have hql : q < wr.heap.size := (Array.getElem?_eq_some_iff.1 hb).1
    have hqM : q ≠ M := by
      rintro rfl
      obtain ⟨es, clock, he⟩ := h.vw.own.blk
      rw [hb] at he
      simp at he
    have hblk := h.vw.own.blk
    refine (Run_ok wr vp M n (gv s) f G cap (fun i => i = M ∨ i = q) (.inl rfl) (fun i hi => by rcases hi with rfl | rfl; exact hMl; exact hql) h.vw (fun W w1 => (∃ n', n' ≤ 200 ∧ Vw w1 vp (gv s) M n' f') ∧ w1.cell? ⟨g, 0, none⟩ = some (.pointer (some ⟨vp, 0, none⟩)) ∧ ∃ v, w1.cell? ⟨q, 0, none⟩ = some v ∧ ∃ ok, kB.R 44 w1 w.heap.size ok v seen) hen (fun W hV hT => ?_)).mono ?_
    · have hA := h.tch hT hV
      have hsW := hT.size
      have hbW := hV.own.blk
      refine (hc W hA hT).mono ?_
      rintro e w' ⟨rfl, v, w1, hR, ⟨n', hn', hV1⟩, hT1, rfl⟩
      have hq1 : w1.heap[q]? = some (.cells #[u] 22 (0, 0)) := (hT1.block q (by omega) hqM).trans ((hT.block q hql hqM).trans hb)
      have keep : ∀ i, i ≠ q → (w1.setCell ⟨q, 0, none⟩ v).heap[i]? = w1.heap[i]? := fun i hi => Below.heap_setCell _ _ _ _ hi
      refine ⟨rfl, ⟨hT1.os, hT1.tape, hT1.output, ?_, fun i hi hn => (keep i (fun e => hn (.inr e))).trans (hT1.block i hi (fun e => hn (.inl e)))⟩, ⟨n', hn', hV1.setBox hq1 (by decide) hqv hqM v⟩, ?_, v, World.cell?_setCell_same' _ _ _ (by simp [World.cell?, hq1]), _, Kd.R_lower (R_typ hR (fun b cells e he hx => keep b (fun hbq => ?_))) (Nat.le_trans h.bel.size hsW)⟩
      · simp only [World.setCell, Array.size_modify]
        exact hT1.size
      · exact (World.cell?_of_block (w := w1) (keep g hqg.symm)).trans (hT1.cm hbW _ _ hA.box)
      · rw [hbq, hq1] at hx
        injection hx with hx
        injection hx with _ hx
        rw [← hx] at he
        revert he
        decide
    · rintro e w' ⟨rfl, W, w1, ⟨⟨n', hn', hV⟩, hbx, v, hv, ok, hR⟩, hE⟩
      have hb2 := h.bel.trans (hE.tch.below (B := w.heap.size) (fun i hi => by rcases hi with rfl | rfl; exact h.low; exact hq0) h.bel.size)
      exact ⟨rfl, ⟨v, (World.cell?_of_block (w := w1) (hE.old q hql)).trans hv, ok, R_typ hR (fun b cells e he hx => hE.typ b cells e _ (by rintro rfl; revert he; decide) (by rintro rfl; revert he; decide) hx)⟩, ⟨n', hn', hb2, hE.vw hV hvl hMl, hS.cm (Cm.below hb2), (World.cell?_of_block (w := w1) (hE.old g hgl)).trans hbx, h.low⟩, hE.tch⟩
end
end Go.Proofs.Ythaipkfaaojppaa.Vw
