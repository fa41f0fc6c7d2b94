/- The law SpacePlays, walked. -/
import Derived.Test.YtnddahkkdcgpaaaDoorSp12
import Derived.Test.YtnddahkkdcgpaaaDoorFr
import Derived.Deep.LoopGhost
import Derived.Deep.RegionWith
import Derived.Deep.DeepCutAuto
import Derived.Deep.CutBlock
import Derived.Deep.RegionHeld3
namespace Go.Proofs.YtnddahkkdcgpaaaDoor.Sp
open Go.RowKit Go.Proofs.YtnddahkkdcgpaaaDoor Go.Proofs.YtnddahkkdcgpaaaDoorW.PrintWords Go.Proofs.YtnddahkkdcgpaaaDoorW.PrintLast Go.Proofs.YtnddahkkdcgpaaaDoorW.PrintMore
set_option linter.unusedVariables false
theorem add_onep (x : Addr) (i : Nat) : x.add (i + 1) = ⟨(x.add i).block, (x.add i).off + 1, none⟩ := by
  unfold Addr.add
  by_cases h : i = 0 <;> simp [h, Nat.add_assoc]
/-- What a round of SpacePlays keeps: the program's space and the document's, in the same states. -/
structure PlayMid (w wr : World) (g b c n : Nat) (S T : Nat → Nat) : Prop where
  spc : Spc wr g n S
  ref : Ref wr b c n T
  gb : g ≠ b
  gc : g ≠ c
  bc : b ≠ c
  wg : w.heap.size ≤ g
  wb : w.heap.size ≤ b
  wc : w.heap.size ≤ c
  bel : Below w.heap.size w wr
namespace PlayMid
variable {w wr wr' : World} {g b c n : Nat} {S S' T T' : Nat → Nat}
theorem bl (x : PlayMid w wr g b c n S T) : b < wr.heap.size := cell_lt x.ref.head
theorem cl (x : PlayMid w wr g b c n S T) : c < wr.heap.size := x.ref.row.lt
theorem tch (x : PlayMid w wr g b c n S T) (hs : Spc wr' g n S') (ht : Tch g wr wr') : PlayMid w wr' g b c n S' T :=
  ⟨hs, x.ref.same (ht.block _ x.bl x.gb.symm) (ht.block _ x.cl x.gc.symm), x.gb, x.gc, x.bc, x.wg, x.wb, x.wc, x.bel.trans (ht.below x.wg x.bel.size)⟩
theorem rtch (x : PlayMid w wr g b c n S T) (hs : Ref wr' b c n T') (ht : Tch c wr wr') : PlayMid w wr' g b c n S T' :=
  ⟨x.spc.same (ht.block _ x.spc.lt x.gc), hs, x.gb, x.gc, x.bc, x.wg, x.wb, x.wc, x.bel.trans (ht.below x.wc x.bel.size)⟩
theorem below (x : PlayMid w wr g b c n S T) (ht : Below wr.heap.size wr wr') : PlayMid w wr' g b c n S T := x.tch (x.spc.same (ht.block _ x.spc.lt)) (Tch.ofBelow ht)
theorem alloc (x : PlayMid w wr g b c n S T) (o : Obj) : PlayMid w (wr.alloc o) g b c n S T := x.below ((Below.refl _ _).alloc (Nat.le_refl _) _)
theorem drew (x : PlayMid w wr g b c n S T) : PlayMid w wr.drew g b c n S T := x.below (Below.refl _ _).drew
end PlayMid
theorem rChd_tch (w : World) (c n : Nat) (S : Nat → Nat) (a : Int) (f v : Nat) : Tch c w (rChd w c n S a f v) := by
  unfold rChd
  split
  · exact (Tch.refl c w).set _ _
  · exact Tch.refl _ _
/-- .. and the step that is gone through, in its own block p. -/
structure PlayD (w wx : World) (g b c n : Nat) (S T : Nat → Nat) (p : Nat) (d : Int) : Prop where
  mid : PlayMid w wx g b c n S T
  cell : wx.cell? ⟨p, 1, none⟩ = some (.int .i64 d)
  pl : p < wx.heap.size
  pg : p ≠ g
  pc : p ≠ c
namespace PlayD
variable {w wr wr' : World} {g b c n p : Nat} {S S' T T' : Nat → Nat} {d : Int}
theorem tch (x : PlayD w wr g b c n S T p d) (hs : Spc wr' g n S') (ht : Tch g wr wr') : PlayD w wr' g b c n S' T p d :=
  ⟨x.mid.tch hs ht, (ht.cell (p := ⟨p, 1, none⟩) x.pl x.pg).trans x.cell, Nat.lt_of_lt_of_le x.pl ht.size, x.pg, x.pc⟩
theorem rtch (x : PlayD w wr g b c n S T p d) (hs : Ref wr' b c n T') (ht : Tch c wr wr') : PlayD w wr' g b c n S T' p d :=
  ⟨x.mid.rtch hs ht, (ht.cell (p := ⟨p, 1, none⟩) x.pl x.pc).trans x.cell, Nat.lt_of_lt_of_le x.pl ht.size, x.pg, x.pc⟩
theorem below (x : PlayD w wr g b c n S T p d) (ht : Below wr.heap.size wr wr') : PlayD w wr' g b c n S T p d := x.tch (x.mid.spc.same (ht.block _ x.mid.spc.lt)) (Tch.ofBelow ht)
theorem drew (x : PlayD w wr g b c n S T p d) : PlayD w wr.drew g b c n S T p d := x.below (Below.refl _ _).drew
end PlayD
def PlayOut (w : World) (g b c n : Nat) (d : Int) (p : Nat) (wx : World) : Prop := ∃ S : Nat → Nat, PlayD w wx g b c n S S p d
def chS (n : Nat) (S : Nat → Nat) (a : Int) (f v : Nat) : Nat → Nat := if chF n S a f = 0 then upd S a.toNat v else S
section
variable {w : World} {g b c n p : Nat} {S T : Nat → Nat} {d : Int}
theorem chd_play {W w' : World} {f v : Nat} (x : PlayD w W g b c n S T p d) (h : Chd W w' g n S d f v) : PlayD w w' g b c n (chS n S d f v) T p d := x.tch h.spc h.tch
theorem mark_play (W : World) (T : Nat → Nat) (r : Int) (hr : r = chF n S d 0) (x : PlayD w W g b c n S T p d) :
    Calls Tryd.prog 16 #[.pointer (some ⟨g, 0, none⟩), .int .i64 d] W fun e w' => e = .returned (.int .i64 r) ∧ PlayD w w' g b c n (chS n S d 0 1) T p d ∧ w'.cell? ⟨p, 1, none⟩ = some (.int .i64 d) :=
  (Mark_walk W g n S d x.mid.spc).mono fun e w' ⟨he, h⟩ => ⟨by rw [hr]; exact he, chd_play x h, (chd_play x h).cell⟩
theorem give_play (W : World) (T : Nat → Nat) (r : Int) (hr : r = chF n S d 1) (x : PlayD w W g b c n S T p d) :
    Calls Tryd.prog 10 #[.pointer (some ⟨g, 0, none⟩), .int .i64 d] W fun e w' => e = .returned (.int .i64 r) ∧ PlayD w w' g b c n (chS n S d 1 2) T p d ∧ w'.cell? ⟨p, 1, none⟩ = some (.int .i64 d) :=
  (Give_walk W g n S d x.mid.spc).mono fun e w' ⟨he, h⟩ => ⟨by rw [hr]; exact he, chd_play x h, (chd_play x h).cell⟩
theorem undo_play (W : World) (T : Nat → Nat) (r : Int) (hr : r = chF n S d 1) (x : PlayD w W g b c n S T p d) :
    Calls Tryd.prog 18 #[.pointer (some ⟨g, 0, none⟩), .int .i64 d] W fun e w' => e = .returned (.int .i64 r) ∧ PlayD w w' g b c n (chS n S d 1 0) T p d ∧ w'.cell? ⟨p, 1, none⟩ = some (.int .i64 d) :=
  (Undo_walk W g n S d x.mid.spc).mono fun e w' ⟨he, h⟩ => ⟨by rw [hr]; exact he, chd_play x h, (chd_play x h).cell⟩
theorem change_play (W : World) (S : Nat → Nat) (f v : Nat) (r : Int) (fi vi : Int) (hf : fi = f) (hv : vi = v) (hr : r = chF n T d f) (hn : n ≤ 1024) (x : PlayD w W g b c n S T p d) :
    Calls Tryd.prog 17 #[.pointer (some ⟨b, 0, none⟩), .int .i64 d, .int .i64 fi, .int .i64 vi] W fun e w' => e = .returned (.int .i64 r) ∧ PlayD w w' g b c n S (chS n T d f v) p d ∧ w'.cell? ⟨p, 1, none⟩ = some (.int .i64 d) := by
  subst hf hv
  refine (rChange_walk W b c n T d f v hn x.mid.ref).mono ?_
  rintro e w' ⟨he, rfl⟩
  have y : PlayD w (rChd W c n T d f v) g b c n S (chS n T d f v) p d := x.rtch (rChd_ref x.mid.ref x.mid.bc) (rChd_tch ..)
  exact ⟨by rw [hr]; exact he, y, y.cell⟩
end
set_option maxRecDepth 100000 in
set_option maxHeartbeats 4000000 in
theorem SpacePlays_walk (w : World) (a : Int) (h0 : -9223372036854775808 ≤ a) (h1 : a ≤ 9223372036854775807) (A : Option Addr) (l c0 : Nat) (hS : Fr.Scr w A l) (hl : l ≤ maxLen) (hT : TabAt 0 Lib.deBruijn64tab w) : Calls Tryd.prog 5 #[.int .i64 a, .slice A l c0] w fun e w' => e = .returned (.bool true) ∧ Below w.heap.size w w' := by
  have hw0 : 0 < w.heap.size := cell_lt (hT 0 (by decide))
  have cA := awake_walk w hT
  unfold maxLen at hl
  by_cases hbad : a < 1 ∨ 1024 < a
  · have cN := fun W => New_bad W a hbad
    rcases hbad with hb | hb
    · clear hS hT
      go_enter Tryd.func5, Tryd.ntmps5
      go_wp2_with fail
      refine cA.mono ?_
      rintro e w1 ⟨rfl, hB1⟩
      clear cA
      go_wp2_with (go_at_call 9; refine (cN _).mono ?_; clear cN; rintro e w2 ⟨rfl, rfl⟩)
      go_ret
      exact ⟨rfl, hB1⟩
    · have hb' : ¬ a < 1 := by omega
      clear hS hT
      go_enter Tryd.func5, Tryd.ntmps5
      go_wp2_with fail
      refine cA.mono ?_
      rintro e w1 ⟨rfl, hB1⟩
      clear cA
      go_wp2_with (go_at_call 9; refine (cN _).mono ?_; clear cN; rintro e w2 ⟨rfl, rfl⟩)
      go_ret
      exact ⟨rfl, hB1⟩
  obtain ⟨n, rfl⟩ : ∃ n : Nat, a = (n : Int) := ⟨a.toNat, by omega⟩
  have hn1 : 1 ≤ n := by omega
  have hn2 : n ≤ 1024 := by omega
  have hx1 : ¬ ((n : Int) < 1) := by omega
  have hx2 : ¬ (1024 < (n : Int)) := by omega
  clear hbad
  replace hT := Lib.hid hT
  replace hS := Lib.hid hS
  go_enter Tryd.func5, Tryd.ntmps5
  go_wp2_with fail
  refine cA.mono ?_
  rintro e w1 ⟨rfl, hB1⟩
  clear cA
  have l1 := hB1.size
  replace hB1 := Lib.hid hB1
  go_wp2_with fail
  refine (New_walk w1 n hn1 hn2).mono ?_
  rintro e w2 ⟨rfl, hS2, hB2⟩
  have g2 := hS2.lt
  have cR := rNew_walk w2 n hn2
  obtain ⟨g, hg⟩ : ∃ g, g = w1.heap.size := ⟨_, rfl⟩
  obtain ⟨c, hc⟩ : ∃ c, c = w2.heap.size := ⟨_, rfl⟩
  rw [← hg] at hS2 hB2 g2
  simp only [← hg]
  rw [← hc] at cR g2
  replace hS2 := Lib.hid hS2
  replace hB2 := Lib.hid hB2
  replace hg := Lib.hid hg
  replace hc := Lib.hid hc
  go_wp2_with fail
  refine cR.mono ?_
  clear cR
  rintro e w3 ⟨rfl, hR3, hB3⟩
  have hM : PlayMid w w3 g (c + 1) c n (fun _ => 0) (fun _ => 0) := by
    have e1 := hg.out
    have e2 := hc.out
    exact ⟨hS2.out.same (hB3.block _ (by omega)), hR3, by omega, by omega, by omega, by omega, by omega, by omega, hB1.out.trans ((hB2.out.mono (by omega)).trans (hB3.mono (by omega)))⟩
  clear hS2 hB2 hB1 hg hc l1 h0 h1 hR3 hB3 g2
  replace hM := Lib.hid hM
  go_wp2_with fail
  go_loopg [8] l (fun gh i wr => ∃ (k : Nat) (S : Nat → Nat), k ≤ l ∧ gh = l - k ∧ i = .int .i64 k ∧ PlayMid w wr g (c + 1) c n S S)
  case atStart => exact ⟨0, _, by omega, rfl, rfl, hM.out⟩
  case round =>
    obtain ⟨k, S, hk, hgk, rfl, hR⟩ := hrel
    clear hM
    by_cases hlt : k < l ∧ k < 300
    · obtain ⟨hkl, hk3⟩ := hlt
      obtain ⟨x, kd, d, rfl, c0, c1, hd1, hd2⟩ := hS.out k hkl
      replace c0 := (hR.bel.cell (cell_lt c0)).trans c0
      replace c1 := (hR.bel.cell (cell_lt c1)).trans c1
      rw [add_onep] at c1
      have hD : PlayD w (wr.alloc (.cells #[.int .i64 kd, .int .i64 d] 30)) g (c + 1) c n S S wr.heap.size d :=
        ⟨hR.alloc _, by simp, by simp, by have := hR.spc.lt; omega, by have := hR.cl; omega⟩
      replace hR := Lib.hid hR
      obtain ⟨p, hp⟩ : ∃ p, p = wr.heap.size := ⟨_, rfl⟩
      rw [← hp] at hD
      replace hD := Lib.hid hD
      replace hp := Lib.hid hp
      go_upto_block 2 with fail
      simp only [← hp.out]
      go_cut [] (fun wx => PlayOut w g (c + 1) c n d p wx)
      case first =>
        by_cases e0 : kd = 0
        · subst e0
          by_cases hex : ∃ i, i < n ∧ S i = 0
          · obtain ⟨i, ⟨hi, hi0⟩, hil'⟩ := exists_least hex
            have hil : ∀ j, j < i → S j ≠ 0 := fun j hj h => absurd (hil' j ⟨by omega, h⟩) (by omega)
            have cT := Take_least _ g n i S hD.out.mid.spc (Tab.below hT.out hD.out.mid.bel hw0) hi hi0 hil
            have cU := fun W b' (x : Ref W b' c n S) => rTake_yes W b' c n i S hn2 x hi hi0 hil
            clear hex hi0 hil hil'
            go_wp2_with fail
            refine cT.mono ?_
            clear cT
            rintro e w4 ⟨rfl, hS4, ht4⟩
            have hD4 := Lib.hid (hD.out.tch hS4 ht4)
            clear hS4 ht4
            go_wp2_with fail
            refine (cU _ _ hD4.out.mid.ref).mono ?_
            clear cU
            rintro e w5 ⟨rfl, hw5⟩
            have hD5 : PlayD w w5 g (c + 1) c n (upd S i 1) (upd S i 1) p d := by
              subst hw5
              exact hD4.out.rtch (hD4.out.mid.ref.set hD4.out.mid.bc i 1) ((Tch.refl _ _).set _ _)
            replace hD5 := Lib.hid hD5
            clear hw5
            go_wp2_with fail
            go_meet
            exact ⟨_, hD5.out⟩
          · have hno : ∀ j, j < n → S j ≠ 0 := fun j hj h => hex ⟨j, hj, h⟩
            have cT := Take_none _ g n S hD.out.mid.spc (Tab.below hT.out hD.out.mid.bel hw0) hno
            have cU := fun W b' (x : Ref W b' c n S) => rTake_no W b' c n S hn2 x hno
            clear hex hno
            go_wp2_with fail
            refine cT.mono ?_
            clear cT
            rintro e w4 ⟨rfl, hS4, ht4⟩
            have hD4 := Lib.hid (hD.out.tch hS4 ht4)
            clear hS4 ht4
            go_wp2_with fail
            refine (cU _ _ hD4.out.mid.ref).mono ?_
            clear cU
            rintro e w5 ⟨rfl, rfl⟩
            go_wp2_with fail
            go_meet
            exact ⟨_, hD4.out⟩
        have e0' : (kd == 0) = false := by simpa using e0
        by_cases e1 : kd = 1
        · subst e1
          obtain ⟨r, hr⟩ : ∃ r, r = chF n S d 0 := ⟨_, rfl⟩
          have cM := fun W T (y : PlayD w W g (c + 1) c n S T p d) => mark_play W T r hr y
          have cC := fun W U (y : PlayD w W g (c + 1) c n U S p d) => change_play W U 0 1 r 0 1 rfl rfl hr hn2 y
          have q1 := hD.out.cell
          clear e0 e0' hr
          go_wp2_with fail
          go_region_held3 (fun w' => w'.cell? ⟨p, 1, none⟩ = some (.int .i64 d)) (go_keep)
            (first
              | (go_at_call 16; ((with_reducible refine (cM _ _ hD.out.drew).mono ?_); rintro e w4 ⟨rfl, hD4, q2⟩; replace hD4 := Lib.hid hD4))
              | (go_at_call 16; ((with_reducible refine (cM _ _ hD5.out).mono ?_); rintro e w4 ⟨rfl, hD4, q2⟩; replace hD4 := Lib.hid hD4))
              | (go_at_call 17; ((with_reducible refine (cC _ _ hD.out.drew).mono ?_); rintro e w5 ⟨rfl, hD5, q3⟩; replace hD5 := Lib.hid hD5))
              | (go_at_call 17; ((with_reducible refine (cC _ _ hD4.out).mono ?_); rintro e w5 ⟨rfl, hD5, q3⟩; replace hD5 := Lib.hid hD5)))
          all_goals
            go_wp2_with fail
            go_meet
            exact ⟨_, hD5.out⟩
        have e1' : (kd == 1) = false := by simpa using e1
        by_cases e2 : kd = 2
        · subst e2
          obtain ⟨r, hr⟩ : ∃ r, r = chF n S d 1 := ⟨_, rfl⟩
          have cM := fun W T (y : PlayD w W g (c + 1) c n S T p d) => give_play W T r hr y
          have cC := fun W U (y : PlayD w W g (c + 1) c n U S p d) => change_play W U 1 2 r 1 2 rfl rfl hr hn2 y
          have q1 := hD.out.cell
          clear e0 e0' e1 e1' hr
          go_wp2_with fail
          go_region_held3 (fun w' => w'.cell? ⟨p, 1, none⟩ = some (.int .i64 d)) (go_keep)
            (first
              | (go_at_call 10; ((with_reducible refine (cM _ _ hD.out.drew).mono ?_); rintro e w4 ⟨rfl, hD4, q2⟩; replace hD4 := Lib.hid hD4))
              | (go_at_call 17; ((with_reducible refine (cC _ _ hD4.out).mono ?_); rintro e w5 ⟨rfl, hD5, q3⟩; replace hD5 := Lib.hid hD5)))
          all_goals
            go_wp2_with fail
            go_meet
            exact ⟨_, hD5.out⟩
        have e2' : (kd == 2) = false := by simpa using e2
        by_cases e3 : kd = 3
        · subst e3
          obtain ⟨r, hr⟩ : ∃ r, r = chF n S d 1 := ⟨_, rfl⟩
          have cM := fun W T (y : PlayD w W g (c + 1) c n S T p d) => undo_play W T r hr y
          have cC := fun W U (y : PlayD w W g (c + 1) c n U S p d) => change_play W U 1 0 r 1 0 rfl rfl hr hn2 y
          have q1 := hD.out.cell
          clear e0 e0' e1 e1' e2 e2' hr
          go_wp2_with fail
          go_region_held3 (fun w' => w'.cell? ⟨p, 1, none⟩ = some (.int .i64 d)) (go_keep)
            (first
              | (go_at_call 18; ((with_reducible refine (cM _ _ hD.out.drew).mono ?_); rintro e w4 ⟨rfl, hD4, q2⟩; replace hD4 := Lib.hid hD4))
              | (go_at_call 17; ((with_reducible refine (cC _ _ hD4.out).mono ?_); rintro e w5 ⟨rfl, hD5, q3⟩; replace hD5 := Lib.hid hD5)))
          all_goals
            go_wp2_with fail
            go_meet
            exact ⟨_, hD5.out⟩
        have e3' : (kd == 3) = false := by simpa using e3
        have cS := Settle_walk _ g n S hD.out.mid.spc
        have cU := fun W b' h (x : Ref W b' c n S) => rSettle_walk W b' c n S hn2 h x
        have hle := num_le n S 2
        clear e0 e1 e2 e3
        obtain ⟨m, hm⟩ : ∃ m, m = num n S 2 := ⟨_, rfl⟩
        rw [← hm] at cS hle
        simp only [← hm] at cU
        clear hm
        go_wp2_with fail
        refine cS.mono ?_
        clear cS
        rintro e w4 ⟨rfl, hS4, ht4⟩
        have hD4 := Lib.hid (hD.out.tch hS4 ht4)
        clear hS4 ht4
        go_wp2_with fail
        refine (cU _ _ hD4.out.mid.bc hD4.out.mid.ref).mono ?_
        clear cU
        rintro e w5 ⟨rfl, hR5, ht5⟩
        have hD5 := Lib.hid (hD4.out.rtch hR5 ht5)
        clear hR5 ht5
        go_wp2_with fail
        go_meet
        exact ⟨_, hD5.out⟩
      case rest =>
        obtain ⟨S', hO⟩ := hcut
        have hle := num_le n S' 0
        have q1 := hO.cell
        have cF := fun j => Free_walk (wc.drewN j) g n S' (hO.mid.spc.same rfl)
        have cRF := fun j => rFree_walk (wc.drewN j) (c + 1) c n S' hn2 (hO.mid.ref.same rfl rfl)
        have cSt := fun j => State_walk (wc.drewN j) g n S' d (hO.mid.spc.same rfl)
        have cRS := fun j => rState_walk (wc.drewN j) (c + 1) c n S' d hn2 (hO.mid.ref.same rfl rfl)
        obtain ⟨m, hm⟩ : ∃ m, m = num n S' 0 := ⟨_, rfl⟩
        obtain ⟨r, hr⟩ : ∃ r, r = stF n S' d := ⟨_, rfl⟩
        simp only [← hm, ← hr] at cF cRF cSt cRS hle
        replace hO := Lib.hid hO
        clear hm hr c0 c1
        go_wp2_with fail
        go_quiet ((first
          | (go_at_call 13; exact Calls.quiet_of ((cF _).mono fun e w' h => ⟨h.1, h.2.out⟩))
          | (go_at_call 20; exact Calls.quiet_of_same (cRF _))
          | (go_at_call 21; exact Calls.quiet_of_same (cSt _))
          | (go_at_call 22; exact Calls.quiet_of_same (cRS _))))
        go_wp2_with fail
        go_roundg (l - (k + 1))
        case measure => omega
        case rel => exact ⟨k + 1, S', by omega, rfl, by go_num, hO.out.mid.below (Drawn0.mk ⟨nq, rfl⟩ : Drawn0 wc (wc.drewN nq)).below⟩
    · have hsplit : ((k : Int) < l ∧ ¬ ((k : Int) < 300)) ∨ ¬ ((k : Int) < l) := by omega
      have cSt := fun a => State_walk wr g n S a hR.spc
      have cRS := fun a => rState_walk wr (c + 1) c n S a hn2 hR.ref
      replace hR := Lib.hid hR
      clear hlt
      rcases hsplit with ⟨hy1, hy2⟩ | hy1
      all_goals
        go_wp2_with fail
        go_loopg [14] (n + 2) (fun gh v wx => wx = wr ∧ ∃ q : Int, -1 ≤ q ∧ q ≤ (n : Int) + 1 ∧ gh = ((n : Int) + 1 - q).toNat ∧ v = .int .i64 q)
        case atStart => exact ⟨rfl, -1, by omega, by omega, by omega, rfl⟩
        case round =>
          obtain ⟨rfl, q, hq1, hq2, hgq, rfl⟩ := hrel
          by_cases hqn : q ≤ (n : Int)
          · have cq1 := cSt q
            have cq2 := cRS q
            obtain ⟨r, hr⟩ : ∃ r, r = stF n S q := ⟨_, rfl⟩
            rw [← hr] at cq1 cq2
            clear hr
            go_wp2_with (first | (go_at_call 21; refine cq1.mono ?_; clear cq1; rintro e w5 ⟨rfl, rfl⟩) | (go_at_call 22; refine cq2.mono ?_; clear cq2; rintro e w5 ⟨rfl, rfl⟩))
            go_roundg ((n : Int) + 1 - (q + 1)).toNat
            case measure => omega
            case rel => exact ⟨rfl, q + 1, by omega, by omega, rfl, rfl⟩
          · go_wp2_with fail
            go_ret
            exact ⟨rfl, hR.out.bel⟩
end Go.Proofs.YtnddahkkdcgpaaaDoor.Sp
