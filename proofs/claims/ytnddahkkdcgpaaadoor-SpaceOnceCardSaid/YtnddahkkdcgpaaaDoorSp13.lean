/- The law SpaceOnce, walked. -/
import Derived.Test.YtnddahkkdcgpaaaDoorSp12
import Derived.Test.YtnddahkkdcgpaaaDoorFr
import Derived.Deep.RegionWith
import Derived.Deep.DeepCutAuto
import Derived.Deep.CutBlock
import Derived.Deep.LoopGhost
import Derived.Deep.RegionHeld3
namespace Go.Proofs.YtnddahkkdcgpaaaDoor.Sp
open Go.RowKit Go.Proofs.YtnddahkkdcgpaaaDoor Go.Proofs.YtnddahkkdcgpaaaDoorW.PrintWords Go.Proofs.YtnddahkkdcgpaaaDoorW.PrintLast Go.Proofs.YtnddahkkdcgpaaaDoorW.PrintMore
set_option linter.unusedVariables false
def heldV (S : Nat → Nat) : Nat → Value := fun i => .bool (S i != 0)
def backV (S : Nat → Nat) : Nat → Value := fun i => .bool (S i == 2)
theorem add_one (x : Addr) (i : Nat) : x.add (i + 1) = ⟨(x.add i).block, (x.add i).off + 1, none⟩ := by
  unfold Addr.add
  by_cases h : i = 0 <;> simp [h, Nat.add_assoc]
/-- What SpaceOnce keeps: a space, and two rows of Booleans. -/
structure OnceW (w wr : World) (g h k n : Nat) (S : Nat → Nat) (P Q : Nat → Bool) : Prop where
  spc : Spc wr g n S
  held : wr.rowIs h 4 n (fun i => .bool (P i))
  back : wr.rowIs k 4 n (fun i => .bool (Q i))
  gh : g ≠ h
  gk : g ≠ k
  hk : h ≠ k
  wg : w.heap.size ≤ g
  wh : w.heap.size ≤ h
  wk : w.heap.size ≤ k
  bel : Below w.heap.size w wr
def updB (P : Nat → Bool) (i : Nat) (b : Bool) : Nat → Bool := fun j => if j = i then b else P j
def hF (S : Nat → Nat) : Nat → Bool := fun i => S i != 0
def bF (S : Nat → Nat) : Nat → Bool := fun i => S i == 2
def OnceMid (w wr : World) (g h k n : Nat) (S : Nat → Nat) : Prop := OnceW w wr g h k n S (hF S) (bF S)
namespace OnceW
variable {w wr wr' : World} {g h k n : Nat} {S S' : Nat → Nat} {P Q P' Q' : Nat → Bool}
theorem congr (x : OnceW w wr g h k n S P Q) (hp : ∀ i, i < n → P i = P' i) (hq : ∀ i, i < n → Q i = Q' i) : OnceW w wr g h k n S P' Q' :=
  ⟨x.spc, x.held.congr fun i hi => by rw [hp i hi], x.back.congr fun i hi => by rw [hq i hi], x.gh, x.gk, x.hk, x.wg, x.wh, x.wk, x.bel⟩
theorem tch (x : OnceW w wr g h k n S P Q) (hs : Spc wr' g n S') (ht : Tch g wr wr') : OnceW w wr' g h k n S' P Q :=
  ⟨hs, x.held.of_block (ht.block _ x.held.lt x.gh.symm), x.back.of_block (ht.block _ x.back.lt x.gk.symm), x.gh, x.gk, x.hk, x.wg, x.wh, x.wk, x.bel.trans (ht.below x.wg x.bel.size)⟩
theorem below (x : OnceW w wr g h k n S P Q) (ht : Below wr.heap.size wr wr') : OnceW w wr' g h k n S P Q :=
  x.tch (x.spc.same (ht.block _ x.spc.lt)) (Tch.ofBelow ht)
theorem alloc (x : OnceW w wr g h k n S P Q) (o : Obj) : OnceW w (wr.alloc o) g h k n S P Q := x.below ((Below.refl _ _).alloc (Nat.le_refl _) _)
theorem drew (x : OnceW w wr g h k n S P Q) : OnceW w wr.drew g h k n S P Q := x.below (Below.refl _ _).drew
theorem setH (x : OnceW w wr g h k n S P Q) (i : Nat) (b : Bool) : OnceW w (wr.setCell ⟨h, i, none⟩ (.bool b)) g h k n S (updB P i b) Q := by
  refine ⟨x.spc.same (Below.heap_setCell _ _ _ _ x.gh), (x.held.set i _).congr fun j hj => ?_, x.back.setOther x.hk.symm _, x.gh, x.gk, x.hk, x.wg, x.wh, x.wk, x.bel.setCell x.wh _⟩
  unfold updB
  by_cases e : j = i <;> simp [e]
theorem setK (x : OnceW w wr g h k n S P Q) (i : Nat) (b : Bool) : OnceW w (wr.setCell ⟨k, i, none⟩ (.bool b)) g h k n S P (updB Q i b) := by
  refine ⟨x.spc.same (Below.heap_setCell _ _ _ _ x.gk), x.held.setOther x.hk _, (x.back.set i _).congr fun j hj => ?_, x.gh, x.gk, x.hk, x.wg, x.wh, x.wk, x.bel.setCell x.wk _⟩
  unfold updB
  by_cases e : j = i <;> simp [e]
end OnceW
def OnceOut (w : World) (g H n : Nat) (wx : World) : Prop := ∃ S' : Nat → Nat, OnceMid w wx g H (H + 1) n S'
theorem Spc.le {w : World} {g n : Nat} {S : Nat → Nat} (h : Spc w g n S) (i : Nat) : S i ≤ 2 := by
  obtain ⟨F, B, h⟩ := h
  exact h.le i
theorem chF_at (n i f : Nat) (S : Nat → Nat) (hi : i < n) : chF n S i f = if S i = f then 0 else 205 := by
  have hs : stF n S i = (S i : Int) := by unfold stF; rw [if_neg (by omega)]; rfl
  unfold chF
  rw [hs, if_neg (by omega)]
  by_cases h : S i = f
  · rw [if_pos h, if_pos (by rw [h])]
  · rw [if_neg h, if_neg (by omega)]
/-- Give, as SpaceOnce sees it. -/
theorem give_once {w : World} {g h k n i : Nat} {S : Nat → Nat} {P Q : Nat → Bool} {W : World} (hi : i < n) (c : Int) (s : Nat) (hs : S i = s) (hc : c = if s = 1 then 0 else 205) (x : OnceW w W g h k n S P Q) :
    Calls Tryd.prog 10 #[.pointer (some ⟨g, 0, none⟩), .int .i64 i] W fun e w' => e = .returned (.int .i64 c) ∧ OnceW w w' g h k n (if s = 1 then upd S i 2 else S) P Q ∧ w'.cell? ⟨h, i, none⟩ = some (.bool (P i)) ∧ w'.cell? ⟨k, i, none⟩ = some (.bool (Q i)) := by
  refine (Give_walk W g n S i x.spc).mono ?_
  rintro e w' ⟨rfl, hk⟩
  have hsp := hk.spc
  rw [chF_at n i 1 S hi, hs] at hsp
  have y : OnceW w w' g h k n (if s = 1 then upd S i 2 else S) P Q := by
    refine x.tch ?_ hk.tch
    by_cases e : s = 1
    · rw [if_pos e]; rw [if_pos e, if_pos rfl] at hsp; simpa using hsp
    · rw [if_neg e]; rw [if_neg e, if_neg (by decide)] at hsp; exact hsp
  exact ⟨by rw [chF_at n i 1 S hi, hs, hc], y, y.held.cell hi, y.back.cell hi⟩
theorem OnceW.give {w w3 : World} {g h k n i s : Nat} {S : Nat → Nat} (x : OnceW w w3 g h k n (if s = 1 then upd S i 2 else S) (hF S) (bF S)) (hs : S i = s) (h2 : s ≤ 2) (b : Bool) (hb : b = hF S i) :
    OnceW w (w3.setCell ⟨k, i, none⟩ (.bool b)) g h k n (if s = 1 then upd S i 2 else S) (hF (if s = 1 then upd S i 2 else S)) (bF (if s = 1 then upd S i 2 else S)) := by
  refine (x.setK i b).congr (fun j hj => ?_) (fun j hj => ?_)
  · by_cases e : s = 1
    · rw [if_pos e]
      unfold hF upd
      by_cases ej : j = i
      · subst ej; simp [hs, e]
      · simp [ej]
    · rw [if_neg e]
  · subst hb
    by_cases e : s = 1
    · rw [if_pos e]
      unfold bF hF upd updB
      by_cases ej : j = i
      · subst ej; simp [hs, e]
      · simp [ej]
    · rw [if_neg e]
      unfold bF hF updB
      by_cases ej : j = i
      · subst ej
        rw [if_pos rfl, hs]
        have : s = 0 ∨ s = 2 := by omega
        rcases this with rfl | rfl <;> rfl
      · simp [ej]
theorem OnceW.took {w w3 : World} {g h k n i : Nat} {S : Nat → Nat} (x : OnceW w w3 g h k n (upd S i 1) (hF S) (bF S)) (hs : S i = 0) :
    OnceW w (w3.setCell ⟨h, i, none⟩ (.bool true)) g h k n (upd S i 1) (hF (upd S i 1)) (bF (upd S i 1)) := by
  refine (x.setH i true).congr (fun j hj => ?_) (fun j hj => ?_)
  · unfold hF upd updB
    by_cases ej : j = i <;> simp [ej]
  · unfold bF upd
    by_cases ej : j = i
    · subst ej; simp [hs]
    · simp [ej]
/-- Within the loop behind Settle. -/
def hG (S : Nat → Nat) (j : Nat) : Nat → Bool := fun i => if i < j then hF S i && !bF S i else hF S i
def bG (S : Nat → Nat) (j : Nat) : Nat → Bool := fun i => if i < j then false else bF S i
theorem OnceW.settleStep {w w3 : World} {g h k n j : Nat} {S S' : Nat → Nat} (x : OnceW w w3 g h k n S' (hG S j) (bG S j)) (b : Bool) (hb : b = (hF S j && !bF S j)) :
    OnceW w ((w3.setCell ⟨h, j, none⟩ (.bool b)).setCell ⟨k, j, none⟩ (.bool false)) g h k n S' (hG S (j + 1)) (bG S (j + 1)) := by
  refine ((x.setH j b).setK j false).congr (fun i hi => ?_) (fun i hi => ?_)
  · unfold updB hG
    by_cases e : i = j
    · subst e; simp [hb]
    · by_cases h1 : i < j
      · rw [if_neg e, if_pos h1, if_pos (by omega)]
      · rw [if_neg e, if_neg h1, if_neg (by omega)]
  · unfold updB bG
    by_cases e : i = j
    · subst e; simp
    · by_cases h1 : i < j
      · rw [if_neg e, if_pos h1, if_pos (by omega)]
      · rw [if_neg e, if_neg h1, if_neg (by omega)]
theorem OnceW.settled {w w3 : World} {g h k n : Nat} {S : Nat → Nat} (x : OnceW w w3 g h k n (zeroB S) (hG S n) (bG S n)) : OnceW w w3 g h k n (zeroB S) (hF (zeroB S)) (bF (zeroB S)) := by
  refine x.congr (fun i hi => ?_) (fun i hi => ?_)
  · unfold hG hF bF zeroB
    rw [if_pos hi]
    by_cases e : S i = 2
    · simp [e]
    · simp [e]
  · unfold bG bF zeroB
    rw [if_pos hi]
    by_cases e : S i = 2
    · simp [e]
    · simp [e]
set_option maxRecDepth 100000 in
set_option maxHeartbeats 4000000 in
theorem SpaceOnce_walk (w : World) (a : Int) (h0 : 0 ≤ a) (h1 : a ≤ 255) (A : Option Addr) (l c : Nat) (hS : Fr.Scr w A l) (hl : l ≤ maxLen) (hT : TabAt 0 Lib.deBruijn64tab w) : Calls Tryd.prog 3 #[.int .u8 a, .slice A l c] w fun e w' => e = .returned (.bool true) ∧ Below w.heap.size w w' := by
  have hw0 : 0 < w.heap.size := cell_lt (hT 0 (by decide))
  have cA := awake_walk w hT
  obtain ⟨n, hn⟩ : ∃ n : Nat, 1 + a = (n : Int) := ⟨(1 + a).toNat, by omega⟩
  have hn1 : 1 ≤ n := by omega
  have hn2 : n ≤ 256 := by omega
  unfold maxLen at hl
  replace hT := Lib.hid hT
  replace hS := Lib.hid hS
  have hmk := run_make_row' (P := Tryd.prog) 28 4 (.bool false) 1 Tryd.underlying28 info4 rfl .i64 .i64 n (by omega) (by omega)
  go_enter Tryd.func3, Tryd.ntmps3
  go_wp2_with fail
  refine cA.mono ?_
  rintro e w1 ⟨rfl, hB1⟩
  clear cA
  have l1 := hB1.size
  replace hB1 := Lib.hid hB1
  go_wp2_with fail
  refine (New_walk w1 n hn1 (by omega)).mono ?_
  rintro e w2 ⟨rfl, hS2, hB2⟩
  have l2 := hB2.size
  have gl := hS2.lt
  obtain ⟨g, hg⟩ : ∃ g, g = w1.heap.size := ⟨_, rfl⟩
  rw [← hg] at hS2 hB2 gl l2
  obtain ⟨H, hH⟩ : ∃ H, H = w2.heap.size := ⟨_, rfl⟩
  rw [← hH] at gl l2
  obtain ⟨W, hW⟩ : ∃ W, W = (w2.alloc (.cells (madeCells #[.bool false] n) 4)).alloc (.cells (madeCells #[.bool false] n) 4) := ⟨_, rfl⟩
  have hM : OnceMid w W g H (H + 1) n (fun _ => 0) := by
    subst hW hH
    have e1 := (World.rowIs_made w2 (.bool false) n 4).alloc (.cells (madeCells #[.bool false] n) 4)
    have e2 := World.rowIs_made (w2.alloc (.cells (madeCells #[.bool false] n) 4)) (.bool false) n 4
    rw [show (w2.alloc (.cells (madeCells #[.bool false] n) 4)).heap.size = w2.heap.size + 1 by simp] at e2
    have bb : Below w2.heap.size w2 ((w2.alloc (.cells (madeCells #[.bool false] n) 4)).alloc (.cells (madeCells #[.bool false] n) 4)) := ((Below.refl _ w2).alloc (Nat.le_refl _) _).alloc (by simp) _
    exact ⟨hS2.same (bb.block _ gl), e1.congr fun i hi => rfl, e2.congr fun i hi => rfl, by omega, by omega, by omega, by omega, by omega, by omega, hB1.out.trans ((hB2.mono (by omega)).trans (bb.mono (by omega)))⟩
  replace hM := Lib.hid hM
  replace hg := Lib.hid hg
  replace hH := Lib.hid hH
  simp only [← hg.out]
  clear hS2 hB2 l1 hB1
  go_wp2_with fail
  rw [← hW]
  simp only [← hH.out]
  clear hW
  go_loopg [10] l (fun gh i wr => ∃ (k : Nat) (S : Nat → Nat), k ≤ l ∧ gh = l - k ∧ i = .int .i64 k ∧ OnceMid w wr g H (H + 1) n S)
  case atStart => exact ⟨0, _, by omega, rfl, rfl, hM.out⟩
  case round =>
    obtain ⟨k, S, hk, hgk, rfl, hR⟩ := hrel
    by_cases hlt : k < l ∧ k < 300
    · obtain ⟨hkl, hk3⟩ := hlt
      obtain ⟨x, kd, d, rfl, c0, c1, hd1, hd2⟩ := hS.out k hkl
      replace c0 := (hR.bel.cell (cell_lt c0)).trans c0
      replace c1 := (hR.bel.cell (cell_lt c1)).trans c1
      rw [add_one] at c1
      clear hM
      replace hR := Lib.hid hR
      obtain ⟨at', hat⟩ : ∃ m : Nat, (d % 18446744073709551616) % n = (m : Int) := ⟨((d % 18446744073709551616) % n).toNat, by have := Int.emod_nonneg (d % 18446744073709551616) (b := (n : Int)) (by omega); omega⟩
      have hatn : at' < n := by have := Int.emod_lt_of_pos (d % 18446744073709551616) (b := (n : Int)) (by omega); omega
      have hat2 : wrap64 ((IntKind.u64.wrap d).tmod ↑n) = at' := by
        rw [← hat, IntKind.wrap_u64, Int.tmod_eq_emod_of_nonneg (by omega)]
        unfold wrap64
        omega
      clear hat
      go_upto_block 2 with fail
      rw [hat2]
      clear hat2
      go_cut [] (fun wx => OnceOut w g H n wx)
      case first =>
        have hR1 := OnceW.alloc hR.out (.cells #[.int .i64 kd, .int .i64 d] 30)
        have hle := hR.out.spc.le at'
        by_cases h2 : kd = 2
        · subst h2
          obtain ⟨s, hs⟩ : ∃ s, s = S at' := ⟨_, rfl⟩
          rw [← hs] at hle
          have hp : hF S at' = (s != 0) := by unfold hF; rw [hs]
          have hq : bF S at' = (s == 2) := by unfold bF; rw [hs]
          replace hs := Lib.hid hs
          have hs3 : s = 0 ∨ s = 1 ∨ s = 2 := by omega
          have q1 := hR1.held.cell hatn
          have q2 := hR1.back.cell hatn
          rw [hp] at q1
          rw [hq] at q2
          clear hle
          have ha0 : (0 : Int) ≤ (at' : Int) := by omega
          have ha1 : (at' : Int) < (n : Int) := by omega
          rcases hs3 with rfl | rfl | rfl
          · have cG := fun W' (x : OnceW w W' g H (H + 1) n S (hF S) (bF S)) => give_once hatn 205 0 hs.out.symm rfl x
            have hpp := Lib.hid hp
            simp only [hp, hq, Nat.reduceBNe, Nat.reduceBEq] at cG q1 q2
            clear hp hq
            replace hR1 := Lib.hid hR1
            go_wp2_with fail
            first | (go_region_with (go_at_call 10; refine (cG _ hR1.out.drew).mono ?_; rintro e w3 ⟨rfl, hO, q3, q4⟩; have f3 := hO.back.frozen at'; replace hO := Lib.hid hO)) | fail
            all_goals
              go_wp2_with fail
              go_meet
              exact ⟨_, hO.out.give hs.out.symm (by decide) false hpp.out.symm⟩
          · have cG := fun W' (x : OnceW w W' g H (H + 1) n S (hF S) (bF S)) => give_once hatn 0 1 hs.out.symm rfl x
            have hpp := Lib.hid hp
            simp only [hp, hq, Nat.reduceBNe, Nat.reduceBEq] at cG q1 q2
            clear hp hq
            replace hR1 := Lib.hid hR1
            go_wp2_with fail
            go_region_held3 (fun w' => w'.cell? ⟨H, at', none⟩ = some (.bool true) ∧ w'.cell? ⟨H + 1, at', none⟩ = some (.bool false)) (go_keep)
              ((go_at_call 10; refine (cG _ hR1.out.drew).mono ?_; rintro e w3 ⟨rfl, hO, q3, q4⟩; have f3 := hO.back.frozen at'; replace hO := Lib.hid hO))
            all_goals
              go_wp2_with fail
              go_meet
              exact ⟨_, hO.out.give hs.out.symm (by decide) true hpp.out.symm⟩
          · have cG := fun W' (x : OnceW w W' g H (H + 1) n S (hF S) (bF S)) => give_once hatn 205 2 hs.out.symm rfl x
            have hpp := Lib.hid hp
            simp only [hp, hq, Nat.reduceBNe, Nat.reduceBEq] at cG q1 q2
            clear hp hq
            replace hR1 := Lib.hid hR1
            go_wp2_with fail
            go_region_held3 (fun w' => w'.cell? ⟨H, at', none⟩ = some (.bool true) ∧ w'.cell? ⟨H + 1, at', none⟩ = some (.bool true)) (go_keep)
              ((go_at_call 10; refine (cG _ hR1.out.drew).mono ?_; rintro e w3 ⟨rfl, hO, q3, q4⟩; have f3 := hO.back.frozen at'; replace hO := Lib.hid hO))
            all_goals
              go_wp2_with fail
              go_meet
              exact ⟨_, hO.out.give hs.out.symm (by decide) true hpp.out.symm⟩
        by_cases h4 : kd = 4
        · subst h4
          clear h2 hle
          have cS := Settle_walk _ g n S hR1.spc
          replace hR1 := Lib.hid hR1
          go_wp2_with fail
          refine cS.mono ?_
          rintro e w3 ⟨rfl, hS3, hk3⟩
          have hO : OnceW w w3 g H (H + 1) n (zeroB S) (hG S 0) (bG S 0) := (hR1.out.tch hS3 hk3).congr (fun i hi => rfl) (fun i hi => rfl)
          replace hO := Lib.hid hO
          clear cS hS3 hk3
          go_wp2_with fail
          go_loopg [13] n (fun gh i wx => ∃ j : Nat, j ≤ n ∧ gh = n - j ∧ i = .int .i64 j ∧ OnceW w wx g H (H + 1) n (zeroB S) (hG S j) (bG S j))
          case atStart => exact ⟨0, by omega, rfl, rfl, hO.out⟩
          case round =>
            obtain ⟨j, hj, hgj, rfl, hM⟩ := hrel
            by_cases hlt : j < n
            · have q1 := hM.held.cell hlt
              have q2 := hM.back.cell hlt
              have f1 := hM.held.frozen j
              have f2 := hM.back.frozen j
              have e1 : hG S j j = hF S j := by unfold hG; rw [if_neg (Nat.lt_irrefl _)]
              have e2 : bG S j j = bF S j := by unfold bG; rw [if_neg (Nat.lt_irrefl _)]
              rw [e1] at q1
              rw [e2] at q2
              clear e1 e2
              have hst := fun b hb => hM.settleStep b hb
              obtain ⟨b1, hb1⟩ : ∃ b, b = hF S j := ⟨_, rfl⟩
              obtain ⟨b2, hb2⟩ : ∃ b, b = bF S j := ⟨_, rfl⟩
              rw [← hb1] at q1 hst
              rw [← hb2] at q2 hst
              clear hb1 hb2 hM
              have hN := Lib.hid (hst (b1 && !b2) rfl)
              clear hst
              have hne : (H + 1 : Nat) ≠ H := by omega
              cases b1 <;> cases b2
              all_goals
                simp only [Bool.false_and, Bool.true_and, Bool.not_true, Bool.not_false] at hN
                go_wp2_with fail
                go_roundg (n - (j + 1))
                case measure => omega
                case rel => exact ⟨j + 1, by omega, rfl, by go_num, hN.out⟩
            · have : j = n := by omega
              subst this
              replace hM := Lib.hid hM.settled
              go_wp2_with fail
              go_meet
              exact ⟨_, hM.out⟩
        · have h2' : (kd == 2) = false := by simpa using h2
          have h4' : (kd == 4) = false := by simpa using h4
          clear h2 h4 hle
          have cT := Take_walk _ g n S hR1.spc (Tab.below hT.out hR1.bel hw0)
          replace hR1 := Lib.hid hR1
          go_wp2_with fail
          refine cT.mono ?_
          clear cT
          rintro e w3 (⟨i, rfl, hi, hi0, hil, hk3⟩ | ⟨rfl, hno, ht3, hS3⟩)
          · have hO := hR1.out.tch hk3.spc hk3.tch
            have q1 := hO.held.cell hi
            have q2 := hO.back.cell hi
            have f1 := hO.held.frozen i
            rw [show hF S i = false by unfold hF; rw [hi0]; rfl] at q1
            have i0 : (0 : Int) ≤ (i : Int) := by omega
            have i1 : (i : Int) < (n : Int) := by omega
            have hN := Lib.hid (hO.took hi0)
            clear hk3 hil hi0 hO
            go_wp2_with fail
            go_meet
            exact ⟨_, hN.out⟩
          · have hN := Lib.hid (hR1.out.tch hS3 ht3)
            clear hno hS3 ht3
            go_wp2_with fail
            go_meet
            exact ⟨_, hN.out⟩
      case rest =>
        obtain ⟨S', hO⟩ := hcut
        have hle := fun j => num_le j S' 0
        have cF := Free_walk wc g n S' hO.spc
        replace hO := Lib.hid hO
        replace hle := Lib.hid hle
        clear c0 c1
        go_wp2_with fail
        go_loopg [16, 17] n (fun gh m i wx => wx = wc ∧ ∃ j : Nat, j ≤ n ∧ gh = n - j ∧ m = .int .i64 (num j S' 0 : Nat) ∧ i = .int .i64 j)
        case atStart => exact ⟨rfl, 0, by omega, rfl, rfl, rfl⟩
        case round =>
          obtain ⟨rfl, j, hj, hgj, rfl, rfl⟩ := hrel
          by_cases hlt : j < n
          · have q1 := hO.out.held.cell hlt
            have hb := hle.out j
            by_cases h0 : S' j = 0
            · have e := Lib.hid (num_yes j S' 0 h0)
              rw [show hF S' j = false by unfold hF; rw [h0]; rfl] at q1
              clear h0
              go_wp2_with fail
              go_roundg (n - (j + 1))
              case measure => omega
              case rel => exact ⟨rfl, j + 1, by omega, rfl, by rw [e.out]; go_num, by go_num⟩
            · have e := Lib.hid (num_no j S' 0 h0)
              rw [show hF S' j = true by unfold hF; simpa using h0] at q1
              clear h0
              go_wp2_with fail
              go_roundg (n - (j + 1))
              case measure => omega
              case rel => exact ⟨rfl, j + 1, by omega, rfl, by rw [e.out], by go_num⟩
          · have : j = n := by omega
            subst this
            go_wp2_with fail
            refine cF.mono ?_
            clear cF
            rintro e w4 ⟨rfl, hd⟩
            have hN := Lib.hid (hO.out.below hd.below)
            go_wp2_with fail
            go_roundg (l - (k + 1))
            case measure => omega
            case rel => exact ⟨k + 1, S', by omega, rfl, by go_num, hN.out⟩
    · have hB := Lib.hid hR.bel
      clear hR hM
      by_cases hkl : k < l
      · have hk3 : ¬ ((k : Int) < 300) := by omega
        clear hlt
        go_wp2_with fail
        go_ret
        exact ⟨rfl, hB.out⟩
      · clear hlt
        go_wp2_with fail
        go_ret
        exact ⟨rfl, hB.out⟩
end Go.Proofs.YtnddahkkdcgpaaaDoor.Sp
