/- The law SpaceUndone, walked. -/
import Derived.Test.YtnddahkkdcgpaaaDoorSp12
import Derived.Test.YtnddahkkdcgpaaaDoorFr
import Derived.Deep.LoopGhost
namespace Go.Proofs.YtnddahkkdcgpaaaDoor.Sp
open Go.RowKit Go.Proofs.YtnddahkkdcgpaaaDoor Go.Proofs.YtnddahkkdcgpaaaDoorW.PrintWords Go.Proofs.YtnddahkkdcgpaaaDoorW.PrintLast Go.Proofs.YtnddahkkdcgpaaaDoorW.PrintMore
set_option linter.unusedVariables false
theorem add_one' (x : Addr) (i : Nat) : x.add (i + 1) = ⟨(x.add i).block, (x.add i).off + 1, none⟩ := by
  unfold Addr.add
  by_cases h : i = 0 <;> simp [h, Nat.add_assoc]
theorem Drawn0.cell {w w' : World} (h : Drawn0 w w') (p : Addr) : w'.cell? p = w.cell? p := by
  obtain ⟨k, rfl⟩ := h
  rfl
structure UndMid (w wr : World) (g n : Nat) (S : Nat → Nat) : Prop where
  spc : Spc wr g n S
  wg : w.heap.size ≤ g
  bel : Below w.heap.size w wr
theorem UndMid.tch {w wr wr' : World} {g n : Nat} {S S' : Nat → Nat} (x : UndMid w wr g n S) (hs : Spc wr' g n S') (ht : Tch g wr wr') : UndMid w wr' g n S' :=
  ⟨hs, x.wg, x.bel.trans (ht.below x.wg x.bel.size)⟩
theorem UndMid.chd {w wr wr' : World} {g n f v : Nat} {S : Nat → Nat} {a : Int} (x : UndMid w wr g n S) (h : Chd wr wr' g n S a f v) : ∃ S', UndMid w wr' g n S' := ⟨_, x.tch h.spc h.tch⟩
def stL (S : Nat → Nat) (j : Nat) : List Int := (List.range j).map fun i => (S i : Int)
theorem stL_len (S : Nat → Nat) (j : Nat) : (stL S j).length = j := by simp [stL]
theorem stL_succ (S : Nat → Nat) (j : Nat) : stL S j ++ [(S j : Int)] = stL S (j + 1) := by simp [stL, List.range_succ]
theorem stF_at (n i : Nat) (S : Nat → Nat) (hi : i < n) : stF n S i = (S i : Int) := by unfold stF; rw [if_neg (by omega)]; rfl
theorem chF_at' (n i f : Nat) (S : Nat → Nat) (hi : i < n) : chF n S i f = if S i = f then 0 else 205 := by
  unfold chF
  rw [stF_at n i S hi, if_neg (by omega)]
  by_cases h : S i = f
  · rw [if_pos h, if_pos (by rw [h])]
  · rw [if_neg h, if_neg (by omega)]
/-- The states behind Settle, and the row of what was read of them. -/
structure WasMid (w w3 wr : World) (g n j : Nat) (S : Nat → Nat) (v : Value) : Prop where
  sp3 : Spc w3 g n S
  row : wr.ownsRow w3.heap.size 3 1 v (stL S j).length (nums .i64 (stL S j))
  b3 : Below w3.heap.size w3 wr
  wg : w.heap.size ≤ g
  bel : Below w.heap.size w w3
theorem WasMid.spc {w w3 wr : World} {g n j : Nat} {S : Nat → Nat} {v : Value} (x : WasMid w w3 wr g n j S v) : Spc wr g n S := x.sp3.same (x.b3.block g x.sp3.lt)
theorem WasMid.und {w w3 wr : World} {g n j : Nat} {S : Nat → Nat} {v : Value} (x : WasMid w w3 wr g n j S v) : UndMid w wr g n S := ⟨x.spc, x.wg, x.bel.trans (x.b3.mono x.bel.size)⟩
theorem WasMid.cells {w w3 wr : World} {g n : Nat} {S : Nat → Nat} {v : Value} (x : WasMid w w3 wr g n n S v) (hn : 1 ≤ n) : ∃ gw c, v = .slice (some ⟨gw, 0, none⟩) n c ∧ gw ≠ g ∧ gw < wr.heap.size ∧ ∀ i, i < n → wr.cell? ⟨gw, i, none⟩ = some (.int .i64 (S i : Int)) := by
  have hl := stL_len S n
  have hr := x.row
  rw [hl] at hr
  obtain ⟨gw, c, rfl, hb, hlt⟩ := hr.form (by omega)
  have h3 := x.sp3.lt
  refine ⟨gw, c, rfl, by omega, hlt, fun i hi => ?_⟩
  have h := (own_at hr i (by omega) (by omega)).1
  rw [Int.toNat_natCast] at h
  rw [h]
  unfold rd
  rw [Int.toNat_natCast, List.getD_eq_getElem?_getD, List.getElem?_eq_getElem (by omega)]
  simp [stL]
theorem num_one (n i : Nat) (S : Nat → Nat) (hi : i < n) (h : ∀ j, S j ≠ 2) : num n (upd S i 2) 2 = 1 := by
  have key : ∀ m, num m (upd S i 2) 2 = if i < m then 1 else 0 := by
    intro m
    induction m with
    | zero => rfl
    | succ m ih =>
      rw [num_succ, ih]
      unfold upd
      by_cases e : m = i
      · subst e; simp
      · rw [if_neg e, if_neg (h m)]
        by_cases h1 : i < m
        · rw [if_pos h1, if_pos (by omega)]
        · rw [if_neg h1, if_neg (by omega)]
  rw [key, if_pos hi]
theorem zero_upd (S : Nat → Nat) (i : Nat) (h0 : S i = 0) (h : ∀ j, S j ≠ 2) : zeroB (upd (upd S i 1) i 2) = S := by
  funext j
  unfold zeroB upd
  by_cases e : j = i
  · subst e; simp [h0]
  · simp [e, h j]
theorem undo_upd (S : Nat → Nat) (i : Nat) (h0 : S i = 0) : upd (upd S i 1) i 0 = S := by
  funext j
  unfold upd
  by_cases e : j = i
  · subst e; simp [h0]
  · simp [e]
theorem upd_upd (S : Nat → Nat) (i a b : Nat) : upd (upd S i a) i b = upd S i b := by
  funext j
  unfold upd
  by_cases e : j = i <;> simp [e]
theorem zeroB_ne (S : Nat → Nat) (j : Nat) : zeroB S j ≠ 2 := by
  unfold zeroB
  by_cases h : S j = 2 <;> simp [h]
set_option maxRecDepth 100000 in
set_option maxHeartbeats 4000000 in
theorem SpaceUndone_walk (w : World) (a : Int) (h0 : 0 ≤ a) (h1 : a ≤ 255) (A : Option Addr) (l c : Nat) (hS : Fr.Scr w A l) (hl : l ≤ maxLen) (st : Bool) (hT : TabAt 0 Lib.deBruijn64tab w) : Calls Tryd.prog 7 #[.int .u8 a, .slice A l c, .bool st] w fun e w' => e = .returned (.bool true) ∧ Below w.heap.size w w' := by
  have hw0 : 0 < w.heap.size := cell_lt (hT 0 (by decide))
  have cA := awake_walk w hT
  obtain ⟨n, hn⟩ : ∃ n : Nat, 1 + a = (n : Int) := ⟨(1 + a).toNat, by omega⟩
  have hn1 : 1 ≤ n := by omega
  have hn2 : n ≤ 256 := by omega
  unfold maxLen at hl
  replace hT := Lib.hid hT
  replace hS := Lib.hid hS
  go_enter Tryd.func7, Tryd.ntmps7
  go_wp2_with fail
  refine cA.mono ?_
  rintro e w1 ⟨rfl, hB1⟩
  clear cA
  have l1 := hB1.size
  replace hB1 := Lib.hid hB1
  go_wp2_with fail
  refine (New_walk w1 n hn1 (by omega)).mono ?_
  rintro e w2 ⟨rfl, hS2, hB2⟩
  have hM : UndMid w w2 w1.heap.size n (fun _ => 0) := ⟨hS2, l1, hB1.out.trans (hB2.mono l1)⟩
  obtain ⟨g, hg⟩ : ∃ g, g = w1.heap.size := ⟨_, rfl⟩
  simp only [← hg] at hM ⊢
  clear hS2 hB2 hB1 hg l1 h0 h1
  replace hM := Lib.hid hM
  go_wp2_with fail
  go_loopg [10] l (fun gh i wr => ∃ (k : Nat) (S : Nat → Nat), k ≤ l ∧ gh = l - k ∧ i = .int .i64 k ∧ UndMid w wr g n S)
  case atStart => exact ⟨0, _, by omega, rfl, rfl, hM.out⟩
  case round =>
    obtain ⟨k, S, hk, hgk, rfl, hR⟩ := hrel
    clear hM
    by_cases hlt : k < l ∧ k < 300
    · obtain ⟨hkl, hk3⟩ := hlt
      obtain ⟨x, kd, d, rfl, c0, c1, hd1, hd2⟩ := hS.out k hkl
      replace c0 := (hR.bel.cell (cell_lt c0)).trans c0
      replace c1 := (hR.bel.cell (cell_lt c1)).trans c1
      rw [add_one'] at c1
      by_cases e0 : kd = 0
      · subst e0
        have cT := Take_walk _ g n S hR.spc (Tab.below hT.out hR.bel hw0)
        replace hR := Lib.hid hR
        go_wp2_with fail
        refine cT.mono ?_
        clear cT
        rintro e w3 (⟨i, rfl, hi, hi0, hil, hk3⟩ | ⟨rfl, hno, ht3, hS3⟩)
        · have hN := Lib.hid (hR.out.tch hk3.spc hk3.tch)
          clear hk3 hi0 hil
          go_wp2_with fail
          go_roundg (l - (k + 1))
          case measure => omega
          case rel => exact ⟨k + 1, _, by omega, rfl, by go_num, hN.out⟩
        · have hN := Lib.hid (hR.out.tch hS3 ht3)
          clear hS3 ht3 hno
          go_wp2_with fail
          go_roundg (l - (k + 1))
          case measure => omega
          case rel => exact ⟨k + 1, _, by omega, rfl, by go_num, hN.out⟩
      have e0' : (kd == 0) = false := by simpa using e0
      by_cases e1 : kd = 1
      · subst e1
        have cT := Mark_walk _ g n S d hR.spc
        replace hR := Lib.hid hR
        clear e0 e0'
        go_wp2_with fail
        refine cT.mono ?_
        clear cT
        rintro e w3 ⟨rfl, hc⟩
        obtain ⟨S', hN⟩ := hR.out.chd hc
        replace hN := Lib.hid hN
        clear hc
        go_wp2_with fail
        go_roundg (l - (k + 1))
        case measure => omega
        case rel => exact ⟨k + 1, _, by omega, rfl, by go_num, hN.out⟩
      have e1' : (kd == 1) = false := by simpa using e1
      by_cases e2 : kd = 2
      · subst e2
        have cT := Give_walk _ g n S d hR.spc
        replace hR := Lib.hid hR
        clear e0 e0' e1 e1'
        go_wp2_with fail
        refine cT.mono ?_
        clear cT
        rintro e w3 ⟨rfl, hc⟩
        obtain ⟨S', hN⟩ := hR.out.chd hc
        replace hN := Lib.hid hN
        clear hc
        go_wp2_with fail
        go_roundg (l - (k + 1))
        case measure => omega
        case rel => exact ⟨k + 1, _, by omega, rfl, by go_num, hN.out⟩
      have e2' : (kd == 2) = false := by simpa using e2
      have cT := Undo_walk _ g n S d hR.spc
      replace hR := Lib.hid hR
      clear e0 e1 e2
      go_wp2_with fail
      refine cT.mono ?_
      clear cT
      rintro e w3 ⟨rfl, hc⟩
      obtain ⟨S', hN⟩ := hR.out.chd hc
      replace hN := Lib.hid hN
      clear hc
      go_wp2_with fail
      go_roundg (l - (k + 1))
      case measure => omega
      case rel => exact ⟨k + 1, _, by omega, rfl, by go_num, hN.out⟩
    · have hsplit : ((k : Int) < l ∧ ¬ ((k : Int) < 300)) ∨ ¬ ((k : Int) < l) := by omega
      have cS := Settle_walk _ g n S hR.spc
      replace hR := Lib.hid hR
      clear hlt
      rcases hsplit with ⟨hx1, hx2⟩ | hx1
      all_goals
        go_wp2_with fail
        refine cS.mono ?_
        clear cS
        rintro e w3 ⟨rfl, hS3, ht3⟩
        have hN := hR.out.tch hS3 ht3
        have hn2' := fun j => zeroB_ne S j
        obtain ⟨S1, hS1⟩ : ∃ S1, S1 = zeroB S := ⟨_, rfl⟩
        rw [← hS1] at hN hn2'
        replace hn2' := Lib.hid hn2'
        have hW : WasMid w w3 w3 g n 0 S1 (.slice none 0 0) := ⟨hN.spc, own_nil _ _ _ _, Below.refl _ _, hN.wg, hN.bel⟩
        replace hW := Lib.hid hW
        clear hS1 hS3 ht3 hN hR
        go_wp2_with fail
        go_loopg [11, 12] n (fun gh v i wr => ∃ j : Nat, j ≤ n ∧ gh = n - j ∧ i = .int .i64 j ∧ WasMid w w3 wr g n j S1 v)
        case atStart => exact ⟨0, by omega, rfl, rfl, hW.out⟩
        case round =>
          obtain ⟨j, hj, hgj, rfl, hM⟩ := hrel
          clear hW
          by_cases hlt : j < n
          · have cs := State_walk wr g n S1 j hM.spc
            rw [stF_at n j S1 hlt] at cs
            have hlen := stL_len S1 j
            have hsc := Lib.hid (stL_succ S1 j)
            obtain ⟨L, hL⟩ : ∃ L, L = stL S1 j := ⟨_, rfl⟩
            have hrow := hM.row
            have hb3 := hM.b3
            rw [← hL] at hrow hlen
            rw [← hL] at hsc
            replace hM := Lib.hid hM
            replace hL := Lib.hid hL
            replace hrow := Lib.hid hrow
            have hszL : (L.length + 1) * 8 ≤ 140737488355328 := by omega
            replace hlen := Lib.hid hlen
            have hb3' := Lib.hid hb3
            have hsz := hb3.size
            clear hb3
            go_wp2_with (first | (go_at_call 21; refine cs.mono ?_; clear cs; rintro e w5 ⟨rfl, rfl⟩) | (at_builtin; refine print_append_num (w0 := w3) w3.heap.size rfl (.tmp 83) (.tmp 87) 45 3 .i64 8 rfl Tryd.underlying45 info3 (by decide) _ L (S1 j) rfl rfl hrow.out hb3'.out hsz hszL ?_; intro v1 w6 ho hb hg hat; rw [hsc.out] at ho; have hN := Lib.hid (WasMid.mk hM.out.sp3 ho hb hM.out.wg hM.out.bel); clear ho hb hg hat))
            go_roundg (n - (j + 1))
            case measure => omega
            case rel => exact ⟨j + 1, by omega, rfl, by go_num, hN.out⟩
          · have : j = n := by omega
            subst this
            obtain ⟨gw, cw, rfl, hgw, hgl, hcw⟩ := hM.cells hn1
            have hU := hM.und
            have cT := Take_walk wr g j S1 hU.spc (Tab.below hT.out hU.bel hw0)
            replace hU := Lib.hid hU
            replace hcw := Lib.hid hcw
            clear hM
            go_wp2_with fail
            refine cT.mono ?_
            clear cT
            rintro e w4 (⟨i, rfl, hi, hi0, hil, hk4⟩ | ⟨rfl, hno, ht4, hS4⟩)
            · have hU4 := hU.out.tch hk4.spc hk4.tch
              have hT4 := hk4.tch
              clear hk4
              have hs1 : chF j (upd S1 i 1) i 1 = 0 := by rw [chF_at' j i 1 _ hi]; unfold upd; rw [if_pos rfl, if_pos rfl]
              have hn2 := hn2'.out
              have e2 : num j (upd (upd S1 i 1) i 2) 2 = 1 := by rw [upd_upd]; exact num_one j i S1 hi hn2
              have e3 := zero_upd S1 i hi0 hn2
              have e4 := undo_upd S1 i hi0
              have cG := Give_walk w4 g j (upd S1 i 1) i hU4.spc
              have cU := Undo_walk w4 g j (upd S1 i 1) i hU4.spc
              rw [hs1] at cG cU
              replace hs1 := Lib.hid hs1
              replace hn2 := Lib.hid hn2
              replace e2 := Lib.hid e2
              replace e3 := Lib.hid e3
              replace e4 := Lib.hid e4
              replace hil := Lib.hid hil
              replace hU4 := Lib.hid hU4
              replace hT4 := Lib.hid hT4
              clear hi0
              cases st
              · clear cG
                go_wp2_with fail
                refine cU.mono ?_
                clear cU
                rintro e w6 ⟨rfl, hk6⟩
                have hS6 := hk6.spc
                rw [if_pos hs1.out, Int.toNat_natCast, e4.out] at hS6
                have hT6 := hT4.out.trans hk6.tch
                have hU6 := Lib.hid (hU4.out.tch hS6 hk6.tch)
                replace hT6 := Lib.hid hT6
                clear hk6 hS6
                go_wp2_with fail
                have hcw6 : ∀ q, q < j → w6.cell? ⟨gw, q, none⟩ = some (.int .i64 (S1 q : Int)) := fun q hq => (hT6.out.cell (p := ⟨gw, q, none⟩) hgl hgw).trans (hcw.out q hq)
                replace hcw6 := Lib.hid hcw6
                clear hT4 hT6 hs1 e2 e3 e4
                go_loopg [15] j (fun gh v wx => ∃ q : Nat, q ≤ j ∧ gh = j - q ∧ v = .int .i64 q ∧ Drawn0 w6 wx)
                case atStart => exact ⟨0, by omega, rfl, rfl, Drawn0.refl _⟩
                case round =>
                  obtain ⟨q, hq, hgq, rfl, hD⟩ := hrel
                  by_cases hlt : q < j
                  · have q1 := (Drawn0.cell hD _).trans (hcw6.out q hlt)
                    have hil2 := hil.out q
                    have hsp := hU6.out.spc.drawn hD
                    have cs := fun n' => State_walk (wr.drewN n') g j S1 q (hsp.same rfl)
                    simp only [stF_at j q S1 hlt] at cs
                    replace hD := Lib.hid hD
                    clear hsp
                    obtain ⟨s, hs⟩ : ∃ s, s = S1 q := ⟨_, rfl⟩
                    rw [← hs] at q1 hil2
                    simp only [← hs] at cs
                    clear hs
                    have p0 : (0 : Int) ≤ (q : Int) := by omega
                    by_cases hqi : q < i
                    · have hd : decide (q < i) = true := by simpa using hqi
                      have hz : ((s : Int) == 0) = false := by have := hil2 hqi; simpa using this
                      clear hil2 hqi
                      go_wp2_with fail
                      go_quiet ((go_at_call 21; exact Calls.quiet_of_same (cs _)))
                      go_wp2_with fail
                      go_roundg (j - (q + 1))
                      case measure => omega
                      case rel => exact ⟨q + 1, by omega, rfl, by go_num, hD.out.step nq⟩
                    · have hd : decide (q < i) = false := by simpa using hqi
                      clear hil2 hqi
                      go_wp2_with fail
                      go_quiet ((go_at_call 21; exact Calls.quiet_of_same (cs _)))
                      go_wp2_with fail
                      go_roundg (j - (q + 1))
                      case measure => omega
                      case rel => exact ⟨q + 1, by omega, rfl, by go_num, hD.out.step nq⟩
                  · have : q = j := by omega
                    subst this
                    go_wp2_with fail
                    go_ret
                    exact ⟨rfl, hU6.out.bel.trans (hD.below.mono hU6.out.bel.size)⟩
              · clear cU
                go_wp2_with fail
                refine cG.mono ?_
                clear cG
                rintro e w5 ⟨rfl, hk5⟩
                have hS5 := hk5.spc
                rw [if_pos hs1.out, Int.toNat_natCast] at hS5
                have cS := Settle_walk w5 g j _ hS5
                rw [e2.out, e3.out] at cS
                have hT5 := Lib.hid (hT4.out.trans hk5.tch)
                have hU5 := Lib.hid (hU4.out.tch hS5 hk5.tch)
                clear hk5 hS5
                go_wp2_with fail
                refine cS.mono ?_
                clear cS
                rintro e w6 ⟨rfl, hS6, ht6⟩
                have hT6 := Lib.hid (hT5.out.trans ht6)
                have hU6 := Lib.hid (hU5.out.tch hS6 ht6)
                clear hS6 ht6 hU5 hT5
                go_wp2_with fail
                have hcw6 : ∀ q, q < j → w6.cell? ⟨gw, q, none⟩ = some (.int .i64 (S1 q : Int)) := fun q hq => (hT6.out.cell (p := ⟨gw, q, none⟩) hgl hgw).trans (hcw.out q hq)
                replace hcw6 := Lib.hid hcw6
                clear hT4 hT6 hs1 e2 e3 e4
                go_loopg [15] j (fun gh v wx => ∃ q : Nat, q ≤ j ∧ gh = j - q ∧ v = .int .i64 q ∧ Drawn0 w6 wx)
                case atStart => exact ⟨0, by omega, rfl, rfl, Drawn0.refl _⟩
                case round =>
                  obtain ⟨q, hq, hgq, rfl, hD⟩ := hrel
                  by_cases hlt : q < j
                  · have q1 := (Drawn0.cell hD _).trans (hcw6.out q hlt)
                    have hil2 := hil.out q
                    have hsp := hU6.out.spc.drawn hD
                    have cs := fun n' => State_walk (wr.drewN n') g j S1 q (hsp.same rfl)
                    simp only [stF_at j q S1 hlt] at cs
                    replace hD := Lib.hid hD
                    clear hsp
                    obtain ⟨s, hs⟩ : ∃ s, s = S1 q := ⟨_, rfl⟩
                    rw [← hs] at q1 hil2
                    simp only [← hs] at cs
                    clear hs
                    have p0 : (0 : Int) ≤ (q : Int) := by omega
                    by_cases hqi : q < i
                    · have hd : decide (q < i) = true := by simpa using hqi
                      have hz : ((s : Int) == 0) = false := by have := hil2 hqi; simpa using this
                      clear hil2 hqi
                      go_wp2_with fail
                      go_quiet ((go_at_call 21; exact Calls.quiet_of_same (cs _)))
                      go_wp2_with fail
                      go_roundg (j - (q + 1))
                      case measure => omega
                      case rel => exact ⟨q + 1, by omega, rfl, by go_num, hD.out.step nq⟩
                    · have hd : decide (q < i) = false := by simpa using hqi
                      clear hil2 hqi
                      go_wp2_with fail
                      go_quiet ((go_at_call 21; exact Calls.quiet_of_same (cs _)))
                      go_wp2_with fail
                      go_roundg (j - (q + 1))
                      case measure => omega
                      case rel => exact ⟨q + 1, by omega, rfl, by go_num, hD.out.step nq⟩
                  · have : q = j := by omega
                    subst this
                    go_wp2_with fail
                    go_ret
                    exact ⟨rfl, hU6.out.bel.trans (hD.below.mono hU6.out.bel.size)⟩
            · have hN := hU.out.tch hS4 ht4
              have cF := Free_walk w4 g j S1 hS4
              have hz : num j S1 0 = 0 := by
                unfold num cnt
                rw [List.countP_eq_zero]
                intro q hq
                have := hno q (by simpa using hq)
                simpa using this
              rw [hz] at cF
              replace hN := Lib.hid hN
              clear hno ht4 hS4 hz
              go_wp2_with fail
              refine cF.mono ?_
              clear cF
              rintro e w5 ⟨rfl, hd⟩
              go_wp2_with fail
              go_ret
              exact ⟨rfl, hN.out.bel.trans (hd.below.mono hN.out.bel.size)⟩
end Go.Proofs.YtnddahkkdcgpaaaDoor.Sp
