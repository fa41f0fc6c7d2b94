/- The iterator over a set's members: its contract. -/
import Derived.RangeFuncNested
import Derived.RangeFuncBound
import Derived.RangeFuncCalls
import Derived.RangeFuncLeaves
import Derived.RangeFuncFrom
import Derived.Shelf.Abstract
import Derived.Shelf.RegionOpen
import Derived.WalkKit
import Derived.OwnWalkIn
import Derived.TacticsInMore
import Derived.LoopNIn
import Derived.LoopIn
import Derived.RegionIn
import Derived.Test.YtnddahkkdcgpaaaDoorSp7
namespace Go.Proofs.YtnddahkkdcgpaaaDoor.Sp
open Go.RowKit Go.Shelf Go.Proofs Go.Proofs.YtnddahkkdcgpaaaDoor
attribute [local go_sem] Oper.semAt_some
set_option linter.unusedVariables false
theorem grownBy_drew (W : World) : W.grownBy W.drew none := ⟨rfl, rfl, rfl, Nat.le_refl _, fun _ _ _ => rfl⟩
theorem AbidesFrom.drew {β : Type} {B : Nat} {J : β → World → Prop} (h : AbidesFrom B J) {s : β} {W : World} (hs : J s W) : J s W.drew := h s W W.drew none hs (grownBy_drew W) (fun r e => by cases e)
theorem xorred (v : Nat) (h0 : v ≠ 0) (hv : v < 18446744073709551616) : bits BinOp.and IntKind.u64 (v : Int) (IntKind.u64.wrap ((v : Int) - 1)) = ((v &&& (v - 1) : Nat) : Int) := by
  rw [wrapu (v - 1) (by omega) _ (by omega)]
  exact and_u64 v (v - 1) hv (by omega)
theorem Below.drw {n : Nat} {W W' : World} (h : Below n W W') : Below n W W'.drew := h.drew
set_option maxRecDepth 100000 in
set_option maxHeartbeats 4000000 in
theorem rising_in (l Bn n₀ g : Nat) (F : Nat → Nat) (hF : Words F) (J Jx : List Int → World → Prop) (hgn : g < n₀) (n' : Nat) (hn : 1 ≤ n')
    (W : World) (hJ : AbidesFrom W.heap.size J)
    (hY : ∀ pre x W1, J pre W1 → (pre ++ [x]) <+: allF F → YieldAt Fence.wide (n' - 1) Tryd.prog l #[.int .i64 x] W1 fun e W' =>
      (e = .returned (.bool true) ∧ J (pre ++ [x]) W' ∧ Below n₀ W1 W') ∨ (e = .returned (.bool false) ∧ Jx (pre ++ [x]) W'))
    (hBn : W.cell? ⟨Bn, 0, none⟩ = some (.pointer (some ⟨g, 1, none⟩))) (hs : SetAt W g 1 F) (hT : TabAt 0 Lib.deBruijn64tab W) (h0 : J [] W) :
    CallsIn Fence.wide n' Tryd.prog 29 #[.func (.yield l) #[] #[], .pointer (some ⟨Bn, 0, none⟩)] W fun e W' => (∃ v, e = .returned v) ∧
      ((∃ ys, ys = allF F ∧ J ys W') ∨ (∃ pre, pre <+: allF F ∧ Jx pre W')) := by
  refine callsIn_of_wp Tryd.func29 rfl trivial ?_ rfl
  simp only [Tryd.ntmps29, List.size_toArray, List.length_cons, List.length_nil, Nat.reduceAdd, Nat.reduceSub, Array.replicate_succ, Array.replicate_zero, List.push_toArray, List.append_toArray, List.nil_append, List.cons_append]
  gi_wp2
  replace hs := Lib.hid hs
  replace hT := Lib.hid hT
  replace hY := Lib.hid hY
  gi_loopw [6] (fun i wr => ∃ (pre : List Int) (k : Nat), k ≤ 16 ∧ i = .int .i64 k ∧ pre ++ restF F k (16 - k) = allF F ∧ J pre wr ∧ Below n₀ W wr) (fun i _ => 16 - (intOf i).toNat)
  case atStart => exact ⟨[], 0, by omega, rfl, rfl, h0, Below.refl _ _⟩
  case round =>
    obtain ⟨pre, k, hk, rfl, he, hJp, hB⟩ := hrel
    replace he := Lib.hid he
    by_cases hlt : k < 16
    · have hc : wr.cell? ⟨g, 1 + k, none⟩ = some (.int .u64 (F k)) := (hB.cell (p := ⟨g, 1 + k, none⟩) hgn).trans (hs.out k hlt).1
      gi_wp2
      gi_region
      clear hc
      have hJd := AbidesFrom.drew hJ hJp
      have hBd := hB.drew
      have he2 : pre ++ (bitsOf (F k)).map (fun j => ((64 * k + j : Nat) : Int)) ++ restF F (k + 1) (16 - (k + 1)) = allF F := by
        rw [← he.out, List.append_assoc, show 16 - k = 16 - (k + 1) + 1 by omega]
        rfl
      replace he2 := Lib.hid he2
      clear he hJp hB
      generalize wr.drew = wd at *
      gi_wp2
      have h16 : decide ((k : Int) < 16) = true := by simp; omega
      simp only [h16]
      gi_loopw [4] (fun v wr' => ∃ (pre : List Int) (x : Nat), v = .int .u64 x ∧ x < 18446744073709551616 ∧ pre ++ (bitsOf x).map (fun j => ((64 * k + j : Nat) : Int)) ++ restF F (k + 1) (16 - (k + 1)) = allF F ∧ J pre wr' ∧ Below n₀ W wr') (fun v _ => (intOf v).toNat)
      case atStart => exact ⟨pre, F k, rfl, hF k, he2.out, hJd, hBd⟩
      case round =>
        clear he2 hJd hBd
        obtain ⟨pre, x, rfl, hx, he, hJp, hB⟩ := hrel
        by_cases h0x : x = 0
        · subst h0x
          rw [bitsOf_zero, List.map_nil, List.append_nil] at he
          replace he := Lib.hid he
          gi_wp2
          go_roundw
          case rel => exact ⟨pre, k + 1, by omega, by go_num, he.out, hJp, hB⟩
          case measure => simp [intOf]; omega
        · have hx0 : ((x : Int) == 0) = false := by simp; omega
          have key : bits BinOp.and IntKind.u64 (x : Int) ((x : Int) - 1) = ((x &&& (x - 1) : Nat) : Int) := by
            rw [show (x : Int) - 1 = ((x - 1 : Nat) : Int) by omega]
            exact and_u64 x (x - 1) hx (by omega)
          have hlow := low_lt x h0x
          have hcl := ctz_lt x h0x hx
          have hT2 : TabAt 0 Lib.deBruijn64tab wr := fun j hj => (hB.cell (p := ⟨0, j, none⟩) (by show 0 < n₀; omega)).trans (hT.out j hj)
          have ct := callsIn_wide (n := n' - 1) |>.2 (tz_walk x h0x hx wr hT2)
          rw [bitsOf_cons x h0x hx] at he
          obtain ⟨z, hz⟩ : ∃ z : Int, z = 64 * (k : Int) + ((Lib.ctz 64 x : Nat) : Int) := ⟨_, rfl⟩
          have he3 : (pre ++ [z]) ++ (bitsOf (x &&& (x - 1))).map (fun j => ((64 * k + j : Nat) : Int)) ++ restF F (k + 1) (16 - (k + 1)) = allF F := by
            rw [← he, hz]; simp
          obtain ⟨fn, tmps, assign, body, hy, hR⟩ := hY.out pre z wr hJp ⟨(bitsOf (x &&& (x - 1))).map (fun j => ((64 * k + j : Nat) : Int)) ++ restF F (k + 1) (16 - (k + 1)), by rw [← he3]; simp⟩
          rw [hz] at hy
          replace he3 := Lib.hid he3
          clear he hT2
          gi_wp2_with (first | (refine ⟨trivial, ?_⟩; gi_at_call 30; refine ct.mono ?_; clear ct; rintro e w1 ⟨rfl, rfl⟩) | (gi_at_call 30; refine ct.mono ?_; clear ct; rintro e w1 ⟨rfl, rfl⟩))
          refine hR.mono ?_
          rintro e W' (⟨rfl, hJ', hk'⟩ | ⟨rfl, hJx'⟩)
          · gi_wp2
            go_roundw
            case rel => exact ⟨pre ++ [z], x &&& (x - 1), rfl, by omega, he3.out, hJ', hB.trans hk'⟩
            case measure => simp [intOf]; omega
          · gi_wp2
            refine bodyPost_ret (results_none rfl _ _ _) rfl ?_
            exact ⟨⟨_, rfl⟩, .inr ⟨pre ++ [z], ⟨(bitsOf (x &&& (x - 1))).map (fun j => ((64 * k + j : Nat) : Int)) ++ restF F (k + 1) (16 - (k + 1)), by rw [← he3.out]; simp⟩, hJx'⟩⟩
    · have : k = 16 := by omega
      subst this
      gi_wp2
      go_end0
      exact ⟨⟨_, rfl⟩, .inl ⟨pre, by rw [← he.out]; simp [restF], hJp⟩⟩
/-- A member. -/
abbrev Mem (F : Nat → Nat) := { x : Int // x ∈ allF F }
/-- The iterator's contract: it tells the members, in order, to every body that keeps what lay below n₀ while it goes on. -/
theorem rising_stops (Bn n₀ g n' : Nat) (F : Nat → Nat) (hF : Words F) (hgn : g < n₀) (hn : 1 ≤ n') (w : World) (hB : Bn < w.heap.size) (hn₀ : n₀ ≤ w.heap.size)
    (hBn : w.cell? ⟨Bn, 0, none⟩ = some (.pointer (some ⟨g, 1, none⟩))) (hs : SetAt w g 1 F) (hT : TabAt 0 Lib.deBruijn64tab w) :
    SeqStopsK Fence.wide n' Tryd.prog 29 #[.pointer (some ⟨Bn, 0, none⟩)] (fun x : Mem F => #[Value.int .i64 x.1]) (Below n₀) (fun ys => ys.map (·.1) = allF F) (fun pre => pre.map (·.1) <+: allF F) (allF F).length w := fun l J Jx W hW hJ _ hY h0 => by
  refine (rising_in l Bn n₀ g F hF (fun pre W => ∃ p : List (Mem F), p.map (·.1) = pre ∧ J p W) (fun pre W => ∃ p : List (Mem F), p.map (·.1) = pre ∧ Jx p W) hgn n' hn W ?_ ?_ ((hW.cell (p := ⟨Bn, 0, none⟩) hB).trans hBn)
    (fun i hi => ⟨(hW.cell (p := ⟨g, 1 + i, none⟩) (by show g < w.heap.size; omega)).trans (hs i hi).1, (hW.frozen (p := ⟨g, 1 + i, none⟩) (by show g < w.heap.size; omega)).trans (hs i hi).2⟩)
    (fun j hj => (hW.cell (p := ⟨0, j, none⟩) (by show 0 < w.heap.size; omega)).trans (hT j hj)) ⟨[], rfl, h0⟩).mono ?_
  · rintro s A B row ⟨p, e, hp⟩ hg hr
    exact ⟨p, e, hJ p A B row hp hg hr⟩
  · rintro pre x W1 ⟨p, rfl, hp⟩ hpre
    have hx : x ∈ allF F := hpre.subset (by simp)
    have hl := hpre.length_le
    simp only [List.length_append, List.length_map, List.length_cons, List.length_nil] at hl
    refine (hY p ⟨x, hx⟩ W1 hp (by omega)).mono ?_
    rintro e W' (⟨rfl, h1, h2⟩ | ⟨rfl, h1⟩)
    · exact .inl ⟨rfl, ⟨p ++ [⟨x, hx⟩], by simp, h1⟩, h2⟩
    · exact .inr ⟨rfl, ⟨p ++ [⟨x, hx⟩], by simp, h1⟩⟩
  · rintro e W' ⟨hv, (⟨ys, rfl, p, e2, hp⟩ | ⟨pre, hpre, p, rfl, hp⟩)⟩
    · exact ⟨hv, .inl ⟨p, e2, hp⟩⟩
    · exact ⟨hv, .inr ⟨p, hpre, hp⟩⟩
set_option maxRecDepth 100000 in
theorem rising_c (g : Nat) (w : World) : Calls Tryd.prog 26 #[.pointer (some ⟨g, 1, none⟩)] w fun e w' => e = .returned (.func (.func 29) #[] #[.pointer (some ⟨w.heap.size, 0, none⟩)]) ∧ w' = w.alloc (.cells #[.pointer (some ⟨g, 1, none⟩)] 54) := by
  go_enter Tryd.func26, Tryd.ntmps26
  go_wp2
  go_ret
  exact ⟨rfl, rfl⟩
end Go.Proofs.YtnddahkkdcgpaaaDoor.Sp
