/- The document's space: its functions, walked. -/
import Derived.Test.YtnddahkkdcgpaaaDoorSp10
import Derived.Deep.OwnRows
namespace Go.Proofs.YtnddahkkdcgpaaaDoor.Sp
open Go.RowKit Go.Proofs.YtnddahkkdcgpaaaDoor Go.Proofs.YtnddahkkdcgpaaaDoorW.PrintWords Go.Proofs.YtnddahkkdcgpaaaDoorW.PrintLast Go.Proofs.YtnddahkkdcgpaaaDoorW.PrintMore
set_option linter.unusedVariables false
def numV (S : Nat → Nat) : Nat → Value := fun i => .int .i64 (S i : Int)
/-- The document's space at block b; its row of states at block c. -/
structure Ref (w : World) (b c n : Nat) (S : Nat → Nat) : Prop where
  head : w.cell? ⟨b, 0, none⟩ = some (.slice (some ⟨c, 0, none⟩) n n)
  row : w.rowIs c 3 n (numV S)
theorem Ref.same {w w' : World} {b c n : Nat} {S : Nat → Nat} (h : Ref w b c n S) (h1 : w'.heap[b]? = w.heap[b]?) (h2 : w'.heap[c]? = w.heap[c]?) : Ref w' b c n S :=
  ⟨(World.cell?_of_block (w := w) h1).trans h.head, h.row.of_block h2⟩
theorem Ref.set {w : World} {b c n : Nat} {S : Nat → Nat} (h : Ref w b c n S) (hbc : b ≠ c) (i v : Nat) : Ref (w.setCell ⟨c, i, none⟩ (.int .i64 (v : Int))) b c n (upd S i v) := by
  refine ⟨(World.cell?_setCell_other _ _ _ _ (by intro e; exact hbc (congrArg Addr.block e).symm)).trans h.head, (h.row.set i _).congr fun j hj => ?_⟩
  unfold numV upd
  by_cases e : j = i <;> simp [e]
theorem num_succ (k : Nat) (S : Nat → Nat) (s : Nat) : num (k + 1) S s = num k S s + if S k = s then 1 else 0 := by
  unfold num cnt
  rw [List.range_succ, List.countP_append]
  by_cases h : S k = s <;> simp [h]
theorem num_yes (k : Nat) (S : Nat → Nat) (s : Nat) (h : S k = s) : num (k + 1) S s = num k S s + 1 := by rw [num_succ, if_pos h]
theorem num_no (k : Nat) (S : Nat → Nat) (s : Nat) (h : ¬ S k = s) : num (k + 1) S s = num k S s := by rw [num_succ, if_neg h]; rfl
theorem num_le (k : Nat) (S : Nat → Nat) (s : Nat) : num k S s ≤ k := cnt_le _ _
theorem info3 : (Tryd.prog.info? 3).map (fun i => (i.zero, i.size, i.bytes)) = some (some (.int .i64 0), 1, 8) := by kernel_rfl
theorem info4 : (Tryd.prog.info? 4).map (fun i => (i.zero, i.size, i.bytes)) = some (some (.bool false), 1, 1) := by kernel_rfl
set_option maxRecDepth 100000 in
set_option maxHeartbeats 4000000 in
theorem rNew_walk (w : World) (n : Nat) (h2 : n ≤ 1024) :
    Calls Tryd.prog 14 #[.int .i64 n] w fun e w' => e = .returned (.pointer (some ⟨w.heap.size + 1, 0, none⟩)) ∧ Ref w' (w.heap.size + 1) w.heap.size n (fun _ => 0) ∧ Below w.heap.size w w' := by
  have hmk := run_make_row' (P := Tryd.prog) 45 3 (.int .i64 0) 8 Tryd.underlying45 info3 rfl .i64 .i64 n (by omega) (by omega)
  go_enter Tryd.func14, Tryd.ntmps14
  go_wp2_with fail
  go_ret
  refine ⟨rfl, ⟨?_, ?_⟩, ((Below.refl _ w).alloc (Nat.le_refl _) _).alloc (by simp) _⟩
  · simp
  · exact ((World.rowIs_made w (.int .i64 0) n 3).alloc _).congr fun i hi => rfl
set_option maxRecDepth 100000 in
set_option maxHeartbeats 4000000 in
theorem rState_walk (w : World) (b c n : Nat) (S : Nat → Nat) (a : Int) (hn : n ≤ 1024) (hR : Ref w b c n S) :
    Calls Tryd.prog 22 #[.pointer (some ⟨b, 0, none⟩), .int .i64 a] w fun e w' => e = .returned (.int .i64 (stF n S a)) ∧ w' = w := by
  have hh := hR.head
  unfold stF
  by_cases h0 : a < 0
  · rw [if_pos (.inl h0)]
    go_enter Tryd.func22, Tryd.ntmps22
    go_wp2_with fail
    go_ret
    exact ⟨rfl, rfl⟩
  by_cases h3 : (n : Int) ≤ a
  · rw [if_pos (.inr h3)]
    go_enter Tryd.func22, Tryd.ntmps22
    go_wp2_with fail
    go_ret
    exact ⟨rfl, rfl⟩
  rw [if_neg (by omega)]
  obtain ⟨i, rfl⟩ : ∃ i : Nat, a = (i : Int) := ⟨a.toNat, by omega⟩
  have hi : i < n := by omega
  have hc := hR.row.cell hi
  unfold numV at hc
  rw [Int.toNat_natCast]
  clear hR
  go_enter Tryd.func22, Tryd.ntmps22
  go_wp2_with fail
  go_ret
  exact ⟨rfl, rfl⟩
set_option maxRecDepth 100000 in
set_option maxHeartbeats 4000000 in
theorem rFree_walk (w : World) (b c n : Nat) (S : Nat → Nat) (hn : n ≤ 1024) (hR : Ref w b c n S) :
    Calls Tryd.prog 20 #[.pointer (some ⟨b, 0, none⟩)] w fun e w' => e = .returned (.int .i64 (num n S 0 : Nat)) ∧ w' = w := by
  have hh := hR.head
  replace hR := Lib.hid hR
  go_enter Tryd.func20, Tryd.ntmps20
  go_wp2_with fail
  go_loop [3, 4] (fun m i => ∃ k : Nat, k ≤ n ∧ m = .int .i64 (num k S 0 : Nat) ∧ i = .int .i64 k) (fun m i => n - (intOf i).toNat)
  case atStart => exact ⟨0, by omega, rfl, rfl⟩
  case round =>
    obtain ⟨k, hk, rfl, rfl⟩ := hrel
    by_cases hlt : k < n
    · have hc := hR.out.row.cell hlt
      unfold numV at hc
      have hb := num_le k S 0
      by_cases h0 : S k = 0
      · have e := Lib.hid (num_yes k S 0 h0)
        rw [h0] at hc
        clear h0
        go_wp2_with fail
        go_round
        case rel => exact ⟨k + 1, by omega, by rw [e.out]; go_num, by go_num⟩
        case measure => simp [intOf]; omega
      · have e := Lib.hid (num_no k S 0 h0)
        have h0' : ((S k : Int) == 0) = false := by simpa using h0
        clear h0
        go_wp2_with fail
        go_round
        case rel => exact ⟨k + 1, by omega, by rw [e.out], by go_num⟩
        case measure => simp [intOf]; omega
    · have : k = n := by omega
      subst this
      go_wp2_with fail
      go_ret
      exact ⟨rfl, rfl⟩
set_option maxRecDepth 100000 in
set_option maxHeartbeats 4000000 in
theorem rTake_yes (w : World) (b c n i : Nat) (S : Nat → Nat) (hn : n ≤ 1024) (hR : Ref w b c n S) (hi : i < n) (h0 : S i = 0) (hl : ∀ j, j < i → S j ≠ 0) :
    Calls Tryd.prog 15 #[.pointer (some ⟨b, 0, none⟩)] w fun e w' => e = .returned (.tuple #[.int .i64 i, .int .i64 0]) ∧ w' = w.setCell ⟨c, i, none⟩ (.int .i64 1) := by
  have hh := hR.head
  have hl := Lib.hid hl
  replace hR := Lib.hid hR
  replace h0 := Lib.hid h0
  go_enter Tryd.func15, Tryd.ntmps15
  go_wp2_with fail
  go_loop [4] (fun m => ∃ k : Nat, k ≤ i ∧ m = .int .i64 k) (fun m => n - (intOf m).toNat)
  case atStart => exact ⟨0, by omega, rfl⟩
  case round =>
    obtain ⟨k, hk, rfl⟩ := hrel
    have hkn : k < n := by omega
    have hc := hR.out.row.cell hkn
    have hf := hR.out.row.frozen k
    unfold numV at hc
    by_cases e : k = i
    · subst e
      rw [h0.out] at hc
      go_wp2_with fail
      go_ret2
      exact ⟨rfl, rfl⟩
    · have h1 : ((S k : Int) == 0) = false := by simpa using hl.out k (by omega)
      go_wp2_with fail
      go_round
      case rel => exact ⟨k + 1, by omega, by go_num⟩
      case measure => simp [intOf]; omega
set_option maxRecDepth 100000 in
set_option maxHeartbeats 4000000 in
theorem rTake_no (w : World) (b c n : Nat) (S : Nat → Nat) (hn : n ≤ 1024) (hR : Ref w b c n S) (hl : ∀ j, j < n → S j ≠ 0) :
    Calls Tryd.prog 15 #[.pointer (some ⟨b, 0, none⟩)] w fun e w' => e = .returned (.tuple #[.int .i64 0, .int .i64 28]) ∧ w' = w := by
  have hh := hR.head
  have hl := Lib.hid hl
  replace hR := Lib.hid hR
  go_enter Tryd.func15, Tryd.ntmps15
  go_wp2_with fail
  go_loop [4] (fun m => ∃ k : Nat, k ≤ n ∧ m = .int .i64 k) (fun m => n - (intOf m).toNat)
  case atStart => exact ⟨0, by omega, rfl⟩
  case round =>
    obtain ⟨k, hk, rfl⟩ := hrel
    by_cases hkn : k < n
    · have hc := hR.out.row.cell hkn
      unfold numV at hc
      have h1 : ((S k : Int) == 0) = false := by simpa using hl.out k (by omega)
      go_wp2_with fail
      go_round
      case rel => exact ⟨k + 1, by omega, by go_num⟩
      case measure => simp [intOf]; omega
    · go_wp2_with fail
      go_ret2
      exact ⟨rfl, rfl⟩
/-- What the document's change leaves. -/
def rChd (w : World) (c n : Nat) (S : Nat → Nat) (a : Int) (f v : Nat) : World := if chF n S a f = 0 then w.setCell ⟨c, a.toNat, none⟩ (.int .i64 (v : Int)) else w
set_option maxRecDepth 100000 in
set_option maxHeartbeats 4000000 in
theorem rChange_walk (w : World) (b c n : Nat) (S : Nat → Nat) (a : Int) (f v : Nat) (hn : n ≤ 1024) (hR : Ref w b c n S) :
    Calls Tryd.prog 17 #[.pointer (some ⟨b, 0, none⟩), .int .i64 a, .int .i64 f, .int .i64 v] w fun e w' => e = .returned (.int .i64 (chF n S a f)) ∧ w' = rChd w c n S a f v := by
  have hh := hR.head
  have cS := rState_walk w b c n S a hn hR
  unfold rChd
  by_cases h1 : a < 0 ∨ (n : Int) ≤ a
  · have hs : stF n S a = -1 := by unfold stF; rw [if_pos h1]
    have hc : chF n S a f = 201 := by unfold chF; rw [if_pos hs]
    rw [hs] at cS
    rw [hc, if_neg (by decide)]
    clear h1 hs hc hR
    go_enter Tryd.func17, Tryd.ntmps17
    go_wp2_with (go_at_call 22; refine cS.mono ?_; clear cS; rintro e w1 ⟨rfl, rfl⟩)
    go_ret
    exact ⟨rfl, rfl⟩
  have hs : stF n S a = (S a.toNat : Int) := by unfold stF; rw [if_neg h1]
  obtain ⟨i, rfl⟩ : ∃ i : Nat, a = (i : Int) := ⟨a.toNat, by omega⟩
  have hi : i < n := by omega
  rw [Int.toNat_natCast] at hs ⊢
  have hcl := hR.row.cell hi
  have hfz := hR.row.frozen i
  unfold numV at hcl
  have hne : (S i : Int) ≠ -1 := by omega
  rw [hs] at cS
  by_cases h2 : S i = f
  · have hc : chF n S i f = 0 := by unfold chF; rw [hs, if_neg hne, if_pos (by rw [h2])]
    rw [hc, if_pos rfl]
    rw [h2] at cS hcl
    clear h1 hs hc hR hne h2
    go_enter Tryd.func17, Tryd.ntmps17
    go_wp2_with (go_at_call 22; refine cS.mono ?_; clear cS; rintro e w1 ⟨rfl, rfl⟩)
    go_ret
    exact ⟨rfl, rfl⟩
  · have hc : chF n S i f = 205 := by unfold chF; rw [hs, if_neg hne, if_neg (by omega)]
    rw [hc, if_neg (by decide)]
    have h3 : ((S i : Int) == (f : Int)) = false := by simp; omega
    have h4 : ((S i : Int) != (f : Int)) = true := by simp; omega
    clear h1 hs hc hR hne h2
    go_enter Tryd.func17, Tryd.ntmps17
    go_wp2_with (go_at_call 22; refine cS.mono ?_; clear cS; rintro e w1 ⟨rfl, rfl⟩)
    go_ret
    exact ⟨rfl, rfl⟩
theorem rChd_ref {w : World} {b c n : Nat} {S : Nat → Nat} {a : Int} {f v : Nat} (hR : Ref w b c n S) (hbc : b ≠ c) : Ref (rChd w c n S a f v) b c n (if chF n S a f = 0 then upd S a.toNat v else S) := by
  unfold rChd
  split
  · exact hR.set hbc _ _
  · exact hR
def zeroTo (k : Nat) (S : Nat → Nat) : Nat → Nat := fun i => if i < k then zeroB S i else S i
theorem zeroTo_zero (S : Nat → Nat) : zeroTo 0 S = S := by funext i; simp [zeroTo]
theorem zeroTo_yes (k : Nat) (S : Nat → Nat) (h : S k = 2) : upd (zeroTo k S) k 0 = zeroTo (k + 1) S := by
  funext i
  unfold upd zeroTo
  by_cases e : i = k
  · subst e; simp [zeroB, h]
  · rw [if_neg e]
    by_cases h1 : i < k
    · rw [if_pos h1, if_pos (by omega)]
    · rw [if_neg h1, if_neg (by omega)]
theorem zeroTo_no (k : Nat) (S : Nat → Nat) (h : S k ≠ 2) : zeroTo k S = zeroTo (k + 1) S := by
  funext i
  unfold zeroTo
  by_cases e : i = k
  · subst e; simp [zeroB, h]
  · by_cases h1 : i < k
    · rw [if_pos h1, if_pos (by omega)]
    · rw [if_neg h1, if_neg (by omega)]
theorem zeroTo_end {w : World} {b c n : Nat} {S : Nat → Nat} (h : Ref w b c n (zeroTo n S)) : Ref w b c n (zeroB S) :=
  ⟨h.head, h.row.congr fun i hi => by unfold numV zeroTo; rw [if_pos hi]⟩
structure RSet (w wr : World) (b c n k : Nat) (S : Nat → Nat) : Prop where
  ref : Ref wr b c n (zeroTo k S)
  tch : Tch c w wr
set_option maxRecDepth 100000 in
set_option maxHeartbeats 4000000 in
theorem rSettle_walk (w : World) (b c n : Nat) (S : Nat → Nat) (hn : n ≤ 1024) (hbc : b ≠ c) (hR : Ref w b c n S) :
    Calls Tryd.prog 19 #[.pointer (some ⟨b, 0, none⟩)] w fun e w' => e = .returned (.int .i64 (num n S 2 : Nat)) ∧ Ref w' b c n (zeroB S) ∧ Tch c w w' := by
  have h0 : RSet w w b c n 0 S := ⟨by rw [zeroTo_zero]; exact hR, Tch.refl _ _⟩
  replace h0 := Lib.hid h0
  replace hbc := Lib.hid hbc
  have hb : b < w.heap.size := cell_lt hR.head
  clear hR
  go_enter Tryd.func19, Tryd.ntmps19
  go_wp2_with fail
  go_loopw [3, 4] (fun m i wr => ∃ k : Nat, k ≤ n ∧ m = .int .i64 (num k S 2 : Nat) ∧ i = .int .i64 k ∧ RSet w wr b c n k S) (fun m i _ => n - (intOf i).toNat)
  case atStart => exact ⟨0, by omega, rfl, rfl, h0.out⟩
  case round =>
    obtain ⟨k, hk, rfl, rfl, hM⟩ := hrel
    have hh := hM.ref.head
    by_cases hlt : k < n
    · have hc := hM.ref.row.cell hlt
      have hf := hM.ref.row.frozen k
      have hle := num_le k S 2
      have hz : zeroTo k S k = S k := by simp [zeroTo]
      unfold numV at hc
      rw [hz] at hc
      by_cases h2 : S k = 2
      · have e := Lib.hid (num_yes k S 2 h2)
        have hN : RSet w _ b c n (k + 1) S := ⟨by rw [← zeroTo_yes k S h2]; exact hM.ref.set hbc.out k 0, hM.tch.set k (.int .i64 ((0 : Nat) : Int))⟩
        replace hN := Lib.hid hN
        rw [h2] at hc
        clear h2 hM hz
        go_wp2_with fail
        go_roundw
        case rel => exact ⟨k + 1, by omega, by rw [e.out]; go_num, by go_num, hN.out⟩
        case measure => simp [intOf]; omega
      · have e := Lib.hid (num_no k S 2 h2)
        have hN : RSet w _ b c n (k + 1) S := ⟨by rw [← zeroTo_no k S h2]; exact hM.ref, hM.tch⟩
        replace hN := Lib.hid hN
        have h3 : ((S k : Int) == 2) = false := by simp; omega
        clear h2 hM hz
        go_wp2_with fail
        go_roundw
        case rel => exact ⟨k + 1, by omega, by rw [e.out], by go_num, hN.out⟩
        case measure => simp [intOf]; omega
    · have : k = n := by omega
      subst this
      replace hM := Lib.hid hM
      go_wp2_with fail
      go_ret
      exact ⟨rfl, zeroTo_end hM.out.ref, hM.out.tch⟩
end Go.Proofs.YtnddahkkdcgpaaaDoor.Sp
