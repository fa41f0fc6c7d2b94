/- A new space. -/
import Derived.Test.YtnddahkkdcgpaaaDoorSp4
namespace Go.Proofs.YtnddahkkdcgpaaaDoor.Sp
open Go.RowKit Go.Proofs.YtnddahkkdcgpaaaDoor Go.Proofs.YtnddahkkdcgpaaaDoorW.PrintWords Go.Proofs.YtnddahkkdcgpaaaDoorW.PrintLast Go.Proofs.YtnddahkkdcgpaaaDoorW.PrintMore
set_option linter.unusedVariables false
theorem New_bad (w : World) (n : Int) (h : n < 1 ∨ 1024 < n) :
    Calls Tryd.prog 9 #[.int .i64 n] w fun e w' => e = .returned (.tuple #[.pointer none, .int .i64 201]) ∧ w' = w := by
  rcases h with h | h
  · go_enter Tryd.func9, Tryd.ntmps9
    go_wp2_with fail
    go_ret2
    exact ⟨rfl, rfl⟩
  · have h1 : ¬ n < 1 := by omega
    go_enter Tryd.func9, Tryd.ntmps9
    go_wp2_with fail
    go_ret2
    exact ⟨rfl, rfl⟩
structure NewMid (w w' : World) (n k : Nat) : Prop where
  bel : Below w.heap.size w w'
  head : w'.cell? ⟨w.heap.size, 0, none⟩ = some (.int .i64 n)
  ex : ∃ F, Words F ∧ SetAt w' w.heap.size 1 F ∧ ∀ i, mem F i = decide (i < k)
  back : SetAt w' w.heap.size 17 (fun _ => 0)
theorem new_cell (n : Nat) : (j : Nat) → 0 < j → j < 33 → (#[.int .i64 n, .int .u64 0, .int .u64 0, .int .u64 0, .int .u64 0, .int .u64 0, .int .u64 0, .int .u64 0, .int .u64 0, .int .u64 0, .int .u64 0, .int .u64 0, .int .u64 0, .int .u64 0, .int .u64 0, .int .u64 0, .int .u64 0, .int .u64 0, .int .u64 0, .int .u64 0, .int .u64 0, .int .u64 0, .int .u64 0, .int .u64 0, .int .u64 0, .int .u64 0, .int .u64 0, .int .u64 0, .int .u64 0, .int .u64 0, .int .u64 0, .int .u64 0, .int .u64 0] : Array Value)[j]? = some (.int .u64 ((0 : Nat) : Int))
  | 0, h, _ => absurd h (by decide)
  | 1, _, _ => rfl
  | 2, _, _ => rfl
  | 3, _, _ => rfl
  | 4, _, _ => rfl
  | 5, _, _ => rfl
  | 6, _, _ => rfl
  | 7, _, _ => rfl
  | 8, _, _ => rfl
  | 9, _, _ => rfl
  | 10, _, _ => rfl
  | 11, _, _ => rfl
  | 12, _, _ => rfl
  | 13, _, _ => rfl
  | 14, _, _ => rfl
  | 15, _, _ => rfl
  | 16, _, _ => rfl
  | 17, _, _ => rfl
  | 18, _, _ => rfl
  | 19, _, _ => rfl
  | 20, _, _ => rfl
  | 21, _, _ => rfl
  | 22, _, _ => rfl
  | 23, _, _ => rfl
  | 24, _, _ => rfl
  | 25, _, _ => rfl
  | 26, _, _ => rfl
  | 27, _, _ => rfl
  | 28, _, _ => rfl
  | 29, _, _ => rfl
  | 30, _, _ => rfl
  | 31, _, _ => rfl
  | 32, _, _ => rfl
  | k + 33, _, h => absurd h (by omega)
def newW (w : World) (n : Nat) : World := w.alloc (.cells #[.int .i64 n, .int .u64 0, .int .u64 0, .int .u64 0, .int .u64 0, .int .u64 0, .int .u64 0, .int .u64 0, .int .u64 0, .int .u64 0, .int .u64 0, .int .u64 0, .int .u64 0, .int .u64 0, .int .u64 0, .int .u64 0, .int .u64 0, .int .u64 0, .int .u64 0, .int .u64 0, .int .u64 0, .int .u64 0, .int .u64 0, .int .u64 0, .int .u64 0, .int .u64 0, .int .u64 0, .int .u64 0, .int .u64 0, .int .u64 0, .int .u64 0, .int .u64 0, .int .u64 0] 51)
theorem new_mid (w : World) (n : Nat) : NewMid w (newW w n) n 0 := by
  have hfr : ∀ o, (newW w n).frozen? ⟨w.heap.size, o, none⟩ = false := fun o => World.frozen?_alloc_new w _ 51 o
  refine ⟨(Below.refl _ w).alloc (Nat.le_refl _) _, World.cell?_alloc_new w _ 51 0, ⟨fun _ => 0, fun _ => (by decide : 0 < 18446744073709551616), fun i hi => ⟨?_, hfr _⟩, fun i => by simp [mem]⟩, fun i hi => ⟨?_, hfr _⟩⟩
  · have e := World.cell?_alloc_new w #[.int .i64 n, .int .u64 0, .int .u64 0, .int .u64 0, .int .u64 0, .int .u64 0, .int .u64 0, .int .u64 0, .int .u64 0, .int .u64 0, .int .u64 0, .int .u64 0, .int .u64 0, .int .u64 0, .int .u64 0, .int .u64 0, .int .u64 0, .int .u64 0, .int .u64 0, .int .u64 0, .int .u64 0, .int .u64 0, .int .u64 0, .int .u64 0, .int .u64 0, .int .u64 0, .int .u64 0, .int .u64 0, .int .u64 0, .int .u64 0, .int .u64 0, .int .u64 0, .int .u64 0] 51 (1 + i)
    exact e.trans (new_cell n _ (by omega) (by omega))
  · have e := World.cell?_alloc_new w #[.int .i64 n, .int .u64 0, .int .u64 0, .int .u64 0, .int .u64 0, .int .u64 0, .int .u64 0, .int .u64 0, .int .u64 0, .int .u64 0, .int .u64 0, .int .u64 0, .int .u64 0, .int .u64 0, .int .u64 0, .int .u64 0, .int .u64 0, .int .u64 0, .int .u64 0, .int .u64 0, .int .u64 0, .int .u64 0, .int .u64 0, .int .u64 0, .int .u64 0, .int .u64 0, .int .u64 0, .int .u64 0, .int .u64 0, .int .u64 0, .int .u64 0, .int .u64 0, .int .u64 0] 51 (17 + i)
    exact e.trans (new_cell n _ (by omega) (by omega))
theorem NewMid.step {w w' : World} {n k : Nat} {F : Nat → Nat} (h : NewMid w w' n k) (hF : Words F) (hs : SetAt w' w.heap.size 1 F) (hm : ∀ i, mem F i = decide (i < k)) (hk : k < 1024) :
    NewMid w (w'.setCell ⟨w.heap.size, 1 + k / 64, none⟩ (.int .u64 ((F (k / 64) ^^^ 2 ^ (k % 64) : Nat) : Int))).drew n (k + 1) := by
  refine ⟨(h.bel.setCell (Nat.le_refl _) _).drew, head_other h.head (by omega), ⟨flipF F k, flip_words _ _ hF, hs.flip k hk, fun i => ?_⟩, h.back.other (by omega)⟩
  rw [mem_flip, hm i]
  by_cases e : k = i
  · subst e; simp
  · by_cases h1 : i < k
    · simp [h1, e, Nat.lt_succ_of_lt h1]
    · have h2 : ¬ i < k + 1 := by omega
      simp [h1, e, h2]
set_option maxRecDepth 100000 in
set_option maxHeartbeats 4000000 in
theorem New_walk (w : World) (n : Nat) (h1 : 1 ≤ n) (h2 : n ≤ 1024) :
    Calls Tryd.prog 9 #[.int .i64 n] w fun e w' => e = .returned (.tuple #[.pointer (some ⟨w.heap.size, 0, none⟩), .int .i64 0]) ∧ Spc w' w.heap.size n (fun _ => 0) ∧ Below w.heap.size w w' := by
  have hm := new_mid w n
  obtain ⟨W, hW⟩ : ∃ W, W = newW w n := ⟨_, rfl⟩
  rw [← hW] at hm
  replace hm := Lib.hid hm
  go_enter Tryd.func9, Tryd.ntmps9
  go_wp2_with fail
  change Code.wp _ _ _ _ (newW w n)
  rw [← hW]
  clear hW
  obtain ⟨g, hg⟩ : ∃ g, g = w.heap.size := ⟨_, rfl⟩
  simp only [← hg]
  replace hg := Lib.hid hg
  go_loopw [16] (fun i wr => ∃ k : Nat, k ≤ n ∧ i = .int .i64 k ∧ NewMid w wr n k) (fun i _ => n - (intOf i).toNat)
  case atStart => exact ⟨0, by omega, rfl, hm.out⟩
  case round =>
    obtain ⟨k, hk, rfl, hM⟩ := hrel
    by_cases hlt : k < n
    · obtain ⟨F, hF, hs, hmm⟩ := hM.ex
      have c := flip_walk F wr g 1 k hF (by omega) (by rw [hg.out]; exact hs)
      have hS := Lib.hid (hM.step hF hs hmm (by omega))
      rw [← hg.out] at hS
      clear hs hM hmm hF
      go_wp2_with (go_at_call 23; refine c.mono ?_; clear c; rintro e w1 ⟨⟨u, rfl⟩, rfl⟩)
      go_roundw
      case rel => exact ⟨k + 1, by omega, by go_num, hS.out⟩
      case measure => simp [intOf]; omega
    · have : k = n := by omega
      subst this
      replace hM := Lib.hid hM
      go_wp2_with fail
      go_ret2
      obtain ⟨F, hF, hs, hmm⟩ := hM.out.ex
      refine ⟨by rw [← hg.out]; rfl, ⟨F, fun _ => 0, h1, h2, ?_, hF, fun _ => (by decide : 0 < 18446744073709551616), ?_, ?_, ?_, ?_, fun _ => Nat.zero_le _⟩, ?_⟩
      · exact hM.out.head
      · exact hs
      · exact hM.out.back
      · intro i _; rw [hmm]; simp
      · intro i _; simp [mem]
      · exact hM.out.bel
end Go.Proofs.YtnddahkkdcgpaaaDoor.Sp
