/- A block's change of state: Mark, Give, Undo; how many are free. -/
import Derived.Test.YtnddahkkdcgpaaaDoorSp3
namespace Go.Proofs.YtnddahkkdcgpaaaDoor.Sp
open Go.RowKit Go.Proofs.YtnddahkkdcgpaaaDoor Go.Proofs.YtnddahkkdcgpaaaDoorW.PrintWords Go.Proofs.YtnddahkkdcgpaaaDoorW.PrintLast Go.Proofs.YtnddahkkdcgpaaaDoorW.PrintMore
set_option linter.unusedVariables false
theorem SetAt.other {F : Nat → Nat} {w : World} {g o o' : Nat} {v : Value} (h : SetAt w g o F) (ho : o' < o ∨ o + 16 ≤ o') : SetAt (w.setCell ⟨g, o', none⟩ v).drew g o F := by
  intro j hj
  obtain ⟨hc, hf⟩ := h j hj
  refine ⟨?_, (World.frozen?_setCell ..).trans hf⟩
  refine Eq.trans ?_ hc
  exact World.cell?_setCell_other _ _ _ _ (by intro hh; have := congrArg Addr.off hh; dsimp only at this; omega)
theorem head_other {w : World} {g o' : Nat} {v u : Value} (h : w.cell? ⟨g, 0, none⟩ = some u) (ho : 0 < o') : (w.setCell ⟨g, o', none⟩ v).drew.cell? ⟨g, 0, none⟩ = some u := by
  refine Eq.trans ?_ h
  exact World.cell?_setCell_other _ _ _ _ (by intro hh; have := congrArg Addr.off hh; dsimp only at this; omega)
theorem Rep.flipFree {w : World} {g n : Nat} {S F B : Nat → Nat} (h : Rep w g n S F B) (i v : Nat) (hi : i < n) (hv : (S i = 0 ∧ v = 1) ∨ (S i = 1 ∧ v = 0)) :
    Rep (w.setCell ⟨g, 1 + i / 64, none⟩ (.int .u64 ((F (i / 64) ^^^ 2 ^ (i % 64) : Nat) : Int))).drew g n (upd S i v) (flipF F i) B := by
  have n2 := h.n2
  refine ⟨h.n1, h.n2, head_other h.head (by omega), flip_words _ _ h.wf, h.wb, h.free.flip i (by omega), h.back.other (by omega), ?_, ?_, ?_⟩
  · intro j hj
    rw [mem_flip, h.mf j hj]
    unfold upd
    by_cases e : j = i
    · subst e
      simp only [hi]
      rcases hv with ⟨h1, rfl⟩ | ⟨h1, rfl⟩ <;> simp [h1]
    · have e' : ¬ i = j := fun x => e x.symm
      simp [e, e']
  · intro j hj
    rw [h.mb j hj]
    unfold upd
    by_cases e : j = i
    · subst e
      simp only [hi]
      rcases hv with ⟨h1, rfl⟩ | ⟨h1, rfl⟩ <;> simp [h1]
    · simp [e]
  · intro j
    unfold upd
    split
    · omega
    · exact h.le j
theorem Rep.flipBack {w : World} {g n : Nat} {S F B : Nat → Nat} (h : Rep w g n S F B) (i : Nat) (hi : i < n) (hv : S i = 1) :
    Rep (w.setCell ⟨g, 17 + i / 64, none⟩ (.int .u64 ((B (i / 64) ^^^ 2 ^ (i % 64) : Nat) : Int))).drew g n (upd S i 2) F (flipF B i) := by
  have n2 := h.n2
  refine ⟨h.n1, h.n2, head_other h.head (by omega), h.wf, flip_words _ _ h.wb, h.free.other (by omega), h.back.flip i (by omega), ?_, ?_, ?_⟩
  · intro j hj
    rw [h.mf j hj]
    unfold upd
    by_cases e : j = i
    · subst e
      simp [hv]
    · simp [e]
  · intro j hj
    rw [mem_flip, h.mb j hj]
    unfold upd
    by_cases e : j = i
    · subst e
      simp [hv, hi]
    · have e' : ¬ i = j := fun x => e x.symm
      simp [e, e']
  · intro j
    unfold upd
    split
    · omega
    · exact h.le j
/-- What a change answers: of a block's state, and the state it must be in. -/
def chF (n : Nat) (S : Nat → Nat) (a : Int) (f : Nat) : Int := if stF n S a = -1 then 201 else if stF n S a = f then 0 else 205
structure Chd (w w' : World) (g n : Nat) (S : Nat → Nat) (a : Int) (f v : Nat) : Prop where
  tch : Tch g w w'
  spc : Spc w' g n (if chF n S a f = 0 then upd S a.toNat v else S)
set_option maxRecDepth 100000 in
set_option maxHeartbeats 4000000 in
theorem change_walk (w : World) (g n : Nat) (S : Nat → Nat) (a : Int) (f v o : Nat) (hR : Spc w g n S) (ho : (o = 1 ∧ ((f = 0 ∧ v = 1) ∨ (f = 1 ∧ v = 0))) ∨ (o = 17 ∧ f = 1 ∧ v = 2)) :
    Calls Tryd.prog 24 #[.pointer (some ⟨g, 0, none⟩), .int .i64 a, .int .i64 f, .pointer (some ⟨g, o, none⟩)] w fun e w' => e = .returned (.int .i64 (chF n S a f)) ∧ Chd w w' g n S a f v := by
  have cS := State_walk w g n S a hR
  have hpost : ∀ w', w' = w → chF n S a f ≠ 0 → Chd w w' g n S a f v := by
    rintro w' rfl h
    exact ⟨Tch.refl _ _, by rw [if_neg h]; exact hR⟩
  by_cases h1 : stF n S a = -1
  · have hc : chF n S a f = 201 := by unfold chF; rw [if_pos h1]
    rw [h1] at cS
    have hp := Lib.hid (hpost w rfl (by rw [hc]; decide))
    clear hpost hR
    rw [hc]
    go_enter Tryd.func24, Tryd.ntmps24
    go_wp2_with (go_at_call 21; refine cS.mono ?_; clear cS; rintro e w1 ⟨rfl, rfl⟩)
    go_ret
    exact ⟨rfl, hp.out⟩
  have hin : 0 ≤ a ∧ a < n := by
    unfold stF at h1
    by_cases hh : a < 0 ∨ (n : Int) ≤ a
    · rw [if_pos hh] at h1; exact absurd rfl h1
    · omega
  obtain ⟨i, rfl⟩ : ∃ i : Nat, a = (i : Int) := ⟨a.toNat, by omega⟩
  have hi : i < n := by omega
  have hst : stF n S i = (S i : Int) := by unfold stF; rw [if_neg (by omega)]; rfl
  rw [hst] at cS h1
  by_cases h2 : S i = f
  · have hc : chF n S i f = 0 := by unfold chF; rw [hst, if_neg h1, if_pos (by rw [h2])]
    obtain ⟨F, B, hR⟩ := hR
    have n2 := hR.n2
    rw [h2] at cS
    have hw : ∃ W, (Calls Tryd.prog 23 #[.pointer (some ⟨g, o, none⟩), .int .i64 i] w fun e w' => (∃ v, e = .returned v) ∧ w' = W) ∧ Chd w W g n S i f v := by
      rcases ho with ⟨rfl, hv⟩ | ⟨rfl, rfl, rfl⟩
      · exact ⟨(w.setCell ⟨g, 1 + i / 64, none⟩ (.int .u64 ((F (i / 64) ^^^ 2 ^ (i % 64) : Nat) : Int))).drew, flip_walk F w g 1 i hR.wf (by omega) hR.free,
          ((Tch.refl g w).set _ _).drew, by rw [if_pos hc]; exact ⟨_, _, hR.flipFree i v hi (by rw [h2]; omega)⟩⟩
      · exact ⟨(w.setCell ⟨g, 17 + i / 64, none⟩ (.int .u64 ((B (i / 64) ^^^ 2 ^ (i % 64) : Nat) : Int))).drew, flip_walk B w g 17 i hR.wb (by omega) hR.back,
          ((Tch.refl g w).set _ _).drew, by rw [if_pos hc]; exact ⟨_, _, hR.flipBack i hi h2⟩⟩
    obtain ⟨W, cf, hC⟩ := hw
    have hf0 : f = 0 ∨ f = 1 := by omega
    have hC := Lib.hid hC
    clear hpost hR hst h1
    rw [hc]
    rcases hf0 with rfl | rfl
    all_goals
      go_enter Tryd.func24, Tryd.ntmps24
      go_wp2_with (first
        | (go_at_call 21; refine cS.mono ?_; clear cS; rintro e w1 ⟨rfl, rfl⟩)
        | (go_at_call 23; refine cf.mono ?_; clear cf; rintro e w1 ⟨⟨u, rfl⟩, rfl⟩))
      go_ret
      exact ⟨rfl, hC.out⟩
  · have hc : chF n S i f = 205 := by unfold chF; rw [hst, if_neg h1, if_neg (by omega)]
    have hp := Lib.hid (hpost w rfl (by rw [hc]; decide))
    clear hpost hR
    rw [hc]
    have h3 : ((S i : Int) == (f : Int)) = false := by simp; omega
    have h4 : ((S i : Int) == -1) = false := by simp
    go_enter Tryd.func24, Tryd.ntmps24
    go_wp2_with (go_at_call 21; refine cS.mono ?_; clear cS; rintro e w1 ⟨rfl, rfl⟩)
    go_ret
    exact ⟨rfl, hp.out⟩
set_option maxRecDepth 100000 in
set_option maxHeartbeats 4000000 in
theorem Mark_walk (w : World) (g n : Nat) (S : Nat → Nat) (a : Int) (hR : Spc w g n S) :
    Calls Tryd.prog 16 #[.pointer (some ⟨g, 0, none⟩), .int .i64 a] w fun e w' => e = .returned (.int .i64 (chF n S a 0)) ∧ Chd w w' g n S a 0 1 := by
  have c := change_walk w g n S a 0 1 1 hR (by omega)
  go_enter Tryd.func16, Tryd.ntmps16
  go_wp2_with (go_at_call 24; refine c.mono ?_; clear c; rintro e w1 ⟨rfl, hc⟩)
  go_ret
  exact ⟨rfl, hc⟩
set_option maxRecDepth 100000 in
set_option maxHeartbeats 4000000 in
theorem Give_walk (w : World) (g n : Nat) (S : Nat → Nat) (a : Int) (hR : Spc w g n S) :
    Calls Tryd.prog 10 #[.pointer (some ⟨g, 0, none⟩), .int .i64 a] w fun e w' => e = .returned (.int .i64 (chF n S a 1)) ∧ Chd w w' g n S a 1 2 := by
  have c := change_walk w g n S a 1 2 17 hR (by omega)
  go_enter Tryd.func10, Tryd.ntmps10
  go_wp2_with (go_at_call 24; refine c.mono ?_; clear c; rintro e w1 ⟨rfl, hc⟩)
  go_ret
  exact ⟨rfl, hc⟩
set_option maxRecDepth 100000 in
set_option maxHeartbeats 4000000 in
theorem Undo_walk (w : World) (g n : Nat) (S : Nat → Nat) (a : Int) (hR : Spc w g n S) :
    Calls Tryd.prog 18 #[.pointer (some ⟨g, 0, none⟩), .int .i64 a] w fun e w' => e = .returned (.int .i64 (chF n S a 1)) ∧ Chd w w' g n S a 1 0 := by
  have c := change_walk w g n S a 1 0 1 hR (by omega)
  go_enter Tryd.func18, Tryd.ntmps18
  go_wp2_with (go_at_call 24; refine c.mono ?_; clear c; rintro e w1 ⟨rfl, hc⟩)
  go_ret
  exact ⟨rfl, hc⟩
theorem cnt_ext {p q : Nat → Bool} {k : Nat} (h : ∀ i, i < k → p i = q i) : cnt p k = cnt q k := by
  unfold cnt
  exact List.countP_congr (fun i hi => by rw [h i (by simpa using hi)])
theorem cnt_cut (p : Nat → Bool) (n m : Nat) (h : n ≤ m) : cnt (fun i => decide (i < n) && p i) m = cnt p n := by
  obtain ⟨k, rfl⟩ := Nat.exists_eq_add_of_le h
  unfold cnt
  rw [List.range_add, List.countP_append, List.countP_map]
  have h1 : List.countP ((fun i => decide (i < n) && p i) ∘ fun x => n + x) (List.range k) = 0 := by
    rw [List.countP_eq_zero]
    intro a _
    have : ¬ n + a < n := by omega
    simp [this]
  rw [h1, Nat.add_zero]
  exact List.countP_congr (fun i hi => by simp at hi; simp [hi])
/-- How many of the blocks are in the state s. -/
def num (n : Nat) (S : Nat → Nat) (s : Nat) : Nat := cnt (fun i => S i == s) n
theorem Rep.cntF {w : World} {g n : Nat} {S F B : Nat → Nat} (h : Rep w g n S F B) : cnt (mem F) 1024 = num n S 0 := by
  rw [cnt_ext h.mf]; exact cnt_cut _ _ _ h.n2
theorem Rep.cntB {w : World} {g n : Nat} {S F B : Nat → Nat} (h : Rep w g n S F B) : cnt (mem B) 1024 = num n S 2 := by
  rw [cnt_ext h.mb]; exact cnt_cut _ _ _ h.n2
set_option maxRecDepth 100000 in
set_option maxHeartbeats 4000000 in
theorem Free_walk (w : World) (g n : Nat) (S : Nat → Nat) (hR : Spc w g n S) :
    Calls Tryd.prog 13 #[.pointer (some ⟨g, 0, none⟩)] w fun e w' => e = .returned (.int .i64 (num n S 0 : Nat)) ∧ Drawn0 w w' := by
  obtain ⟨F, B, hR⟩ := hR
  have hh := hR.head
  have c := many_walk F w g 1 hR.wf hR.free
  rw [hR.cntF] at c
  clear hR
  go_enter Tryd.func13, Tryd.ntmps13
  go_wp2_with (go_at_call 25; refine c.mono ?_; clear c; rintro e w1 ⟨rfl, hc⟩)
  go_ret
  exact ⟨rfl, hc⟩
end Go.Proofs.YtnddahkkdcgpaaaDoor.Sp
