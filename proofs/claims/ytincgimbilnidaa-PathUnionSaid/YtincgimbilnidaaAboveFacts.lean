/- What path.Above comes to: small facts on its two rows. -/
import Derived.Test.YtincgimbilnidaaRising
namespace Go.Proofs.Ytincgimbilnidaa.MyAbove
open Go.RowKit Go.Sort Go.Proofs.Ytincgimbilnidaa.PPathSizes Go.Proofs.YtincgimbilnidaaW.PrintWords Go.Proofs.YtincgimbilnidaaW.PrintLast Go.Proofs.YtincgimbilnidaaW.PrintMore
set_option linter.unusedVariables false
abbrev spotC (p : Int × Int) : List Value := [.int .i64 p.1, .int .i64 p.2]
structure AtRow (w : World) (base : Nat) (v : Value) (xs : List Int) : Prop where
  own : w.ownsRow base 3 1 v xs.length (nums .i64 xs)
structure OutRow (w : World) (base : Nat) (v : Value) (ys : List (Int × Int)) : Prop where
  own : w.ownsRow base 33 2 v ys.length (ys.flatMap spotC)
structure Bel (w w' : World) : Prop where
  out : Below w.heap.size w w'
theorem Bel.drawn {w w1 w2 : World} (h : Bel w w1) (hd : Drawn0 w1 w2) : Bel w w2 := ⟨h.out.trans (hd.below.mono h.out.size)⟩
theorem AtRow.drawn {w w' : World} {base : Nat} {v : Value} {xs : List Int} (h : AtRow w base v xs) (hd : Drawn0 w w') : AtRow w' base v xs := ⟨pw_own_below h.own hd.below⟩
theorem OutRow.drawn {w w' : World} {base : Nat} {v : Value} {xs : List (Int × Int)} (h : OutRow w base v xs) (hd : Drawn0 w w') : OutRow w' base v xs := ⟨pw_own_below h.own hd.below⟩
def filt (s : Int) (zs : List Int) : List Int := zs.filter fun x => decide (0 ≤ x) && decide (x < s)
theorem filt_snoc (s : Int) (zs : List Int) (k : Nat) (h : k < zs.length) : filt s (zs.take (k + 1)) = filt s (zs.take k) ++ (if 0 ≤ zs.getD k 0 ∧ zs.getD k 0 < s then [zs.getD k 0] else []) := by
  unfold filt
  rw [List.take_succ_eq_append_getElem h, List.filter_append]
  have e : zs.getD k 0 = zs[k] := by simp [List.getD_eq_getElem?_getD, h]
  rw [e]
  by_cases hc : 0 ≤ zs[k] ∧ zs[k] < s
  · rw [if_pos hc]; simp [hc.1, hc.2]
  · rw [if_neg hc]
    have : (decide (0 ≤ zs[k]) && decide (zs[k] < s)) = false := by
      rw [Bool.and_eq_false_iff]; simp only [decide_eq_false_iff_not]; omega
    simp [this]
structure BlockAt (w : World) (base g cap : Nat) (xs : List Int) : Prop where
  lo : base ≤ g
  fits : xs.length ≤ cap
  most : cap ≤ maxLen
  row : ∃ cur, w.heap[g]? = some (.cells cur 3 (0, 0)) ∧ cur.size = cap ∧ cur.toList.take xs.length = nums .i64 xs
theorem AtRow.block {w : World} {base : Nat} {v : Value} {xs : List Int} (h : AtRow w base v xs) (hne : xs ≠ []) : ∃ g cap, v = .slice (some ⟨g, 0, none⟩) xs.length cap ∧ BlockAt w base g cap xs := by
  rcases h.own.2 with ⟨_, h0⟩ | ⟨g, cap, cur, rfl, hb, hh, h1, h2, h3, h4⟩
  · exact absurd (List.eq_nil_of_length_eq_zero h0) hne
  · exact ⟨g, cap, rfl, hb, h1, h2, cur, hh, by omega, by simpa using h4⟩
theorem BlockAt.own {w : World} {base g cap : Nat} {xs : List Int} (h : BlockAt w base g cap xs) : AtRow w base (.slice (some ⟨g, 0, none⟩) xs.length cap) xs := by
  obtain ⟨cur, h1, h2, h3⟩ := h.row
  exact ⟨⟨by simp [nums], .inr ⟨g, cap, cur, rfl, h.lo, h1, h.fits, h.most, by omega, by simpa using h3⟩⟩⟩
theorem BlockAt.cell {w : World} {base g cap : Nat} {xs : List Int} (h : BlockAt w base g cap xs) (k : Nat) (hk : k < xs.length) : w.cell? ⟨g, k, none⟩ = some (.int .i64 (xs.getD k 0)) := by
  obtain ⟨cur, h1, h2, h3⟩ := h.row
  rw [cell_of_row _ _ _ _ _ _ h1]
  have h4 := congrArg (·[k]?) h3
  simp only [List.getElem?_take_of_lt hk, Array.getElem?_toList] at h4
  rw [h4]
  simp [nums, hk, List.getD_eq_getElem?_getD]
theorem BlockAt.free {w : World} {base g cap : Nat} {xs : List Int} (h : BlockAt w base g cap xs) (k : Nat) : w.frozen? ⟨g, k, none⟩ = false := by
  obtain ⟨cur, h1, h2, h3⟩ := h.row
  simp [World.frozen?, h1]
theorem BlockAt.set {w : World} {base g cap : Nat} {xs : List Int} (h : BlockAt w base g cap xs) (k : Nat) (x : Int) : BlockAt (w.setCell ⟨g, k, none⟩ (.int .i64 x)) base g cap (xs.set k x) := by
  obtain ⟨cur, h1, h2, h3⟩ := h.row
  refine ⟨h.lo, by simpa using h.fits, h.most, _, heap_setCell_same _ _ _ _ _ _ h1, by simpa using h2, ?_⟩
  have : nums .i64 (xs.set k x) = (nums .i64 xs).set k (.int .i64 x) := by simp [nums, List.map_set]
  rw [this, ← h3, Array.toList_setIfInBounds, List.length_set, List.take_set]
theorem OutRow.far {w w' : World} {base g cap : Nat} {v : Value} {xs : List Int} {ys : List (Int × Int)} (h : OutRow w base v ys) (hb : BlockAt w base g cap xs) (hg : w.grownBy w' (some g)) : OutRow w' base v ys := by
  refine ⟨own_other h.own hg ?_⟩
  have := own_type_ne h.own hb.own.own (by decide)
  simpa [Value.ownBlock] using this
theorem grownBy_set (w : World) (g k : Nat) (u : Value) : w.grownBy (w.setCell ⟨g, k, none⟩ u) (some g) :=
  ⟨rfl, rfl, rfl, by simp [World.setCell], fun j _ hne => heap_setCell_other _ _ _ _ (fun e => hne (by rw [e]))⟩
theorem Bel.grown {w w1 w2 : World} {g : Nat} (h : Bel w w1) (hg : w1.grownBy w2 (some g)) (hb : w.heap.size ≤ g) : Bel w w2 := ⟨h.out.grown hg h.out.size (fun k e => by cases e; exact hb)⟩
theorem Bel.lo {w w1 : World} (h : Bel w w1) : w.heap.size ≤ w1.heap.size := h.out.size
theorem rising_at (g cap : Nat) (xs : List Int) (w0 w : World) (hb : BlockAt w w0.heap.size g cap xs) (hsz : xs.length ≤ 1000) :
    Calls Try.prog 20 #[.slice (some ⟨g, 0, none⟩) xs.length cap] w fun e w' => e = .returned (.slice (some ⟨g, 0, none⟩) (risF xs).length cap) ∧ w.grownBy w' (some g) ∧ BlockAt w' w0.heap.size g cap (risF xs) := by
  obtain ⟨cur, h1, h2, h3⟩ := hb.row
  refine (rising_any g cap cur xs w h1 h3 hb.fits (by omega) (by omega)).mono ?_
  rintro e w' ⟨rfl, hg, cur', h4, h5, h6⟩
  have hl : (risF xs).length ≤ xs.length := by unfold risF; exact Nat.le_trans (compact_le _) (by simp)
  exact ⟨rfl, hg, hb.lo, Nat.le_trans hl hb.fits, hb.most, cur', h4, by omega, h6⟩
def mixF (k : Nat) (A : List Int) : List Int := (A.take k).map (· / 4) ++ A.drop k
theorem mixF_length (k : Nat) (A : List Int) : (mixF k A).length = A.length := by simp [mixF]; omega
theorem mixF_at (k : Nat) (A : List Int) (h : k < A.length) : (mixF k A).getD k 0 = A.getD k 0 := by
  unfold mixF
  rw [List.getD_eq_getElem?_getD, List.getElem?_append_right (by simp; omega)]
  simp [List.getD_eq_getElem?_getD, show min k A.length = k by omega]
theorem mixF_set (k : Nat) (A : List Int) (h : k < A.length) : (mixF k A).set k (A.getD k 0 / 4) = mixF (k + 1) A := by
  unfold mixF
  have hl : ((A.take k).map (· / 4)).length = k := by simp; omega
  rw [List.set_append_right _ _ (by omega), hl, Nat.sub_self, List.drop_eq_getElem_cons h, List.set_cons_zero, List.take_succ_eq_append_getElem h, List.map_append]
  have e : A.getD k 0 = A[k] := by simp [List.getD_eq_getElem?_getD, h]
  rw [e]
  simp
theorem mixF_all (A : List Int) : mixF A.length A = A.map (· / 4) := by simp [mixF]
theorem mixF_zero (A : List Int) : mixF 0 A = A := by simp [mixF]
def levelsF : Nat → List Int → List (Int × Int)
  | 0, _ => []
  | m + 1, A => if A = [] then [] else (risF (A.map (· / 4))).map (fun i => ((m : Int), i)) ++ levelsF m (risF (A.map (· / 4)))
theorem compact_mem (zs : List Int) : ∀ x, x ∈ Lib.compact zs → x ∈ zs := by
  intro x hx
  unfold Lib.compact Lib.compactUpTo at hx
  rw [List.mem_map] at hx
  obtain ⟨j, hj, rfl⟩ := hx
  have hj' : j < zs.length := by
    have := (List.mem_filter.1 hj).1
    simpa using this
  simp [hj']
theorem risF_mem (xs : List Int) : ∀ x, x ∈ risF xs → x ∈ xs := by
  intro x hx
  unfold risF at hx
  have := compact_mem _ x hx
  simpa using this
theorem risF_len (xs : List Int) : (risF xs).length ≤ xs.length := by unfold risF; exact Nat.le_trans (compact_le _) (by simp)
theorem risF_nil : risF [] = [] := by
  have := risF_len []
  exact List.eq_nil_of_length_eq_zero (by simpa using this)
end Go.Proofs.Ytincgimbilnidaa.MyAbove
