/- Plain facts: rows in order, each once; the levels above two lists together are those above the one and those above the other, each once. -/
import Derived.Test.YtincgimbilnidaaAbove
namespace Go.Proofs.Ytincgimbilnidaa.MyAbove
open Go.RowKit Go.Sort Go.Proofs.Ytincgimbilnidaa.PPathSizes
theorem compact_mem_iff (zs : List Int) (x : Int) : x ∈ Lib.compact zs ↔ x ∈ zs := by
  refine ⟨compact_mem zs x, fun hx => ?_⟩
  obtain ⟨j, hj, rfl⟩ := List.getElem_of_mem hx
  clear hx
  have key : ∀ j, (h : j < zs.length) → zs[j] ∈ Lib.compact zs := by
    intro j
    induction j with
    | zero =>
      intro h
      unfold Lib.compact Lib.compactUpTo
      rw [List.mem_map]
      exact ⟨0, List.mem_filter.2 ⟨by simpa using h, by simp [Lib.keeps]⟩, by simp [h]⟩
    | succ j ih =>
      intro h
      by_cases e : zs[j + 1] = zs[j]
      · rw [e]; exact ih (by omega)
      · unfold Lib.compact Lib.compactUpTo
        rw [List.mem_map]
        refine ⟨j + 1, List.mem_filter.2 ⟨by simpa using h, ?_⟩, by simp [h]⟩
        refine Lib.keeps_pos ?_
        have hj : j < zs.length := by omega
        simpa [h, hj] using e
  exact key j hj
theorem compact_rising (zs : List Int) (hs : List.Pairwise (fun a b => a ≤ b) zs) : List.Pairwise (fun a b : Int => a < b) (Lib.compact zs) := by
  have hle : ∀ i j, (hi : i < zs.length) → (hj : j < zs.length) → i ≤ j → zs[i] ≤ zs[j] := by
    intro i j hi hj hij
    by_cases e : i = j
    · subst e; exact Int.le_refl _
    · exact (List.pairwise_iff_getElem.1 hs) i j hi hj (by omega)
  unfold Lib.compact Lib.compactUpTo
  rw [List.pairwise_map]
  have hp : List.Pairwise (fun x1 x2 => x1 < x2) ((List.range zs.length).filter (Lib.keeps zs.toArray)) := List.Pairwise.filter _ List.pairwise_lt_range
  refine List.Pairwise.imp_of_mem ?_ hp
  intro i j hi hj hij
  obtain ⟨hi1, _⟩ := List.mem_filter.1 hi
  obtain ⟨hj1, hj2⟩ := List.mem_filter.1 hj
  have hi' : i < zs.length := by simpa using hi1
  have hj' : j < zs.length := by simpa using hj1
  have hj'' : j - 1 < zs.length := by omega
  unfold Lib.keeps at hj2
  simp only [decide_eq_true_eq] at hj2
  have hne : zs[j] ≠ zs[j - 1] := by
    rcases hj2 with h | h
    · omega
    · simpa [hj', hj''] using h
  have h1 := hle i (j - 1) hi' hj'' (by omega)
  have h2 := hle (j - 1) j hj'' hj' (by omega)
  simp only [List.getElem!_toArray, hi', hj', getElem!_pos]
  omega
theorem risF_mem_iff (xs : List Int) (x : Int) : x ∈ risF xs ↔ x ∈ xs := by
  unfold risF
  rw [compact_mem_iff, List.mem_mergeSort]
theorem risF_nodup (xs : List Int) : (risF xs).Nodup := by
  unfold risF
  have h := compact_rising (xs.mergeSort fun x y => decide (x ≤ y)) (List.Pairwise.imp (fun h => by simpa using h) (List.pairwise_mergeSort (le := fun x y : Int => decide (x ≤ y)) (by intro a b c; simp; omega) (by intro a b; simp; omega) xs))
  exact List.Pairwise.imp (fun h => by omega) h
def upF : Nat → Int → Int
  | 0, x => x
  | j + 1, x => upF j (x / 4)
theorem levels_mem (m : Nat) : ∀ (A : List Int) (p : Int × Int), p ∈ levelsF m A ↔ ∃ j x, j < m ∧ x ∈ A ∧ p = ((m : Int) - 1 - j, upF (j + 1) x) := by
  induction m with
  | zero => intro A p; simp [levelsF]
  | succ m ih =>
    intro A p
    rw [levelsF]
    by_cases hA : A = []
    · subst hA; simp
    · rw [if_neg hA, List.mem_append, ih, List.mem_map]
      constructor
      · rintro (⟨i, hi, rfl⟩ | ⟨j, y, hj, hy, rfl⟩)
        · obtain ⟨x, hx, rfl⟩ := List.mem_map.1 ((risF_mem_iff _ _).1 hi)
          exact ⟨0, x, by omega, hx, by simp [upF]⟩
        · obtain ⟨x, hx, rfl⟩ := List.mem_map.1 ((risF_mem_iff _ _).1 hy)
          exact ⟨j + 1, x, by omega, hx, by rw [Prod.mk.injEq]; exact ⟨by omega, rfl⟩⟩
      · rintro ⟨j, x, hj, hx, rfl⟩
        cases j with
        | zero => exact .inl ⟨x / 4, (risF_mem_iff _ _).2 (List.mem_map.2 ⟨x, hx, rfl⟩), by simp [upF]⟩
        | succ j => exact .inr ⟨j, x / 4, by omega, (risF_mem_iff _ _).2 (List.mem_map.2 ⟨x, hx, rfl⟩), by rw [Prod.mk.injEq]; exact ⟨by omega, rfl⟩⟩
theorem levels_nodup (m : Nat) : ∀ (A : List Int), (levelsF m A).Nodup := by
  induction m with
  | zero => intro A; simp [levelsF]
  | succ m ih =>
    intro A
    rw [levelsF]
    by_cases hA : A = []
    · rw [if_pos hA]; simp
    · rw [if_neg hA, List.nodup_append]
      refine ⟨?_, ih _, ?_⟩
      · refine List.Pairwise.map _ ?_ (risF_nodup _)
        intro a b hab he
        exact hab (Prod.mk.inj he).2
      · rintro a ha b hb rfl
        obtain ⟨i, _, rfl⟩ := List.mem_map.1 ha
        obtain ⟨j, x, hj, _, he⟩ := (levels_mem _ _ _).1 hb
        have := (Prod.mk.inj he).1
        omega
theorem levels_len (m : Nat) : ∀ (A : List Int), (levelsF m A).length ≤ m * A.length := by
  induction m with
  | zero => intro A; simp [levelsF]
  | succ m ih =>
    intro A
    rw [levelsF]
    by_cases hA : A = []
    · rw [if_pos hA]; simp
    · rw [if_neg hA, List.length_append, List.length_map]
      have h1 := risF_len (A.map (· / 4))
      rw [List.length_map] at h1
      have h2 := ih (risF (A.map (· / 4)))
      have h3 : m * (risF (A.map (· / 4))).length ≤ m * A.length := Nat.mul_le_mul_left _ h1
      rw [Nat.succ_mul]
      omega
theorem levels_union (m : Nat) (A B : List Int) (p : Int × Int) : p ∈ levelsF m (A ++ B) ↔ p ∈ levelsF m A ∨ p ∈ levelsF m B := by
  rw [levels_mem, levels_mem, levels_mem]
  constructor
  · rintro ⟨j, x, hj, hx, rfl⟩
    rcases List.mem_append.1 hx with h | h
    · exact .inl ⟨j, x, hj, h, rfl⟩
    · exact .inr ⟨j, x, hj, h, rfl⟩
  · rintro (⟨j, x, hj, hx, rfl⟩ | ⟨j, x, hj, hx, rfl⟩)
    · exact ⟨j, x, hj, List.mem_append_left _ hx, rfl⟩
    · exact ⟨j, x, hj, List.mem_append_right _ hx, rfl⟩
/-- How many of a row's first ones are in each of two others, together. -/
def hitF (X Y : List (Int × Int)) (p : Int × Int) : Int := (if p ∈ X then 1 else 0) + (if p ∈ Y then 1 else 0)
def cntF (X Y : List (Int × Int)) : List (Int × Int) → Int
  | [] => 0
  | p :: l => hitF X Y p + cntF X Y l
theorem cntF_snoc (X Y l : List (Int × Int)) (p : Int × Int) : cntF X Y (l ++ [p]) = cntF X Y l + hitF X Y p := by
  induction l with
  | nil => simp [cntF]
  | cons q l ih => simp only [List.cons_append, cntF, ih]; omega
theorem cntF_eq (X Y l : List (Int × Int)) : cntF X Y l = (l.filter (fun p => decide (p ∈ X))).length + (l.filter (fun p => decide (p ∈ Y))).length := by
  induction l with
  | nil => rfl
  | cons p l ih =>
    simp only [cntF, hitF, ih, List.filter_cons]
    by_cases h1 : p ∈ X <;> by_cases h2 : p ∈ Y <;> simp [h1, h2] <;> omega
theorem filter_len {X Z : List (Int × Int)} (hX : X.Nodup) (hZ : Z.Nodup) (h : ∀ p ∈ X, p ∈ Z) : (Z.filter (fun p => decide (p ∈ X))).length = X.length := by
  refine List.Perm.length_eq ((List.perm_ext_iff_of_nodup (List.Pairwise.filter _ hZ) hX).2 fun p => ?_)
  rw [List.mem_filter]
  simp only [decide_eq_true_eq]
  exact ⟨fun h => h.2, fun hp => ⟨h p hp, hp⟩⟩
theorem cntF_all (m : Nat) (A B : List Int) : cntF (levelsF m A) (levelsF m B) (levelsF m (A ++ B)) = (levelsF m A).length + (levelsF m B).length := by
  rw [cntF_eq, filter_len (levels_nodup _ _) (levels_nodup _ _) (fun p hp => (levels_union _ _ _ _).2 (.inl hp)), filter_len (levels_nodup _ _) (levels_nodup _ _) (fun p hp => (levels_union _ _ _ _).2 (.inr hp))]
theorem cntF_bd (X Y l : List (Int × Int)) : 0 ≤ cntF X Y l ∧ cntF X Y l ≤ 2 * l.length := by
  rw [cntF_eq]
  have h1 := List.length_filter_le (fun p => decide (p ∈ X)) l
  have h2 := List.length_filter_le (fun p => decide (p ∈ Y)) l
  omega
end Go.Proofs.Ytincgimbilnidaa.MyAbove
