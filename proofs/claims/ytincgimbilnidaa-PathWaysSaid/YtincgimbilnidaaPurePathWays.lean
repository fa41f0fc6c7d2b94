/- The pure law PathWays, over numbers and lists alone: for every depth and any two slots the printed functions answer true. No condition. -/
import Derived.Test.YtincgimbilnidaaPPathWaysx2
namespace Go.Proofs.Ytincgimbilnidaa.Pure
open Go.RowKit Go.Proofs.Ytincgimbilnidaa.PPathWays Go.Proofs.YtincgimbilnidaaW.PrintWords Go.Proofs.YtincgimbilnidaaW.PrintLast
def decW (l : List Int) (at_ : Int) : Int := l.foldl (fun s v => wrap64 (wrap64 (4 * s) + v)) at_
def chkW (d a : Int) : Bool :=
  match path_Way.f 20 d a, oublietteref07_Way.f 20 d a with
  | some x, some y => x == y && x.length == d.toNat && decW x 0 == a
  | _, _ => false
theorem chk1 : ∀ a : Fin 4, chkW 1 (a.val : Int) = true := by decide +kernel
theorem chk2 : ∀ a : Fin 16, chkW 2 (a.val : Int) = true := by decide +kernel
theorem chk3 : ∀ a : Fin 64, chkW 3 (a.val : Int) = true := by decide +kernel
theorem chk4 : ∀ a : Fin 256, chkW 4 (a.val : Int) = true := by decide +kernel
theorem slots_out (d : Int) (h : d < 1 ∨ 4 < d) : path_Slots.f d = some 0 ∧ oublietteref07_Slots.f 20 d = some 0 := by
  unfold path_Slots.f oublietteref07_Slots.f
  by_cases h1 : d < 1
  · rw [if_pos h1, if_pos h1]; exact ⟨rfl, rfl⟩
  · rw [if_neg h1, if_neg h1, if_pos (by omega), if_pos (by omega)]; exact ⟨rfl, rfl⟩
theorem way_none (d a s : Int) (h1 : path_Slots.f d = some s) (h2 : oublietteref07_Slots.f 20 d = some s) (h : a < 0 ∨ s ≤ a) :
    path_Way.f 20 d a = some [] ∧ oublietteref07_Way.f 20 d a = some [] := by
  unfold path_Way.f oublietteref07_Way.f
  by_cases h0 : a < 0
  · rw [if_pos h0, if_pos h0]; exact ⟨rfl, rfl⟩
  · have hs : s ≤ a := by omega
    rw [if_neg h0, if_neg h0, h1, h2]
    simp only [Option.bind_some]
    rw [show decide (a ≥ s) = true from by simpa using hs]
    exact ⟨rfl, rfl⟩
theorem way_some (d a : Int) (h : chkW d a = true) : ∃ W : List Int, path_Way.f 20 d a = some W ∧ oublietteref07_Way.f 20 d a = some W ∧ W.length = d.toNat ∧ decW W 0 = a := by
  unfold chkW at h
  split at h
  · rename_i x y hx hy
    simp only [Bool.and_eq_true, beq_iff_eq] at h
    obtain ⟨⟨rfl, h2⟩, h3⟩ := h
    exact ⟨x, hx, hy, h2, h3⟩
  · exact absurd h (by simp)
theorem way_of (d a : Int) : ∃ W : List Int, path_Way.f 20 d a = some W ∧ oublietteref07_Way.f 20 d a = some W ∧ (W = [] ∨ (W.length ≤ 4 ∧ decW W 0 = a)) := by
  by_cases ho : d < 1 ∨ 4 < d
  · obtain ⟨h1, h2⟩ := slots_out d ho
    obtain ⟨h3, h4⟩ := way_none d a 0 h1 h2 (by omega)
    exact ⟨[], h3, h4, .inl rfl⟩
  · have hd : d = 1 ∨ d = 2 ∨ d = 3 ∨ d = 4 := by omega
    have key : ∀ (s : Nat), path_Slots.f d = some (s : Int) → oublietteref07_Slots.f 20 d = some (s : Int) → (∀ i : Fin s, chkW d (i.val : Int) = true) → ∃ W : List Int, path_Way.f 20 d a = some W ∧ oublietteref07_Way.f 20 d a = some W ∧ (W = [] ∨ (W.length ≤ 4 ∧ decW W 0 = a)) := by
      intro s h1 h2 hc
      by_cases hr : a < 0 ∨ (s : Int) ≤ a
      · obtain ⟨h3, h4⟩ := way_none d a s h1 h2 hr
        exact ⟨[], h3, h4, .inl rfl⟩
      · have h5 := hc ⟨a.toNat, by omega⟩
        simp only [Int.toNat_of_nonneg (show 0 ≤ a by omega)] at h5
        obtain ⟨W, h6, h7, h8, h9⟩ := way_some d a h5
        exact ⟨W, h6, h7, .inr ⟨by omega, h9⟩⟩
    rcases hd with rfl | rfl | rfl | rfl
    · exact key 4 (by decide +kernel) (by decide +kernel) chk1
    · exact key 16 (by decide +kernel) (by decide +kernel) chk2
    · exact key 64 (by decide +kernel) (by decide +kernel) chk3
    · exact key 256 (by decide +kernel) (by decide +kernel) chk4
theorem rd_nat (xs : List Int) (i : Nat) : rd xs (i : Int) = xs.getD i 0 := by simp [rd]
theorem wrap_succ (i : Nat) (h : i < 1000) : wrap64 ((i : Int) + 1) = ((i + 1 : Nat) : Int) := by unfold wrap64; omega
theorem ints_l0 (x y : List Int) (hl : x.length = y.length) (hx : x.length < 1000) : ∀ (n i k : Nat), i + n = x.length → oublietteref07_Ints.l0 (n + 1 + k) x y (i : Int) = some (decide (x.drop i = y.drop i)) := by
  intro n
  induction n with
  | zero =>
    intro i k h
    rw [show 0 + 1 + k = k + 1 by omega]
    simp only [oublietteref07_Ints.l0]
    rw [if_neg (by omega), List.drop_eq_nil_of_le (by omega), List.drop_eq_nil_of_le (by omega)]
    simp
  | succ n ih =>
    intro i k h
    rw [show n + 1 + 1 + k = (n + 1 + k) + 1 by omega]
    simp only [oublietteref07_Ints.l0]
    have h1 : i < x.length := by omega
    have h2 : i < y.length := by omega
    rw [if_pos (by omega), if_pos (by omega), if_pos (by omega), rd_nat, rd_nat, wrap_succ i (by omega), ih (i + 1) k (by omega)]
    have hd1 := List.drop_eq_getElem_cons h1
    have hd2 := List.drop_eq_getElem_cons h2
    have e1 : x.getD i 0 = x[i] := by simp [List.getD_eq_getElem?_getD, h1]
    have e2 : y.getD i 0 = y[i] := by simp [List.getD_eq_getElem?_getD, h2]
    rw [e1, e2]
    by_cases e : x[i] = y[i]
    · rw [if_pos e, hd1, hd2, e]
      congr 1
      rw [decide_eq_decide, List.cons.injEq]
      exact ⟨fun h => ⟨rfl, h⟩, fun h => h.2⟩
    · rw [if_neg e, hd1, hd2, decide_eq_false (fun h' => e (List.cons.inj h').1)]
theorem ints_f (x y : List Int) (hx : x.length < 20) : ∀ k : Nat, 30 ≤ k → oublietteref07_Ints.f k x y = some (decide (x = y)) := by
  intro k hk
  unfold oublietteref07_Ints.f
  by_cases hl : x.length = y.length
  · rw [if_pos (by omega)]
    have := ints_l0 x y hl (by omega) x.length 0 (k - x.length - 1) (by omega)
    rw [show x.length + 1 + (k - x.length - 1) = k by omega] at this
    simpa using this
  · rw [if_neg (by omega)]
    have : x ≠ y := fun e => hl (by rw [e])
    simp [this]
theorem dec_l0 (x1 x2 : Int) (x y : List Int) (hx : x.length < 1000) : ∀ (n i k : Nat) (s : Int), i + n = x.length →
    oubliettelaw07_PathWays.l0 (n + k) x1 x2 x y s (i : Int) = oubliettelaw07_PathWays.l0 k x1 x2 x y (decW (x.drop i) s) (x.length : Int) := by
  intro n
  induction n with
  | zero =>
    intro i k s h
    obtain rfl : i = x.length := by omega
    rw [List.drop_eq_nil_of_le (by omega)]
    simp [decW]
  | succ n ih =>
    intro i k s h
    rw [show n + 1 + k = (n + k) + 1 by omega]
    have h1 : i < x.length := by omega
    simp only [oubliettelaw07_PathWays.l0]
    rw [if_pos (by omega), if_pos (by omega), rd_nat, wrap_succ i (by omega), ih (i + 1) k _ (by omega), List.drop_eq_getElem_cons h1]
    have e1 : x.getD i 0 = x[i] := by simp [List.getD_eq_getElem?_getD, h1]
    rw [e1]
    rfl
theorem awake_f : oubliettelaw07_awake.f 20 = some true := by decide +kernel
theorem more20 {α : Type} {g : Nat → Option α} (h : ∀ k, LeO (g k) (g (k + 1))) {k : Nat} (hk : 20 ≤ k) {r : α} (hr : g 20 = some r) : g k = some r := at_rounds h hk hr
theorem PathWays : oubliettelaw07_PathWays.Pure := by
  intro d a b _ _ _
  refine ⟨60, ?_⟩
  obtain ⟨x, hx1, hx2, hx3⟩ := way_of d a
  obtain ⟨y, hy1, hy2, hy3⟩ := way_of d b
  have lx : x.length ≤ 4 := by rcases hx3 with rfl | h <;> simp_all
  have ly : y.length ≤ 4 := by rcases hy3 with rfl | h <;> simp_all
  unfold oubliettelaw07_PathWays.f
  rw [more20 (g := fun k => oubliettelaw07_awake.f k) oubliettelaw07_awake.mono (by omega : 20 ≤ 60) awake_f]
  simp only [Option.bind_some, if_true]
  rw [more20 (g := fun k => path_Way.f k d a) (path_Way.mono d a) (by omega : 20 ≤ 60) hx1]
  simp only [Option.bind_some]
  rw [more20 (g := fun k => path_Way.f k d b) (path_Way.mono d b) (by omega : 20 ≤ 60) hy1]
  simp only [Option.bind_some]
  rw [more20 (g := fun k => oublietteref07_Way.f k d a) (oublietteref07_Way.mono d a) (by omega : 20 ≤ 60) hx2]
  simp only [Option.bind_some]
  rw [ints_f x x (by omega) 60 (by omega)]
  simp only [Option.bind_some, decide_true, if_true]
  rw [more20 (g := fun k => oublietteref07_Way.f k d b) (oublietteref07_Way.mono d b) (by omega : 20 ≤ 60) hy2]
  simp only [Option.bind_some]
  rw [ints_f y y (by omega) 60 (by omega)]
  simp only [Option.bind_some, decide_true, Bool.not_true]
  show oubliettelaw07_PathWays.j0 (59 + 1) a b x y false = some true
  simp only [oubliettelaw07_PathWays.j0]
  rw [if_neg (by decide)]
  by_cases hxl : (x.length : Int) = 0
  · rw [if_pos hxl]
    show oubliettelaw07_PathWays.j1 (58 + 1) a b x y true = some true
    simp only [oubliettelaw07_PathWays.j1]
    rfl
  · rw [if_neg hxl]
    show oubliettelaw07_PathWays.j1 (58 + 1) a b x y ((y.length : Int) == 0) = some true
    simp only [oubliettelaw07_PathWays.j1]
    by_cases hyl : (y.length : Int) = 0
    · rw [if_pos (by simpa using hyl)]
    · rw [if_neg (by simpa using hyl)]
      have ex : decW x 0 = a := by
        rcases hx3 with rfl | h
        · exact absurd rfl hxl
        · exact h.2
      have ey : decW y 0 = b := by
        rcases hy3 with rfl | h
        · exact absurd rfl hyl
        · exact h.2
      have := dec_l0 a b x y (by omega) x.length 0 (58 - x.length) 0 (by omega)
      rw [show x.length + (58 - x.length) = 58 by omega] at this
      rw [show ((0 : Nat) : Int) = 0 from rfl] at this
      rw [this, List.drop_zero, ex, show 58 - x.length = (57 - x.length) + 1 by omega]
      simp only [oubliettelaw07_PathWays.l0]
      rw [if_neg (by omega), if_pos trivial, ints_f x y (by omega) _ (by omega)]
      simp only [Option.bind_some, Option.some.injEq]
      by_cases e : x = y
      · have e2 : a = b := by rw [← ex, ← ey, e]
        simp [e, e2]
      · have e2 : a ≠ b := by
          intro e2
          subst e2
          rw [hx1] at hy1
          exact e (by simpa using hy1)
        simp [e, e2]
end Go.Proofs.Ytincgimbilnidaa.Pure
