/- The law PathOne, walked. -/
import Derived.Test.YtincgimbilnidaaAbove
import Derived.Deep.QuietTactic
import Derived.BigQuiet
namespace Go.Proofs.Ytincgimbilnidaa.MyAbove
open Go.RowKit Go.Sort Go.Proofs.Ytincgimbilnidaa.PPathSizes Go.Proofs.YtincgimbilnidaaW.PrintWords Go.Proofs.YtincgimbilnidaaW.PrintLast Go.Proofs.YtincgimbilnidaaW.PrintMore
set_option linter.unusedVariables false
theorem risF_one (x : Int) : risF [x] = [x] := by
  unfold risF
  have : ([x] : List Int).mergeSort (fun x y => decide (x ≤ y)) = [x] := by simp
  rw [this]
  exact Lib.compact_all _ (fun j hj => Lib.keeps_lt_one _ j (by simpa using hj))
theorem levels_one (m : Nat) (x : Int) : levelsF (m + 1) [x] = ((m : Int), x / 4) :: levelsF m [x / 4] := by
  rw [levelsF, if_neg (by simp)]
  simp [risF_one]
theorem levels_one_len (m : Nat) : ∀ x, (levelsF m [x]).length = m := by
  induction m with
  | zero => intro x; rfl
  | succ m ih => intro x; rw [levels_one, List.length_cons, ih]
theorem levels_one_step (m : Nat) : ∀ (x : Int) (i : Nat), i + 1 < m → (levelsF m [x]).getD (i + 1) (0, 0) = (((levelsF m [x]).getD i (0, 0)).1 - 1, ((levelsF m [x]).getD i (0, 0)).2 / 4) := by
  induction m with
  | zero => intro x i h; omega
  | succ m ih =>
    intro x i h
    rw [levels_one]
    cases i with
    | zero =>
      obtain ⟨m', rfl⟩ : ∃ m', m = m' + 1 := ⟨m - 1, by omega⟩
      simp only [List.getD_cons_succ, List.getD_cons_zero, levels_one]
      simp
    | succ i => simp only [List.getD_cons_succ]; exact ih _ i (by omega)
theorem levels_one_bd (m : Nat) : ∀ (x : Int), 0 ≤ x → x < 256 → ∀ i, i < m → 0 ≤ ((levelsF m [x]).getD i (0, 0)).1 ∧ ((levelsF m [x]).getD i (0, 0)).1 ≤ m ∧ 0 ≤ ((levelsF m [x]).getD i (0, 0)).2 ∧ ((levelsF m [x]).getD i (0, 0)).2 < 256 := by
  induction m with
  | zero => intro x _ _ i h; omega
  | succ m ih =>
    intro x h0 h1 i h
    rw [levels_one]
    cases i with
    | zero => simp only [List.getD_cons_zero]; omega
    | succ i =>
      simp only [List.getD_cons_succ]
      have := ih (x / 4) (by omega) (by omega) i (by omega)
      omega
theorem levels_one_last (d : Nat) (x S : Int) (hd : (d = 1 ∧ S = 4) ∨ (d = 2 ∧ S = 16) ∨ (d = 3 ∧ S = 64) ∨ (d = 4 ∧ S = 256)) (h0 : 0 ≤ x) (h1 : x < S) : (levelsF d [x]).getD (d - 1) (0, 0) = (0, 0) ∧ (levelsF d [x]).getD 0 (0, 0) = ((d : Int) - 1, x / 4) := by
  have l1 : ∀ x, levelsF 1 [x] = [(0, x / 4)] := fun x => levels_one 0 x
  have l2 : ∀ x, levelsF 2 [x] = [(1, x / 4), (0, x / 4 / 4)] := fun x => (levels_one 1 x).trans (by rw [l1]; rfl)
  have l3 : ∀ x, levelsF 3 [x] = [(2, x / 4), (1, x / 4 / 4), (0, x / 4 / 4 / 4)] := fun x => (levels_one 2 x).trans (by rw [l2]; rfl)
  have l4 : ∀ x, levelsF 4 [x] = [(3, x / 4), (2, x / 4 / 4), (1, x / 4 / 4 / 4), (0, x / 4 / 4 / 4 / 4)] := fun x => (levels_one 3 x).trans (by rw [l3]; rfl)
  rcases hd with ⟨rfl, rfl⟩ | ⟨rfl, rfl⟩ | ⟨rfl, rfl⟩ | ⟨rfl, rfl⟩
  · rw [l1]; simp; omega
  · rw [l2]; simp; omega
  · rw [l3]; simp; omega
  · rw [l4]; simp; omega
theorem flat_at (ys : List (Int × Int)) : ∀ i, i < ys.length → (ys.flatMap spotC)[i * 2]? = some (.int .i64 (ys.getD i (0, 0)).1) ∧ (ys.flatMap spotC)[i * 2 + 1]? = some (.int .i64 (ys.getD i (0, 0)).2) := by
  induction ys with
  | nil => intro i h; simp at h
  | cons p ys ih =>
    intro i h
    cases i with
    | zero => simp
    | succ i =>
      have := ih i (by simpa using h)
      rw [List.flatMap_cons, show (i + 1) * 2 = (i * 2) + 2 by omega]
      simpa using this
theorem OutRow.form {w : World} {base : Nat} {v : Value} {ys : List (Int × Int)} (h : OutRow w base v ys) (hne : 0 < ys.length) : ∃ g cap, v = .slice (some ⟨g, 0, none⟩) ys.length cap ∧
    ∀ i, i < ys.length → w.cell? ⟨g, i * 2, none⟩ = some (.int .i64 (ys.getD i (0, 0)).1) ∧ w.cell? ⟨g, i * 2 + 1, none⟩ = some (.int .i64 (ys.getD i (0, 0)).2) := by
  rcases h.own.2 with ⟨_, h0⟩ | ⟨g, cap, cur, rfl, hb, hh, h1, h2, h3, h4⟩
  · omega
  · refine ⟨g, cap, rfl, fun i hi => ?_⟩
    have hc := flat_at ys i hi
    rw [← h4] at hc
    rw [List.getElem?_take_of_lt (by omega), List.getElem?_take_of_lt (by omega), Array.getElem?_toList, Array.getElem?_toList] at hc
    rw [cell_of_row _ _ _ _ _ _ hh, cell_of_row _ _ _ _ _ _ hh]
    exact hc
theorem slots_of (d : Nat) (h1 : 1 ≤ d) (h4 : d ≤ 4) : ∃ S : Int, path_Slots.f d = some S ∧ oublietteref07_Slots.f 20 d = some S ∧ ((d = 1 ∧ S = 4) ∨ (d = 2 ∧ S = 16) ∨ (d = 3 ∧ S = 64) ∨ (d = 4 ∧ S = 256)) := by
  have hd : d = 1 ∨ d = 2 ∨ d = 3 ∨ d = 4 := by omega
  rcases hd with rfl | rfl | rfl | rfl
  · exact ⟨4, by decide +kernel, by decide +kernel, by omega⟩
  · exact ⟨16, by decide +kernel, by decide +kernel, by omega⟩
  · exact ⟨64, by decide +kernel, by decide +kernel, by omega⟩
  · exact ⟨256, by decide +kernel, by decide +kernel, by omega⟩
theorem awake_true : oubliettelaw07_awake.f 20 = some true := by decide +kernel
set_option maxHeartbeats 4000000 in
set_option maxRecDepth 100000 in
theorem PathOne_walk (a0 a1 : Int) (h0 : 0 ≤ a0) (h0' : a0 ≤ 255) (h1 : 0 ≤ a1) (h1' : a1 ≤ 255) (w : World) :
    Calls Try.prog 6 #[.int .u8 a0, .int .u8 a1] w fun e w' => e = .returned (.bool true) ∧ Below w.heap.size w w' := by
  obtain ⟨d, hd⟩ : ∃ d : Nat, 1 + a0 % 4 = (d : Int) := ⟨(1 + a0 % 4).toNat, by omega⟩
  have hd1 : 1 ≤ d := by omega
  have hd4 : d ≤ 4 := by omega
  obtain ⟨S, hS1, hS2, hS3⟩ := slots_of d hd1 hd4
  have hS0 : 4 ≤ S := by omega
  have hS4 : S ≤ 256 := by omega
  have HS1 := Lib.hid hS1
  have HS2 := Lib.hid hS2
  have HS3 := Lib.hid hS3
  clear hS1 hS2 hS3
  go_enter Try.func6, Try.ntmps6
  go_wp2_with (first | (go_at_call 8; refine (oubliettelaw07_awake.calls 20 true _ awake_true).mono ?_; rintro e w1 ⟨rfl, hb1⟩) | (go_at_call 14; refine (oublietteref07_Slots.calls 20 d S _ HS2.out).mono ?_; rintro e w2 ⟨rfl, hb2⟩))
  obtain ⟨x, hx⟩ : ∃ x, x = a1 % S := ⟨_, rfl⟩
  rw [← hx]
  have hx0 : 0 ≤ x := by rw [hx]; exact Int.emod_nonneg _ (by omega)
  have hxS : x < S := by rw [hx]; exact Int.emod_lt_of_pos _ (by omega)
  clear hx hd
  have hR : ReadsInt (w2.alloc (.cells #[.int .i64 x] 3)) .i64 (some ⟨w2.heap.size, 0, none⟩) 1 [x] := ⟨rfl, by decide, fun _ => ⟨_, rfl, fun j hj => by
    obtain rfl : j = 0 := by omega
    simp [Addr.add]⟩⟩
  have hA := above_any d S (some ⟨w2.heap.size, 0, none⟩) 1 [x] (w2.alloc (.cells #[.int .i64 x] 3)) HS1.out hd1 hd4 (by omega) hS4 hR (by simp) (levelsF d [x]) (by
    congr 1
    unfold filt
    simp [hx0, hxS])
  simp only [List.length_singleton] at hA
  refine hA.mono ?_
  rintro e w3 ⟨v, rfl, hO, hB⟩
  have hBB : Below w.heap.size w w3 := (hb1.trans (hb2.below.mono hb1.size)).trans (((Below.refl _ _).alloc (Nat.le_refl _) _).trans (hB.out.mono (by simp)) |>.mono (Nat.le_trans hb1.size hb2.below.size))
  have HBB := Lib.hid hBB
  have hln := levels_one_len d x
  have hst := levels_one_step d x
  have hbd := levels_one_bd d x hx0 (by omega)
  have hla := levels_one_last d x S HS3.out hx0 hxS
  obtain ⟨L, hL⟩ : ∃ L, L = levelsF d [x] := ⟨_, rfl⟩
  rw [← hL] at hO hln hst hbd hla
  obtain ⟨g, cap, rfl, hc⟩ := hO.form (by omega)
  rw [hln] at hc
  have hc0 := hc 0 (by omega)
  have hcl := hc (d - 1) (by omega)
  rw [hla.1] at hcl
  rw [hla.2] at hc0
  rw [hln]
  have Hc := Lib.hid hc
  have Hst := Lib.hid hst
  have Hbd := Lib.hid hbd
  clear hc hst hbd hla hln hL hO hB hBB hb1 hb2 hA hR
  obtain ⟨hc01, hc02⟩ := hc0
  obtain ⟨hcl1, hcl2⟩ := hcl
  go_wp2_with fail
  clear hc01 hc02 hcl1 hcl2
  go_loopw [8] (fun i wr => ∃ k : Nat, 1 ≤ k ∧ k ≤ d ∧ i = .int .i64 k ∧ Drawn0 w3 wr) (fun i _ => d - (intOf i).toNat)
  case atStart => exact ⟨1, by omega, hd1, rfl, Drawn0.refl _⟩
  case round =>
    obtain ⟨k, hk1, hkd, rfl, ⟨n, rfl⟩⟩ := hrel
    by_cases hlt : k < d
    · have c1 := Hc.out (k - 1) (by omega)
      have c2 := Hc.out k hlt
      have s1 := Hst.out (k - 1) (by omega)
      have s2 := Hbd.out (k - 1) (by omega)
      rw [show k - 1 + 1 = k by omega] at s1
      rw [s1] at c2
      obtain ⟨p, hp⟩ : ∃ p, p = L.getD (k - 1) (0, 0) := ⟨_, rfl⟩
      rw [← hp] at c1 c2 s2
      obtain ⟨a, b⟩ := p
      obtain ⟨c11, c12⟩ := c1
      obtain ⟨c21, c22⟩ := c2
      simp only at c11 c12 c21 c22 s2
      clear s1 hp
      go_wp2_with fail
      go_quiet (fail)
      go_wp2
      go_roundw
      case rel => exact ⟨k + 1, by omega, by omega, by go_num, ⟨n + nq, rfl⟩⟩
      case measure => simp [intOf]; omega
    · go_wp2
      go_ret
      exact ⟨rfl, HBB.out.trans ((Drawn0.mk ⟨n, rfl⟩ : Drawn0 w3 (w3.drewN n)).below.mono HBB.out.size)⟩
end Go.Proofs.Ytincgimbilnidaa.MyAbove
