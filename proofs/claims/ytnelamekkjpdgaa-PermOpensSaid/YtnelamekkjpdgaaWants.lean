/- What perm.Wants and the document's Wants come to, for every flags; the walks of PermWants and PermOpens. -/
import Derived.Test.YtnelamekkjpdgaaPerm
namespace Go.Proofs.Ytnelamekkjpdgaa
open Go.RowKit Go.Great
theorem i64_andNot512 (x : Int) : bits .andNot .i64 x 512 = wrap64 x ∨ bits .andNot .i64 x 512 = wrap64 (x - 512) := by
  have hM : BitVec.ofInt 64 512 = BitVec.twoPow 64 9 := by decide
  have hX : ∀ X M : BitVec 64, X &&& ~~~M = X - (X &&& M) := by
    intro X M
    have h0 : (X &&& ~~~M) &&& (X &&& M) = 0#64 := by
      ext i hi; simp; intro h1 h2 _; simp [h2]
    have h1 := BitVec.add_eq_or_of_and_eq_zero _ _ h0
    have h2 : (X &&& ~~~M) ||| (X &&& M) = X := by
      ext i hi; simp; cases X[i] <;> cases M[i] <;> rfl
    rw [h2] at h1
    have h3 := congrArg (· - (X &&& M)) h1
    simpa [BitVec.add_sub_cancel] using h3
  have e : bits .andNot .i64 x 512 = IntKind.i64.wrap ((BitVec.ofInt 64 x &&& ~~~(BitVec.twoPow 64 9)).toNat : Int) := by rw [← hM]; rfl
  rw [e, hX, BitVec.and_twoPow]
  split
  · right
    have : (BitVec.ofInt 64 x - BitVec.twoPow 64 9).toNat = ((x - 512) % 18446744073709551616).toNat := by
      rw [BitVec.toNat_sub, BitVec.toNat_ofInt]
      have : (BitVec.twoPow 64 9).toNat = 512 := by decide
      rw [this]
      omega
    rw [this, IntKind.wrap_i64]; unfold wrap64; omega
  · left
    have : (BitVec.ofInt 64 x - 0#64).toNat = (x % 18446744073709551616).toNat := by
      rw [BitVec.sub_zero, BitVec.toNat_ofInt]; omega
    rw [this, IntKind.wrap_i64]; unfold wrap64; omega
def wantsF (x : Int) : Int × Int := if x = 0 then (4, 0) else if x = 1 ∨ x = 513 then (2, 0) else if x = 2 ∨ x = 512 ∨ x = 514 then (6, 0) else (0, 22)
theorem wants_0 (w : World) : Calls Try.prog 8 #[.int .i64 0] w (Ret (.tuple #[.int .i64 (wantsF 0).1, .int .i64 (wantsF 0).2]) w) := by
  have e1 : bits .andNot .i64 0 512 = 0 := by decide +kernel
  have e2 : bits .or .i64 4 2 = 6 := by decide +kernel
  go_enter Try.func8, Try.ntmps8
  go_wp2
  all_goals go_ret2
  all_goals exact ret_of rfl ((Below.refl _ _).alloc (Nat.le_refl _) _)
theorem wants_1 (w : World) : Calls Try.prog 8 #[.int .i64 1] w (Ret (.tuple #[.int .i64 (wantsF 1).1, .int .i64 (wantsF 1).2]) w) := by
  have e1 : bits .andNot .i64 1 512 = 1 := by decide +kernel
  have e2 : bits .or .i64 2 2 = 2 := by decide +kernel
  go_enter Try.func8, Try.ntmps8
  go_wp2
  all_goals go_ret2
  all_goals exact ret_of rfl ((Below.refl _ _).alloc (Nat.le_refl _) _)
theorem wants_2 (w : World) : Calls Try.prog 8 #[.int .i64 2] w (Ret (.tuple #[.int .i64 (wantsF 2).1, .int .i64 (wantsF 2).2]) w) := by
  have e1 : bits .andNot .i64 2 512 = 2 := by decide +kernel
  have e2 : bits .or .i64 6 2 = 6 := by decide +kernel
  go_enter Try.func8, Try.ntmps8
  go_wp2
  all_goals go_ret2
  all_goals exact ret_of rfl ((Below.refl _ _).alloc (Nat.le_refl _) _)
theorem wants_512 (w : World) : Calls Try.prog 8 #[.int .i64 512] w (Ret (.tuple #[.int .i64 (wantsF 512).1, .int .i64 (wantsF 512).2]) w) := by
  have e1 : bits .andNot .i64 512 512 = 0 := by decide +kernel
  have e2 : bits .or .i64 4 2 = 6 := by decide +kernel
  go_enter Try.func8, Try.ntmps8
  go_wp2
  all_goals go_ret2
  all_goals exact ret_of rfl ((Below.refl _ _).alloc (Nat.le_refl _) _)
theorem wants_513 (w : World) : Calls Try.prog 8 #[.int .i64 513] w (Ret (.tuple #[.int .i64 (wantsF 513).1, .int .i64 (wantsF 513).2]) w) := by
  have e1 : bits .andNot .i64 513 512 = 1 := by decide +kernel
  have e2 : bits .or .i64 2 2 = 2 := by decide +kernel
  go_enter Try.func8, Try.ntmps8
  go_wp2
  all_goals go_ret2
  all_goals exact ret_of rfl ((Below.refl _ _).alloc (Nat.le_refl _) _)
theorem wants_514 (w : World) : Calls Try.prog 8 #[.int .i64 514] w (Ret (.tuple #[.int .i64 (wantsF 514).1, .int .i64 (wantsF 514).2]) w) := by
  have e1 : bits .andNot .i64 514 512 = 2 := by decide +kernel
  have e2 : bits .or .i64 6 2 = 6 := by decide +kernel
  go_enter Try.func8, Try.ntmps8
  go_wp2
  all_goals go_ret2
  all_goals exact ret_of rfl ((Below.refl _ _).alloc (Nat.le_refl _) _)
theorem kind_out (x : Int) (hx : (Lit.int .i64 x).wf = true) (h : x ≠ 0 ∧ x ≠ 1 ∧ x ≠ 2 ∧ x ≠ 512 ∧ x ≠ 513 ∧ x ≠ 514) : bits .andNot .i64 x 512 < 0 ∨ 3 ≤ bits .andNot .i64 x 512 := by
  have bd := bounds_i64 hx
  rcases i64_andNot512 x with e | e <;> rw [e] <;> unfold wrap64 <;> omega
theorem wants_out (x : Int) (hx : (Lit.int .i64 x).wf = true) (h : x ≠ 0 ∧ x ≠ 1 ∧ x ≠ 2 ∧ x ≠ 512 ∧ x ≠ 513 ∧ x ≠ 514) (w : World) :
    Calls Try.prog 8 #[.int .i64 x] w (Ret (.tuple #[.int .i64 (wantsF x).1, .int .i64 (wantsF x).2]) w) := by
  have hk := kind_out x hx h
  have hr : wantsF x = (0, 22) := by unfold wantsF; rw [if_neg h.1, if_neg (by omega), if_neg (by omega)]
  rw [hr]
  generalize hb : bits .andNot .i64 x 512 = kd at hk
  rcases hk with hk | hk
  all_goals
    go_enter Try.func8, Try.ntmps8
    go_wp2
    all_goals go_ret2
    all_goals exact ret_of rfl ((Below.refl _ _).alloc (Nat.le_refl _) _)
theorem wants_any (x : Int) (hx : (Lit.int .i64 x).wf = true) (w : World) : Calls Try.prog 8 #[.int .i64 x] w (Ret (.tuple #[.int .i64 (wantsF x).1, .int .i64 (wantsF x).2]) w) := by
  by_cases h0 : x = 0
  · subst h0; exact wants_0 w
  by_cases h1 : x = 1
  · subst h1; exact wants_1 w
  by_cases h2 : x = 2
  · subst h2; exact wants_2 w
  by_cases h512 : x = 512
  · subst h512; exact wants_512 w
  by_cases h513 : x = 513
  · subst h513; exact wants_513 w
  by_cases h514 : x = 514
  · subst h514; exact wants_514 w
  exact wants_out x hx ⟨h0, h1, h2, h512, h513, h514⟩ w
theorem refs_0 (w : World) : Calls Try.prog 9 #[.int .i64 0] w (Ret (.tuple #[.int .i64 (wantsF 0).1, .int .i64 (wantsF 0).2]) w) := by
  go_enter Try.func9, Try.ntmps9
  go_wp2
  all_goals go_ret2
  all_goals exact ret_of rfl (Below.refl _ _)
theorem refs_1 (w : World) : Calls Try.prog 9 #[.int .i64 1] w (Ret (.tuple #[.int .i64 (wantsF 1).1, .int .i64 (wantsF 1).2]) w) := by
  go_enter Try.func9, Try.ntmps9
  go_wp2
  all_goals go_ret2
  all_goals exact ret_of rfl (Below.refl _ _)
theorem refs_2 (w : World) : Calls Try.prog 9 #[.int .i64 2] w (Ret (.tuple #[.int .i64 (wantsF 2).1, .int .i64 (wantsF 2).2]) w) := by
  go_enter Try.func9, Try.ntmps9
  go_wp2
  all_goals go_ret2
  all_goals exact ret_of rfl (Below.refl _ _)
theorem refs_512 (w : World) : Calls Try.prog 9 #[.int .i64 512] w (Ret (.tuple #[.int .i64 (wantsF 512).1, .int .i64 (wantsF 512).2]) w) := by
  go_enter Try.func9, Try.ntmps9
  go_wp2
  all_goals go_ret2
  all_goals exact ret_of rfl (Below.refl _ _)
theorem refs_513 (w : World) : Calls Try.prog 9 #[.int .i64 513] w (Ret (.tuple #[.int .i64 (wantsF 513).1, .int .i64 (wantsF 513).2]) w) := by
  go_enter Try.func9, Try.ntmps9
  go_wp2
  all_goals go_ret2
  all_goals exact ret_of rfl (Below.refl _ _)
theorem refs_514 (w : World) : Calls Try.prog 9 #[.int .i64 514] w (Ret (.tuple #[.int .i64 (wantsF 514).1, .int .i64 (wantsF 514).2]) w) := by
  go_enter Try.func9, Try.ntmps9
  go_wp2
  all_goals go_ret2
  all_goals exact ret_of rfl (Below.refl _ _)
theorem refs_out (x : Int) (h : x ≠ 0 ∧ x ≠ 1 ∧ x ≠ 2 ∧ x ≠ 512 ∧ x ≠ 513 ∧ x ≠ 514) (w : World) :
    Calls Try.prog 9 #[.int .i64 x] w (Ret (.tuple #[.int .i64 (wantsF x).1, .int .i64 (wantsF x).2]) w) := by
  have hr : wantsF x = (0, 22) := by unfold wantsF; rw [if_neg h.1, if_neg (by omega), if_neg (by omega)]
  rw [hr]
  have g0 : (x == 0) = false := by simpa using h.1
  have g1 : (x == 1) = false := by simpa using h.2.1
  have g2 : (x == 2) = false := by simpa using h.2.2.1
  have g3 : (x == 512) = false := by simpa using h.2.2.2.1
  have g4 : (x == 513) = false := by simpa using h.2.2.2.2.1
  have g5 : (x == 514) = false := by simpa using h.2.2.2.2.2
  clear h hr
  go_enter Try.func9, Try.ntmps9
  go_wp2
  all_goals go_ret2
  all_goals exact ret_of rfl (Below.refl _ _)
theorem refs_any (x : Int) (w : World) : Calls Try.prog 9 #[.int .i64 x] w (Ret (.tuple #[.int .i64 (wantsF x).1, .int .i64 (wantsF x).2]) w) := by
  by_cases h0 : x = 0
  · subst h0; exact refs_0 w
  by_cases h1 : x = 1
  · subst h1; exact refs_1 w
  by_cases h2 : x = 2
  · subst h2; exact refs_2 w
  by_cases h512 : x = 512
  · subst h512; exact refs_512 w
  by_cases h513 : x = 513
  · subst h513; exact refs_513 w
  by_cases h514 : x = 514
  · subst h514; exact refs_514 w
  exact refs_out x ⟨h0, h1, h2, h512, h513, h514⟩ w
theorem PermWants_walk (x : Int) (hx : (Lit.int .i64 x).wf = true) (w : World) : Calls Try.prog 4 #[.int .i64 x] w (Ret (.bool true) w) := by
  go_enter Try.func4, Try.ntmps4
  go_wp2_with (first | (go_at_call 6; refine (awake_any _).mono ?_; rintro e w1 ⟨rfl, b1⟩) | (go_at_call 8; refine (wants_any x hx _).mono ?_; rintro e w2 ⟨rfl, b2⟩) | (go_at_call 9; refine (refs_any x _).mono ?_; rintro e w3 ⟨rfl, b3⟩))
  go_ret
  exact ret_of rfl ((b1.trans (b2.mono b1.size)).trans (b3.mono (Nat.le_trans b1.size b2.size)))
unseal mayF in
theorem both : ∀ b : Fin 8, mayF 6 (b.val : Int) = (mayF 4 (b.val : Int) && mayF 2 (b.val : Int)) := by decide +kernel
theorem both' (b : Int) (h : 0 ≤ b ∧ b ≤ 7) : mayF 6 b = (mayF 4 b && mayF 2 b) := by
  have := both ⟨b.toNat, by omega⟩
  simpa only [Int.toNat_of_nonneg h.1] using this
set_option maxHeartbeats 8000000 in
set_option maxRecDepth 100000 in
theorem PermOpens_walk (cs : Array Value) (m u g a b : Int) (H : Ino cs m u g) (w : World) :
    Calls Try.prog 5 #[.agg cs, .agg #[.int .u32 a, .int .u32 b]] w (Ret (.bool true) w) := by
  have hK := K2.new w cs a b
  have hc0 := hK.c0
  have hc1 := hK.c1
  have e0 : wantsF 0 = (4, 0) := rfl
  have e1 : wantsF 1 = (2, 0) := rfl
  have e2 : wantsF 2 = (6, 0) := rfl
  have e3 : wantsF 512 = (6, 0) := rfl
  have f6 := both' (bitsF m u g a b) (bitsF_range m u g a b)
  rcases h4 : mayF 4 (bitsF m u g a b) with _ | _ <;> rcases h2 : mayF 2 (bitsF m u g a b) with _ | _
  all_goals
    rw [h4, h2] at f6
    simp only [Bool.and_self, Bool.and_true, Bool.and_false] at f6
    go_enter Try.func5, Try.ntmps5
    go_wp2_with (first | ((with_reducible refine wpList_load_row rfl 26 _ rfl _ ?_ 26 cs (0, 0) _ hK.row Try.underlying26 ?_ (info26 cs H.size) ?_); exact rfl; exact rfl) | (go_guarded; (with_reducible refine wp_load_row 26 _ rfl _ ?_ 26 cs (0, 0) _ hK.row Try.underlying26 ?_ (info26 cs H.size) ?_); exact rfl; exact rfl) | (go_at_call 6; refine (awake_any _).mono ?_; rintro e w' ⟨rfl, hb⟩; replace hK := hK.step hb; clear hb; replace hc0 := hK.c0; replace hc1 := hK.c1) | (go_at_call 8; first | ((with_reducible refine (wants_0 _).mono ?_); rintro e w' ⟨rfl, hb⟩; replace hK := hK.step hb; clear hb; replace hc0 := hK.c0; replace hc1 := hK.c1) | ((with_reducible refine (wants_1 _).mono ?_); rintro e w' ⟨rfl, hb⟩; replace hK := hK.step hb; clear hb; replace hc0 := hK.c0; replace hc1 := hK.c1) | ((with_reducible refine (wants_2 _).mono ?_); rintro e w' ⟨rfl, hb⟩; replace hK := hK.step hb; clear hb; replace hc0 := hK.c0; replace hc1 := hK.c1) | ((with_reducible refine (wants_512 _).mono ?_); rintro e w' ⟨rfl, hb⟩; replace hK := hK.step hb; clear hb; replace hc0 := hK.c0; replace hc1 := hK.c1)) | (go_at_call 7; refine (may_any cs m u g _ _ _ H _).mono ?_; rintro e w' ⟨rfl, hb⟩; replace hK := hK.step hb; clear hb; replace hc0 := hK.c0; replace hc1 := hK.c1))
    go_ret
    exact ret_of rfl hK.below
end Go.Proofs.Ytnelamekkjpdgaa
