/- What the functions of package perm come to, and the walks of the three laws of layer 15. -/
import Derived.Test.YtnelamekkjpdgaaOpen
import Derived.WalkKit
import Derived.Deep.QuietTactic
import Derived.BigQuiet
import Derived.RowKit3
import Derived.Lib.Hide
import Derived.Great.BuildSlice
open Go.Great
namespace Go.Proofs.Ytnelamekkjpdgaa
open Go.RowKit
def Ret (v : Value) (w : World) : Ending → World → Prop := fun e w' => e = .returned v ∧ Below w.heap.size w w'
def bitsF (m u g uid gid : Int) : Int :=
  if uid = 0 then 7 else if uid = u then bits .and .i64 (m / 8 / 8) 7 else if gid = g then bits .and .i64 (m / 8) 7 else bits .and .i64 m 7
structure Ino (cs : Array Value) (m u g : Int) : Prop where
  size : cs.size = 27
  mode : cs[1]? = some (.int .i64 m)
  uid : cs[2]? = some (.int .u32 u)
  gid : cs[3]? = some (.int .u32 g)
theorem ret_of {v v' : Value} {w w' : World} (h : v = v') (hb : Below w.heap.size w w') : Ret v' w (.returned v) w' := ⟨by rw [h], hb⟩
theorem info26 (cs : Array Value) (h : cs.size = 27) : (Try.prog.info? 26).map (·.size) = some cs.size := by rw [h]; kernel_rfl
theorem bits_any (cs : Array Value) (m u g uid gid : Int) (H : Ino cs m u g) (w : World) :
    Calls Try.prog 10 #[.agg cs, .int .u32 uid, .int .u32 gid] w (Ret (.int .i64 (bitsF m u g uid gid)) w) := by
  have h1 := H.mode
  have h2 := H.uid
  have h3 := H.gid
  go_enter Try.func10, Try.ntmps10
  go_wp2
  all_goals go_ret
  all_goals (refine ret_of ?_ ((Below.refl _ _).alloc (Nat.le_refl _) _); clear h1 h2 h3 H; simp_all [bitsF])
def mayF (want b : Int) : Bool := bits .andNot .i64 (bits .and .i64 want 7) b == 0
theorem may_any (cs : Array Value) (m u g uid gid want : Int) (H : Ino cs m u g) (w : World) :
    Calls Try.prog 7 #[.agg cs, .int .u32 uid, .int .u32 gid, .int .i64 want] w (Ret (.bool (mayF want (bitsF m u g uid gid))) w) := by
  go_enter Try.func7, Try.ntmps7
  go_wp2_with (first | ((with_reducible refine wpList_load_row rfl 26 _ rfl _ ?_ 26 cs (0, 0) _ (heap_alloc_new _ _) Try.underlying26 ?_ (info26 cs H.size) ?_); exact rfl; exact rfl) | (go_at_call 10; refine (bits_any cs m u g uid gid H _).mono ?_; rintro e w' ⟨rfl, hb⟩))
  go_ret
  refine ret_of rfl ?_
  exact ((Below.refl _ _).alloc (Nat.le_refl _) _).trans (hb.mono (by simp))
theorem setRow_alloc (w : World) (a b : Array Value) (t : TypeId) : (w.alloc (.cells a t)).setRow w.heap.size b = w.alloc (.cells b t) := by
  unfold World.setRow World.alloc
  congr 1
  apply Array.ext
  · simp
  · intro i h1 h2
    simp only [Array.getElem_modify, Array.getElem_push]
    by_cases h : w.heap.size = i
    · subst h; simp
    · have h3 : i < w.heap.size := by simp at h2; omega
      simp [h, h3]
def aw : Array Value := #[.int .i64 0, .int .i64 416, .int .u32 5, .int .u32 7, .int .i64 0, .int .i64 0, .int .u64 0, .int .u32 0, .int .i64 0, .int .u32 0, .int .i64 0, .int .i64 0, .int .i64 0, .int .i64 0, .int .i64 0, .int .i64 0, .int .i64 0, .int .i64 0, .int .i64 0, .int .i64 0, .int .i64 0, .int .i64 0, .int .i64 0, .int .i64 0, .int .i64 0, .int .i64 0, .int .i64 0]
theorem aw_ino : Ino aw 416 5 7 := ⟨rfl, rfl, rfl, rfl⟩
attribute [irreducible] aw
structure Keep (w W : World) (g : Nat) (cs : Array Value) (t : TypeId) : Prop where
  below : Below w.heap.size w W
  row : W.heap[g]? = some (.cells cs t (0, 0))
theorem Keep.step {w W W' : World} {g : Nat} {cs : Array Value} {t : TypeId} (h : Keep w W g cs t) (hb : Below W.heap.size W W') : Keep w W' g cs t :=
  ⟨h.below.trans (hb.mono h.below.size), (hb.block g (Array.getElem?_eq_some_iff.1 h.row).1).trans h.row⟩
theorem Keep.new {w : World} {cs : Array Value} {t : TypeId} : Keep w (w.alloc (.cells cs t)) w.heap.size cs t := ⟨(Below.refl _ _).alloc (Nat.le_refl _) _, heap_alloc_new _ _⟩
theorem awake_any (w : World) : Calls Try.prog 6 #[] w (Ret (.bool true) w) := by
  have e1 : bitsF 416 5 7 5 9 = 6 := by decide +kernel
  have e2 : bitsF 416 5 7 6 7 = 4 := by decide +kernel
  have e3 : bitsF 416 5 7 6 8 = 0 := by decide +kernel
  have e4 : mayF 7 (bitsF 416 5 7 0 0) = true := by decide +kernel
  have hK := Keep.new (w := w) (cs := aw) (t := 26)
  go_enter Try.func6, Try.ntmps6
  go_wp2_with (first | (refine wpList_buildTo rfl 26 _ rfl _ rfl aw (by kernel_rfl) ?_) | (refine wpList_store_rowTo rfl 26 _ _ rfl rfl _ aw rfl rfl 26 _ (heap_alloc_new _ _) (info26 _ aw_ino.size) (aw_ino.size.symm) (by kernel_rfl) ?_; rw [setRow_alloc]) | ((with_reducible refine wpList_load_row rfl 26 _ rfl _ ?_ 26 aw (0, 0) _ hK.row Try.underlying26 ?_ (info26 aw aw_ino.size) ?_); exact rfl; exact rfl) | (go_guarded; (with_reducible refine wp_load_row 26 _ rfl _ ?_ 26 aw (0, 0) _ hK.row Try.underlying26 ?_ (info26 aw aw_ino.size) ?_); exact rfl; exact rfl) | (go_at_call 10; refine (bits_any _ _ _ _ _ _ aw_ino _).mono ?_; rintro e w' ⟨rfl, hb⟩; replace hK := hK.step hb) | (go_at_call 7; refine (may_any _ _ _ _ _ _ _ aw_ino _).mono ?_; rintro e w' ⟨rfl, hb⟩; replace hK := hK.step hb))
  go_ret
  exact ret_of rfl hK.below
theorem i64_and7 (x : Int) : bits .and .i64 x 7 = x % 8 := by
  have e : ((BitVec.ofInt 64 x) &&& 7#64).toNat = (x % 8).toNat := by
    rw [BitVec.toNat_and, BitVec.toNat_ofInt]
    have : (7#64).toNat = 2 ^ 3 - 1 := rfl
    rw [this, Nat.and_two_pow_sub_one_eq_mod]
    omega
  show IntKind.i64.wrap ((BitVec.ofInt 64 x &&& 7#64).toNat : Int) = x % 8
  rw [e, IntKind.wrap_i64]
  omega
theorem bitsF_range (m u g uid gid : Int) : 0 ≤ bitsF m u g uid gid ∧ bitsF m u g uid gid ≤ 7 := by
  unfold bitsF
  simp only [i64_and7]
  split
  · omega
  · split
    · omega
    · split <;> omega
theorem less_ok : ∀ w k b : Fin 8, (bits .and .i64 (w.val : Int) (k.val : Int) == (k.val : Int)) = true → mayF (w.val : Int) (b.val : Int) = true → mayF (k.val : Int) (b.val : Int) = true := by decide +kernel
theorem less_ok' (w k b : Int) (hw : 0 ≤ w ∧ w ≤ 7) (hk : 0 ≤ k ∧ k ≤ 7) (hb : 0 ≤ b ∧ b ≤ 7) (h1 : (bits .and .i64 w k == k) = true) (h2 : mayF w b = true) : mayF k b = true := by
  have := less_ok ⟨w.toNat, by omega⟩ ⟨k.toNat, by omega⟩ ⟨b.toNat, by omega⟩
  simp only [Int.toNat_of_nonneg hw.1, Int.toNat_of_nonneg hk.1, Int.toNat_of_nonneg hb.1] at this
  exact this h1 h2
structure K2 (w W : World) (cs : Array Value) (a b : Int) : Prop where
  below : Below w.heap.size w W
  row : W.heap[w.heap.size]? = some (.cells cs 26 (0, 0))
  who : W.heap[w.heap.size + 1]? = some (.cells #[.int .u32 a, .int .u32 b] 27 (0, 0))
theorem K2.step {w W W' : World} {cs : Array Value} {a b : Int} (h : K2 w W cs a b) (hb : Below W.heap.size W W') : K2 w W' cs a b :=
  ⟨h.below.trans (hb.mono h.below.size), (hb.block _ (Array.getElem?_eq_some_iff.1 h.row).1).trans h.row, (hb.block _ (Array.getElem?_eq_some_iff.1 h.who).1).trans h.who⟩
theorem K2.new (w : World) (cs : Array Value) (a b : Int) : K2 w ((w.alloc (.cells cs 26)).alloc (.cells #[.int .u32 a, .int .u32 b] 27)) cs a b :=
  ⟨((Below.refl _ _).alloc (Nat.le_refl _) _).alloc (by simp) _, heap_alloc2_old _ _ _, heap_alloc2_new _ _ _⟩
theorem K2.c0 {w W : World} {cs : Array Value} {a b : Int} (h : K2 w W cs a b) : W.cell? ⟨w.heap.size + 1, 0, none⟩ = some (.int .u32 a) := by rw [cell_of_row _ _ _ _ _ _ h.who]; rfl
theorem K2.c1 {w W : World} {cs : Array Value} {a b : Int} (h : K2 w W cs a b) : W.cell? ⟨w.heap.size + 1, 1, none⟩ = some (.int .u32 b) := by rw [cell_of_row _ _ _ _ _ _ h.who]; rfl
theorem K2.stored {w W : World} {cs : Array Value} {a b : Int} (h : K2 w W cs a b) (v1 v2 : Value) :
    K2 w ((W.setCell ⟨w.heap.size, 2, none⟩ v2).setCell ⟨w.heap.size, 1, none⟩ v1) ((cs.setIfInBounds 2 v2).setIfInBounds 1 v1) a b :=
  ⟨(h.below.setCell (by simp) _).setCell (by simp) _, heap_setCell_same _ _ _ _ _ _ (heap_setCell_same _ _ _ _ _ _ h.row),
   by rw [heap_setCell_other _ _ _ _ (by simp), heap_setCell_other _ _ _ _ (by simp)]; exact h.who⟩
theorem K2.cell {w W : World} {cs : Array Value} {a b : Int} (h : K2 w W cs a b) (i : Nat) : W.cell? ⟨w.heap.size, i, none⟩ = cs[i]? := cell_of_row _ _ _ _ _ _ h.row
theorem K2.free {w W : World} {cs : Array Value} {a b : Int} (h : K2 w W cs a b) (i : Nat) : W.frozen? ⟨w.heap.size, i, none⟩ = false := frozen_of_row _ _ _ _ _ h.row
theorem Ino.stored {cs : Array Value} {m u g : Int} (h : Ino cs m u g) (m' u' : Int) : Ino ((cs.setIfInBounds 2 (.int .u32 u')).setIfInBounds 1 (.int .i64 m')) m' u' g := by
  have hs := h.size
  refine ⟨by simp [hs], by simp [hs], by simp [hs], ?_⟩
  simp only [Array.getElem?_setIfInBounds]
  simpa using h.gid
theorem i64_and63 (x : Int) : bits .and .i64 x 63 = x % 64 := by
  have e : ((BitVec.ofInt 64 x) &&& 63#64).toNat = (x % 64).toNat := by
    rw [BitVec.toNat_and, BitVec.toNat_ofInt]
    have : (63#64).toNat = 2 ^ 6 - 1 := rfl
    rw [this, Nat.and_two_pow_sub_one_eq_mod]
    omega
  show IntKind.i64.wrap ((BitVec.ofInt 64 x &&& 63#64).toNat : Int) = x % 64
  rw [e, IntKind.wrap_i64]
  omega
theorem may7 : ∀ w : Fin 8, mayF (w.val : Int) 7 = true := by decide +kernel
theorem may0 : ∀ w : Fin 8, mayF (w.val : Int) 0 = ((w.val : Int) == 0) := by decide +kernel
theorem end1 (m g b x : Int) : mayF (x % 8) (bitsF m 5 g 0 b) = true := by
  have := may7 ⟨(x % 8).toNat, by omega⟩
  have e : bitsF m 5 g 0 b = 7 := by simp [bitsF]
  rw [e]
  simpa only [Int.toNat_of_nonneg (show 0 ≤ x % 8 by omega)] using this
theorem end2 (m g b x : Int) : mayF (x % 8) (bitsF (bits .and .i64 m 63) 5 g 5 b) = (x % 8 == 0) := by
  have := may0 ⟨(x % 8).toNat, by omega⟩
  have e : bitsF (bits .and .i64 m 63) 5 g 5 b = 0 := by
    unfold bitsF
    rw [if_neg (by decide), if_pos rfl, i64_and63, i64_and7]
    omega
  rw [e]
  simpa only [Int.toNat_of_nonneg (show 0 ≤ x % 8 by omega)] using this
theorem ino_of_trod {H : Type} {enc : TypeId × Value → H} {w : World} {base : Nat} {spare : Nat → Bool} {held : Bool} {cs : Array Value} {d : DataW H} {ps : List MemPlace}
    (h : DataW.Trod enc Try.prog w base spare held 26 (.agg cs) d ps) (hs : cs.size = Try.prog.cellsOf 26) : ∃ m u g, Ino cs m u g := by
  obtain ⟨m, hm, _⟩ := field_int Try.underlying26 h 1 _ rfl .i64 Try.underlying3 (by kernel_rfl)
  obtain ⟨u, hu, _⟩ := field_int Try.underlying26 h 2 _ rfl .u32 Try.underlying22 (by kernel_rfl)
  obtain ⟨g, hg, _⟩ := field_int Try.underlying26 h 3 _ rfl .u32 Try.underlying22 (by kernel_rfl)
  exact ⟨m, u, g, hs.trans (by kernel_rfl), hm, hu, hg⟩
theorem who_of_trod {H : Type} {enc : TypeId × Value → H} {w : World} {base : Nat} {spare : Nat → Bool} {held : Bool} {cs : Array Value} {d : DataW H} {ps : List MemPlace}
    (h : DataW.Trod enc Try.prog w base spare held 27 (.agg cs) d ps) (hs : cs.size = Try.prog.cellsOf 27) : ∃ a b : Int, cs = #[.int .u32 a, .int .u32 b] := by
  obtain ⟨a, ha, _⟩ := elem_int Try.underlying27 h 0 (by decide) .u32 Try.underlying22 (by kernel_rfl)
  obtain ⟨b, hb, _⟩ := elem_int Try.underlying27 h 1 (by decide) .u32 Try.underlying22 (by kernel_rfl)
  have h2 : cs.size = 2 := hs.trans (by kernel_rfl)
  refine ⟨a, b, Array.ext (by simpa using h2) fun i h1 _ => ?_⟩
  have hc : i = 0 ∨ i = 1 := by omega
  rcases hc with rfl | rfl
  · simpa using (Array.getElem?_eq_some_iff.1 ha).2
  · simpa using (Array.getElem?_eq_some_iff.1 hb).2
attribute [irreducible] mayF bitsF
set_option maxHeartbeats 8000000 in
set_option maxRecDepth 100000 in
theorem PermLess_walk (cs : Array Value) (m u g a b x : Int) (H : Ino cs m u g) (hx : 0 ≤ x) (hx1 : x ≤ 255) (w : World) :
    Calls Try.prog 3 #[.agg cs, .agg #[.int .u32 a, .int .u32 b], .int .u8 x] w (Ret (.bool true) w) := by
  have hK := K2.new w cs a b
  go_enter Try.func3, Try.ntmps3
  go_wp2_with (first | (go_at_call 6; refine (awake_any _).mono ?_; rintro e w' ⟨rfl, hb⟩; replace hK := hK.step hb; clear hb))
  have hb7 := bitsF_range m u g a b
  go_loopw [8] (fun l wr => ∃ k : Nat, k ≤ 8 ∧ l = .int .i64 k ∧ K2 w wr cs a b) (fun l _ => 8 - (intOf l).toNat)
  case atStart => exact ⟨0, by omega, rfl, hK⟩
  case round =>
    clear hK
    obtain ⟨k, hk, rfl, hK⟩ := hrel
    by_cases hlt : k < 8
    · have hc0 := hK.c0
      have hc1 := hK.c1
      by_cases c1 : (bits .and .i64 (x % 8) k == (k : Int)) = true
      · by_cases c2 : mayF (x % 8) (bitsF m u g a b) = true
        · have c3 := less_ok' (x % 8) k (bitsF m u g a b) (by omega) (by omega) hb7 c1 c2
          go_wp2_with (first | ((with_reducible refine wpList_load_row rfl 26 _ rfl _ ?_ 26 cs (0, 0) _ hK.row Try.underlying26 ?_ (info26 cs H.size) ?_); exact rfl; exact rfl) | (go_guarded; (with_reducible refine wp_load_row 26 _ rfl _ ?_ 26 cs (0, 0) _ hK.row Try.underlying26 ?_ (info26 cs H.size) ?_); exact rfl; exact rfl) | (go_at_call 7; refine (may_any cs m u g _ _ _ H _).mono ?_; rintro e w' ⟨rfl, hb⟩; replace hK := hK.step hb; replace hc0 := hK.c0; replace hc1 := hK.c1; clear hb))
          go_roundw
          case rel => exact ⟨k + 1, by omega, by go_num, hK⟩
          case measure => simp [intOf]; omega

        · have c2 : mayF (x % 8) (bitsF m u g a b) = false := by simpa using c2
          go_wp2_with (first | ((with_reducible refine wpList_load_row rfl 26 _ rfl _ ?_ 26 cs (0, 0) _ hK.row Try.underlying26 ?_ (info26 cs H.size) ?_); exact rfl; exact rfl) | (go_guarded; (with_reducible refine wp_load_row 26 _ rfl _ ?_ 26 cs (0, 0) _ hK.row Try.underlying26 ?_ (info26 cs H.size) ?_); exact rfl; exact rfl) | (go_at_call 7; refine (may_any cs m u g _ _ _ H _).mono ?_; rintro e w' ⟨rfl, hb⟩; replace hK := hK.step hb; replace hc0 := hK.c0; replace hc1 := hK.c1; clear hb))
          go_roundw
          case rel => exact ⟨k + 1, by omega, by go_num, hK⟩
          case measure => simp [intOf]; omega

      · have c1 : (bits .and .i64 (x % 8) k == (k : Int)) = false := by simpa using c1
        go_wp2_with (first | ((with_reducible refine wpList_load_row rfl 26 _ rfl _ ?_ 26 cs (0, 0) _ hK.row Try.underlying26 ?_ (info26 cs H.size) ?_); exact rfl; exact rfl) | (go_guarded; (with_reducible refine wp_load_row 26 _ rfl _ ?_ 26 cs (0, 0) _ hK.row Try.underlying26 ?_ (info26 cs H.size) ?_); exact rfl; exact rfl) | (go_at_call 7; refine (may_any cs m u g _ _ _ H _).mono ?_; rintro e w' ⟨rfl, hb⟩; replace hK := hK.step hb; replace hc0 := hK.c0; replace hc1 := hK.c1; clear hb))
        go_roundw
        case rel => exact ⟨k + 1, by omega, by go_num, hK⟩
        case measure => simp [intOf]; omega

    · have q1 : wr.cell? ⟨w.heap.size, 1, none⟩ = some (.int .i64 m) := (hK.cell 1).trans H.mode
      have q2 : wr.cell? ⟨w.heap.size, 2, none⟩ = some (.int .u32 u) := (hK.cell 2).trans H.uid
      have q3 := hK.free 1
      have q4 := hK.free 2
      have hL := hK.stored (.int .i64 (bits .and .i64 m 63)) (.int .u32 5)
      have hI := H.stored (bits .and .i64 m 63) 5
      generalize hcs : (cs.setIfInBounds 2 (.int .u32 5)).setIfInBounds 1 (.int .i64 (bits .and .i64 m 63)) = cs' at hL hI
      have hc1 := hL.c1
      have f1 := end1 (bits .and .i64 m 63) g b x
      have f2 := end2 m g b x
      clear hK hcs
      go_wp2_with (first | ((with_reducible refine wpList_load_row rfl 26 _ rfl _ ?_ 26 cs' (0, 0) _ hL.row Try.underlying26 ?_ (info26 cs' hI.size) ?_); exact rfl; exact rfl) | (go_guarded; (with_reducible refine wp_load_row 26 _ rfl _ ?_ 26 cs' (0, 0) _ hL.row Try.underlying26 ?_ (info26 cs' hI.size) ?_); exact rfl; exact rfl) | (go_at_call 7; refine (may_any cs' _ 5 g _ _ _ hI _).mono ?_; rintro e w' ⟨rfl, hb⟩; replace hL := hL.step hb; replace hc1 := hL.c1; clear hb))
      go_ret
      exact ret_of rfl hL.below
end Go.Proofs.Ytnelamekkjpdgaa
