/- Readings of bytes, of what is handed over; slices.Clone and Bytes, walked. -/
import Derived.Test.YthaipkfaaojppaaPViewRunsx0
import Derived.Deep.QuietTactic
import Derived.BigQuiet
import Derived.Deep.OwnRows
import Derived.Lib.Hide
import Derived.Lib.SliceRun
import Derived.Deep.LoopGhost
namespace Go.Proofs.Ythaipkfaaojppaa.Vw
open Go.RowKit Go.Proofs.YthaipkfaaojppaaW.PrintWords Go.Proofs.YthaipkfaaojppaaW.PrintLast Go.Proofs.YthaipkfaaojppaaW.PrintMore
set_option linter.unusedVariables false
theorem cell_lt {w : World} {p : Addr} {v : Value} (h : w.cell? p = some v) : p.block < w.heap.size := by
  unfold World.cell? at h
  split at h
  · rename_i hb
    exact (Array.getElem?_eq_some_iff.1 hb).1
  · simp at h
/-- What cells held they hold. -/
def Cm (w w1 : World) : Prop := ∀ p v, w.cell? p = some v → w1.cell? p = some v
theorem Cm.refl (w : World) : Cm w w := fun _ _ h => h
theorem Cm.trans {a b c : World} (h : Cm a b) (k : Cm b c) : Cm a c := fun p v e => k p v (h p v e)
theorem Cm.below {w w1 : World} (h : Below w.heap.size w w1) : Cm w w1 := fun p v e => (h.cell (cell_lt e)).trans e
theorem Cm.drawn {w w1 : World} (h : Drawn0 w w1) : Cm w w1 := Cm.below h.below
/-- A row of bytes is read. -/
def RdB (w : World) (v : Value) (bs : List Int) : Prop :=
  (v = .slice none 0 0 ∧ bs = []) ∨ ∃ ad c, v = .slice (some ad) bs.length c ∧ bs.length ≤ c ∧ bs.length ≤ 9223372036854775807 ∧ ∀ j, j < bs.length → w.cell? (ad.add j) = some (.int .u8 (bs.getD j 0))
theorem RdB.cm {w w1 : World} {v : Value} {bs : List Int} (h : RdB w v bs) (k : Cm w w1) : RdB w1 v bs := by
  rcases h with h | ⟨ad, c, e, h1, h2, h3⟩
  · exact .inl h
  · exact .inr ⟨ad, c, e, h1, h2, fun j hj => k _ _ (h3 j hj)⟩
theorem RdB.slice {w : World} {v : Value} {bs : List Int} (h : RdB w v bs) : ∃ A c, v = .slice A bs.length c ∧ bs.length ≤ c ∧ ReadsInt w .u8 A bs.length bs := by
  rcases h with ⟨rfl, rfl⟩ | ⟨ad, c, rfl, h1, h2, h3⟩
  · exact ⟨none, 0, rfl, Nat.le_refl _, rfl, by simp, fun h => absurd h (Nat.lt_irrefl _)⟩
  · exact ⟨some ad, c, rfl, h1, rfl, h2, fun _ => ⟨ad, rfl, h3⟩⟩
theorem C_int {w : World} {k : IntKind} {A : Option Addr} {n : Nat} {xs : List Int} (h : ReadsInt w k A n xs) : Kd.C (Kd.int k) w A n xs := by
  refine ⟨h.1, h.2.1, fun hn => ?_⟩
  obtain ⟨ad, e, hc⟩ := h.2.2 hn
  refine ⟨ad, e, fun j p hj => ⟨[.int k p], rfl, rfl, fun i u hu => ?_⟩⟩
  have hjl := (List.getElem?_eq_some_iff.1 hj).1
  have hc' := hc j (by have := h.1; omega)
  rcases i with _ | i
  · simp at hu
    subst hu
    rw [show j * (Kd.int k).sz + 0 = j by simp [Kd.int, Kd.scalar], hc', List.getD_eq_getElem?_getD, hj]
    rfl
  · simp at hu
theorem RdB.kd {w : World} {v : Value} {bs : List Int} (h : RdB w v bs) : (Kd.slice 5 (Kd.int .u8)).K w bs [v] := by
  obtain ⟨A, c, rfl, hl, hr⟩ := h.slice
  exact ⟨A, c, rfl, hl, C_int hr⟩
/-- A row of bytes of the call's own. -/
def FrB (w : World) (base : Nat) (v : Value) (bs : List Int) : Prop := w.ownsRow base 5 1 v bs.length (nums .u8 bs)
theorem FrB.reads {w : World} {base : Nat} {v : Value} {bs : List Int} (h : FrB w base v bs) : RdB w v bs := by
  rcases h.2 with ⟨rfl, h0⟩ | ⟨g, cap, cur, rfl, hg, hh, hc, hm, _⟩
  · exact .inl ⟨rfl, List.eq_nil_of_length_eq_zero h0⟩
  · refine .inr ⟨_, cap, rfl, hc, by unfold maxLen at hm; omega, fun j hj => ?_⟩
    have e := (own_at h j (by omega) (by omega)).1
    rw [Int.toNat_natCast] at e
    unfold rd at e
    rw [Int.toNat_natCast] at e
    rw [show (⟨g, 0, none⟩ : Addr).add j = ⟨g, j, none⟩ from by unfold Addr.add; by_cases h0 : j = 0 <;> simp [h0]]
    exact e
theorem FrB.below {w w1 : World} {base : Nat} {v : Value} {bs : List Int} (h : FrB w base v bs) (hb : Below w.heap.size w w1) : FrB w1 base v bs := pw_own_below h hb
theorem info5 : (Try.prog.info? 5).map (fun i => (i.zero, i.size, i.bytes)) = some (some (.int .u8 0), 1, 1) := by kernel_rfl
set_option maxRecDepth 100000 in
set_option maxHeartbeats 4000000 in
theorem Clone_walk (w : World) (v : Value) (bs : List Int) (hR : RdB w v bs) (hl : bs.length ≤ 1000000) :
    Calls Try.prog 31 #[v] w fun e w' => ∃ v1, e = .returned v1 ∧ FrB w' w.heap.size v1 bs ∧ Below w.heap.size w w' := by
  have hnil : ∀ (a : Option Addr) (n c : Nat) (W : World), (binOp .eql 44 (.slice a n c) (.slice none 0 0)).run Try.prog W = .ok (.bool a.isNone) W := fun a n c W => Lib.run_eql_slice_nil W 44 5 a n c 0 0 Try.underlying44
  rcases hR with ⟨rfl, rfl⟩ | ⟨ad, c, rfl, h1, h2, h3⟩
  · go_enter Try.func31, Try.ntmps31
    go_wp2_with fail
    go_ret
    exact ⟨_, rfl, own_nil _ _ _ _, Below.refl _ _⟩
  · have hO0 : (w.alloc (.cells #[] 5)).ownsRow w.heap.size 5 1 (.slice (some ⟨w.heap.size, 0, none⟩) 0 0) 0 (nums .u8 []) := own_lit w w.heap.size 5 .u8 [] (Nat.le_refl _) (by simp)
    have hB0 : Below w.heap.size w (w.alloc (.cells #[] 5)) := (Below.refl _ _).alloc (Nat.le_refl _) _
    have hR : ReadsInt w .u8 (some ad) bs.length bs := ⟨rfl, h2, fun _ => ⟨ad, rfl, h3⟩⟩
    replace hR := hR.below hB0
    replace hO0 := Lib.hid hO0
    replace hB0 := Lib.hid hB0
    replace hR := Lib.hid hR
    clear h3
    go_enter Try.func31, Try.ntmps31
    go_wp2_with (at_builtin; refine print_append_row (w0 := w) w.heap.size rfl (.tmp 5) (.tmp 6) 44 5 .u8 1 rfl Try.underlying44 info5 (by decide) (.slice (some ⟨w.heap.size, 0, none⟩) 0 0) [] bs (some ad) bs.length c rfl rfl hO0.out hR.out hB0.out hB0.out.size (by simp only [List.length_nil]; omega) ?_; intro v1 w1 ho hb hg hat; clear hg hat; rw [List.nil_append] at ho; replace ho := Lib.hid ho)
    go_ret
    exact ⟨_, rfl, ho.out, hb⟩
end Go.Proofs.Ythaipkfaaojppaa.Vw
