/- What the laws' rows share: the table as it lies; a world that holds it; a row of steps opened. -/
import Derived.Test.YtnddahkkdcgpaaaDoorRows
import Derived.Test.YtnddahkkdcgpaaaDoorSp10
import Derived.WalkKit
import Derived.ProofKit
import Derived.OpenShut
import Derived.ShutString
import Derived.ChangeOld
import Derived.ChangeVars
import Derived.JoinedOf
import Derived.Below
import Derived.SizedLaws
import Derived.Carry
import Derived.LaidLaws
import Derived.Deep.Slices
import Derived.Deep.Fields
import Derived.ChangeSame
namespace Go.Proofs.YtnddahkkdcgpaaaDoor.Fr
open Go.ChangeShapes Go.WideShapes Go.ChangeAt Go.RowKit Go.Deep
set_option linter.unusedVariables false
theorem own : ownKnob Tryd.prog.godebug = none := by kernel_rfl
theorem gN : Tryd.prog.globalNamed "math/bits.deBruijn64tab" = some 0 := by kernel_rfl
theorem gT : (Tryd.prog.globals[0]?).map (·.type) = some 61 := by kernel_rfl
theorem c5 : Tryd.prog.cellsOf 5 = 1 := by kernel_rfl
theorem c61 : Tryd.prog.cellsOf 61 = 64 := by kernel_rfl
abbrev L64 : List (String × DataW Unit) := [("math/bits.deBruijn64tab", Rows.laid_math_bits_deBruijn64tab)]
theorem table_eq : (Rows.laid_math_bits_deBruijn64tab : DataW Unit) = .agg (Lib.deBruijn64tab.map (fun (n : Nat) => (.lit (.int .u8 (n : Int)) : DataW Unit))) := rfl
theorem int_of_trod {H : Type} {enc : TypeId × Value → H} {P : Program} {w : World} {base : Nat} {sp : Nat → Bool} {held : Bool} {fuel : Nat} {t : TypeId} {k : IntKind} {c : Value} {y : DataW H × List MemPlace}
    (ht : P.underlying t = some (.int k)) (h : DataW.trod enc P w base sp held fuel t [c] = some y) : ∃ n, c = .int k n ∧ y = (.lit (.int k n), []) := by
  cases fuel with
  | zero => simp [DataW.trod] at h
  | succ fuel =>
    cases c <;> simp [DataW.trod, ht] at h
    rename_i k' n
    obtain ⟨⟨rfl, _⟩, rfl⟩ := h
    exact ⟨n, rfl, rfl⟩
theorem int_of_trodw {H : Type} {enc : TypeId × Value → H} {P : Program} {w : World} {base : Nat} {sp : Nat → Bool} {held : Bool} {fuel : Nat} {t : TypeId} {k : IntKind} {c : Value} {y : DataW H × List MemPlace}
    (ht : P.underlying t = some (.int k)) (h : DataW.trod enc P w base sp held fuel t [c] = some y) : ∃ n, c = .int k n ∧ y = (.lit (.int k n), []) ∧ (Lit.int k n).wf = true := by
  cases fuel with
  | zero => simp [DataW.trod] at h
  | succ fuel =>
    cases c <;> simp [DataW.trod, ht] at h
    rename_i k' n
    obtain ⟨⟨rfl, hw⟩, rfl⟩ := h
    exact ⟨n, rfl, rfl, hw⟩
theorem tab_of_laid {W : World} (h : laidMet Tryd.prog L64 W) : TabAt 0 Lib.deBruijn64tab W := by
  obtain ⟨ps, ⟨g, t, cs, fuel, p, q, hg, ht, hvar, hd, _, _⟩, _⟩ := h
  obtain rfl := Option.some.inj (gN.symm.trans hg)
  obtain rfl := Option.some.inj (gT.symm.trans ht)
  obtain ⟨xs, m, rfl, hx, hl, hn, hi⟩ := DataW.trod_array Tryd.underlying61 hd
  rw [c61] at hl
  have hx1 := (Prod.mk.inj hx).1
  rw [table_eq] at hx1
  have hx2 := DataW.agg.inj hx1
  intro j hj
  have hj : j < 64 := hj
  have hij := hi j hj
  rw [c5, Nat.mul_one] at hij
  have hcl : j < cs.toList.length := by omega
  rw [List.drop_eq_getElem_cons hcl, List.take_succ_cons, List.take_zero] at hij
  have hxj : xs[j]? = some xs[j] := List.getElem?_eq_getElem (by omega)
  rw [hxj] at hij
  obtain ⟨n, hc, hy⟩ := int_of_trod Tryd.underlying5 hij
  have e := congrArg (fun l => l[j]?) hx2
  simp only [List.getElem?_map, hxj, Option.map_some, hy] at e
  have hd : Lib.deBruijn64tab[j]? = some (Lib.deBruijn64tab.getD j 0) := by
    rw [List.getD_eq_getElem?_getD, List.getElem?_eq_getElem (by exact hj)]; rfl
  rw [hd] at e
  simp at e
  have hcell := World.var?_cell hg hvar j
  rw [hcell, ← Array.getElem?_toList, List.getElem?_eq_getElem hcl, hc, ← e, List.getD_eq_getElem?_getD]
noncomputable def laidWorld (os : Os) : World :=
  let w0 := World.holding Tryd.prog os ⟨#[], #[], []⟩
  { w0 with heap := w0.heap.modify 0 fun
      | .cells _ t frozen => .cells (Lib.deBruijn64tab.map (fun (n : Nat) => Value.int .u8 (n : Int))).toArray t frozen
      | o => o }
theorem laid_met (os : Os) (args : Array Value) : laidMet Tryd.prog L64 ((laidWorld os).forCall (fun _ _ => 0) ⟨#[], args, []⟩).memory :=
  laidMet_of_run (ps := (List.range 64).map (fun j => .cell 0 j)) 8 (by kernel_rfl) (by kernel_rfl) (by kernel_rfl)
section
variable {H : Type} {enc : TypeId × Value → H} {P : Program} {w : World} {base : Nat} {spare : Nat → Bool} {held : Bool}
theorem open_slice_fields {t e : TypeId} {fs : Array Field} {fuel : Nat} {cs : List Value} {x : DataW H × List MemPlace} (ht : P.underlying t = some (.slice e)) (he : P.underlying e = some (.struct fs))
    (hone : oneCellFields P fs = true) (hC : P.cellsOf e = fs.size) (h : DataW.trod enc P w base spare held fuel t cs = some x) :
    (cs = [.slice none 0 0] ∧ x = (.nil, [])) ∨
    ∃ (a : Addr) (len cap m : Nat) (D : Nat → DataW H) (Pl : Nat → List MemPlace), cs = [.slice (some a) len cap] ∧ base ≤ a.block ∧ len ≤ cap ∧ cap ≤ maxLen ∧ m = (if spare a.block then cap else len) ∧
      x = (.slice ((List.range len).map D) ((List.range (m - len)).map fun j => D (len + j)), MemPlace.row a (m * fs.size) ++ (List.range m).flatMap Pl) ∧
      ∀ i, i < m → ∃ (ys : List (DataW H × List MemPlace)) (n : Nat), D i = .agg (ys.map (·.1)) ∧ Pl i = ys.flatMap (·.2) ∧ ys.length = fs.size ∧
        ∀ (j : Nat) (f : Field), fs[j]? = some f → ∃ (v : Value) (y : DataW H × List MemPlace), w.cell? (a.add (i * fs.size + j)) = some v ∧ ys[j]? = some y ∧ DataW.trod enc P w base spare held n f.type [v] = some y := by
  rcases open_slice ht h with h0 | ⟨a, len, cap, m, n, D, Pl, hcs, hb, hl, hm, hmm, hx, hi⟩
  · exact .inl h0
  · refine .inr ⟨a, len, cap, m, D, Pl, hcs, hb, hl, hm, hmm, by rw [hC] at hx; exact hx, fun i him => ?_⟩
    obtain ⟨cs', hc, ht'⟩ := hi i him
    rw [hC] at hc
    obtain ⟨ys, n', hn', hy, hlen, hyl, hf⟩ := DataW.trod_struct he ht'
    obtain ⟨_, hcl, hat⟩ := World.cells?_some hc
    simp only [Prod.mk.injEq] at hy
    refine ⟨ys, n', hy.1, hy.2, hyl, fun j f hj => ?_⟩
    obtain ⟨ho, hk⟩ := hone_of hone j f hj
    have hjl : j < fs.size := (Array.getElem?_eq_some_iff.1 hj).1
    have hcell := hat j hjl
    have hv : cs'[j]? = some (cs'[j]'(by omega)) := List.getElem?_eq_getElem (by omega)
    have h1 := hf j f hj
    rw [ho, hk] at h1
    have hone' : (cs'.drop j).take 1 = [cs'[j]'(by omega)] := by
      rw [List.drop_eq_getElem_cons (by omega)]
      rfl
    rw [hone'] at h1
    have hys : ys[j]? = some (ys[j]'(by omega)) := List.getElem?_eq_getElem (by omega)
    refine ⟨_, _, ?_, hys, h1.trans hys⟩
    rw [← Go.Deep.add_add, hcell, hv]
end
/-- A row of steps: two numbers each. -/
def Scr (w : World) (A : Option Addr) (l : Nat) : Prop := ∀ i, i < l → ∃ (x : Addr) (k a : Int), A = some x ∧ w.cell? (x.add (i * 2)) = some (.int .i64 k) ∧ w.cell? (x.add (i * 2 + 1)) = some (.int .i64 a) ∧ (-9223372036854775808 ≤ a ∧ a ≤ 9223372036854775807)
theorem open_script {H : Type} {enc : TypeId × Value → H} {W : World} {base : Nat} {a : Option Addr} {len cap : Nat} {d : DataW H} {p : List MemPlace}
    (h : DataW.Trod enc Tryd.prog W base (fun _ => true) true 22 (.slice a len cap) d p) : Scr W a len ∧ len ≤ maxLen := by
  obtain ⟨fuel, hf⟩ := h
  rcases open_slice_fields Tryd.underlying22 Tryd.underlying30 (by kernel_rfl) (by kernel_rfl) hf with ⟨hcs, _⟩ | ⟨x, l, c, m, D, Pl, hcs, _, hl, hm, hmm, _, hfs⟩
  · simp [Value.cells] at hcs
    obtain ⟨rfl, rfl, rfl⟩ := hcs
    exact ⟨fun i hi => absurd hi (by omega), Nat.zero_le _⟩
  · simp [Value.cells] at hcs
    obtain ⟨rfl, rfl, rfl⟩ := hcs
    simp only [if_true] at hmm
    subst hmm
    refine ⟨fun i hi => ?_, Nat.le_trans hl hm⟩
    obtain ⟨ys, n, _, _, hlen, hf⟩ := hfs i (by omega)
    obtain ⟨v0, y0, hc0, _, ht0⟩ := hf 0 _ rfl
    obtain ⟨v1, y1, hc1, _, ht1⟩ := hf 1 _ rfl
    obtain ⟨k, rfl, _⟩ := int_of_trod Tryd.underlying3 ht0
    obtain ⟨a, rfl, _, wa⟩ := int_of_trodw Tryd.underlying3 ht1
    exact ⟨x, k, a, rfl, hc0, hc1, bounds_i64 wa⟩
theorem laidOut : laidOutB Tryd.prog = true := by kernel_rfl
end Go.Proofs.YtnddahkkdcgpaaaDoor.Fr
