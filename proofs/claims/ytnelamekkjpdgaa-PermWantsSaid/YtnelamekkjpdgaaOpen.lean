/- Small lemmas on how a struct or an array by value is read: which cell holds which number. -/
import Derived.Test.YtnelamekkjpdgaaChecked
import Derived.WalkKit
import Derived.ProofKit
import Derived.OpenShut
namespace Go.Proofs.Ytnelamekkjpdgaa
open Go.RowKit
section
variable {H : Type} {enc : TypeId × Value → H} {P : Program} {w : World} {base : Nat} {spare : Nat → Bool} {held : Bool}
theorem okWide_arr {r : Reach} {b0 : Nat} {t : TypeId} {n : Nat} {e : TypeId} {v : Value} (ht : P.underlying t = some (.array n e)) (h : Value.okWide P w r b0 t v) : ∃ cs, v = .agg cs ∧ cs.size = P.cellsOf t := by
  simp only [Value.okWide, ht] at h
  obtain ⟨cs, h1, h2, _⟩ := h
  exact ⟨cs, h1, h2⟩
theorem one_of_drop {l : List Value} {o : Nat} {v : Value} (h : (l.drop o).take 1 = [v]) : l[o]? = some v := by
  have := congrArg (·[0]?) h
  simpa [List.getElem?_take, List.getElem?_drop] using this
theorem field_int {T : TypeId} {fs : Array Field} (ht : P.underlying T = some (.struct fs)) {cs : Array Value} {d : DataW H} {ps : List MemPlace} (h : DataW.Trod enc P w base spare held T (.agg cs) d ps)
    (i : Nat) (f : Field) (hf : fs[i]? = some f) (k : IntKind) (hk : P.underlying f.type = some (.int k)) (h1 : P.cellsOf f.type = 1) : ∃ n : Int, cs[f.offset]? = some (.int k n) ∧ (Lit.int k n).wf = true := by
  obtain ⟨fuel, hx⟩ := h
  obtain ⟨xs, m, _, _, _, hl, hall⟩ := DataW.trod_struct ht hx
  have hi : i < fs.size := (Array.getElem?_eq_some_iff.1 hf).1
  have h2 := hall i f hf
  rw [h1, List.getElem?_eq_getElem (by omega)] at h2
  obtain ⟨n, h3, _, h5⟩ := DataW.trod_int hk h2
  have := one_of_drop h3
  refine ⟨n, ?_, h5⟩
  simpa [Value.cells] using this
theorem elem_int {T : TypeId} {c : Nat} {e : TypeId} (ht : P.underlying T = some (.array c e)) {cs : Array Value} {d : DataW H} {ps : List MemPlace} (h : DataW.Trod enc P w base spare held T (.agg cs) d ps)
    (i : Nat) (hi : i < c) (k : IntKind) (hk : P.underlying e = some (.int k)) (h1 : P.cellsOf e = 1) : ∃ n : Int, cs[i]? = some (.int k n) ∧ (Lit.int k n).wf = true := by
  obtain ⟨fuel, hx⟩ := h
  obtain ⟨xs, m, _, _, _, hl, hall⟩ := DataW.trod_array ht hx
  have h2 := hall i hi
  rw [h1, List.getElem?_eq_getElem (by omega)] at h2
  obtain ⟨n, h3, _, h5⟩ := DataW.trod_int hk h2
  have := one_of_drop h3
  refine ⟨n, ?_, h5⟩
  simpa [Value.cells] using this
end
end Go.Proofs.Ytnelamekkjpdgaa
