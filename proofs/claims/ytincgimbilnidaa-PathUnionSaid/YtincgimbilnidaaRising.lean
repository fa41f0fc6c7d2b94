/- What path.rising comes to. -/
import Derived.Test.YtincgimbilnidaaShelf
import Derived.Test.YtincgimbilnidaaPPathSizesx2
import Derived.Sort.OwnSorted
import Derived.Lib.Hide
namespace Go.Proofs.Ytincgimbilnidaa.MyAbove
open Go.RowKit Go.Sort Go.Proofs.Ytincgimbilnidaa.PPathSizes Go.Proofs.YtincgimbilnidaaW.PrintWords Go.Proofs.YtincgimbilnidaaW.PrintLast Go.Proofs.YtincgimbilnidaaW.PrintMore
set_option linter.unusedVariables false
abbrev eI : Int → Value := Value.int .i64
theorem holds_int {w : World} {g : Nat} {cur : Array Value} {e : TypeId} {ss : List Int} (hb : w.heap[g]? = some (.cells cur e (0, 0))) (ht : cur.toList.take ss.length = ss.map eI) : Holds eI w g 0 ss.toArray := by
  intro j hj
  have hj' : j < ss.length := by simpa using hj
  refine ⟨?_, by simp [World.frozen?, hb]⟩
  have h1 : (cur.toList.take ss.length)[j]? = (ss.map eI)[j]? := by rw [ht]
  rw [List.getElem?_take_of_lt hj'] at h1
  simp only [World.cell?, hb, Nat.zero_add]
  simp only [Option.isSome_none, Bool.false_eq_true, if_false]
  rw [← Array.getElem?_toList, h1]
  simp [hj']
theorem heap_sortedI {w : World} {g n : Nat} {os : Array Obj} {cur : Array Value} {e : TypeId} {fr : Nat × Nat} (d : Array Int) (hb : w.heap[g]? = some (.cells cur e fr)) :
    (grow (putRow eI (Sort.ahead w n) g 0 d) os).heap[g]? = some (.cells (putCells eI 0 d cur) e fr) := by
  have hg : g < w.heap.size := (Array.getElem?_eq_some_iff.1 hb).1
  rw [heap_grow_old _ _ (by simpa using hg)]
  simp [putRow, mapBlock, Sort.ahead, Array.getElem?_modify, hb, onCells]
theorem grownBy_sortedI {w : World} {g n : Nat} {os : Array Obj} (d : Array Int) : w.grownBy (grow (putRow eI (Sort.ahead w n) g 0 d) os) (some g) := by
  refine ⟨rfl, rfl, rfl, by simp, fun k hk hne => ?_⟩
  rw [heap_grow_old _ _ (by simpa using hk)]
  have : g ≠ k := fun e => hne (by rw [e])
  simp [putRow, mapBlock, Sort.ahead, Array.getElem?_modify, this]
theorem take_putCellsI (cur : Array Value) (ts : List Int) (h : ts.length ≤ cur.size) : (putCells eI 0 ts.toArray cur).toList.take ts.length = ts.map eI := by
  apply List.ext_getElem?
  intro j
  by_cases hj : j < ts.length
  · rw [List.getElem?_take_of_lt hj, Array.getElem?_toList]
    simp [putCells, hj, show j < cur.size by omega]
  · rw [List.getElem?_take_eq_none (by omega), List.getElem?_eq_none (by simp; omega)]
theorem compact_le (zs : List Int) : (Lib.compact zs).length ≤ zs.length := by
  unfold Lib.compact Lib.compactUpTo
  rw [List.length_map]
  exact Nat.le_trans (List.length_filter_le _ _) (by simp)
def risF (xs : List Int) : List Int := Lib.compact (xs.mergeSort fun x y => decide (x ≤ y))
/-- rising: over a row of its own: the row holds the list in order, each once. -/
theorem rising_any (g cap : Nat) (cur : Array Value) (xs : List Int) (w : World) (hb : w.heap[g]? = some (.cells cur 3 (0, 0))) (ht : cur.toList.take xs.length = xs.map eI) (hcap : xs.length ≤ cap) (hcs : cap ≤ cur.size) (hsz : xs.length < 1000000) :
    Calls Try.prog 20 #[.slice (some ⟨g, 0, none⟩) xs.length cap] w fun e w' => e = .returned (.slice (some ⟨g, 0, none⟩) (risF xs).length cap) ∧ w.grownBy w' (some g) ∧
      ∃ cur', w'.heap[g]? = some (.cells cur' 3 (0, 0)) ∧ cur'.size = cur.size ∧ cur'.toList.take (risF xs).length = (risF xs).map eI := by
  have hg := (Array.getElem?_eq_some_iff.1 hb).1
  have hs := Try.slices_Sort_int g 0 cap xs w (holds_int hb ht) hg (by omega)
  have hlen : (xs.mergeSort fun x y => decide (x ≤ y)).length = xs.length := by simp
  go_enter Try.func20, Try.ntmps20
  go_wp2_with fail
  refine hs.mono ?_
  rintro e w1 ⟨rfl, n, os, rfl⟩
  have hb1 := heap_sortedI (n := n) (os := os) (xs.mergeSort fun x y => decide (x ≤ y)).toArray hb
  have hg1 := grownBy_sortedI (w := w) (g := g) (n := n) (os := os) (xs.mergeSort fun x y => decide (x ≤ y)).toArray
  have ht1 := take_putCellsI cur (xs.mergeSort fun x y => decide (x ≤ y)) (by omega)
  obtain ⟨zs, hzs⟩ : ∃ zs, zs = (xs.mergeSort fun x y => decide (x ≤ y)) := ⟨_, rfl⟩
  rw [← hzs] at hb1 hg1 ht1 hlen ⊢
  obtain ⟨W1, hW1⟩ : ∃ W1, W1 = grow (putRow eI (Sort.ahead w n) g 0 zs.toArray) os := ⟨_, rfl⟩
  rw [← hW1] at hb1 hg1 ⊢
  obtain ⟨cur1, hcu⟩ : ∃ cur1, cur1 = putCells eI 0 zs.toArray cur := ⟨_, rfl⟩
  rw [← hcu] at hb1 ht1
  have hsize : cur1.size = cur.size := by rw [hcu]; simp [putCells]
  clear hcu hs hW1
  have hcp := Try.slices_Compact_int g 0 cap zs W1 (holds_int hb1 ht1) (by omega) (by omega)
  rw [hlen] at hcp
  go_wp2_with fail
  refine hcp.mono ?_
  rintro e w2 ⟨rfl, q, rfl⟩
  have hcl : (Lib.compact zs).length ≤ zs.length := compact_le zs
  have hb2 := heap_sortedI (n := q) (os := #[]) (Lib.compact zs ++ List.replicate (xs.length - (Lib.compact zs).length) 0).toArray hb1
  have hg2 := grownBy_sortedI (w := W1) (g := g) (n := q) (os := #[]) (Lib.compact zs ++ List.replicate (xs.length - (Lib.compact zs).length) 0).toArray
  have ht2 := take_putCellsI cur1 (Lib.compact zs ++ List.replicate (xs.length - (Lib.compact zs).length) 0) (by simp; omega)
  simp only [grow_empty] at hb2 hg2
  have hr : risF xs = Lib.compact zs := by unfold risF; rw [← hzs]
  have ht3 : (putCells eI 0 (Lib.compact zs ++ List.replicate (xs.length - (Lib.compact zs).length) 0).toArray cur1).toList.take (Lib.compact zs).length = (Lib.compact zs).map eI := by
    have := congrArg (List.take (Lib.compact zs).length) ht2
    rw [List.take_take, Nat.min_eq_left (by simp)] at this
    rw [this]
    simp
  obtain ⟨W2, hW2⟩ : ∃ W2, W2 = putRow eI (Sort.ahead W1 q) g 0 (Lib.compact zs ++ List.replicate (xs.length - (Lib.compact zs).length) 0).toArray := ⟨_, rfl⟩
  rw [← hW2] at hb2 hg2 ⊢
  have fin0 : w.grownBy W2 (some g) ∧ ∃ cur', W2.heap[g]? = some (.cells cur' 3 (0, 0)) ∧ cur'.size = cur.size ∧ cur'.toList.take (Lib.compact zs).length = (Lib.compact zs).map eI :=
    ⟨World.grownBy.trans hg1 hg2, _, hb2, by simp [putCells, hsize], ht3⟩
  have fin := Lib.hid fin0
  clear fin0 hW2
  clear ht3 hb2 hg2 ht2 ht1 hb1 hg1 hcp hlen hzs hsize hb ht
  have Hr := Lib.hid hr
  clear hr
  go_wp2
  go_ret
  rw [Hr.out]
  exact ⟨rfl, fin.out⟩
end Go.Proofs.Ytincgimbilnidaa.MyAbove
