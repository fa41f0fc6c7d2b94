/- What the laws' rows share: a source and a script, opened. -/
import Derived.Test.YthaipkfaaojppaaV13
import Derived.Test.YthaipkfaaojppaaRows
import Derived.WalkKit
import Derived.ProofKit
import Derived.OpenShut
import Derived.ChangeSlices
import Derived.Below
import Derived.SizedLaws
import Derived.Carry
import Derived.Deep.Slices
import Derived.Deep.Fields
import Derived.ChangeSame
import Derived.Lib.SmallJoins
namespace Go.Proofs.Ythaipkfaaojppaa.Vw
open Go.Joins Go.ChangeShapes Go.WideShapes Go.ChangeAt Go.RowKit Go.Deep
open Go.Proofs.YthaipkfaaojppaaW.PrintWords (ReadsInt)
set_option linter.unusedVariables false
theorem laidOut : laidOutB Try.prog = true := by kernel_rfl
theorem own : ownKnob Try.prog.godebug = none := by kernel_rfl
section
variable {H : Type} {enc : TypeId × Value → H} {P : Program} {w : World} {base : Nat} {spare : Nat → Bool} {held : Bool}
theorem open_slice_fields {t e : TypeId} {fs : Array Field} {fuel : Nat} {cs : List Value} {x : DataW H × List MemPlace} (ht : P.underlying t = some (.slice e)) (he : P.underlying e = some (.struct fs))
    (hone : oneCellFields P fs = true) (hC : P.cellsOf e = fs.size) (h : DataW.trod enc P w base spare held fuel t cs = some x) :
    (cs = [.slice none 0 0] ∧ x = (.nil, [])) ∨
    ∃ (a : Addr) (len cap m : Nat) (D : Nat → DataW H) (Pl : Nat → List MemPlace), cs = [.slice (some a) len cap] ∧ base ≤ a.block ∧ len ≤ cap ∧ cap ≤ maxLen ∧ m = (if spare a.block then cap else len) ∧
      x = (.slice ((List.range len).map D) ((List.range (m - len)).map fun j => D (len + j)), MemPlace.row a (m * fs.size) ++ (List.range m).flatMap Pl) ∧
      ∀ i, i < m → ∃ (ys : List (DataW H × List MemPlace)) (n : Nat), D i = .agg (ys.map (·.1)) ∧ Pl i = ys.flatMap (·.2) ∧ ys.length = fs.size ∧
        ∀ (j : Nat) (f : Field), fs[j]? = some f → ∃ (v : Value) (y : DataW H × List MemPlace), w.cell? (a.add (i * fs.size + j)) = some v ∧ ys[j]? = some y ∧ DataW.trod enc P w base spare held n f.type [v] = some y := by
  rcases open_slice ht h with h0 | ⟨a, len, cap, m, n, D, Pl, hcs, hb, hl, hm, hmm, hx, hi⟩
  · exact .inl h0
  · refine .inr ⟨a, len, cap, m, D, Pl, hcs, hb, hl, hm, hmm, by rw [hC] at hx; exact hx, fun i him => ?_⟩
    obtain ⟨cs', hc, ht'⟩ := hi i him
    rw [hC] at hc
    obtain ⟨ys, n', hn', hy, hlen, hyl, hf⟩ := DataW.trod_struct he ht'
    obtain ⟨_, hcl, hat⟩ := World.cells?_some hc
    simp only [Prod.mk.injEq] at hy
    refine ⟨ys, n', hy.1, hy.2, hyl, fun j f hj => ?_⟩
    obtain ⟨ho, hk⟩ := hone_of hone j f hj
    have hjl : j < fs.size := (Array.getElem?_eq_some_iff.1 hj).1
    have hcell := hat j hjl
    have hv : cs'[j]? = some (cs'[j]'(by omega)) := List.getElem?_eq_getElem (by omega)
    have h1 := hf j f hj
    rw [ho, hk] at h1
    have hone' : (cs'.drop j).take 1 = [cs'[j]'(by omega)] := by
      rw [List.drop_eq_getElem_cons (by omega)]
      rfl
    rw [hone'] at h1
    have hys : ys[j]? = some (ys[j]'(by omega)) := List.getElem?_eq_getElem (by omega)
    refine ⟨_, _, ?_, hys, h1.trans hys⟩
    rw [← Go.Deep.add_add, hcell, hv]
theorem mem_weightsAll {e : TypeId} {d : DataW H} {n : Nat} (hn : n ∈ d.weights P e) : ∀ {l : List (DataW H)}, d ∈ l → n ∈ DataW.weightsAll P e l
  | x :: l, hd => by
    unfold DataW.weightsAll
    rcases List.mem_cons.1 hd with rfl | hd
    · exact List.mem_append_left _ hn
    · exact List.mem_append_right _ (mem_weightsAll hn hd)
theorem weights_elem {t e : TypeId} {elems sp : List (DataW H)} (hu : P.underlying t = some (.slice e)) {B : Nat} (h : ∀ n ∈ (DataW.slice elems sp).weights P t, n ≤ B) {d : DataW H} (hd : d ∈ elems) : ∀ n ∈ d.weights P e, n ≤ B := fun n hn => h n (by
  simp only [DataW.weights, hu]
  exact List.mem_cons_of_mem _ (List.mem_append_left _ (mem_weightsAll hn hd)))
theorem weights_field {t : TypeId} {fs : Array Field} {parts : List (DataW H)} (hu : P.underlying t = some (.struct fs)) {B : Nat} (h : ∀ n ∈ (DataW.agg parts).weights P t, n ≤ B) {j : Nat} {t' : TypeId} {d : DataW H} (ht : (fs.toList.map (·.type))[j]? = some t') (hd : parts[j]? = some d) : ∀ n ∈ d.weights P t', n ≤ B := fun n hn => h n (by
  simp only [DataW.weights, hu]
  exact DataW.weights_mem_each ht hd n hn)
end
theorem list_of {α : Type} (d : α) (R : Nat → α → Prop) : ∀ n, (∀ i, i < n → ∃ x, R i x) → ∃ l : List α, l.length = n ∧ ∀ i, i < n → R i (l.getD i d)
  | 0, _ => ⟨[], rfl, fun i hi => absurd hi (by omega)⟩
  | n + 1, h => by
    obtain ⟨l, hl, hr⟩ := list_of d R n (fun i hi => h i (by omega))
    obtain ⟨x, hx⟩ := h n (by omega)
    refine ⟨l ++ [x], by simp [hl], fun i hi => ?_⟩
    rw [List.getD_eq_getElem?_getD]
    by_cases e : i < n
    · rw [List.getElem?_append_left (by omega), ← List.getD_eq_getElem?_getD]
      exact hr i e
    · obtain rfl : i = n := by omega
      rw [List.getElem?_append_right (by omega), hl]
      simpa using hx
theorem c44 : Try.prog.cellsOf 44 = 1 := by kernel_rfl
theorem c4 : Try.prog.cellsOf 4 = 1 := by kernel_rfl
theorem b5 : Try.prog.bytesOf 5 = 1 := by kernel_rfl
section
variable {H : Type} {enc : TypeId × Value → H} {W : World} {base : Nat}
theorem bytes_of_trod {fuel : Nat} {v : Value} {y : DataW H × List MemPlace} (h : DataW.trod enc Try.prog W base (fun _ => true) true fuel 44 [v] = some y) (hw : ∀ n ∈ y.1.weights Try.prog 44, n ≤ reachBytes) : ∃ bs, RdB W v bs ∧ bs.length ≤ 281474976710656 := by
  rcases open_ints Try.underlying44 Try.underlying5 (by kernel_rfl) h with ⟨hcs, _⟩ | ⟨a, len, cap, zs, hcs, _, hl, hm, hz, rfl, hcell, _⟩
  · injection hcs with hcs _
    subst hcs
    exact ⟨[], .inl ⟨rfl, rfl⟩, by simp⟩
  · injection hcs with hcs _
    subst hcs
    simp only [if_true] at hz
    have hlen : (zs.take len).length = len := by simp; omega
    have h1 := hw (((lits (H := H) .u8 (zs.take len)).length + (lits (H := H) .u8 (zs.drop len)).length) * Try.prog.bytesOf 5) (by simp [DataW.weights, Try.underlying44])
    rw [b5] at h1
    simp only [lits, List.length_map, List.length_take, List.length_drop] at h1
    have h2 : reachBytes ≤ 281474976710656 := by decide
    refine ⟨zs.take len, .inr ⟨a, cap, by rw [hlen], by omega, by unfold maxLen at hm; omega, fun j hj => ?_⟩, by omega⟩
    rw [hlen] at hj
    rw [hcell j (by omega), List.getD_eq_getElem?_getD, List.getD_eq_getElem?_getD, List.getElem?_take, if_pos hj]
theorem open_blocks {fuel : Nat} {v : Value} {y : DataW H × List MemPlace} (h : DataW.trod enc Try.prog W base (fun _ => true) true fuel 22 [v] = some y) (hw : ∀ n ∈ y.1.weights Try.prog 22, n ≤ reachBytes) :
    ∃ AB bl cB, v = .slice AB (bl : List (List Int)).length cB ∧ RowB W AB bl ∧ bl.length ≤ 9223372036854775807 ∧ ∀ i, i < bl.length → (bl.getD i []).length ≤ 281474976710656 := by
  rcases open_slice Try.underlying22 h with ⟨hcs, _⟩ | ⟨a, len, cap, m, n, D, Pl, hcs, _, hl, hm, hmm, rfl, hi⟩
  · injection hcs with hcs _
    subst hcs
    exact ⟨none, [], 0, rfl, fun i hi => absurd hi (by simp), by simp, fun i hi => absurd hi (by simp)⟩
  · injection hcs with hcs _
    subst hcs
    simp only [if_true] at hmm
    rw [c44] at hi
    obtain ⟨bl, hbl, hr⟩ := list_of ([] : List Int) (fun i bs => ∃ v, W.cell? (a.add i) = some v ∧ RdB W v bs ∧ bs.length ≤ 281474976710656) len (fun i hil => by
      obtain ⟨cs', hc, ht⟩ := hi i (by omega)
      obtain ⟨_, hcl, hat⟩ := World.cells?_some hc
      rw [Nat.mul_one] at hat
      match cs', hcl with
      | [u], _ =>
        obtain ⟨bs, h1, h2⟩ := bytes_of_trod ht (weights_elem Try.underlying22 hw (List.mem_map.2 ⟨i, by simp [hil], rfl⟩))
        have := hat 0 (by omega)
        rw [Go.Deep.add_add, Nat.add_zero] at this
        exact ⟨bs, u, this, h1, h2⟩)
    refine ⟨some a, bl, cap, by rw [hbl], fun i hi => ?_, by unfold maxLen at hm; omega, fun i hi => ?_⟩
    · obtain ⟨u, h1, h2, _⟩ := hr i (by omega)
      exact ⟨a, u, rfl, h1, h2⟩
    · obtain ⟨_, _, _, h3⟩ := hr i (by omega)
      exact h3
theorem open_known {fuel : Nat} {v : Value} {y : DataW H × List MemPlace} (h : DataW.trod enc Try.prog W base (fun _ => true) true fuel 23 [v] = some y) :
    ∃ AK kn cK, v = .slice AK (kn : List Bool).length cK ∧ RowK W AK kn ∧ kn.length ≤ 9223372036854775807 := by
  rcases open_slice Try.underlying23 h with ⟨hcs, _⟩ | ⟨a, len, cap, m, n, D, Pl, hcs, _, hl, hm, hmm, rfl, hi⟩
  · injection hcs with hcs _
    subst hcs
    exact ⟨none, [], 0, rfl, fun i hi => absurd hi (by simp), by simp⟩
  · injection hcs with hcs _
    subst hcs
    simp only [if_true] at hmm
    rw [c4] at hi
    obtain ⟨kn, hkn, hr⟩ := list_of false (fun i b => W.cell? (a.add i) = some (.bool b)) len (fun i hil => by
      obtain ⟨cs', hc, ht⟩ := hi i (by omega)
      obtain ⟨_, hcl, hat⟩ := World.cells?_some hc
      rw [Nat.mul_one] at hat
      obtain ⟨b, rfl, _⟩ := DataW.trod_bool Try.underlying4 ht
      have := hat 0 (by omega)
      rw [Go.Deep.add_add, Nat.add_zero] at this
      exact ⟨b, this⟩)
    exact ⟨some a, kn, cap, by rw [hkn], fun i hi => ⟨a, rfl, hr i (by omega)⟩, by unfold maxLen at hm; omega⟩
theorem open_script {fuel : Nat} {v : Value} {y : DataW H × List MemPlace} (h : DataW.trod enc Try.prog W base (fun _ => true) true fuel 26 [v] = some y) (hw : ∀ n ∈ y.1.weights Try.prog 26, n ≤ reachBytes) :
    ∃ A ds c, v = .slice A (ds : List DoR).length c ∧ Scr W A ds ∧ Wild ds := by
  rcases open_slice_fields Try.underlying26 Try.underlying46 (by kernel_rfl) (by kernel_rfl) h with ⟨hcs, _⟩ | ⟨a, len, cap, m, D, Pl, hcs, _, hl, hm, hmm, rfl, hfs⟩
  · injection hcs with hcs _
    subst hcs
    exact ⟨none, [], 0, rfl, fun i d hd => by simp at hd, ⟨fun d hd => by simp at hd, fun d hd => by simp at hd, by simp⟩⟩
  · injection hcs with hcs _
    subst hcs
    simp only [if_true] at hmm
    obtain ⟨ds, hds, hr⟩ := list_of (⟨false, 0, []⟩ : DoR) (fun i d => (∃ v, W.cell? (a.add (i * 3)) = some (.bool d.put) ∧ W.cell? (a.add (i * 3 + 1)) = some (.int .i64 d.slot) ∧ W.cell? (a.add (i * 3 + 2)) = some v ∧ RdB W v d.bs) ∧ In64 d.slot ∧ d.bs.length ≤ 281474976710656) len (fun i hil => by
      obtain ⟨ys, n, hD, _, hlen, hf⟩ := hfs i (by omega)
      obtain ⟨v0, y0, hc0, hy0, ht0⟩ := hf 0 _ rfl
      obtain ⟨v1, y1, hc1, hy1, ht1⟩ := hf 1 _ rfl
      obtain ⟨v2, y2, hc2, hy2, ht2⟩ := hf 2 _ rfl
      obtain ⟨b, h0, _⟩ := DataW.trod_bool Try.underlying4 ht0
      obtain ⟨s, h1, _, hs⟩ := DataW.trod_int Try.underlying3 ht1
      injection h0 with h0 _
      injection h1 with h1 _
      subst h0 h1
      have hwi : ∀ n ∈ (D i).weights Try.prog 46, n ≤ reachBytes := weights_elem Try.underlying26 hw (List.mem_map.2 ⟨i, by simp [hil], rfl⟩)
      rw [hD] at hwi
      obtain ⟨bs, h3, h4⟩ := bytes_of_trod ht2 (weights_field Try.underlying46 hwi (j := 2) rfl (by simp [hy2]))
      exact ⟨⟨b, s, bs⟩, ⟨v2, hc0, hc1, hc2, h3⟩, bounds_i64 hs, h4⟩)
    have hmem : ∀ d ∈ ds, In64 d.slot ∧ d.bs.length ≤ 281474976710656 := fun d hd => by
      obtain ⟨i, hi, he⟩ := List.getElem_of_mem hd
      have := hr i (by omega)
      rw [List.getD_eq_getElem?_getD, List.getElem?_eq_getElem hi, Option.getD_some, he] at this
      exact this.2
    refine ⟨some a, ds, cap, by rw [hds], fun i d hd => ?_, ⟨fun d hd => (hmem d hd).1, fun d hd => (hmem d hd).2, by unfold maxLen at hm; omega⟩⟩
    have hil := (List.getElem?_eq_some_iff.1 hd).1
    obtain ⟨⟨v, q0, q1, q2, q3⟩, _⟩ := hr i (by omega)
    rw [List.getD_eq_getElem?_getD, hd, Option.getD_some] at q0 q1 q3
    refine ⟨a, v, rfl, q0, ?_, ?_, q3⟩
    · rw [Go.Proofs.YthaipkfaaojppaaW.PrintWords.add_field _ _ 1 (by omega)] at q1
      exact q1
    · rw [Go.Proofs.YthaipkfaaojppaaW.PrintWords.add_field _ _ 2 (by omega)] at q2
      exact q2
theorem open_given {r : Reach} {b0 : Nat} {v0 v1 : Value} {d0 d1 : DataW H} {p0 p1 : List MemPlace} (hv0 : Value.okWide Try.prog W r b0 25 v0) (hv1 : Value.okWide Try.prog W r b0 26 v1)
    (h0 : DataW.Trod enc Try.prog W base (fun _ => true) true 25 v0 d0 p0) (h1 : DataW.Trod enc Try.prog W base (fun _ => true) true 26 v1 d1 p1) (w0 : ∀ n ∈ d0.weights Try.prog 25, n ≤ reachBytes) (w1 : ∀ n ∈ d1.weights Try.prog 26, n ≤ reachBytes) :
    ∃ AB bl cB AK kn cK A ds c, v0 = .agg #[.slice AB (bl : List (List Int)).length cB, .slice AK (kn : List Bool).length cK] ∧ v1 = .slice A (ds : List DoR).length c ∧ Given W AB bl AK kn A ds := by
  obtain ⟨u0, u1, y0, y1, n, rfl, rfl, _, t0, t1⟩ := open_agg2 Try.underlying25 (by kernel_rfl) (by kernel_rfl) hv0 h0
  obtain ⟨AB, bl, cB, rfl, hB, lB, sB⟩ := open_blocks t0 (weights_field Try.underlying25 w0 (j := 0) rfl rfl)
  obtain ⟨AK, kn, cK, rfl, hK, lK⟩ := open_known t1
  obtain ⟨a, len, cap, rfl⟩ := okWide_slice Try.underlying26 hv1
  obtain ⟨fuel, hf⟩ := h1
  obtain ⟨A, ds, c, e, hC, hW⟩ := open_script (v := .slice a len cap) (by simpa [Value.cells] using hf) w1
  exact ⟨AB, bl, cB, AK, kn, cK, A, ds, c, rfl, e, ⟨hB, hK, hC, lB, lK, sB, hW⟩⟩
end
end Go.Proofs.Ythaipkfaaojppaa.Vw
