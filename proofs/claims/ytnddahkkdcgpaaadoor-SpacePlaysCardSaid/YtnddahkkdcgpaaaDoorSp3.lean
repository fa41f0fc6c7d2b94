/- How many blocks a set has; a space as the states of its blocks; State, Free, change, Mark, Give, Undo. -/
import Derived.Test.YtnddahkkdcgpaaaDoorSp2
namespace Go.Proofs.YtnddahkkdcgpaaaDoor.Sp
open Go.RowKit Go.Proofs.YtnddahkkdcgpaaaDoor Go.Proofs.YtnddahkkdcgpaaaDoorW.PrintWords Go.Proofs.YtnddahkkdcgpaaaDoorW.PrintLast Go.Proofs.YtnddahkkdcgpaaaDoorW.PrintMore
set_option linter.unusedVariables false
def cnt (p : Nat → Bool) (k : Nat) : Nat := (List.range k).countP p
theorem cnt_le (p : Nat → Bool) (k : Nat) : cnt p k ≤ k := Nat.le_trans List.countP_le_length (by simp)
theorem cnt_word (F : Nat → Nat) (k : Nat) : cnt (mem F) (64 * k + 64) = cnt (mem F) (64 * k) + pop (F k) 64 := by
  unfold cnt pop
  rw [List.range_add, List.countP_append, List.countP_map]
  congr 1
  apply List.countP_congr
  intro j hj
  have hj : j < 64 := by simpa using hj
  simp only [Function.comp, mem]
  rw [show (64 * k + j) / 64 = k by omega, show (64 * k + j) % 64 = j by omega]
theorem SetAt.drewN {w : World} {g o : Nat} {F : Nat → Nat} (h : SetAt w g o F) (n : Nat) : SetAt (w.drewN n) g o F := h
set_option maxRecDepth 100000 in
set_option maxHeartbeats 4000000 in
theorem many_walk (F : Nat → Nat) (w : World) (g o : Nat) (hF : Words F) (hs : SetAt w g o F) :
    Calls Tryd.prog 25 #[.pointer (some ⟨g, o, none⟩)] w fun e w' => e = .returned (.int .i64 (cnt (mem F) 1024 : Nat)) ∧ Drawn0 w w' := by
  have hs := Lib.hid hs
  go_enter Tryd.func25, Tryd.ntmps25
  go_wp2_with fail
  go_loopw [3, 7] (fun m i wr => ∃ k : Nat, k ≤ 16 ∧ m = .int .i64 (cnt (mem F) (64 * k) : Nat) ∧ i = .int .i64 k ∧ Drawn0 w wr) (fun m i _ => 16 - (intOf i).toNat)
  case atStart => exact ⟨0, by omega, rfl, rfl, Drawn0.refl _⟩
  case round =>
    obtain ⟨k, hk, rfl, rfl, ⟨n, rfl⟩⟩ := hrel
    by_cases hlt : k < 16
    · obtain ⟨hc, hf⟩ := hs.out k hlt
      have h1 := cnt_le (mem F) (64 * k)
      have h2 := pop_le (F k) 64
      have h3 := Lib.hid (cnt_word F k)
      go_wp2_with (go_at_call 28; refine (ones_walk (F k) (hF k) _).mono ?_; rintro e w1 ⟨rfl, ⟨n1, rfl⟩⟩)
      go_roundw
      case rel => exact ⟨k + 1, by omega, by rw [Nat.mul_succ, h3.out]; go_num, by go_num, ⟨n + n1, rfl⟩⟩
      case measure => simp [intOf]; omega
    · have : k = 16 := by omega
      subst this
      go_wp2_with fail
      go_ret
      exact ⟨rfl, ⟨n, rfl⟩⟩

/-- Nothing has turned but block g, and what is new. -/
structure Tch (g : Nat) (w w' : World) : Prop where
  os : w'.os = w.os
  tape : w'.tape = w.tape
  output : w'.output = w.output
  size : w.heap.size ≤ w'.heap.size
  block : ∀ k, k < w.heap.size → k ≠ g → w'.heap[k]? = w.heap[k]?
theorem Tch.refl (g : Nat) (w : World) : Tch g w w := ⟨rfl, rfl, rfl, Nat.le_refl _, fun _ _ _ => rfl⟩
theorem Tch.trans {g : Nat} {a b c : World} (h : Tch g a b) (k : Tch g b c) : Tch g a c :=
  ⟨k.os.trans h.os, k.tape.trans h.tape, k.output.trans h.output, Nat.le_trans h.size k.size, fun i hi hg => (k.block i (Nat.lt_of_lt_of_le hi h.size) hg).trans (h.block i hi hg)⟩
theorem Tch.ofBelow {g : Nat} {a b : World} (h : Below a.heap.size a b) : Tch g a b := ⟨h.os, h.tape, h.output, h.size, fun i hi _ => h.block i hi⟩
theorem Tch.drawn {g : Nat} {a b : World} (h : Drawn0 a b) : Tch g a b := Tch.ofBelow h.below
theorem Tch.drew {g : Nat} {a b : World} (h : Tch g a b) : Tch g a b.drew := ⟨h.os, h.tape, h.output, h.size, h.block⟩
theorem Tch.set {g : Nat} {a b : World} (h : Tch g a b) (o : Nat) (u : Value) : Tch g a (b.setCell ⟨g, o, none⟩ u) :=
  h.trans ⟨rfl, rfl, rfl, by simp [World.setCell], fun k hk hg => Below.heap_setCell _ _ _ _ hg⟩
theorem Tch.below {g B : Nat} {a b : World} (h : Tch g a b) (h1 : B ≤ g) (h2 : B ≤ a.heap.size) : Below B a b :=
  ⟨h.os, h.tape, h.output, h.size, fun k hk => h.block k (by omega) (by omega)⟩
theorem Tch.cell {g : Nat} {w w' : World} (h : Tch g w w') {p : Addr} (hp : p.block < w.heap.size) (hg : p.block ≠ g) : w'.cell? p = w.cell? p := World.cell?_of_block (w := w) (h.block p.block hp hg)
theorem Tch.frozen {g : Nat} {w w' : World} (h : Tch g w w') {p : Addr} (hp : p.block < w.heap.size) (hg : p.block ≠ g) : w'.frozen? p = w.frozen? p := World.frozen?_of_block (w := w) (h.block p.block hp hg)
theorem cell_lt {w : World} {p : Addr} {v : Value} (h : w.cell? p = some v) : p.block < w.heap.size := by
  unfold World.cell? at h
  split at h
  · rename_i hb
    exact (Array.getElem?_eq_some_iff.1 hb).1
  · simp at h
/-- A space at block g, of n blocks; block i is in the state S i: 0 free, 1 taken, 2 given back. -/
structure Rep (w : World) (g n : Nat) (S : Nat → Nat) (F B : Nat → Nat) : Prop where
  n1 : 1 ≤ n
  n2 : n ≤ 1024
  head : w.cell? ⟨g, 0, none⟩ = some (.int .i64 n)
  wf : Words F
  wb : Words B
  free : SetAt w g 1 F
  back : SetAt w g 17 B
  mf : ∀ i, i < 1024 → mem F i = (decide (i < n) && S i == 0)
  mb : ∀ i, i < 1024 → mem B i = (decide (i < n) && S i == 2)
  le : ∀ i, S i ≤ 2
def Spc (w : World) (g n : Nat) (S : Nat → Nat) : Prop := ∃ F B, Rep w g n S F B
theorem Rep.drewN {w : World} {g n : Nat} {S F B : Nat → Nat} (h : Rep w g n S F B) (k : Nat) : Rep (w.drewN k) g n S F B := ⟨h.n1, h.n2, h.head, h.wf, h.wb, h.free, h.back, h.mf, h.mb, h.le⟩
theorem Spc.drawn {w w' : World} {g n : Nat} {S : Nat → Nat} (h : Spc w g n S) (hd : Drawn0 w w') : Spc w' g n S := by
  obtain ⟨F, B, h⟩ := h
  obtain ⟨k, rfl⟩ := hd
  exact ⟨F, B, h.drewN k⟩
theorem Spc.same {w w' : World} {g n : Nat} {S : Nat → Nat} (h : Spc w g n S) (hs : w'.heap[g]? = w.heap[g]?) : Spc w' g n S := by
  obtain ⟨F, B, h⟩ := h
  have hc : ∀ o, w'.cell? ⟨g, o, none⟩ = w.cell? ⟨g, o, none⟩ := fun o => World.cell?_of_block (w := w) hs
  have hf : ∀ o, w'.frozen? ⟨g, o, none⟩ = w.frozen? ⟨g, o, none⟩ := fun o => World.frozen?_of_block (w := w) hs
  exact ⟨F, B, h.n1, h.n2, (hc _).trans h.head, h.wf, h.wb, fun i hi => ⟨(hc _).trans (h.free i hi).1, (hf _).trans (h.free i hi).2⟩, fun i hi => ⟨(hc _).trans (h.back i hi).1, (hf _).trans (h.back i hi).2⟩, h.mf, h.mb, h.le⟩
theorem Spc.lt {w : World} {g n : Nat} {S : Nat → Nat} (h : Spc w g n S) : g < w.heap.size := by
  obtain ⟨F, B, h⟩ := h
  exact cell_lt h.head
/-- What State answers. -/
def stF (n : Nat) (S : Nat → Nat) (a : Int) : Int := if a < 0 ∨ (n : Int) ≤ a then -1 else (S a.toNat : Int)
set_option maxRecDepth 100000 in
set_option maxHeartbeats 4000000 in
theorem State_walk (w : World) (g n : Nat) (S : Nat → Nat) (a : Int) (hR : Spc w g n S) :
    Calls Tryd.prog 21 #[.pointer (some ⟨g, 0, none⟩), .int .i64 a] w fun e w' => e = .returned (.int .i64 (stF n S a)) ∧ w' = w := by
  obtain ⟨F, B, hR⟩ := hR
  have hh := hR.head
  have h1 := hR.n1
  have h2 := hR.n2
  unfold stF
  by_cases h0 : a < 0
  · rw [if_pos (.inl h0)]
    go_enter Tryd.func21, Tryd.ntmps21
    go_wp2_with fail
    go_ret
    exact ⟨rfl, rfl⟩
  by_cases h3 : (n : Int) ≤ a
  · rw [if_pos (.inr h3)]
    go_enter Tryd.func21, Tryd.ntmps21
    go_wp2_with fail
    go_ret
    exact ⟨rfl, rfl⟩
  rw [if_neg (by omega)]
  obtain ⟨i, rfl⟩ : ∃ i : Nat, a = (i : Int) := ⟨a.toNat, by omega⟩
  have hi : i < n := by omega
  have mf := hR.mf i (by omega)
  have mb := hR.mb i (by omega)
  have le := hR.le i
  simp only [hi, decide_true, Bool.true_and] at mf mb
  rw [Int.toNat_natCast]
  have HR := Lib.hid hR
  obtain ⟨s, hs⟩ : ∃ s, s = S i := ⟨_, rfl⟩
  rw [← hs] at mf mb le ⊢
  clear hR hs
  have hs3 : s = 0 ∨ s = 1 ∨ s = 2 := by omega
  have cF := has_walk F w g 1 i HR.out.wf (by omega) HR.out.free
  have cB := has_walk B w g 17 i HR.out.wb (by omega) HR.out.back
  rw [mf] at cF
  rw [mb] at cB
  clear mf mb HR
  rcases hs3 with rfl | rfl | rfl
  all_goals
    go_enter Tryd.func21, Tryd.ntmps21
    go_wp2_with (first
      | (go_at_call 27; refine cF.mono ?_; clear cF; rintro e w1 ⟨rfl, rfl⟩)
      | (go_at_call 27; refine cB.mono ?_; clear cB; rintro e w1 ⟨rfl, rfl⟩))
    go_ret
    exact ⟨rfl, rfl⟩
end Go.Proofs.YtnddahkkdcgpaaaDoor.Sp
