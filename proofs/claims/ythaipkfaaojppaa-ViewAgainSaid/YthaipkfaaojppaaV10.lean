/- awake, walked. -/
import Derived.Test.YthaipkfaaojppaaV9
import Derived.Test.YthaipkfaaojppaaV7
namespace Go.Proofs.Ythaipkfaaojppaa.Vw
open Go.RowKit Go.Proofs.YthaipkfaaojppaaW.PrintWords Go.Proofs.YthaipkfaaojppaaW.PrintLast Go.Proofs.YthaipkfaaojppaaW.PrintMore
open Go.Proofs.Ythaipkfaaojppaa.PViewRuns (S59 k59 info59 k59_mkM)
set_option linter.unusedVariables false
theorem en25 : ∀ (args : Array Value) (w : World), (callFunc 25 args).run Try.prog w = .ok (.enter 25 args) w := enters_of Try.func25 (by kernel_rfl) rfl
theorem en26 : ∀ (args : Array Value) (w : World), (callFunc 26 args).run Try.prog w = .ok (.enter 26 args) w := enters_of Try.func26 (by kernel_rfl) rfl
theorem TchS.tch {M : Nat} {w w' : World} (h : TchS (fun k => k = M) w w') : Tch M w w' := ⟨h.os, h.tape, h.output, h.size, fun k hk hn => h.block k hk hn⟩
theorem keys_none {f : Int → Option (List Int)} {ks : List Int} (h : KeysOf f ks) (hf : ∀ x, In64 x → f x = none) : ks = [] := by
  rcases ks with _ | ⟨x, ks⟩
  · rfl
  · have hi := h.in64 x (List.mem_cons_self ..)
    exact absurd (hf x hi) ((h.mem x hi).1 (List.mem_cons_self ..))
theorem keys_one {f : Int → Option (List Int)} {ks : List Int} (h : KeysOf f ks) (a : Int) (ha : In64 a) (hf : ∀ x, In64 x → (f x ≠ none ↔ x = a)) : ks = [a] := by
  have hm : ∀ x ∈ ks, x = a := fun x hx => (hf x (h.in64 x hx)).1 ((h.mem x (h.in64 x hx)).1 hx)
  have hin : a ∈ ks := (h.mem a ha).2 ((hf a ha).2 rfl)
  rcases ks with _ | ⟨x, _ | ⟨y, ks⟩⟩
  · simp at hin
  · rw [hm x (List.mem_cons_self ..)]
  · have h1 := hm x (by simp)
    have h2 := hm y (by simp)
    have h3 := List.pairwise_cons.1 h.sorted
    have := h3.1 y (by simp)
    omega
def none2 : Int → Option (List Int) := fun _ => none
set_option maxRecDepth 100000 in
set_option maxHeartbeats 4000000 in
theorem clo25 (w : World) (g vp M n : Nat) (gg : Value) (f : Int → Option (List Int)) (hV : Vw w vp gg M n f) (hn : n < 1000) (hg : w.cell? ⟨g, 0, none⟩ = some (.pointer (some ⟨vp, 0, none⟩))) :
    Calls Try.prog 25 #[.pointer (some ⟨g, 0, none⟩)] w fun e w' => e = .returned (.tuple #[]) ∧ Vw w' vp gg M (n + 1) (updO f 0 [3]) ∧ Tch M w w' := by
  have hO0 : (w.alloc (.cells #[.int .u8 3] 5)).ownsRow w.heap.size 5 1 (.slice (some ⟨w.heap.size, 0, none⟩) 1 1) 1 (nums .u8 [3]) := own_lit w w.heap.size 5 .u8 [3] (Nat.le_refl _) (by simp)
  have hB0 : Below w.heap.size w (w.alloc (.cells #[.int .u8 3] 5)) := (Below.refl _ _).alloc (Nat.le_refl _) _
  have hV0 := hV.below hB0
  have cP := Put_walk (w.alloc (.cells #[.int .u8 3] 5)) vp gg M n f 0 (.slice (some ⟨w.heap.size, 0, none⟩) 1 1) [3] hV0 (by omega) (by unfold In64; omega) (FrB.reads hO0) (by simp)
  replace hV := Lib.hid hV
  replace hV0 := Lib.hid hV0
  replace hO0 := Lib.hid hO0
  replace hB0 := Lib.hid hB0
  go_enter Try.func25, Try.ntmps25
  go_wp2_with (go_at_call 20; refine cP.mono ?_; clear cP; rintro e w1 ⟨rfl, hV1, hT1⟩; replace hV1 := Lib.hid hV1; replace hT1 := Lib.hid hT1)
  go_end0
  exact ⟨rfl, hV1.out, (Tch.ofBelow hB0.out).trans hT1.out⟩
set_option maxRecDepth 100000 in
set_option maxHeartbeats 4000000 in
theorem clo26 (w : World) (g vp M n s : Nat) (f : Int → Option (List Int)) (bl : List (List Int)) (kn : List Bool) (hV : Vw w vp (gv s) M n f) (hn : n < 1000) (hg : w.cell? ⟨g, 0, none⟩ = some (.pointer (some ⟨vp, 0, none⟩))) (hS : Src w s bl kn) (hf : f 1 = none) (hk : getF bl kn 1 = none) :
    Calls Try.prog 26 #[.pointer (some ⟨g, 0, none⟩)] w fun e w' => e = .panicked (wantedV 1) ∧ (∃ n' f', Vw w' vp (gv s) M n' f') ∧ Tch M w w' := by
  have hO0 : (w.alloc (.cells #[.int .u8 3] 5)).ownsRow w.heap.size 5 1 (.slice (some ⟨w.heap.size, 0, none⟩) 1 1) 1 (nums .u8 [3]) := own_lit w w.heap.size 5 .u8 [3] (Nat.le_refl _) (by simp)
  have hB0 : Below w.heap.size w (w.alloc (.cells #[.int .u8 3] 5)) := (Below.refl _ _).alloc (Nat.le_refl _) _
  have hV0 := hV.below hB0
  have cP := Put_walk (w.alloc (.cells #[.int .u8 3] 5)) vp (gv s) M n f 0 (.slice (some ⟨w.heap.size, 0, none⟩) 1 1) [3] hV0 (by omega) (by unfold In64; omega) (FrB.reads hO0) (by simp)
  have hb0 := hV.own.blk
  replace hV := Lib.hid hV
  replace hV0 := Lib.hid hV0
  replace hO0 := Lib.hid hO0
  replace hB0 := Lib.hid hB0
  replace hS := Lib.hid hS
  replace hf := Lib.hid hf
  replace hk := Lib.hid hk
  replace hb0 := Lib.hid hb0
  go_enter Try.func26, Try.ntmps26
  go_wp2_with (first
    | (go_at_call 20; refine cP.mono ?_; clear cP; rintro e w1 ⟨rfl, hV1, hT1⟩; have hT2 := (Tch.ofBelow hB0.out).trans hT1; have hg1 := hT2.cm hb0.out _ _ hg; have cS := See_wants w1 vp s M (n + 1) (updO f 0 [3]) 1 bl kn hV1 (by unfold In64; omega) (by unfold updO; rw [if_neg (by omega)]; exact hf.out) (hS.out.cm (hT2.cm hb0.out)) hk.out; replace hV1 := Lib.hid hV1; replace hT1 := Lib.hid hT1; replace hT2 := Lib.hid hT2)
    | (go_at_call 22; refine cS.mono ?_; clear cS; rintro e w2 ⟨rfl, rfl⟩))
  first | exact ⟨rfl, rfl, ⟨_, _, hV1.out⟩, hT2.out⟩ | exact ⟨rfl, ⟨_, _, hV1.out⟩, hT2.out⟩
def awB (w : World) : World := ((w.alloc (.cells #[.int .u8 1] 5)).alloc (.cells #[.int .u8 2] 5)).alloc (.cells #[.slice (some ⟨w.heap.size, 0, none⟩) 1 1, .slice (some ⟨w.heap.size + 1, 0, none⟩) 1 1] 44)
def awS (w : World) : World := ((awB w).alloc (.cells #[.bool true, .bool false] 4)).alloc (.cells #[.slice (some ⟨w.heap.size + 1 + 1, 0, none⟩) 2 2, .slice (some ⟨w.heap.size + 1 + 1 + 1, 0, none⟩) 2 2] 25)
theorem aw_below (w : World) : Below w.heap.size w (awS w) := by
  unfold awS awB
  refine (((((Below.refl _ w).alloc ?_ _).alloc ?_ _).alloc ?_ _).alloc ?_ _).alloc ?_ _ <;> simp <;> omega
structure AwAt (n : Nat) (W : World) : Prop where
  b0 : W.heap[n]? = some (.cells #[.int .u8 1] 5 (0, 0))
  b1 : W.heap[n + 1]? = some (.cells #[.int .u8 2] 5 (0, 0))
  b2 : W.heap[n + 1 + 1]? = some (.cells #[.slice (some ⟨n, 0, none⟩) 1 1, .slice (some ⟨n + 1, 0, none⟩) 1 1] 44 (0, 0))
  b3 : W.heap[n + 1 + 1 + 1]? = some (.cells #[.bool true, .bool false] 4 (0, 0))
  b4 : W.heap[n + 1 + 1 + 1 + 1]? = some (.cells #[.slice (some ⟨n + 1 + 1, 0, none⟩) 2 2, .slice (some ⟨n + 1 + 1 + 1, 0, none⟩) 2 2] 25 (0, 0))
theorem blk_new' {w : World} {n : Nat} (h : w.heap.size = n) (cs : Array Value) (t : TypeId) : (w.alloc (.cells cs t)).heap[n]? = some (.cells cs t (0, 0)) := by
  subst h
  exact Go.Deep.blk_alloc_new _ _
theorem aw_at (w : World) : AwAt w.heap.size (awS w) := by
  unfold awS awB
  have s1 : (w.alloc (.cells #[.int .u8 1] 5)).heap.size = w.heap.size + 1 := by simp
  generalize e1 : w.alloc (.cells #[.int .u8 1] 5) = a at s1
  have a0 : a.heap[w.heap.size]? = some (.cells #[.int .u8 1] 5 (0, 0)) := by rw [← e1]; exact blk_new' rfl _ _
  have s2 : (a.alloc (.cells #[.int .u8 2] 5)).heap.size = w.heap.size + 1 + 1 := by simp [s1]
  have b1 := blk_new' s1 #[.int .u8 2] 5
  have b0 := (Go.Deep.blk_alloc_lt a (.cells #[.int .u8 2] 5) w.heap.size (by omega)).trans a0
  generalize a.alloc (.cells #[.int .u8 2] 5) = b at s2 b0 b1
  have s3 : (b.alloc (.cells #[.slice (some ⟨w.heap.size, 0, none⟩) 1 1, .slice (some ⟨w.heap.size + 1, 0, none⟩) 1 1] 44)).heap.size = w.heap.size + 1 + 1 + 1 := by simp [s2]
  have c2 := blk_new' s2 #[.slice (some ⟨w.heap.size, 0, none⟩) 1 1, .slice (some ⟨w.heap.size + 1, 0, none⟩) 1 1] 44
  have c0 := (Go.Deep.blk_alloc_lt b (.cells #[.slice (some ⟨w.heap.size, 0, none⟩) 1 1, .slice (some ⟨w.heap.size + 1, 0, none⟩) 1 1] 44) w.heap.size (by omega)).trans b0
  have c1 := (Go.Deep.blk_alloc_lt b (.cells #[.slice (some ⟨w.heap.size, 0, none⟩) 1 1, .slice (some ⟨w.heap.size + 1, 0, none⟩) 1 1] 44) (w.heap.size + 1) (by omega)).trans b1
  generalize b.alloc (.cells #[.slice (some ⟨w.heap.size, 0, none⟩) 1 1, .slice (some ⟨w.heap.size + 1, 0, none⟩) 1 1] 44) = c at s3 c0 c1 c2
  have s4 : (c.alloc (.cells #[.bool true, .bool false] 4)).heap.size = w.heap.size + 1 + 1 + 1 + 1 := by simp [s3]
  have d3 := blk_new' s3 #[.bool true, .bool false] 4
  have d0 := (Go.Deep.blk_alloc_lt c (.cells #[.bool true, .bool false] 4) w.heap.size (by omega)).trans c0
  have d1 := (Go.Deep.blk_alloc_lt c (.cells #[.bool true, .bool false] 4) (w.heap.size + 1) (by omega)).trans c1
  have d2 := (Go.Deep.blk_alloc_lt c (.cells #[.bool true, .bool false] 4) (w.heap.size + 1 + 1) (by omega)).trans c2
  generalize c.alloc (.cells #[.bool true, .bool false] 4) = d at s4 d0 d1 d2 d3
  refine ⟨?_, ?_, ?_, ?_, blk_new' s4 _ _⟩
  · exact (Go.Deep.blk_alloc_lt _ _ _ (by omega)).trans d0
  · exact (Go.Deep.blk_alloc_lt _ _ _ (by omega)).trans d1
  · exact (Go.Deep.blk_alloc_lt _ _ _ (by omega)).trans d2
  · exact (Go.Deep.blk_alloc_lt _ _ _ (by omega)).trans d3
theorem AwAt.src {n : Nat} {W : World} (h : AwAt n W) : Src W (n + 1 + 1 + 1 + 1) [[1], [2]] [true, false] := by
  have c0 : W.cell? ⟨n, 0, none⟩ = some (.int .u8 1) := by simp [World.cell?, h.b0]
  have c1 : W.cell? ⟨n + 1, 0, none⟩ = some (.int .u8 2) := by simp [World.cell?, h.b1]
  have r0 : W.cell? ⟨n + 1 + 1, 0, none⟩ = some (.slice (some ⟨n, 0, none⟩) 1 1) := by simp [World.cell?, h.b2]
  have r1 : W.cell? ⟨n + 1 + 1, 1, none⟩ = some (.slice (some ⟨n + 1, 0, none⟩) 1 1) := by simp [World.cell?, h.b2]
  have k0 : W.cell? ⟨n + 1 + 1 + 1, 0, none⟩ = some (.bool true) := by simp [World.cell?, h.b3]
  have k1 : W.cell? ⟨n + 1 + 1 + 1, 1, none⟩ = some (.bool false) := by simp [World.cell?, h.b3]
  refine ⟨⟨some ⟨n + 1 + 1, 0, none⟩, 2, by simp [World.cell?, h.b4], ?_⟩, ⟨some ⟨n + 1 + 1 + 1, 0, none⟩, 2, by simp [World.cell?, h.b4], ?_⟩, rfl, by simp, ?_⟩
  · rintro (_ | _ | i) hi
    · refine ⟨_, _, rfl, r0, .inr ⟨_, _, rfl, by simp, by simp, fun j hj => ?_⟩⟩
      obtain rfl : j = 0 := by simp at hj; exact hj
      exact c0
    · refine ⟨_, _, rfl, r1, .inr ⟨_, _, rfl, by simp, by simp, fun j hj => ?_⟩⟩
      obtain rfl : j = 0 := by simp at hj; exact hj
      exact c1
    · simp at hi
      omega
  · rintro (_ | _ | i) hi
    · exact ⟨_, rfl, k0⟩
    · exact ⟨_, rfl, k1⟩
    · simp at hi
      omega
  · rintro (_ | _ | i) hi
    · simp
    · simp
    · simp at hi
      omega
/-- Where a law stands: a view of its own over a source, in a box. -/
structure At (w wr : World) (vp M g s n : Nat) (f : Int → Option (List Int)) (bl : List (List Int)) (kn : List Bool) : Prop where
  bel : Below w.heap.size w wr
  vw : Vw wr vp (gv s) M n f
  src : Src wr s bl kn
  box : wr.cell? ⟨g, 0, none⟩ = some (.pointer (some ⟨vp, 0, none⟩))
  low : w.heap.size ≤ M
section
variable {w wr wr1 : World} {vp M g s n n1 : Nat} {f f1 : Int → Option (List Int)} {bl : List (List Int)} {kn : List Bool}
theorem At.tch (h : At w wr vp M g s n f bl kn) (t : Tch M wr wr1) (v : Vw wr1 vp (gv s) M n1 f1) : At w wr1 vp M g s n1 f1 bl kn :=
  ⟨h.bel.trans (t.below h.low h.bel.size), v, h.src.cm (t.cm h.vw.own.blk), t.cm h.vw.own.blk _ _ h.box, h.low⟩
theorem At.ofBelow (h : At w wr vp M g s n f bl kn) (b : Below wr.heap.size wr wr1) : At w wr1 vp M g s n f bl kn := h.tch (Tch.ofBelow b) (h.vw.below b)
theorem At.run (h : At w wr vp M g s n f bl kn) (G : Nat) (cap : Array Value) (f1 : Int → Option (List Int)) (hen : ∀ (args : Array Value) (w : World), (callFunc G args).run Try.prog w = .ok (.enter G args) w)
    (hc : ∀ W, At w W vp M g s 0 (fun _ => none) bl kn → Tch M wr W → Calls Try.prog G cap W fun e w' => e = .returned (.tuple #[]) ∧ (∃ n1, n1 ≤ 200 ∧ Vw w' vp (gv s) M n1 f1) ∧ Tch M W w') :
    Calls Try.prog 11 #[.pointer (some ⟨vp, 0, none⟩), .func (.func G) #[] cap] wr fun e w' => e = .returned (.tuple #[.int .i64 0, .bool true]) ∧ ∃ n1, n1 ≤ 200 ∧ At w w' vp M g s n1 f1 bl kn := by
  refine (Run_ok wr vp M n (gv s) f G cap (fun k => k = M) rfl (fun k hk => by rw [hk]; exact h.vw.own.lt) h.vw (fun W w1 => ∃ n1, n1 ≤ 200 ∧ Vw w1 vp (gv s) M n1 f1) hen (fun W hV hT => ?_)).mono ?_
  · exact (hc W (h.tch hT hV) hT).mono fun e w' ⟨h1, h2, h3⟩ => ⟨h1, TchS.of h3 rfl, h2⟩
  · rintro e w' ⟨rfl, W, w1, ⟨n1, hn, hV⟩, hE⟩
    exact ⟨rfl, n1, hn, h.tch hE.tch.tch (hE.vw hV (cell_lt h.vw.map) h.vw.own.lt)⟩
theorem At.runWants (h : At w wr vp M g s n f bl kn) (G : Nat) (cap : Array Value) (k : Int) (hen : ∀ (args : Array Value) (w : World), (callFunc G args).run Try.prog w = .ok (.enter G args) w)
    (hc : ∀ W, At w W vp M g s 0 (fun _ => none) bl kn → Tch M wr W → Calls Try.prog G cap W fun e w' => e = .panicked (wantedV k) ∧ (∃ n' f', Vw w' vp (gv s) M n' f') ∧ Tch M W w') :
    Calls Try.prog 11 #[.pointer (some ⟨vp, 0, none⟩), .func (.func G) #[] cap] wr fun e w' => e = .returned (.tuple #[.int .i64 k, .bool false]) ∧ At w w' vp M g s 0 (fun _ => none) bl kn := by
  refine (Run_wants wr vp M n (gv s) f G cap (fun k => k = M) rfl (fun k hk => by rw [hk]; exact h.vw.own.lt) h.vw (fun _ _ => True) k hen (fun W hV hT => ?_)).mono ?_
  · exact (hc W (h.tch hT hV) hT).mono fun e w' ⟨h1, h2, h3⟩ => ⟨h1, TchS.of h3 rfl, h2, trivial⟩
  · rintro e w' ⟨rfl, hV, W, w1, _, hE⟩
    exact ⟨rfl, h.tch hE.tch.tch hV⟩
theorem At.changes (h : At w wr vp M g s n f bl kn) (hn : n ≤ 1000000) :
    Calls Try.prog 16 #[.pointer (some ⟨vp, 0, none⟩)] wr fun e w' => (∃ A c ks, e = .returned (.slice A ks.length c) ∧ KeysOf f ks) ∧ At w w' vp M g s n f bl kn := by
  refine (Changes_walk wr vp (gv s) M n f h.vw hn).mono ?_
  rintro e w' ⟨⟨v, ks, rfl, hK, hR⟩, hB⟩
  obtain ⟨A, c, rfl⟩ := Kd.R_slice hR
  refine ⟨⟨A, c, ks, ?_, hK⟩, h.ofBelow hB⟩
  simp [putL]
end
set_option maxRecDepth 100000 in
set_option maxHeartbeats 8000000 in
theorem awake_walk (w : World) : Calls Try.prog 7 #[] w fun e w' => e = .returned (.bool true) ∧ Below w.heap.size w w' := by
  have hmf : ∀ (fn : Fn) (first cap : Array Value) (w : World), (Instr.makeFunc fn first cap).run Try.prog w = .ok (.func fn first cap) w := fun _ _ _ _ => rfl
  have hS := (aw_at w).src
  have hB := aw_below w
  have hz : (awS w).heap.size = w.heap.size + 1 + 1 + 1 + 1 + 1 := by simp [awS, awB]
  have cN := New_walk (awS w) (w.heap.size + 1 + 1 + 1 + 1)
  rw [hz] at cN
  replace hS := Lib.hid hS
  replace hB := Lib.hid hB
  replace hz := Lib.hid hz
  go_enter Try.func7, Try.ntmps7
  go_wp2_with (first
    | (go_at_call 9; refine cN.mono ?_; clear cN; rintro e w1 ⟨rfl, hV, hB1⟩; have h0 : At w (w1.alloc (Obj.cells #[Value.pointer (some { block := w.heap.size + 1 + 1 + 1 + 1 + 1 + 1, off := 0 })] 30)) (w.heap.size + 1 + 1 + 1 + 1 + 1 + 1) (w.heap.size + 1 + 1 + 1 + 1 + 1) w1.heap.size (w.heap.size + 1 + 1 + 1 + 1) 0 (fun _ => none) [[1], [2]] [true, false] := (by
        have hb2 : Below w1.heap.size w1 (w1.alloc (Obj.cells #[Value.pointer (some { block := w.heap.size + 1 + 1 + 1 + 1 + 1 + 1, off := 0 })] 30)) := (Below.refl _ _).alloc (Nat.le_refl _) _
        have hzz := hz.out
        have hB1' : Below (awS w).heap.size (awS w) w1 := by rw [hzz]; exact hB1
        have hs1 := hB1'.size
        exact ⟨(hB.out.trans (hB1.mono (by omega))).trans (hb2.mono (by omega)), hV.below hb2, (hS.out.cm (Cm.below hB1')).cm (Cm.below hb2), by simp, by omega⟩); clear hV hB1; have c1 := h0.run 25 #[.pointer (some ⟨w1.heap.size, 0, none⟩)] (updO (fun _ => none) 0 [3]) en25 (fun W hA _ => (clo25 W w1.heap.size _ _ 0 _ _ hA.vw (by omega) hA.box).mono fun e w' ⟨q1, q2, q3⟩ => ⟨q1, ⟨_, by omega, q2⟩, q3⟩); clear h0)
    | (go_at_call 11; refine c1.mono ?_; clear c1; rintro e w2 ⟨rfl, n1, hn1, hA2⟩; have cC := hA2.changes (by omega); have b2 := hA2.box; replace hA2 := Lib.hid hA2)
    | (go_at_call 16; refine cC.mono ?_; clear cC; rintro e w3 ⟨⟨A3, c3, ks, rfl, hK⟩, hA3⟩; obtain rfl : ks = [0] := keys_one hK 0 (by unfold In64; omega) (fun x hx => by unfold updO; split <;> simp_all); have c2 := hA3.runWants 26 #[.pointer (some ⟨w1.heap.size, 0, none⟩)] 1 en26 (fun W hA _ => clo26 W w1.heap.size _ _ 0 _ _ _ _ hA.vw (by omega) hA.box hA.src rfl (by unfold getF; simp)); have b3 := hA3.box; clear b2; replace hA3 := Lib.hid hA3; clear hK)
    | (go_at_call 11; refine c2.mono ?_; clear c2; rintro e w4 ⟨rfl, hA4⟩; have cD := hA4.changes (by omega); have b4 := hA4.box; clear b3; replace hA4 := Lib.hid hA4)
    | (go_at_call 16; refine cD.mono ?_; clear cD; rintro e w5 ⟨⟨A5, c5, ks, rfl, hK⟩, hA5⟩; obtain rfl : ks = [] := keys_none hK (fun x hx => rfl); replace hA5 := Lib.hid hA5; clear hK))
  go_ret
  exact ⟨rfl, hA5.out.bel⟩
end Go.Proofs.Ythaipkfaaojppaa.Vw
