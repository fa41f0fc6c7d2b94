/- Take: the least free block. -/
import Derived.Test.YtnddahkkdcgpaaaDoorSp8
namespace Go.Proofs.YtnddahkkdcgpaaaDoor.Sp
open Go.RowKit Go.Shelf Go.Proofs Go.Proofs.YtnddahkkdcgpaaaDoor
attribute [local go_sem] Oper.semAt_some
set_option linter.unusedVariables false
/-- What Take answers, and leaves: the least free block is taken; or none is free. -/
structure Took (w w' : World) (g n : Nat) (S : Nat → Nat) (i : Nat) : Prop where
  tch : Tch g w w'
  spc : Spc w' g n (upd S i 1)
theorem mem_all {w : World} {g n : Nat} {S F B : Nat → Nat} (h : Rep w g n S F B) {x : Int} (hx : x ∈ allF F) : ∃ i : Nat, x = i ∧ i < n ∧ S i = 0 := by
  rw [allF_eq, List.mem_map] at hx
  obtain ⟨i, hi, rfl⟩ := hx
  simp only [List.mem_filter, List.mem_range] at hi
  have := h.mf i hi.1
  rw [hi.2] at this
  simp at this
  exact ⟨i, rfl, this.1, this.2⟩
theorem all_mem {w : World} {g n : Nat} {S F B : Nat → Nat} (h : Rep w g n S F B) {i : Nat} (hi : i < n) (hs : S i = 0) : (i : Int) ∈ allF F := by
  have n2 := h.n2
  rw [allF_eq, List.mem_map]
  refine ⟨i, ?_, rfl⟩
  simp only [List.mem_filter, List.mem_range]
  refine ⟨by omega, ?_⟩
  rw [h.mf i (by omega)]
  simp [hi, hs]
theorem all_sorted (F : Nat → Nat) : (allF F).Pairwise (fun a b => a < b) := by
  rw [allF_eq, List.pairwise_map]
  exact List.Pairwise.imp (fun h => by omega) (List.Pairwise.filter _ List.pairwise_lt_range)
theorem all_least {w : World} {g n : Nat} {S F B : Nat → Nat} (h : Rep w g n S F B) {i : Nat} (hp : [(i : Int)] <+: allF F) (hi : i < n) : ∀ j, j < i → S j ≠ 0 := by
  intro j hj hs
  obtain ⟨t, ht⟩ := hp
  have hm := all_mem h (show j < n by omega) hs
  have hso := all_sorted F
  rw [← ht] at hm hso
  simp only [List.cons_append, List.nil_append, List.pairwise_cons] at hso
  simp only [List.cons_append, List.nil_append, List.mem_cons] at hm
  rcases hm with hm | hm
  · omega
  · have := hso.1 _ hm; omega
theorem Tch.thenBelow {g B : Nat} {a b c : World} (h : Tch g a b) (k : Below B b c) (hB : a.heap.size ≤ B) : Tch g a c :=
  ⟨k.os.trans h.os, k.tape.trans h.tape, k.output.trans h.output, Nat.le_trans h.size k.size, fun i hi hg => (k.block i (by omega)).trans (h.block i hi hg)⟩
structure TQ (w W0 : World) (g n : Nat) (S : Nat → Nat) (F : Nat → Nat) (pre : List (Mem F)) (WX : World) : Prop where
  size : W0.heap.size ≤ WX.heap.size
  ex : ∃ i : Nat, pre.map (·.1) = [(i : Int)] ∧ i < n ∧ S i = 0 ∧ Tch g w WX ∧ Spc WX g n (upd S i 1) ∧ WX.cell? ⟨w.heap.size + 1, 0, none⟩ = some (.int .i64 i) ∧ WX.cell? ⟨w.heap.size + 1 + 1, 0, none⟩ = some (.int .i64 0)
def TI (W0 : World) (F : Nat → Nat) (pre : List (Mem F)) (W : World) : Prop := pre = [] ∧ Below W0.heap.size W0 W
def TX (w W0 : World) (g n : Nat) (S : Nat → Nat) (F : Nat → Nat) (c : Code) (pre : List (Mem F)) (W : World) : Prop := c = .ret ∧ ∃ WX, TQ w W0 g n S F pre WX ∧ Below W0.heap.size WX W
theorem TI.own (W0 : World) (F : Nat → Nat) : OwnFrom W0.heap.size (TI W0 F) := fun s A B row hs hg hr => ⟨hs.1, hs.2.grown hg hs.2.size (fun k e => (hr k e).1)⟩
theorem TX.own (w W0 : World) (g n : Nat) (S : Nat → Nat) (F : Nat → Nat) (c : Code) : OwnFrom W0.heap.size (TX w W0 g n S F c) := fun s A B row hs hg hr => by
  obtain ⟨hc, WX, hq, hb⟩ := hs
  exact ⟨hc, WX, hq, hb.grown hg (Nat.le_trans hq.size hb.size) (fun k e => (hr k e).1)⟩
structure T0 (w W0 : World) (g n : Nat) (S F B : Nat → Nat) : Prop where
  size : W0.heap.size = w.heap.size + 4
  c0 : W0.cell? ⟨w.heap.size, 0, none⟩ = some (.pointer (some ⟨g, 0, none⟩))
  c1 : W0.cell? ⟨w.heap.size + 1, 0, none⟩ = some (.int .i64 0)
  f1 : W0.frozen? ⟨w.heap.size + 1, 0, none⟩ = false
  c2 : W0.cell? ⟨w.heap.size + 1 + 1, 0, none⟩ = some (.int .i64 0)
  f2 : W0.frozen? ⟨w.heap.size + 1 + 1, 0, none⟩ = false
  c3 : W0.cell? ⟨w.heap.size + 1 + 1 + 1, 0, none⟩ = some (.pointer (some ⟨g, 1, none⟩))
  bel : Below w.heap.size w W0
  rep : Rep W0 g n S F B
theorem Rep.same {w w' : World} {g n : Nat} {S F B : Nat → Nat} (h : Rep w g n S F B) (hs : w'.heap[g]? = w.heap[g]?) : Rep w' g n S F B := by
  have hc : ∀ o, w'.cell? ⟨g, o, none⟩ = w.cell? ⟨g, o, none⟩ := fun o => World.cell?_of_block (w := w) hs
  have hf : ∀ o, w'.frozen? ⟨g, o, none⟩ = w.frozen? ⟨g, o, none⟩ := fun o => World.frozen?_of_block (w := w) hs
  exact ⟨h.n1, h.n2, (hc _).trans h.head, h.wf, h.wb, fun i hi => ⟨(hc _).trans (h.free i hi).1, (hf _).trans (h.free i hi).2⟩, fun i hi => ⟨(hc _).trans (h.back i hi).1, (hf _).trans (h.back i hi).2⟩, h.mf, h.mb, h.le⟩
theorem KeepsOthers.drw (W : World) : KeepsOthers W W.drew := ⟨Nat.le_refl _, fun _ _ h _ => h⟩
def takeW (w : World) (g : Nat) : World := (((w.alloc (.cells #[.pointer (some ⟨g, 0, none⟩)] 24)).alloc (.cells #[.int .i64 0] 3)).alloc (.cells #[.int .i64 0] 25)).alloc (.cells #[.pointer (some ⟨g, 1, none⟩)] 54)
theorem take_0 {w : World} {g n : Nat} {S : Nat → Nat} (hR : Spc w g n S) : ∃ F B, T0 w (takeW w g) g n S F B := by
  have hlt := hR.lt
  have hb : Below w.heap.size w (takeW w g) := ((((Below.refl _ w).alloc (Nat.le_refl _) _).alloc (by simp) _).alloc (by simp; omega) _).alloc (by simp; omega) _
  obtain ⟨F, B, hr⟩ := hR.same (hb.block g hlt)
  refine ⟨F, B, by simp [takeW], ?_, ?_, ?_, ?_, ?_, ?_, hb, hr⟩
  · exact (World.cell?_alloc_lt _ _ _ (by simp; omega)).trans ((World.cell?_alloc_lt _ _ _ (by simp; omega)).trans ((World.cell?_alloc_lt _ _ _ (by simp)).trans (World.cell?_alloc_new w _ 24 0)))
  · exact (World.cell?_alloc_lt _ _ _ (by simp)).trans ((World.cell?_alloc_lt _ _ _ (by simp)).trans (World.cell?_alloc2_new (w := w) _ _ 3 0))
  · exact (World.frozen?_alloc_old _ _ _ (by simp)).trans ((World.frozen?_alloc_old _ _ _ (by simp)).trans (World.frozen?_alloc2_new (w := w) _ _ 3 0))
  · refine (World.cell?_alloc_lt _ _ _ (by simp)).trans ?_
    have h := World.cell?_alloc2_new (w := w.alloc (.cells #[.pointer (some ⟨g, 0, none⟩)] 24)) (.cells #[.int .i64 0] 3) #[.int .i64 0] 25 0
    rwa [World.size_alloc] at h
  · refine (World.frozen?_alloc_old _ _ _ (by simp)).trans ?_
    have h := World.frozen?_alloc2_new (w := w.alloc (.cells #[.pointer (some ⟨g, 0, none⟩)] 24)) (.cells #[.int .i64 0] 3) #[.int .i64 0] 25 0
    rwa [World.size_alloc] at h
  · have h := World.cell?_alloc2_new (w := (w.alloc (.cells #[.pointer (some ⟨g, 0, none⟩)] 24)).alloc (.cells #[.int .i64 0] 3)) (.cells #[.int .i64 0] 25) #[.pointer (some ⟨g, 1, none⟩)] 54 0
    rwa [World.size_alloc, World.size_alloc] at h
set_option maxRecDepth 100000 in
set_option maxHeartbeats 4000000 in
theorem Take_in (m : Nat) (hm : 3 ≤ m) (w : World) (g n : Nat) (S : Nat → Nat) (hR : Spc w g n S) (hT : TabAt 0 Lib.deBruijn64tab w) :
    CallsIn Fence.wide m Tryd.prog 12 #[.pointer (some ⟨g, 0, none⟩)] w fun e w' =>
      (∃ i : Nat, e = .returned (.tuple #[.int .i64 i, .int .i64 0]) ∧ i < n ∧ S i = 0 ∧ (∀ j, j < i → S j ≠ 0) ∧ Took w w' g n S i) ∨
      (e = .returned (.tuple #[.int .i64 0, .int .i64 28]) ∧ (∀ j, j < n → S j ≠ 0) ∧ Tch g w w' ∧ Spc w' g n S) := by
  have h1 : 1 ≤ m := by omega
  have hlt := hR.lt
  refine callsIn_of_wp_marks Tryd.func12 rfl trivial ?_ rfl
  simp only [Tryd.ntmps12, List.size_toArray, List.length_cons, List.length_nil, Nat.reduceAdd, Nat.reduceSub, Array.replicate_succ, Array.replicate_zero, List.push_toArray, List.append_toArray, List.nil_append, List.cons_append]
  have cr := fun W => callsIn_wide (n := m - 1) |>.2 (rising_c g W)
  gi_wp2_with (first | (refine ⟨trivial, ?_⟩; gi_at_call 26; refine (cr _).mono ?_; rintro e w' ⟨rfl, rfl⟩) | (gi_at_call 26; refine (cr _).mono ?_; rintro e w' ⟨rfl, rfl⟩))
  obtain ⟨F, B, h0⟩ := take_0 hR
  change Code.wpIn _ _ _ _ _ _ (takeW w g)
  generalize takeW w g = W0 at *
  have hbel := h0.bel
  have hT0 : TabAt 0 Lib.deBruijn64tab W0 := fun j hj => (hbel.cell (p := ⟨0, j, none⟩) (by show 0 < w.heap.size; omega)).trans (hT j hj)
  clear cr hT
  refine wpIn_rangeFunc_ownF rfl h1 (gf := 29) (lb := #[.pointer (some ⟨w.heap.size + 1 + 1 + 1, 0, none⟩)]) rfl trivial (enters_of Tryd.func29 (by kernel_rfl) rfl)
    (rising_stops (w.heap.size + 1 + 1 + 1) w.heap.size g (m - 1) F h0.rep.wf hlt (by omega) W0 (by rw [h0.size]; omega) (by rw [h0.size]; omega) h0.c3 h0.rep.free hT0)
    belowK_t (belowK_b (by rw [h0.size]; omega)) (Below.refl _ _) (fun _ => rfl)
    (TI W0 F) (TX w W0 g n S F) (TI.own W0 F) (TX.own w W0 g n S F) ⟨rfl, Below.refl _ _⟩
    (fun x => { tmps := #[.pointer (some ⟨g, 0, none⟩), .pointer (some ⟨w.heap.size, 0, none⟩), .pointer (some ⟨w.heap.size + 1, 0, none⟩), .pointer (some ⟨w.heap.size + 1 + 1, 0, none⟩), .int .i64 x.1, .pointer (some ⟨g, 0, none⟩), .bool false, .pointer (some ⟨g, 0, none⟩), .pointer (some ⟨g, 0, none⟩), .pointer (some ⟨g, 1, none⟩), .func (.func 29) #[] #[.pointer (some ⟨w.heap.size + 1 + 1 + 1, 0, none⟩)], .int .i64 x.1, undef, undef, undef, undef, undef, undef], defers := [] }) ?assign ?body ?done ?stop
  case assign =>
    intro l x W K hK
    gi_wp2
    exact hK
  case body =>
    rintro l pre ⟨x, hx⟩ W ⟨rfl, hB⟩ _
    obtain ⟨i, hxi, hi, hSi⟩ := mem_all h0.rep hx
    have c0 := (hB.cell (p := ⟨w.heap.size, 0, none⟩) (by show w.heap.size < W0.heap.size; rw [h0.size]; omega)).trans h0.c0
    have c1 := (hB.cell (p := ⟨w.heap.size + 1, 0, none⟩) (by show w.heap.size + 1 < W0.heap.size; rw [h0.size]; omega)).trans h0.c1
    have f1 := (hB.frozen (p := ⟨w.heap.size + 1, 0, none⟩) (by show w.heap.size + 1 < W0.heap.size; rw [h0.size]; omega)).trans h0.f1
    have c2 := (hB.cell (p := ⟨w.heap.size + 1 + 1, 0, none⟩) (by show w.heap.size + 1 + 1 < W0.heap.size; rw [h0.size]; omega)).trans h0.c2
    have f2 := (hB.frozen (p := ⟨w.heap.size + 1 + 1, 0, none⟩) (by show w.heap.size + 1 + 1 < W0.heap.size; rw [h0.size]; omega)).trans h0.f2
    have rW : Rep W g n S F B := h0.rep.same (hB.block g (by rw [h0.size]; omega))
    have n2 := rW.n2
    have cf := flip_walk F W g 1 i rW.wf (by omega) rW.free
    have r1 := rW.flipFree i 1 hi (.inl ⟨hSi, rfl⟩)
    have far : ∀ b, b ≠ g → ∀ v, (W.setCell ⟨g, 1 + i / 64, none⟩ v).drew.cell? ⟨b, 0, none⟩ = W.cell? ⟨b, 0, none⟩ := fun b hb v => World.cell?_setCell_other _ _ _ _ (by intro hh; have := congrArg Addr.block hh; dsimp only at this; omega)
    have farf : ∀ b, ∀ v, (W.setCell ⟨g, 1 + i / 64, none⟩ v).drew.frozen? ⟨b, 0, none⟩ = W.frozen? ⟨b, 0, none⟩ := fun b v => World.frozen?_setCell ..
    obtain ⟨v, hv⟩ : ∃ v, v = Value.int .u64 ((F (i / 64) ^^^ 2 ^ (i % 64) : Nat) : Int) := ⟨_, rfl⟩
    rw [← hv] at cf r1
    have d1 := (far (w.heap.size + 1) (by omega) v).trans c1
    have d2 := (far (w.heap.size + 1 + 1) (by omega) v).trans c2
    have e1 := (farf (w.heap.size + 1) v).trans f1
    have e2 := (farf (w.heap.size + 1 + 1) v).trans f2
    have hK1 : KeepsOthers W (W.setCell ⟨g, 1 + i / 64, none⟩ v).drew := (KeepsOthers.setCell _ _ _).trans (KeepsOthers.drw _)
    have hT1 : Tch g w (W.setCell ⟨g, 1 + i / 64, none⟩ v).drew := ((((Tch.ofBelow hbel).thenBelow hB (by rw [h0.size]; omega)).set _ _).drew)
    have hsz1 : W0.heap.size ≤ (W.setCell ⟨g, 1 + i / 64, none⟩ v).drew.heap.size := Nat.le_trans hB.size hK1.size
    generalize (W.setCell ⟨g, 1 + i / 64, none⟩ v).drew = W1 at *
    have hTX : KeepsOthers W ((W1.setCell ⟨w.heap.size + 1, 0, none⟩ (.int .i64 i)).setCell ⟨w.heap.size + 1 + 1, 0, none⟩ (.int .i64 0)) ∧ TX w W0 g n S F .ret ([] ++ [⟨x, hx⟩]) ((W1.setCell ⟨w.heap.size + 1, 0, none⟩ (.int .i64 i)).setCell ⟨w.heap.size + 1 + 1, 0, none⟩ (.int .i64 0)) := by
      have hk := (KeepsOthers.setCell W1 ⟨w.heap.size + 1, 0, none⟩ (.int .i64 i)).trans (KeepsOthers.setCell (W1.setCell ⟨w.heap.size + 1, 0, none⟩ (.int .i64 i)) ⟨w.heap.size + 1 + 1, 0, none⟩ (.int .i64 0))
      have hbb : Below w.heap.size W1 ((W1.setCell ⟨w.heap.size + 1, 0, none⟩ (.int .i64 i)).setCell ⟨w.heap.size + 1 + 1, 0, none⟩ (.int .i64 0)) :=
        ((Below.refl _ W1).setCell (p := ⟨w.heap.size + 1, 0, none⟩) (by show w.heap.size ≤ w.heap.size + 1; omega) _).setCell (p := ⟨w.heap.size + 1 + 1, 0, none⟩) (by show w.heap.size ≤ w.heap.size + 1 + 1; omega) _
      refine ⟨hK1.trans hk, rfl, _, ⟨Nat.le_trans hsz1 hk.size, i, by simp [hxi], hi, hSi, hT1.thenBelow hbb (Nat.le_refl _), ⟨_, _, r1.same (hbb.block g hlt)⟩, ?_, ?_⟩, Below.refl _ _⟩
      · exact (World.cell?_setCell_other _ _ _ _ (by simp)).trans (World.cell?_setCell_same' _ _ _ (by rw [d1]; rfl))
      · exact World.cell?_setCell_same' _ _ _ (by rw [World.cell?_setCell_other _ _ _ _ (by simp), d2]; rfl)
    replace hTX := Lib.hid hTX
    clear far farf r1 rW hT1 hK1 hsz1 hv c1 c2 f1 f2
    subst hxi
    gi_wp2
    refine ⟨trivial, fun _ => by omega, ?_⟩
    refine (CallsIn.inRound l (callsIn_wide.2 cf)).mono ?_
    rintro e w' ⟨⟨u, rfl⟩, rfl⟩
    gi_wp2
    exact hTX.out
  case done =>
    rintro D ys W hD hys ⟨rfl, hB⟩ hK
    have c0 := (hB.cell (p := ⟨w.heap.size, 0, none⟩) (by show w.heap.size < W0.heap.size; rw [h0.size]; omega)).trans h0.c0
    have c1 := (hB.cell (p := ⟨w.heap.size + 1, 0, none⟩) (by show w.heap.size + 1 < W0.heap.size; rw [h0.size]; omega)).trans h0.c1
    have f1 := (hB.frozen (p := ⟨w.heap.size + 1, 0, none⟩) (by show w.heap.size + 1 < W0.heap.size; rw [h0.size]; omega)).trans h0.f1
    have c2 := (hB.cell (p := ⟨w.heap.size + 1 + 1, 0, none⟩) (by show w.heap.size + 1 + 1 < W0.heap.size; rw [h0.size]; omega)).trans h0.c2
    have f2 := (hB.frozen (p := ⟨w.heap.size + 1 + 1, 0, none⟩) (by show w.heap.size + 1 + 1 < W0.heap.size; rw [h0.size]; omega)).trans h0.f2
    have hK2 := (KeepsOthers.setCell (W.setCell ⟨w.heap.size + 1, 0, none⟩ (.int .i64 0)) ⟨w.heap.size + 1 + 1, 0, none⟩ (.int .i64 28)).same D _ ((KeepsOthers.setCell W ⟨w.heap.size + 1, 0, none⟩ (.int .i64 0)).same D _ hK rfl) rfl
    have e1 : ((W.setCell ⟨w.heap.size + 1, 0, none⟩ (.int .i64 0)).setCell ⟨w.heap.size + 1 + 1, 0, none⟩ (.int .i64 28)).cell? ⟨w.heap.size + 1, 0, none⟩ = some (.int .i64 0) :=
      (World.cell?_setCell_other _ _ _ _ (by simp)).trans (World.cell?_setCell_same' _ _ _ (by rw [c1]; rfl))
    have e2 : ((W.setCell ⟨w.heap.size + 1, 0, none⟩ (.int .i64 0)).setCell ⟨w.heap.size + 1 + 1, 0, none⟩ (.int .i64 28)).cell? ⟨w.heap.size + 1 + 1, 0, none⟩ = some (.int .i64 28) :=
      World.cell?_setCell_same' _ _ _ (by rw [World.cell?_setCell_other _ _ _ _ (by simp), c2]; rfl)
    have hb2 : Below w.heap.size w ((W.setCell ⟨w.heap.size + 1, 0, none⟩ (.int .i64 0)).setCell ⟨w.heap.size + 1 + 1, 0, none⟩ (.int .i64 28)) :=
      ((hbel.trans (hB.mono (by rw [h0.size]; omega))).setCell (p := ⟨w.heap.size + 1, 0, none⟩) (by show w.heap.size ≤ w.heap.size + 1; omega) _).setCell (p := ⟨w.heap.size + 1 + 1, 0, none⟩) (by show w.heap.size ≤ w.heap.size + 1 + 1; omega) _
    have hno : ∀ j, j < n → S j ≠ 0 := fun j hj hs => by
      have := all_mem h0.rep hj hs
      rw [← hys] at this
      simp at this
    clear hys
    gi_wp2
    generalize (W.setCell ⟨w.heap.size + 1, 0, none⟩ (.int .i64 0)).setCell ⟨w.heap.size + 1 + 1, 0, none⟩ (.int .i64 28) = W2 at *
    have hBD := belowK_b (w := W0) (Nat.le_refl _) W2 D _ (.deferred none) hD hK2 rfl rfl
    have k1 := (hBD.cell (p := ⟨w.heap.size + 1, 0, none⟩) (by show w.heap.size + 1 < W0.heap.size; rw [h0.size]; omega)).trans e1
    have k2 := (hBD.cell (p := ⟨w.heap.size + 1 + 1, 0, none⟩) (by show w.heap.size + 1 + 1 < W0.heap.size; rw [h0.size]; omega)).trans e2
    have hbf := hb2.trans (hBD.mono (by rw [h0.size]; omega))
    refine ⟨by simp, .inl ⟨_, _, rfl, run_takeDeferred hK2, ?_⟩⟩
    refine ⟨.tuple #[.int .i64 0, .int .i64 28], ?_, .inr ⟨rfl, hno, Tch.ofBelow hbf, hR.same (hbf.block g hlt)⟩⟩
    simp [results, Tryd.f12, go_sem, k1, k2]
  case stop =>
    rintro D c pre W hD hpre ⟨rfl, WX, hq, hBX⟩ hK
    obtain ⟨hsz, i, hi1, hi2, hi3, hi4, hi5, hi6, hi7⟩ := hq
    rw [hi1] at hpre
    have hleast := all_least h0.rep hpre hi2
    have hBD := hBX.trans (belowK_b (w := W0) (Nat.le_refl _) W D _ (.deferred none) hD hK rfl rfl)
    have k1 := (hBD.cell (p := ⟨w.heap.size + 1, 0, none⟩) (by show w.heap.size + 1 < W0.heap.size; rw [h0.size]; omega)).trans hi6
    have k2 := (hBD.cell (p := ⟨w.heap.size + 1 + 1, 0, none⟩) (by show w.heap.size + 1 + 1 < W0.heap.size; rw [h0.size]; omega)).trans hi7
    have hT1 : Tch g w (W.putObj D (.deferred none)) := hi4.thenBelow hBD (by rw [h0.size]; omega)
    have hS1 : Spc (W.putObj D (.deferred none)) g n (upd S i 1) := hi5.same (hBD.block g (by rw [h0.size]; omega))
    gi_wp2
    refine ⟨by simp, .inl ⟨_, _, rfl, run_takeDeferred hK, ?_⟩⟩
    refine ⟨.tuple #[.int .i64 i, .int .i64 0], ?_, .inl ⟨i, rfl, hi2, hi3, hleast, hT1, hS1⟩⟩
    simp [results, Tryd.f12, go_sem, k1, k2]
theorem Take_walk (w : World) (g n : Nat) (S : Nat → Nat) (hR : Spc w g n S) (hT : TabAt 0 Lib.deBruijn64tab w) :
    Calls Tryd.prog 12 #[.pointer (some ⟨g, 0, none⟩)] w fun e w' =>
      (∃ i : Nat, e = .returned (.tuple #[.int .i64 i, .int .i64 0]) ∧ i < n ∧ S i = 0 ∧ (∀ j, j < i → S j ≠ 0) ∧ Took w w' g n S i) ∨
      (e = .returned (.tuple #[.int .i64 0, .int .i64 28]) ∧ (∀ j, j < n → S j ≠ 0) ∧ Tch g w w' ∧ Spc w' g n S) :=
  callsIn_wide.1 (Take_in 3 (by decide) w g n S hR hT)
end Go.Proofs.YtnddahkkdcgpaaaDoor.Sp
