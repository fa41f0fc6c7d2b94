/- View.Run: its deferred function, and itself, walked. -/
import Derived.Test.YthaipkfaaojppaaV3
import Derived.Defers
import Derived.Recover
import Derived.Laws.Pointers
import Derived.Shelf.Abstract
namespace Go.Proofs.Ythaipkfaaojppaa.Vw
open Go.RowKit Go.Proofs.YthaipkfaaojppaaW.PrintWords Go.Proofs.YthaipkfaaojppaaW.PrintLast Go.Proofs.YthaipkfaaojppaaW.PrintMore
open Go.Maps (Keyed int_keyed keyOf_int_mk)
open Go.ChangeMaps
set_option linter.unusedVariables false
/-- The clear of a map, at the operation. -/
theorem wpList_clear {P : Program} {w w' : World} {ops : Array Oper} {rest : List Oper} {o : Oper} {a : Act} {Q : Exit → Act → World → Prop} (hg : o.guard = none) (m : Operand) (t : TypeId)
    (hop : o.op = Op.call { callee := Callee.builtin Builtin.clear, args := #[m], argTypes := #[t] }) (v : Value) (hm : a.eval m = v) (hrun : ∀ ty, (Builtin.clear_ #[t] ty #[v]).run P w = .ok (.tuple #[]) w')
    (hK : wpList P ops Q rest (a.put o.dst (.tuple #[])) w') : wpList P ops Q (o :: rest) a w := by
  refine wpList_plain hg fun K' hK' => ?_
  unfold Oper.wp
  simp [execOp, hop, resolve, invoke, builtin, hm, hrun, Result.andThen]
  exact hK' _ _ hK
theorem catch_idle (p0 p1 p2 : Value) (w : World) :
    CallsD Try.prog 27 #[p0, p1, p2] .returning w fun e u' w' => e = .returned (.tuple #[]) ∧ u' = .returning ∧ w' = w := by
  refine callsD_of_wpS Try.func27 rfl fun c₀ cs hu => ?_
  apply wpS_seq
  apply wpS_region
  simp [wpOpsS, go_sem, recoverD, hu, Try.ntmps27, Exit.thenS]
  refine wpS_of_wp ?_
  change Code.wp _ _ _ { tmps := #[p0, p1, p2, .nilIface, .nilIface, undef, undef, undef, undef, undef, undef, undef, undef, undef], defers := [] } w
  generalize hPost : (fun e a' w' => bodyPostS Try.prog Try.f27 c₀ cs (fun e u' w' => e = Ending.returned (Value.tuple #[]) ∧ u' = FrameMode.returning ∧ w' = w) e a' (c₀ :: cs) w') = Post
  go_wp2_with fail
  rw [← hPost]
  cases c₀
  simp_all [bodyPostS, results, Try.results27]
theorem Tch.frozen {M : Nat} {w w' : World} (h : Tch M w w') (hm : MapBlk w M) {p : Addr} {v : Value} (hc : w.cell? p = some v) : w'.frozen? p = w.frozen? p := by
  have hlt := cell_lt hc
  have hne : p.block ≠ M := by
    obtain ⟨es, clock, hb⟩ := hm
    intro hh
    unfold World.cell? at hc
    rw [hh, hb] at hc
    simp at hc
  exact World.frozen?_of_block (w := w) (h.block _ hlt hne)
theorem assert57 (v : Value) (W : World) : (Instr.typeAssert (.iface 57 v) 20 57 false).run Try.prog W = .ok v W := by kernel_rfl
/-- What was wanted: an entry that is recovered, or isn't. -/
def entry (k : Int) (r : Bool) : PanicEntry := { v := .iface 57 (.agg #[.int .i64 k]), recovered := r }
theorem catch_panicking (w : World) (p0 p1 p2 vp M n : Nat) (g : Value) (f : Int → Option (List Int)) (k x : Int) (y : Bool) (hV : Vw w vp g M n f) (hne : p2 ≠ p1)
    (h0 : w.cell? ⟨p0, 0, none⟩ = some (.pointer (some ⟨vp, 0, none⟩))) (h1 : w.cell? ⟨p1, 0, none⟩ = some (.int .i64 x)) (h2 : w.cell? ⟨p2, 0, none⟩ = some (.bool y)) (z1 : w.frozen? ⟨p1, 0, none⟩ = false) (z2 : w.frozen? ⟨p2, 0, none⟩ = false) :
    CallsD Try.prog 27 #[.pointer (some ⟨p0, 0, none⟩), .pointer (some ⟨p1, 0, none⟩), .pointer (some ⟨p2, 0, none⟩)] (.panicking [entry k false]) w fun e u' w' => e = .returned (.tuple #[]) ∧ u' = .panicking [entry k true] ∧
      ∃ wc, Vw wc vp g M 0 (fun _ => none) ∧ Tch M w wc ∧ w' = (wc.setCell ⟨p1, 0, none⟩ (.int .i64 k)).setCell ⟨p2, 0, none⟩ (.bool false) := by
  obtain ⟨wc, hrun, hO, hT⟩ := hV.own.clear
  have hm := hV.map
  have hta := fun v W => assert57 v W
  refine callsD_of_wpS Try.func27 rfl fun c₀ cs hu => ?_
  unfold entry at hu ⊢
  apply wpS_seq
  apply wpS_region
  simp [wpOpsS, go_sem, recoverD, hu, Try.ntmps27, Exit.thenS]
  refine wpS_of_wp ?_
  change Code.wp _ _ _ { tmps := #[.pointer (some ⟨p0, 0, none⟩), .pointer (some ⟨p1, 0, none⟩), .pointer (some ⟨p2, 0, none⟩), .iface 57 (.agg #[.int .i64 k]), .iface 57 (.agg #[.int .i64 k]), undef, undef, undef, undef, undef, undef, undef, undef, undef], defers := [] } w
  generalize hPost : (fun e a' w' => bodyPostS Try.prog Try.f27 c₀ cs _ e a' _ w') = Post
  have hb := hV.own.blk
  have c1 := hT.cm hb _ _ h1
  have c2 := hT.cm hb _ _ h2
  have y1 := (hT.frozen hb h1).trans z1
  have y2 := (hT.frozen hb h2).trans z2
  have c3 : (wc.setCell ⟨p1, 0, none⟩ (.int .i64 k)).cell? ⟨p2, 0, none⟩ = some (.bool y) := (World.cell?_setCell_other _ _ _ _ (by intro e; exact hne (congrArg Addr.block e).symm)).trans c2
  have y3 : (wc.setCell ⟨p1, 0, none⟩ (.int .i64 k)).frozen? ⟨p2, 0, none⟩ = false := (World.frozen?_setCell ..).trans y2
  clear h1 h2 z1 z2 c2 y2 hne
  replace hV := Lib.hid hV
  replace hPost := Lib.hid hPost
  go_wp2_with (refine wpList_clear rfl _ _ rfl _ rfl hrun ?_)
  rename_i K hK
  refine hK _ _ ?_
  change wpList _ _ _ _ (Act.put _ (some 13) (.int .i64 k)) wc
  clear hK K
  go_wp2_with fail
  rw [← hPost.out]
  have hVc := hV.out.with_ hO hT
  generalize hw : (wc.setCell ⟨p1, 0, none⟩ (.int .i64 k)).setCell ⟨p2, 0, none⟩ (.bool false) = wf
  refine ⟨rfl, _, rfl, .tuple #[], by simp [results, Try.f27], rfl, rfl, wc, hVc, hT, hw.symm⟩
/-- Nothing has turned but the blocks of S, and what is new. -/
structure TchS (S : Nat → Prop) (w w' : World) : Prop where
  os : w'.os = w.os
  tape : w'.tape = w.tape
  output : w'.output = w.output
  size : w.heap.size ≤ w'.heap.size
  block : ∀ k, k < w.heap.size → ¬ S k → w'.heap[k]? = w.heap[k]?
theorem TchS.refl (S : Nat → Prop) (w : World) : TchS S w w := ⟨rfl, rfl, rfl, Nat.le_refl _, fun _ _ _ => rfl⟩
theorem TchS.trans {S : Nat → Prop} {a b c : World} (h : TchS S a b) (k : TchS S b c) : TchS S a c :=
  ⟨k.os.trans h.os, k.tape.trans h.tape, k.output.trans h.output, Nat.le_trans h.size k.size, fun i hi hg => (k.block i (Nat.lt_of_lt_of_le hi h.size) hg).trans (h.block i hi hg)⟩
theorem TchS.of {S : Nat → Prop} {g : Nat} {a b : World} (h : Tch g a b) (hg : S g) : TchS S a b := ⟨h.os, h.tape, h.output, h.size, fun k hk hn => h.block k hk (fun e => hn (e ▸ hg))⟩
theorem TchS.ofBelow {S : Nat → Prop} {a b : World} (h : Below a.heap.size a b) : TchS S a b := ⟨h.os, h.tape, h.output, h.size, fun i hi _ => h.block i hi⟩
theorem TchS.below {S : Nat → Prop} {B : Nat} {a b : World} (h : TchS S a b) (h1 : ∀ k, S k → B ≤ k) (h2 : B ≤ a.heap.size) : Below B a b :=
  ⟨h.os, h.tape, h.output, h.size, fun k hk => h.block k (by omega) (fun e => by have := h1 k e; omega)⟩
/-- Behind a Run: what its function left, but for the results' own cells. -/
structure RunEnd (S : Nat → Prop) (w w1 w' : World) : Prop where
  tch : TchS S w w'
  old : ∀ k, k < w.heap.size → w'.heap[k]? = w1.heap[k]?
  typ : ∀ (b : Nat) (cells : Array Value) (e : Nat) (z : Nat × Nat), e ≠ 3 → e ≠ 4 → w1.heap[b]? = some (Obj.cells cells e z) → w'.heap[b]? = w1.heap[b]?
def runW (w : World) (vp : Nat) : World := ((w.alloc (.cells #[.pointer (some ⟨vp, 0, none⟩)] 30)).alloc (.cells #[.int .i64 0] 3)).alloc (.cells #[.bool false] 4)
structure RunAt (w W : World) (vp : Nat) : Prop where
  b0 : W.heap[w.heap.size]? = some (.cells #[.pointer (some ⟨vp, 0, none⟩)] 30 (0, 0))
  b1 : W.heap[w.heap.size + 1]? = some (.cells #[.int .i64 0] 3 (0, 0))
  b2 : W.heap[w.heap.size + 2]? = some (.cells #[.bool false] 4 (0, 0))
  size : w.heap.size + 3 ≤ W.heap.size
theorem run_at (w : World) (vp : Nat) : RunAt w (runW w vp) vp := by
  unfold runW
  generalize e1 : w.alloc (.cells #[.pointer (some ⟨vp, 0, none⟩)] 30) = a
  have s1 : a.heap.size = w.heap.size + 1 := by rw [← e1]; simp
  have h1 : a.heap[w.heap.size]? = some (.cells #[.pointer (some ⟨vp, 0, none⟩)] 30 (0, 0)) := by rw [← e1]; exact Go.Deep.blk_alloc_new _ _
  generalize e2 : a.alloc (.cells #[.int .i64 0] 3) = b
  have s2 : b.heap.size = w.heap.size + 2 := by rw [← e2]; simp [s1]
  have h2 : b.heap[w.heap.size + 1]? = some (.cells #[.int .i64 0] 3 (0, 0)) := by rw [← e2, ← s1]; exact Go.Deep.blk_alloc_new _ _
  have h1' : b.heap[w.heap.size]? = some (.cells #[.pointer (some ⟨vp, 0, none⟩)] 30 (0, 0)) := by rw [← e2]; exact (Go.Deep.blk_alloc_lt _ _ _ (by omega)).trans h1
  refine ⟨(Go.Deep.blk_alloc_lt _ _ _ (by omega)).trans h1', (Go.Deep.blk_alloc_lt _ _ _ (by omega)).trans h2, ?_, by simp; omega⟩
  rw [← s2]
  exact Go.Deep.blk_alloc_new _ _
theorem RunAt.tchS {S : Nat → Prop} {w W W1 : World} {vp : Nat} (h : RunAt w W vp) (hl : ∀ k, S k → k < w.heap.size) (ht : TchS S W W1) : RunAt w W1 vp := by
  have hs := h.size
  exact ⟨(ht.block _ (by omega) (fun e => by have := hl _ e; omega)).trans h.b0, (ht.block _ (by omega) (fun e => by have := hl _ e; omega)).trans h.b1, (ht.block _ (by omega) (fun e => by have := hl _ e; omega)).trans h.b2, Nat.le_trans hs ht.size⟩
theorem RunAt.c0 {w W : World} {vp : Nat} (h : RunAt w W vp) : W.cell? ⟨w.heap.size, 0, none⟩ = some (.pointer (some ⟨vp, 0, none⟩)) := by simp [World.cell?, h.b0]
theorem RunAt.cells {w W : World} {vp : Nat} (h : RunAt w W vp) : W.cell? ⟨w.heap.size + 1, 0, none⟩ = some (.int .i64 0) ∧ W.cell? ⟨w.heap.size + 2, 0, none⟩ = some (.bool false) ∧ W.frozen? ⟨w.heap.size + 1, 0, none⟩ = false ∧ W.frozen? ⟨w.heap.size + 2, 0, none⟩ = false := by
  refine ⟨by simp [World.cell?, h.b1], by simp [World.cell?, h.b2], by simp [World.frozen?, h.b1], by simp [World.frozen?, h.b2]⟩
theorem run_end {S : Nat → Prop} {w w1 : World} {vp : Nat} (hl : ∀ k, S k → k < w.heap.size) (h1 : RunAt w w1 vp) (ht : TchS S w w1) (u v : Value) :
    RunEnd S w w1 ((w1.setCell ⟨w.heap.size + 1, 0, none⟩ u).setCell ⟨w.heap.size + 2, 0, none⟩ v) := by
  refine ⟨⟨ht.os, ht.tape, ht.output, ?_, fun k hk hn => ?_⟩, fun k hk => ?_, fun b cells e z e3 e4 hx => ?_⟩
  · simp only [World.setCell, Array.size_modify]; exact ht.size
  · rw [Below.heap_setCell _ _ _ _ (by show k ≠ w.heap.size + 2; omega), Below.heap_setCell _ _ _ _ (by show k ≠ w.heap.size + 1; omega)]
    exact ht.block k hk hn
  · rw [Below.heap_setCell _ _ _ _ (by show k ≠ w.heap.size + 2; omega), Below.heap_setCell _ _ _ _ (by show k ≠ w.heap.size + 1; omega)]
  · have n1 : b ≠ w.heap.size + 1 := by
      rintro rfl
      rw [h1.b1] at hx
      injection hx with hx
      injection hx with _ hx
      exact e3 hx.symm
    have n2 : b ≠ w.heap.size + 2 := by
      rintro rfl
      rw [h1.b2] at hx
      injection hx with hx
      injection hx with _ hx
      exact e4 hx.symm
    rw [Below.heap_setCell _ _ _ _ n2, Below.heap_setCell _ _ _ _ n1]
theorem RunEnd.vw {S : Nat → Prop} {w w1 w' : World} {vp : Nat} {g : Value} {M n : Nat} {f : Int → Option (List Int)} {T : Nat → Prop} (h : RunEnd S w w1 w') (hV : VwT w1 vp g M n f T) (h1 : vp < w.heap.size) (h2 : M < w.heap.size) : VwT w' vp g M n f T :=
  ⟨(World.cell?_of_block (w := w1) (h.old vp h1)).trans hV.get, (World.cell?_of_block (w := w1) (h.old vp h1)).trans hV.map, hV.own.move (h.old M h2) (fun b _ _ ⟨cells, hc⟩ => h.typ b cells 5 _ (by decide) (by decide) hc)⟩
theorem R_typ {α : Type} {d : Kd α} {e : Nat} {w w1 : World} {base : Nat} {ok : Nat → Prop} {v : Value} {xs : List α} (h : d.R e w base ok v xs) (hm : ∀ (b : Nat) (cells : Array Value) (q : Nat), q ∈ e :: d.E → w.heap[b]? = some (Obj.cells cells q (0, 0)) → w1.heap[b]? = w.heap[b]?) : d.R e w1 base ok v xs :=
  Kd.R_mono (Kd.R_move (Kd.R_bound h) (fun k hk => by obtain ⟨_, _, _, q, hq, cells, hc⟩ := hk; exact hm k cells q hq hc)) (fun _ hk => hk.1)
set_option maxRecDepth 100000 in
set_option maxHeartbeats 4000000 in
theorem Run_ok (w : World) (vp M n : Nat) (g : Value) (f : Int → Option (List Int)) (G : Nat) (cap : Array Value) (S : Nat → Prop) (hSM : S M) (hl : ∀ k, S k → k < w.heap.size) (hV : Vw w vp g M n f) (Q : World → World → Prop)
    (heg : ∀ (args : Array Value) (w : World), (callFunc G args).run Try.prog w = .ok (.enter G args) w)
    (hc : ∀ W, Vw W vp g M 0 (fun _ => none) → Tch M w W → Calls Try.prog G cap W fun e w1 => e = .returned (.tuple #[]) ∧ TchS S W w1 ∧ Q W w1) :
    Calls Try.prog 11 #[.pointer (some ⟨vp, 0, none⟩), .func (.func G) #[] cap] w fun e w' => e = .returned (.tuple #[.int .i64 0, .bool true]) ∧ ∃ W w1, Q W w1 ∧ RunEnd S w w1 w' := by
  have hmf : ∀ (fn : Fn) (first cap : Array Value) (w : World), (Instr.makeFunc fn first cap).run Try.prog w = .ok (.func fn first cap) w := fun _ _ _ _ => rfl
  have hb0 : Below w.heap.size w (runW w vp) := (((Below.refl _ w).alloc (Nat.le_refl _) _).alloc (by simp) _).alloc (by simp; omega) _
  have hV0 := hV.below hb0
  obtain ⟨wc, hrun, hO, hT⟩ := hV0.own.clear
  have hVc := hV0.with_ hO hT
  have hTc : Tch M w wc := (Tch.ofBelow hb0).trans hT
  have hAt := (run_at w vp).tchS (S := S) hl (TchS.of hT hSM)
  have c := hc wc hVc hTc
  have hm := hV0.map
  have hm' := hV.map
  unfold runW at hrun hm
  clear hm'
  replace hVc := Lib.hid hVc
  replace hV0 := Lib.hid hV0
  replace hV := Lib.hid hV
  replace hO := Lib.hid hO
  go_enter_defers Try.func11, Try.ntmps11
  go_wp2_with (refine wpList_clear rfl _ _ rfl _ rfl hrun ?_)
  clear hm hrun
  refine c.mono ?_
  clear c hc
  rintro e w1 ⟨rfl, hS1, hQ⟩
  have hA1 := hAt.tchS hl hS1
  obtain ⟨k1, k2, z1, z2⟩ := hA1.cells
  have k3 : (w1.setCell ⟨w.heap.size + 1, 0, none⟩ (.int .i64 0)).cell? ⟨w.heap.size + 1 + 1, 0, none⟩ = some (.bool false) := (World.cell?_setCell_other _ _ _ _ (by intro e; have := congrArg Addr.block e; simp at this)).trans k2
  have z3 : (w1.setCell ⟨w.heap.size + 1, 0, none⟩ (.int .i64 0)).frozen? ⟨w.heap.size + 1 + 1, 0, none⟩ = false := (World.frozen?_setCell ..).trans z2
  have hE := run_end hl hA1 ((TchS.of hTc hSM).trans hS1) (.int .i64 0) (.bool true)
  have r1 : ((w1.setCell ⟨w.heap.size + 1, 0, none⟩ (.int .i64 0)).setCell ⟨w.heap.size + 1 + 1, 0, none⟩ (.bool true)).cell? ⟨w.heap.size + 1, 0, none⟩ = some (.int .i64 0) :=
    (World.cell?_setCell_other _ _ _ _ (by intro e; have := congrArg Addr.block e; simp at this)).trans (World.cell?_setCell_same' _ _ _ (by rw [k1]; rfl))
  have r2 : ((w1.setCell ⟨w.heap.size + 1, 0, none⟩ (.int .i64 0)).setCell ⟨w.heap.size + 1 + 1, 0, none⟩ (.bool true)).cell? ⟨w.heap.size + 1 + 1, 0, none⟩ = some (.bool true) :=
    World.cell?_setCell_same' _ _ _ (by rw [k3]; rfl)
  replace hE := Lib.hid hE
  replace hQ := Lib.hid hQ
  replace r1 := Lib.hid r1
  replace r2 := Lib.hid r2
  clear k2 z2 hS1 hAt hA1 hT hTc hb0
  go_wp2_with fail
  refine leaves_cons (f := 27) (args := #[.pointer (some ⟨w.heap.size, 0, none⟩), .pointer (some ⟨w.heap.size + 1, 0, none⟩), .pointer (some ⟨w.heap.size + 1 + 1, 0, none⟩)]) (by simp) (by simp [go_sem]) ?_
  refine (catch_idle _ _ _ _).mono ?_
  rintro e u' w'' ⟨rfl, rfl, rfl⟩
  have q1 := r1.out
  have q2 := r2.out
  refine ⟨.tuple #[.int .i64 0, .bool true], ?_, rfl, _, _, hQ.out, hE.out⟩
  simp [results, Try.f11, go_sem, q1, q2]
theorem Own.empty_same {w w1 : World} {M : Nat} (h : Own w M 0 (fun _ => none)) (hs : w1.heap[M]? = w.heap[M]?) : Own w1 M 0 (fun _ => none) := by
  obtain ⟨D, ⟨es, clock, hb, r⟩, ha⟩ := h
  exact ⟨D, ⟨es, clock, hs.trans hb, r⟩, fun k hk => ha k hk⟩
/-- Behind a Run that wants a slot. -/
structure RunWant (S : Nat → Prop) (M : Nat) (w w1 w' : World) : Prop where
  tch : TchS S w w'
  old : ∀ k, k < w.heap.size → k ≠ M → w'.heap[k]? = w1.heap[k]?
set_option maxRecDepth 100000 in
set_option maxHeartbeats 4000000 in
theorem Run_wants (w : World) (vp M n : Nat) (g : Value) (f : Int → Option (List Int)) (G : Nat) (cap : Array Value) (S : Nat → Prop) (hSM : S M) (hl : ∀ k, S k → k < w.heap.size) (hV : Vw w vp g M n f) (Q : World → World → Prop) (k : Int)
    (heg : ∀ (args : Array Value) (w : World), (callFunc G args).run Try.prog w = .ok (.enter G args) w)
    (hc : ∀ W, Vw W vp g M 0 (fun _ => none) → Tch M w W → Calls Try.prog G cap W fun e w1 => e = .panicked (wantedV k) ∧ TchS S W w1 ∧ (∃ n' f', Vw w1 vp g M n' f') ∧ Q W w1) :
    Calls Try.prog 11 #[.pointer (some ⟨vp, 0, none⟩), .func (.func G) #[] cap] w fun e w' => e = .returned (.tuple #[.int .i64 k, .bool false]) ∧ Vw w' vp g M 0 (fun _ => none) ∧ ∃ W w1, Q W w1 ∧ RunWant S M w w1 w' := by
  have hmf : ∀ (fn : Fn) (first cap : Array Value) (w : World), (Instr.makeFunc fn first cap).run Try.prog w = .ok (.func fn first cap) w := fun _ _ _ _ => rfl
  have hb0 : Below w.heap.size w (runW w vp) := (((Below.refl _ w).alloc (Nat.le_refl _) _).alloc (by simp) _).alloc (by simp; omega) _
  have hV0 := hV.below hb0
  have hvp : vp < w.heap.size := cell_lt hV.map
  have hMl : M < w.heap.size := hV.own.lt
  obtain ⟨wc, hrun, hO, hT⟩ := hV0.own.clear
  have hVc := hV0.with_ hO hT
  have hTc : Tch M w wc := (Tch.ofBelow hb0).trans hT
  have hAt := (run_at w vp).tchS (S := S) hl (TchS.of hT hSM)
  have c := hc wc hVc hTc
  have hm := hV0.map
  unfold runW at hrun hm
  replace hVc := Lib.hid hVc
  replace hV0 := Lib.hid hV0
  replace hV := Lib.hid hV
  replace hO := Lib.hid hO
  go_enter_defers Try.func11, Try.ntmps11
  go_wp2_with (refine wpList_clear rfl _ _ rfl _ rfl hrun ?_)
  clear hm hrun
  refine c.mono ?_
  clear c hc
  rintro e w1 ⟨rfl, hS1, ⟨n1, f1, hV1⟩, hQ⟩
  have hA1 := hAt.tchS hl hS1
  obtain ⟨k1, k2, z1, z2⟩ := hA1.cells
  refine leaves_cons (f := 27) (args := #[.pointer (some ⟨w.heap.size, 0, none⟩), .pointer (some ⟨w.heap.size + 1, 0, none⟩), .pointer (some ⟨w.heap.size + 1 + 1, 0, none⟩)]) (by simp) (by simp [go_sem]) ?_
  refine (catch_panicking w1 w.heap.size (w.heap.size + 1) (w.heap.size + 1 + 1) vp M n1 g f1 k 0 false hV1 (by omega) hA1.c0 k1 k2 z1 z2).mono ?_
  rintro e u' w'' ⟨rfl, rfl, w2, hV2, hT2, rfl⟩
  have hE := run_end hl (hA1.tchS hl (TchS.of hT2 hSM)) (((TchS.of hTc hSM).trans hS1).trans (TchS.of hT2 hSM)) (.int .i64 k) (.bool false)
  have hA2 := hA1.tchS hl (TchS.of hT2 hSM)
  obtain ⟨j1, j2, y1, y2⟩ := hA2.cells
  have k3 : (w2.setCell ⟨w.heap.size + 1, 0, none⟩ (.int .i64 k)).cell? ⟨w.heap.size + 1 + 1, 0, none⟩ = some (.bool false) := (World.cell?_setCell_other _ _ _ _ (by intro e; have := congrArg Addr.block e; simp at this)).trans j2
  have q1 : ((w2.setCell ⟨w.heap.size + 1, 0, none⟩ (.int .i64 k)).setCell ⟨w.heap.size + 1 + 1, 0, none⟩ (.bool false)).cell? ⟨w.heap.size + 1, 0, none⟩ = some (.int .i64 k) :=
    (World.cell?_setCell_other _ _ _ _ (by intro e; have := congrArg Addr.block e; simp at this)).trans (World.cell?_setCell_same' _ _ _ (by rw [j1]; rfl))
  have q2 : ((w2.setCell ⟨w.heap.size + 1, 0, none⟩ (.int .i64 k)).setCell ⟨w.heap.size + 1 + 1, 0, none⟩ (.bool false)).cell? ⟨w.heap.size + 1 + 1, 0, none⟩ = some (.bool false) :=
    World.cell?_setCell_same' _ _ _ (by rw [k3]; rfl)
  have hVf : Vw ((w2.setCell ⟨w.heap.size + 1, 0, none⟩ (.int .i64 k)).setCell ⟨w.heap.size + 1 + 1, 0, none⟩ (.bool false)) vp g M 0 (fun _ => none) :=
    ⟨(World.cell?_of_block (w := w2) (hE.old vp hvp)).trans hV2.get, (World.cell?_of_block (w := w2) (hE.old vp hvp)).trans hV2.map, Own.empty_same hV2.own (hE.old M hMl)⟩
  have hW : RunWant S M w w1 ((w2.setCell ⟨w.heap.size + 1, 0, none⟩ (.int .i64 k)).setCell ⟨w.heap.size + 1 + 1, 0, none⟩ (.bool false)) := by
    refine ⟨hE.tch, fun i hi hne => (hE.old i hi).trans (hT2.block i ?_ hne)⟩
    have := hA1.size
    omega
  change ∃ v, _
  refine ⟨.tuple #[.int .i64 k, .bool false], ?_, rfl, hVf, _, _, hQ, hW⟩
  simp [results, Try.f11, go_sem, q1, q2]
end Go.Proofs.Ythaipkfaaojppaa.Vw
